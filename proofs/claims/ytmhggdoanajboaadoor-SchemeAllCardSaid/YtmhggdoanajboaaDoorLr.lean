/- Layers 12 to 14: the reference's letters and words. -/
import Derived.Test.YtmhggdoanajboaaDoorMKnow
import Derived.Test.YtmhggdoanajboaaDoorMTyp
import Derived.Test.YtmhggdoanajboaaDoorPDef
set_option linter.unusedVariables false
set_option maxRecDepth 100000
set_option linter.unusedSimpArgs false
namespace Go.Am.Tryd
open Go
theorem ble_int (a b : Nat) : Nat.ble a b = decide ((a : Int) ≤ (b : Int)) := by
  by_cases h : a ≤ b
  · have : (a : Int) ≤ b := by omega
    simp [h, this]
  · have : ¬ (a : Int) ≤ b := by omega
    rw [decide_eq_false this]
    cases hb : Nat.ble a b with
    | false => rfl
    | true => exact absurd (Nat.le_of_ble_eq_true hb) h
theorem beq_int (a b : Nat) : Nat.beq a b = ((a : Int) == (b : Int)) := by
  by_cases h : a = b
  · subst h; simp
  · have h2 : ((a : Int) == (b : Int)) = false := by simp; omega
    rw [h2]
    cases hb : Nat.beq a b with
    | false => rfl
    | true => exact absurd (Nat.eq_of_beq_eq_true hb) h
theorem lower_ans (c : UInt8) : Ans ctx 77 [.int .u8 c.toNat] (.bool (Ps.lowerB c)) := by
  refine Ans.of (σ' := []) fn77_ (by simp) (by simp) ⟨0, fun N _ => ?_⟩
  simp only [Ps.lowerB, ble_int]
  generalize (c.toNat : Int) = m
  by_cases h1 : 97 ≤ m <;> by_cases h2 : m ≤ 122 <;> simp -implicitDefEqProofs [i77, c77, h1, h2]
theorem upper_ans (c : UInt8) : Ans ctx 73 [.int .u8 c.toNat] (.bool (Ps.upperB c)) := by
  refine Ans.of (σ' := []) fn73_ (by simp) (by simp) ⟨0, fun N _ => ?_⟩
  simp only [Ps.upperB, ble_int]
  generalize (c.toNat : Int) = m
  by_cases h1 : 65 ≤ m <;> by_cases h2 : m ≤ 90 <;> simp -implicitDefEqProofs [i73, c73, h1, h2]
theorem digit_ans (c : UInt8) : Ans ctx 78 [.int .u8 c.toNat] (.bool (Ps.digitB c)) := by
  refine Ans.of (σ' := []) fn78_ (by simp) (by simp) ⟨0, fun N _ => ?_⟩
  simp only [Ps.digitB, ble_int]
  generalize (c.toNat : Int) = m
  by_cases h1 : 48 ≤ m <;> by_cases h2 : m ≤ 57 <;> simp -implicitDefEqProofs [i78, c78, h1, h2]
theorem rest_ans (c : UInt8) : Ans ctx 75 [.int .u8 c.toNat] (.bool (Ps.restB c)) := by
  obtain ⟨k1, hk1⟩ := lower_ans c
  obtain ⟨k2, hk2⟩ := upper_ans c
  obtain ⟨k3, hk3⟩ := digit_ans c
  refine Ans.of (σ' := []) fn75_ (by simp) (by simp) ⟨k1 + k2 + k3, fun N hN => ?_⟩
  have hk1 := hk1 N (by omega)
  have hk2 := hk2 N (by omega)
  have hk3 := hk3 N (by omega)
  simp only [Ps.restB, beq_int]
  generalize (c.toNat : Int) = m at *
  cases h1 : Ps.lowerB c <;> cases h2 : Ps.upperB c <;> cases h3 : Ps.digitB c <;> rw [h1] at hk1 <;> rw [h2] at hk2 <;> rw [h3] at hk3 <;> simp -implicitDefEqProofs [i75, c75, hk1, hk2, hk3]
theorem eqS_iff : ∀ (a b : List UInt8), Ps.eqS a b = (a == b)
  | [], [] => rfl
  | [], _ :: _ => rfl
  | _ :: _, [] => rfl
  | x :: a, y :: b => by
    have h : Nat.beq x.toNat y.toNat = (x == y) := by
      by_cases h : x = y
      · subst h; simp
      · rw [beq_eq_false_iff_ne.2 h]
        cases hb : Nat.beq x.toNat y.toNat with
        | false => rfl
        | true => exact absurd (UInt8.toNat_inj.1 (Nat.eq_of_beq_eq_true hb)) h
    simp only [Ps.eqS, h, eqS_iff a b]
    rfl
def ST (s : List UInt8) (i : Nat) (r : List UInt8) : Prop := ∃ p : List UInt8, p.length = i ∧ s = p ++ r
theorem ST.all (s : List UInt8) : ST s 0 s := ⟨[], rfl, rfl⟩
theorem ST.cons {s r : List UInt8} {i : Nat} {c : UInt8} (h : ST s i (c :: r)) :
    strIdx s (i : Int) = some (.int .u8 c.toNat) ∧ (i : Int) < (s.length : Int) ∧ ST s (i + 1) r := by
  obtain ⟨p, rfl, rfl⟩ := h
  refine ⟨?_, by simp; omega, ⟨p ++ [c], by simp, by simp⟩⟩
  have h : idxN (p.length : Int) (p ++ c :: r).length = some p.length := by unfold idxN; rw [if_pos (by simp; omega)]; simp
  unfold strIdx
  rw [h]
  simp
theorem ST.len {s r : List UInt8} {i : Nat} (h : ST s i r) : s.length = i + r.length := by
  obtain ⟨p, rfl, rfl⟩ := h
  simp
theorem ST.nil {s : List UInt8} {i : Nat} (h : ST s i []) : s.length = i := by simpa using h.len
def Hi (n : Nat) (fr : Fr) : Prop := ∀ t, n ≤ t → getS fr.sl t = .u
theorem hi_of {n : Nat} : ∀ {l : List (Nat × SV)} {b : Bool}, (l.all fun p => decide (p.1 < n)) = true → Hi n ⟨l, b⟩
  | [], _, _ => fun _ _ => rfl
  | (i, s) :: l, b, h => fun t ht => by
    simp only [List.all_cons, Bool.and_eq_true, decide_eq_true_eq] at h
    simp only [getS_nil, getS_cons]
    rw [if_neg (by omega)]
    exact hi_of (b := b) h.2 t ht
theorem lp103 (s : List UInt8) (hb : s.length < big) : ∀ (r : List UInt8) (i : Nat), ST s i r →
    ∃ e fr', Lp ctx [] [] [0, 3] b72_0 ⟨[(0, .v (.str s)), (3, .v (.int .i64 i))], false⟩ [] e fr' [] ∧
      fr'.lk = false ∧ Hi 15 fr' ∧ getS fr'.sl 0 = .v (.str s) ∧ cond (r.all Ps.restB) (e = .ex 0 ∧ getS fr'.sl 2 = .u) (e = .ret ∧ getS fr'.sl 2 = .v (.bool false))
  | [], i, h => by
    have h := h.nil
    refine ⟨.ex 0, ?_, Lp.exit ⟨0, fun N _ => ?_⟩ (by simp), ?_⟩
    rotate_left
    · simp -implicitDefEqProofs [b72_0, h]
      rfl
    · exact ⟨by simp, hi_of (by simp), by simp, by simp⟩
  | c :: r, i, h => by
    obtain ⟨k, hk⟩ := rest_ans c
    obtain ⟨g1, g2, g3⟩ := h.cons
    have hl := h.len
    have hw := wrap_succ (n := i) (by simp at hl; omega)
    cases hc : Ps.restB c with
    | false =>
      refine ⟨.ret, ?_, Lp.exit ⟨k, fun N hN => ?_⟩ (by simp), ?_⟩
      rotate_left
      · simp -implicitDefEqProofs [b72_0, g1, g2, hk N hN, hc]
        rfl
      · exact ⟨by simp, hi_of (by simp), by simp, by simp [hc]⟩
    | true =>
      obtain ⟨e, fr', h1, h2, h3, h4, h5⟩ := lp103 s hb r (i + 1) g3
      refine ⟨e, fr', Lp.step ⟨k, fun N hN => ?_⟩ h1, h2, h3, h4, ?_⟩
      · simp -implicitDefEqProofs [b72_0, g1, g2, hk N hN, hc, hw]
      · simpa [hc] using h5
theorem row_ans (s : List UInt8) (hb : s.length < big) : Ans ctx 72 [.str s] (.bool (Ps.rowB s)) := by
  obtain ⟨e, fr', h1, h2, hf, h3, h4⟩ := lp103 s hb s 0 (ST.all s)
  obtain ⟨k, hk⟩ := h1.den
  unfold Hi at hf
  refine Ans.of (σ' := []) fn72_ (by simp) (by simp) ⟨k, fun N hN => ?_⟩
  have hk := hk N hN
  simp only [Ps.rowB, ble_int]
  cases ha : s.all Ps.restB with
  | false =>
    rw [ha] at h4
    obtain ⟨rfl, h4⟩ := h4
    simp -implicitDefEqProofs [i72, c72, hk, h2, h3, h4]
  | true =>
    rw [ha] at h4
    obtain ⟨rfl, h4⟩ := h4
    cases hs : s with
    | nil => subst hs; simp -implicitDefEqProofs [i72, c72, hk, h2, h3, h4, hf]
    | cons c r =>
      subst hs
      by_cases hl : ((r.length : Int) + 1) ≤ 30
      · simp -implicitDefEqProofs [i72, c72, hk, h2, h3, h4, hf, hl]
      · simp -implicitDefEqProofs [i72, c72, hk, h2, h3, h4, hf, hl]
theorem con9_ans (s : List UInt8) (hb : s.length < big) : Ans ctx 64 [.str s] (.bool (Ps.conB s)) := by
  obtain ⟨k1, hk1⟩ := row_ans s hb
  unfold Ps.conB
  cases h1 : Ps.rowB s with
  | false =>
    rw [h1] at hk1
    refine Ans.of (σ' := []) fn64_ (by simp) (by simp) ⟨k1, fun N hN => ?_⟩
    simp -implicitDefEqProofs [i64, c64, hk1 N hN]
  | true =>
    rw [h1] at hk1
    cases s with
    | nil => simp [Ps.rowB] at h1
    | cons c r =>
      obtain ⟨k3, hk3⟩ := upper_ans c
      refine Ans.of (σ' := []) fn64_ (by simp) (by simp) ⟨k1 + k3, fun N hN => ?_⟩
      have g1 : strIdx (c :: r) 0 = some (.int .u8 c.toNat) := (ST.all (c :: r)).cons.1
      have hk1 := hk1 N (by omega)
      have hk3 := hk3 N (by omega)
      cases h2 : Ps.upperB c <;> rw [h2] at hk3 <;> simp -implicitDefEqProofs [i64, c64, hk1, hk3, g1, h2]
end Go.Am.Tryd
