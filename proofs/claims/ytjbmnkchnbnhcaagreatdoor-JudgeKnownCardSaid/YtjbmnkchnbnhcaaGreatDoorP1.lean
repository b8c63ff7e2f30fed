/- Layers 12 to 14: the reference's letters and words. -/
import Derived.Test.YtjbmnkchnbnhcaaGreatDoorMKnow
import Derived.Test.YtjbmnkchnbnhcaaGreatDoorMTyp
import Derived.Test.YtjbmnkchnbnhcaaGreatDoorPDef
set_option linter.unusedVariables false
set_option maxRecDepth 100000
set_option linter.unusedSimpArgs false
namespace Go.Am.Tryz
open Go Go.Am.Ps
theorem ble_int (a b : Nat) : Nat.ble a b = decide ((a : Int) ≤ (b : Int)) := by
  by_cases h : a ≤ b
  · have : (a : Int) ≤ b := by omega
    simp [h, this]
  · have : ¬ (a : Int) ≤ b := by omega
    rw [decide_eq_false this]
    cases hb : Nat.ble a b with
    | false => rfl
    | true => exact absurd (Nat.le_of_ble_eq_true hb) h
theorem beq_int (a b : Nat) : Nat.beq a b = ((a : Int) == (b : Int)) := by
  by_cases h : a = b
  · subst h; simp
  · have h2 : ((a : Int) == (b : Int)) = false := by simp; omega
    rw [h2]
    cases hb : Nat.beq a b with
    | false => rfl
    | true => exact absurd (Nat.eq_of_beq_eq_true hb) h
theorem lower_ans (c : UInt8) : Ans ctx 114 [.int .u8 c.toNat] (.bool (lowerB c)) := by
  refine Ans.of (σ' := []) fn114_ (by simp) (by simp) ⟨0, fun N _ => ?_⟩
  simp only [lowerB, ble_int]
  generalize (c.toNat : Int) = m
  by_cases h1 : 97 ≤ m <;> by_cases h2 : m ≤ 122 <;> simp -implicitDefEqProofs [i114, c114, h1, h2]
theorem upper_ans (c : UInt8) : Ans ctx 115 [.int .u8 c.toNat] (.bool (upperB c)) := by
  refine Ans.of (σ' := []) fn115_ (by simp) (by simp) ⟨0, fun N _ => ?_⟩
  simp only [upperB, ble_int]
  generalize (c.toNat : Int) = m
  by_cases h1 : 65 ≤ m <;> by_cases h2 : m ≤ 90 <;> simp -implicitDefEqProofs [i115, c115, h1, h2]
theorem digit_ans (c : UInt8) : Ans ctx 119 [.int .u8 c.toNat] (.bool (digitB c)) := by
  refine Ans.of (σ' := []) fn119_ (by simp) (by simp) ⟨0, fun N _ => ?_⟩
  simp only [digitB, ble_int]
  generalize (c.toNat : Int) = m
  by_cases h1 : 48 ≤ m <;> by_cases h2 : m ≤ 57 <;> simp -implicitDefEqProofs [i119, c119, h1, h2]
theorem rest_ans (c : UInt8) : Ans ctx 116 [.int .u8 c.toNat] (.bool (restB c)) := by
  obtain ⟨k1, hk1⟩ := lower_ans c
  obtain ⟨k2, hk2⟩ := upper_ans c
  obtain ⟨k3, hk3⟩ := digit_ans c
  refine Ans.of (σ' := []) fn116_ (by simp) (by simp) ⟨k1 + k2 + k3, fun N hN => ?_⟩
  have hk1 := hk1 N (by omega)
  have hk2 := hk2 N (by omega)
  have hk3 := hk3 N (by omega)
  simp only [restB, beq_int]
  generalize (c.toNat : Int) = m at *
  cases h1 : lowerB c <;> cases h2 : upperB c <;> cases h3 : digitB c <;> rw [h1] at hk1 <;> rw [h2] at hk2 <;> rw [h3] at hk3 <;> simp -implicitDefEqProofs [i116, c116, hk1, hk2, hk3]
theorem eqS_iff : ∀ (a b : List UInt8), eqS a b = (a == b)
  | [], [] => rfl
  | [], _ :: _ => rfl
  | _ :: _, [] => rfl
  | x :: a, y :: b => by
    have h : Nat.beq x.toNat y.toNat = (x == y) := by
      by_cases h : x = y
      · subst h; simp
      · rw [beq_eq_false_iff_ne.2 h]
        cases hb : Nat.beq x.toNat y.toNat with
        | false => rfl
        | true => exact absurd (UInt8.toNat_inj.1 (Nat.eq_of_beq_eq_true hb)) h
    simp only [eqS, h, eqS_iff a b]
    rfl
theorem word_ans (s : List UInt8) : Ans ctx 117 [.str s] (.bool (isWord s)) := by
  refine Ans.of (σ' := []) fn117_ (by simp) (by simp) ⟨0, fun N hN => ?_⟩
  simp only [isWord, words, List.any_cons, List.any_nil, eqS_iff, sData, sLet, sIn, sIf, sThen, sElse, sCase, sOf, sTrue, sFalse]
  cases h1 : s == [100, 97, 116, 97] with
  | true => simp -implicitDefEqProofs [i117, c117, h1]
  | false =>
  cases h2 : s == [108, 101, 116] with
  | true => simp -implicitDefEqProofs [i117, c117, h1, h2]
  | false =>
  cases h3 : s == [105, 110] with
  | true => simp -implicitDefEqProofs [i117, c117, h1, h2, h3]
  | false =>
  cases h4 : s == [105, 102] with
  | true => simp -implicitDefEqProofs [i117, c117, h1, h2, h3, h4]
  | false =>
  cases h5 : s == [116, 104, 101, 110] with
  | true => simp -implicitDefEqProofs [i117, c117, h1, h2, h3, h4, h5]
  | false => 
  cases h6 : s == [101, 108, 115, 101] with
  | true => simp -implicitDefEqProofs [i117, c117, h1, h2, h3, h4, h5, h6]
  | false =>
  cases h7 : s == [99, 97, 115, 101] with
  | true => simp -implicitDefEqProofs [i117, c117, h1, h2, h3, h4, h5, h6, h7]
  | false =>
  cases h8 : s == [111, 102] with
  | true => simp -implicitDefEqProofs [i117, c117, h1, h2, h3, h4, h5, h6, h7, h8]
  | false =>
  cases h9 : s == [116, 114, 117, 101] with
  | true => simp -implicitDefEqProofs [i117, c117, h1, h2, h3, h4, h5, h6, h7, h8, h9]
  | false =>
  cases h10 : s == [102, 97, 108, 115, 101] with
  | true => simp -implicitDefEqProofs [i117, c117, h1, h2, h3, h4, h5, h6, h7, h8, h9, h10]
  | false => simp -implicitDefEqProofs [i117, c117, h1, h2, h3, h4, h5, h6, h7, h8, h9, h10]
def ST (s : List UInt8) (i : Nat) (r : List UInt8) : Prop := ∃ p : List UInt8, p.length = i ∧ s = p ++ r
theorem ST.all (s : List UInt8) : ST s 0 s := ⟨[], rfl, rfl⟩
theorem ST.cons {s r : List UInt8} {i : Nat} {c : UInt8} (h : ST s i (c :: r)) :
    strIdx s (i : Int) = some (.int .u8 c.toNat) ∧ (i : Int) < (s.length : Int) ∧ ST s (i + 1) r := by
  obtain ⟨p, rfl, rfl⟩ := h
  refine ⟨?_, by simp; omega, ⟨p ++ [c], by simp, by simp⟩⟩
  have h : idxN (p.length : Int) (p ++ c :: r).length = some p.length := by unfold idxN; rw [if_pos (by simp; omega)]; simp
  unfold strIdx
  rw [h]
  simp
theorem ST.len {s r : List UInt8} {i : Nat} (h : ST s i r) : s.length = i + r.length := by
  obtain ⟨p, rfl, rfl⟩ := h
  simp
theorem ST.nil {s : List UInt8} {i : Nat} (h : ST s i []) : s.length = i := by simpa using h.len
def Hi (n : Nat) (fr : Fr) : Prop := ∀ t, n ≤ t → getS fr.sl t = .u
theorem hi_of {n : Nat} : ∀ {l : List (Nat × SV)} {b : Bool}, (l.all fun p => decide (p.1 < n)) = true → Hi n ⟨l, b⟩
  | [], _, _ => fun _ _ => rfl
  | (i, s) :: l, b, h => fun t ht => by
    simp only [List.all_cons, Bool.and_eq_true, decide_eq_true_eq] at h
    simp only [getS_nil, getS_cons]
    rw [if_neg (by omega)]
    exact hi_of (b := b) h.2 t ht
theorem lp103 (s : List UInt8) (hb : s.length < big) : ∀ (r : List UInt8) (i : Nat), ST s i r →
    ∃ e fr', Lp ctx [] [] [0, 3] b144_0 ⟨[(0, .v (.str s)), (3, .v (.int .i64 i))], false⟩ [] e fr' [] ∧
      fr'.lk = false ∧ Hi 15 fr' ∧ getS fr'.sl 0 = .v (.str s) ∧ cond (r.all restB) (e = .ex 0 ∧ getS fr'.sl 2 = .u) (e = .ret ∧ getS fr'.sl 2 = .v (.bool false))
  | [], i, h => by
    have h := h.nil
    refine ⟨.ex 0, ?_, Lp.exit ⟨0, fun N _ => ?_⟩ (by simp), ?_⟩
    rotate_left
    · simp -implicitDefEqProofs [b144_0, h]
      rfl
    · exact ⟨by simp, hi_of (by simp), by simp, by simp⟩
  | c :: r, i, h => by
    obtain ⟨k, hk⟩ := rest_ans c
    obtain ⟨g1, g2, g3⟩ := h.cons
    have hl := h.len
    have hw := wrap_succ (n := i) (by simp at hl; omega)
    cases hc : restB c with
    | false =>
      refine ⟨.ret, ?_, Lp.exit ⟨k, fun N hN => ?_⟩ (by simp), ?_⟩
      rotate_left
      · simp -implicitDefEqProofs [b144_0, g1, g2, hk N hN, hc]
        rfl
      · exact ⟨by simp, hi_of (by simp), by simp, by simp [hc]⟩
    | true =>
      obtain ⟨e, fr', h1, h2, h3, h4, h5⟩ := lp103 s hb r (i + 1) g3
      refine ⟨e, fr', Lp.step ⟨k, fun N hN => ?_⟩ h1, h2, h3, h4, ?_⟩
      · simp -implicitDefEqProofs [b144_0, g1, g2, hk N hN, hc, hw]
      · simpa [hc] using h5
theorem row_ans (s : List UInt8) (hb : s.length < big) : Ans ctx 144 [.str s] (.bool (rowB s)) := by
  obtain ⟨e, fr', h1, h2, hf, h3, h4⟩ := lp103 s hb s 0 (ST.all s)
  obtain ⟨k, hk⟩ := h1.den
  unfold Hi at hf
  refine Ans.of (σ' := []) fn144_ (by simp) (by simp) ⟨k, fun N hN => ?_⟩
  have hk := hk N hN
  simp only [rowB, ble_int]
  cases ha : s.all restB with
  | false =>
    rw [ha] at h4
    obtain ⟨rfl, h4⟩ := h4
    simp -implicitDefEqProofs [i144, c144, hk, h2, h3, h4]
  | true =>
    rw [ha] at h4
    obtain ⟨rfl, h4⟩ := h4
    cases hs : s with
    | nil => subst hs; simp -implicitDefEqProofs [i144, c144, hk, h2, h3, h4, hf]
    | cons c r =>
      subst hs
      by_cases hl : ((r.length : Int) + 1) ≤ 30
      · simp -implicitDefEqProofs [i144, c144, hk, h2, h3, h4, hf, hl]
      · simp -implicitDefEqProofs [i144, c144, hk, h2, h3, h4, hf, hl]
theorem name_ans (s : List UInt8) (hb : s.length < big) : Ans ctx 118 [.str s] (.bool (nameB s)) := by
  obtain ⟨k1, hk1⟩ := row_ans s hb
  obtain ⟨k2, hk2⟩ := word_ans s
  unfold nameB
  cases h1 : rowB s with
  | false =>
    rw [h1] at hk1
    refine Ans.of (σ' := []) fn118_ (by simp) (by simp) ⟨k1, fun N hN => ?_⟩
    simp -implicitDefEqProofs [i118, c118, hk1 N hN]
  | true =>
    rw [h1] at hk1
    cases s with
    | nil => simp [rowB] at h1
    | cons c r =>
      obtain ⟨k3, hk3⟩ := lower_ans c
      refine Ans.of (σ' := []) fn118_ (by simp) (by simp) ⟨k1 + k2 + k3, fun N hN => ?_⟩
      have g1 : strIdx (c :: r) 0 = some (.int .u8 c.toNat) := (ST.all (c :: r)).cons.1
      have hk1 := hk1 N (by omega)
      have hk2 := hk2 N (by omega)
      have hk3 := hk3 N (by omega)
      cases h2 : lowerB c <;> cases h3 : isWord (c :: r) <;> rw [h2] at hk3 <;> rw [h3] at hk2 <;> simp -implicitDefEqProofs [i118, c118, hk1, hk2, hk3, g1, h2]
theorem con_ans (s : List UInt8) (hb : s.length < big) : Ans ctx 113 [.str s] (.bool (conB s)) := by
  obtain ⟨k1, hk1⟩ := row_ans s hb
  unfold conB
  cases h1 : rowB s with
  | false =>
    rw [h1] at hk1
    refine Ans.of (σ' := []) fn113_ (by simp) (by simp) ⟨k1, fun N hN => ?_⟩
    simp -implicitDefEqProofs [i113, c113, hk1 N hN]
  | true =>
    rw [h1] at hk1
    cases s with
    | nil => simp [rowB] at h1
    | cons c r =>
      obtain ⟨k3, hk3⟩ := upper_ans c
      refine Ans.of (σ' := []) fn113_ (by simp) (by simp) ⟨k1 + k3, fun N hN => ?_⟩
      have g1 : strIdx (c :: r) 0 = some (.int .u8 c.toNat) := (ST.all (c :: r)).cons.1
      have hk1 := hk1 N (by omega)
      have hk3 := hk3 N (by omega)
      cases h2 : upperB c <;> rw [h2] at hk3 <;> simp -implicitDefEqProofs [i113, c113, hk1, hk3, g1, h2]
theorem wrap_u8 {m : Nat} (h : 48 ≤ m) (h2 : m < 256) : IntKind.u8.wrap ((m : Int) - 48) = ((m - 48 : Nat) : Int) := by
  have : ((m : Int) - 48) = ((m - 48 : Nat) : Int) := by omega
  rw [this]
  simp [IntKind.wrap, IntKind.signed, IntKind.bits]
  omega
theorem lp76 (s : List UInt8) (hb : s.length < big) : ∀ (r : List UInt8) (i n : Nat), ST s i r → n ≤ 2147483647 → r.all digitB = true →
    ∃ e fr', Lp ctx [] [] [0, 3, 4] b120_0 ⟨[(0, .v (.str s)), (3, .v (.int .i64 n)), (4, .v (.int .i64 i))], false⟩ [] e fr' [] ∧
      fr'.lk = false ∧ Hi 21 fr' ∧ getS fr'.sl 0 = .v (.str s) ∧ (match numL n r with | some m => e = .ex 0 ∧ getS fr'.sl 2 = .u ∧ getS fr'.sl 3 = .v (.int .i64 m) | none => e = .ret ∧ getS fr'.sl 2 = .v (.int .i64 (-1)))
  | [], i, n, h, _, _ => by
    have h := h.nil
    refine ⟨.ex 0, ?_, Lp.exit ⟨0, fun N _ => ?_⟩ (by simp), ?_⟩
    rotate_left
    · simp -implicitDefEqProofs [b120_0, h]
      rfl
    · exact ⟨by simp, hi_of (by simp), by simp, by simp [numL]⟩
  | c :: r, i, n, h, hn, hd => by
    obtain ⟨g1, g2, g3⟩ := h.cons
    have hl := h.len
    have hw := wrap_succ (n := i) (by simp at hl; omega)
    simp only [List.all_cons, Bool.and_eq_true] at hd
    have hc := hd.1
    simp only [digitB, Bool.and_eq_true, Nat.ble_eq] at hc
    have hw1 : IntKind.i64.wrap ((n : Int) * 10) = ((n * 10 : Nat) : Int) := by rw [wrap_i64 (by omega)]; omega
    have hw2 := wrap_u8 hc.1 (by omega)
    have hw3 : IntKind.i64.wrap ((c.toNat - 48 : Nat) : Int) = ((c.toNat - 48 : Nat) : Int) := wrap_i64 (by omega)
    have hw4 : IntKind.i64.wrap (((n * 10 : Nat) : Int) + ((c.toNat - 48 : Nat) : Int)) = ((n * 10 + (c.toNat - 48) : Nat) : Int) := by rw [wrap_i64 (by omega)]; omega
    have hnl : numL n (c :: r) = if n * 10 + (c.toNat - 48) ≤ 2147483647 then numL (n * 10 + (c.toNat - 48)) r else none := by simp [numL]
    rw [hnl]
    clear hnl
    generalize hm : n * 10 + (c.toNat - 48) = m at *
    generalize n * 10 = n10 at *
    generalize c.toNat - 48 = d at *
    by_cases hle : m ≤ 2147483647
    · have e1 : ¬ (2147483647 : Int) < m := by omega
      obtain ⟨e, fr', h1, h2, h3, h4, h5⟩ := lp76 s hb r (i + 1) m g3 hle hd.2
      refine ⟨e, fr', Lp.step ⟨0, fun N hN => ?_⟩ h1, h2, h3, h4, ?_⟩
      · simp -implicitDefEqProofs [b120_0, g1, g2, hw, hw1, hw2, hw3, hw4, e1]
      · rw [if_pos hle]
        exact h5
    · have e1 : (2147483647 : Int) < m := by omega
      refine ⟨.ret, ?_, Lp.exit ⟨0, fun N hN => ?_⟩ (by simp), ?_⟩
      rotate_left
      · simp -implicitDefEqProofs [b120_0, g1, g2, hw, hw1, hw2, hw3, hw4, e1]
        rfl
      · refine ⟨by simp, hi_of (by simp), by simp, ?_⟩
        rw [if_neg hle]
        simp
def optI : Option Nat → Int
  | some n => n
  | none => -1
theorem number_ans (s : List UInt8) (hb : s.length < big) (hd : s.all digitB = true) : Ans ctx 120 [.str s] (.int .i64 (optI (numB s))) := by
  obtain ⟨e, fr', h1, h2, hf, h3, h4⟩ := lp76 s hb s 0 0 (ST.all s) (by omega) hd
  obtain ⟨k, hk⟩ := h1.den
  unfold Hi at hf
  refine Ans.of (σ' := []) fn120_ (by simp) (by simp) ⟨k, fun N hN => ?_⟩
  have hk := hk N hN
  unfold numB
  cases hn : numL 0 s with
  | none =>
    rw [hn] at h4
    obtain ⟨rfl, h4⟩ := h4
    simp -implicitDefEqProofs [i120, c120, hk, h2, h3, h4, optI]
  | some m =>
    rw [hn] at h4
    obtain ⟨rfl, h4, h5⟩ := h4
    match s, hk, h3 with
    | [], hk, h3 => simp -implicitDefEqProofs [i120, c120, hk, h2, h3, h4, h5, hf, optI]
    | [c], hk, h3 => simp -implicitDefEqProofs [i120, c120, hk, h2, h3, h4, h5, hf, optI]
    | c :: d :: r, hk, h3 =>
      have g1 : strIdx (c :: d :: r) 0 = some (.int .u8 c.toNat) := (ST.all (c :: d :: r)).cons.1
      have e1 : (1 : Int) < (r.length : Int) + 1 + 1 := by omega
      simp only [beq_int]
      cases e2 : ((c.toNat : Int) == (48 : Nat)) with
      | true =>
        have e2' : ((c.toNat : Int) == 48) = true := e2
        simp -implicitDefEqProofs [i120, c120, hk, h2, h3, h4, h5, hf, optI, g1, e1, e2', -beq_iff_eq]
      | false =>
        have e2' : ((c.toNat : Int) == 48) = false := e2
        simp -implicitDefEqProofs [i120, c120, hk, h2, h3, h4, h5, hf, optI, g1, e1, e2', -beq_iff_eq, -beq_eq_false_iff_ne]
end Go.Am.Tryz
