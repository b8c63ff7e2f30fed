/- Rows of numbers: are they one? -/
import Derived.Test.YtflhndopabnipaaS0
set_option linter.unusedVariables false
set_option linter.unusedSimpArgs false
set_option maxRecDepth 100000
namespace Go.Am.Try
open Go
def encIs (l : List Int) : List AV := l.map (AV.int .i64)
@[simp] theorem encIs_nil : encIs [] = [] := rfl
@[simp] theorem encIs_cons (x : Int) (l : List Int) : encIs (x :: l) = .int .i64 x :: encIs l := rfl
@[simp] theorem encIs_length (l : List Int) : (encIs l).length = l.length := by simp [encIs]
@[simp] theorem noRefs_encIs : ∀ l, AV.noRefs (encIs l) = true
  | [] => rfl
  | x :: l => by simp [AV.noRefs, AV.noRef, noRefs_encIs l]
def rowI (q : Bool × List Int) : AV := encR 1 q.1 (encIs q.2)
def encG (g : List (Bool × List Int)) : List AV := g.map rowI
@[simp] theorem encG_nil : encG [] = [] := rfl
@[simp] theorem encG_cons (x : Bool × List Int) (l : List (Bool × List Int)) : encG (x :: l) = rowI x :: encG l := rfl
@[simp] theorem encG_length (l : List (Bool × List Int)) : (encG l).length = l.length := by simp [encG]
@[simp] theorem rowI_noRef (q : Bool × List Int) : (rowI q).noRef = true := by
  obtain ⟨b, l⟩ := q
  unfold rowI
  cases b <;> cases l <;> simp [AV.noRef, AV.noRefs]
@[simp] theorem noRefs_encG : ∀ l, AV.noRefs (encG l) = true
  | [] => rfl
  | x :: l => by simp [AV.noRefs, noRefs_encG l]
@[simp] theorem rowI_fits (q : Bool × List Int) (ti : TI) : (rowI q).fits ti = (!ti.k.isAgg && ti.size == 1) := by simp [rowI]
@[simp] theorem rowI_cells (q : Bool × List Int) : (rowI q).cells = [rowI q] := by simp [rowI]
theorem lp17 (A B : List Int) (na nb : Bool) (hA : A.length < big) : ∀ (ra rb : List Int) (i : Nat), Tail (encIs A) i (encIs ra) → Tail (encIs B) i (encIs rb) → ra.length = rb.length →
    ∃ e fr', Lp ctx [] [] [0, 1, 5] b17_0 ⟨[(0, .v (encR 1 na (encIs A))), (1, .v (encR 1 nb (encIs B))), (5, .v (.int .i64 i))], false⟩ [] e fr' [] ∧ fr'.lk = false ∧
      ((ra = rb ∧ e = .ex 0 ∧ getS fr'.sl 4 = .u) ∨ (ra ≠ rb ∧ e = .ret ∧ getS fr'.sl 4 = .v (.bool false)))
  | [], rb, i, ha, hb, hl => by
    have hb0 : rb = [] := by cases rb with | nil => rfl | cons _ _ => simp at hl
    subst hb0
    have hlen := ha.nil
    simp only [encIs_length] at hlen
    refine ⟨.ex 0, ?_, Lp.exit ⟨0, fun N _ => ?_⟩ (by simp), ?_⟩
    rotate_left
    · simp -implicitDefEqProofs [b17_0, hlen]
      rfl
    · simp
  | a :: ra, rb, i, ha, hb, hl => by
    cases rb with
    | nil => simp at hl
    | cons b rb =>
    obtain ⟨a1, a2, a3, a4, a5⟩ := ha.cons
    obtain ⟨b1, b2, b3, b4, b5⟩ := hb.cons
    simp only [encIs_length] at a2 a3 b3
    have hlen := ha.len
    simp at hlen
    have hw := wrap_succ (n := i) (by unfold big at *; omega)
    have e1 := a5 1 na
    have e2 := b5 1 nb
    rw [e1, e2]
    by_cases hab : a = b
    · subst hab
      obtain ⟨e, fr', l1, l2, l3⟩ := lp17 A B na nb hA ra rb (i + 1) a4 b4 (by simpa using hl)
      rw [e1, e2] at l1
      refine ⟨e, fr', Lp.step ⟨0, fun N hN => ?_⟩ l1, l2, ?_⟩
      · simp -implicitDefEqProofs [b17_0, d17_0, a1, a2, a3, b1, b3, hw]
      · rcases l3 with ⟨h1, h2⟩ | ⟨h1, h2⟩
        · exact .inl ⟨by rw [h1], h2⟩
        · exact .inr ⟨by simpa using h1, h2⟩
    · refine ⟨.ret, ?_, Lp.exit ⟨0, fun N _ => ?_⟩ (by simp), ?_⟩
      rotate_left
      · have hb : (a != b) = true := by simpa using hab
        simp -implicitDefEqProofs [b17_0, d17_0, a1, a2, a3, b1, b3, hb, -bne_iff_ne]
        rfl
      · simp [hab]
theorem ints_ans (A B : List Int) (na nb : Bool) (hA : A.length < big) : Ans ctx 17 [encR 1 na (encIs A), encR 1 nb (encIs B)] (.bool (decide (A = B))) := by
  by_cases hl : A.length = B.length
  · obtain ⟨e, fr', l1, l2, l3⟩ := lp17 A B na nb hA A B 0 (Tail.all _) (Tail.all _) hl
    obtain ⟨k, hk⟩ := l1.den
    refine Ans.of (σ' := []) fn17_ (by simp [AV.noRefs]) (by simp) ⟨k, fun N hN => ?_⟩
    have hk := hk N hN
    simp only [Int.cast_ofNat_Int] at hk
    rcases l3 with ⟨h1, rfl, h2⟩ | ⟨h1, rfl, h2⟩
    · simp -implicitDefEqProofs [i17, c17, hk, l2, h1, h2]
    · simp -implicitDefEqProofs [i17, c17, hk, l2, h1, h2, hl]
  · have hne : A ≠ B := fun e => hl (by rw [e])
    have hb : ((A.length : Int) != (B.length : Int)) = true := by simp; omega
    refine Ans.of (σ' := []) fn17_ (by simp [AV.noRefs]) (by simp) ⟨0, fun N hN => ?_⟩
    simp -implicitDefEqProofs [i17, c17, hb, hne, -bne_iff_ne]
theorem lp16 (A B : List (Bool × List Int)) (na nb : Bool) (hA : A.length < big) (hr : ∀ q ∈ A, q.2.length < big) : ∀ (ra rb : List (Bool × List Int)) (i : Nat), Tail (encG A) i (encG ra) → Tail (encG B) i (encG rb) → ra.length = rb.length → (∀ q ∈ ra, q.2.length < big) →
    ∃ e fr', Lp ctx [] [] [0, 1, 5] b16_0 ⟨[(0, .v (encR 1 na (encG A))), (1, .v (encR 1 nb (encG B))), (5, .v (.int .i64 i))], false⟩ [] e fr' [] ∧ fr'.lk = false ∧
      ((ra.map (·.2) = rb.map (·.2) ∧ e = .ex 0 ∧ getS fr'.sl 4 = .u) ∨ (ra.map (·.2) ≠ rb.map (·.2) ∧ e = .ret ∧ getS fr'.sl 4 = .v (.bool false)))
  | [], rb, i, ha, hb, hl, _ => by
    have hb0 : rb = [] := by cases rb with | nil => rfl | cons _ _ => simp at hl
    subst hb0
    have hlen := ha.nil
    simp only [encG_length] at hlen
    refine ⟨.ex 0, ?_, Lp.exit ⟨0, fun N _ => ?_⟩ (by simp), ?_⟩
    rotate_left
    · simp -implicitDefEqProofs [b16_0, hlen]
      rfl
    · simp
  | a :: ra, rb, i, ha, hb, hl, hs => by
    cases rb with
    | nil => simp at hl
    | cons b rb =>
    obtain ⟨a1, a2, a3, a4, a5⟩ := ha.cons
    obtain ⟨b1, b2, b3, b4, b5⟩ := hb.cons
    simp only [encG_length] at a2 a3 b3
    have hlen := ha.len
    simp at hlen
    have hw := wrap_succ (n := i) (by unfold big at *; omega)
    have e1 := a5 1 na
    have e2 := b5 1 nb
    rw [e1, e2]
    obtain ⟨k, hk⟩ := ints_ans a.2 b.2 a.1 b.1 (hs a (by simp))
    have hk : ∀ N, k ≤ N → ∀ σ, acall ctx N 17 [rowI a, rowI b] σ = _ := hk
    by_cases hab : a.2 = b.2
    · simp only [hab, decide_true] at hk
      obtain ⟨e, fr', l1, l2, l3⟩ := lp16 A B na nb hA hr ra rb (i + 1) a4 b4 (by simpa using hl) fun q hq => hs q (by simp [hq])
      rw [e1, e2] at l1
      refine ⟨e, fr', Lp.step ⟨k, fun N hN => ?_⟩ l1, l2, ?_⟩
      · have hk := hk N hN
        simp -implicitDefEqProofs [b16_0, d16_0, a1, a2, a3, b1, b3, hw, hk]
      · rcases l3 with ⟨h1, h2⟩ | ⟨h1, h2⟩
        · exact .inl ⟨by simp [h1, hab], h2⟩
        · exact .inr ⟨by simpa [hab] using h1, h2⟩
    · simp only [hab, decide_false] at hk
      refine ⟨.ret, ?_, Lp.exit ⟨k, fun N hN => ?_⟩ (by simp), ?_⟩
      rotate_left
      · have hk := hk N hN
        simp -implicitDefEqProofs [b16_0, d16_0, a1, a2, a3, b1, b3, hk]
        rfl
      · simp [hab]
theorem same_ans (A B : List (Bool × List Int)) (na nb : Bool) (hA : A.length < big) (hr : ∀ q ∈ A, q.2.length < big) : Ans ctx 16 [encR 1 na (encG A), encR 1 nb (encG B)] (.bool (decide (A.map (·.2) = B.map (·.2)))) := by
  by_cases hl : A.length = B.length
  · obtain ⟨e, fr', l1, l2, l3⟩ := lp16 A B na nb hA hr A B 0 (Tail.all _) (Tail.all _) hl hr
    obtain ⟨k, hk⟩ := l1.den
    refine Ans.of (σ' := []) fn16_ (by simp [AV.noRefs]) (by simp) ⟨k, fun N hN => ?_⟩
    have hk := hk N hN
    simp only [Int.cast_ofNat_Int] at hk
    rcases l3 with ⟨h1, rfl, h2⟩ | ⟨h1, rfl, h2⟩
    · simp -implicitDefEqProofs [i16, c16, hk, l2, h1, h2, hl]
    · simp -implicitDefEqProofs [i16, c16, hk, l2, h1, h2, hl]
  · have hne : A.map (·.2) ≠ B.map (·.2) := fun e => hl (by simpa using congrArg List.length e)
    have hb : ((A.length : Int) != (B.length : Int)) = true := by simp; omega
    refine Ans.of (σ' := []) fn16_ (by simp [AV.noRefs]) (by simp) ⟨0, fun N hN => ?_⟩
    simp -implicitDefEqProofs [i16, c16, hb, hne, -bne_iff_ne]
end Go.Am.Try
