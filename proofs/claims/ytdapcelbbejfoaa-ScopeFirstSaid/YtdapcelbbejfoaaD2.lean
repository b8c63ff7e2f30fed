/- Layer 12: how many kids a type's name has; is a declared type right? -/
import Derived.Test.YtdapcelbbejfoaaD1
import Derived.Test.YtdapcelbbejfoaaP17
import Derived.Test.YtdapcelbbejfoaaPData
set_option linter.unusedVariables false
set_option maxRecDepth 100000
set_option linter.unusedSimpArgs false
namespace Go.Am.Try
open Go Go.Am.Ps

theorem cl118 (s : Str) (d : Da) : Ans ctx 118 [encD d, .adr (.str s)] (.bool (eqS d.s s)) := by
  refine Ans.of (σ' := []) fn118_ (by simp) (by simp) ⟨0, fun N _ => ?_⟩
  simp only [eqS_iff, encD]
  simp -implicitDefEqProofs [i118, c118, -beq_iff_eq]

theorem idxB_D (s : Str) : ∀ (l : List Da) (i : Nat) (m : List Da), (∃ d j, findD s l = some d ∧ idxB i (l.map fun d => eqS d.s s) = ((i + j : Nat) : Int) ∧ l[j]? = some d) ∨ (findD s l = none ∧ idxB i (l.map fun d => eqS d.s s) = -1)
  | [], i, m => .inr ⟨rfl, rfl⟩
  | d :: l, i, m => by
    simp only [findD, List.map_cons, idxB]
    cases h : eqS d.s s with
    | true => exact .inl ⟨d, 0, rfl, rfl, rfl⟩
    | false =>
      rcases idxB_D s l (i + 1) m with ⟨d', j, h1, h2, h3⟩ | ⟨h1, h2⟩
      · exact .inl ⟨d', j + 1, h1, by simp only [h2]; omega, by simpa using h3⟩
      · exact .inr ⟨h1, h2⟩

theorem map_pair {α : Type} (f : α → AV) (g : α → Bool) (l : List α) : (l.map fun x => (f x, g x)).map (·.1) = l.map f ∧ (l.map fun x => (f x, g x)).map (·.2) = l.map g := by
  constructor <;> simp [Function.comp_def]

/-- data.arity -/
theorem arity_ans (l : List Da) (nl : Bool) (hl : l.length < big) (s : Str) : Ans ctx 96 [encR 4 nl (encDs l), .str s] (.int .i64 (arity l s)) := by
  obtain ⟨e1, e2⟩ := map_pair encD (fun d => eqS d.s s) l
  obtain ⟨k, hk⟩ := idx117_ans 118 [.adr (.str s)] (l.map fun d => (encD d, eqS d.s s)) nl (by simpa using hl) (by rw [e1]; exact noRefs_encDs l) (by simp)
    (fun q hq => by obtain ⟨d, _, rfl⟩ := List.mem_map.1 hq; exact cl118 s d) (fun q hq ti => by obtain ⟨d, _, rfl⟩ := List.mem_map.1 hq; exact encD_fits d ti)
  rw [e1, e2] at hk
  have e3 : l.map encD = encDs l := rfl
  rw [e3] at hk
  refine Ans.of (σ' := []) fn96_ (by simp) (by simp) ⟨k, fun N hN => ?_⟩
  have hk := hk N hN
  unfold arity
  simp only [eqS_iff, sInt, sBool]
  cases h1 : s == [73, 110, 116] with
  | true => simp -implicitDefEqProofs [i96, c96, h1, -beq_iff_eq]
  | false =>
    cases h2 : s == [66, 111, 111, 108] with
    | true => simp -implicitDefEqProofs [i96, c96, h1, h2, -beq_iff_eq, -beq_eq_false_iff_ne]
    | false =>
      rcases idxB_D s l 0 l with ⟨d, j, q1, q2, q3⟩ | ⟨q1, q2⟩
      · rw [q2] at hk
        rw [q1]
        have hj : j < l.length := (List.getElem?_eq_some_iff.1 q3).1
        have g1 : (encDs l)[j]? = some (encD d) := by simp [encDs, q3]
        have g2 : idxN (j : Int) l.length = some j := by unfold idxN; rw [if_pos (by omega)]; simp
        have g3 : encR 4 nl (encDs l) = .sl 4 (encDs l) := by
          cases l with
          | nil => simp at hj
          | cons a l => simp
        rw [g3] at hk ⊢
        simp only [Nat.zero_add] at hk
        have g4 : ¬ (j : Int) < 0 := by omega
        unfold encD at g1
        simp -implicitDefEqProofs [i96, c96, h1, h2, hk, g1, g2, g4, -beq_iff_eq, -beq_eq_false_iff_ne]
      · rw [q2] at hk
        rw [q1]
        simp -implicitDefEqProofs [i96, c96, h1, h2, hk, -beq_iff_eq, -beq_eq_false_iff_ne]

end Go.Am.Try
