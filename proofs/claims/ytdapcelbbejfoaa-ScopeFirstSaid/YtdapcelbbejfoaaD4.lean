/- Layer 12: two texts that are one; a Con's place; types copied. -/
import Derived.Test.YtdapcelbbejfoaaD3
import Derived.Test.YtdapcelbbejfoaaMTab
set_option linter.unusedVariables false
set_option maxRecDepth 100000
set_option linter.unusedSimpArgs false
namespace Go.Am.Try
open Go Go.Am.Ps

/-! ### what is twice in a row that is sorted -/

theorem squash_le_ {α : Type} [DecidableEq α] : ∀ zs : List α, (squash zs).length ≤ zs.length
  | [] => Nat.le_refl _
  | [a] => Nat.le_refl _
  | a :: b :: l => by
    have := squash_le_ (b :: l)
    simp only [squash]
    split
    · simp at this ⊢; omega
    · simp at this ⊢; omega

theorem squash_lt {α : Type} [DecidableEq α] : ∀ zs : List α, (squash zs).length < zs.length ↔ ∃ i, ∃ x, zs[i]? = some x ∧ zs[i + 1]? = some x
  | [] => by simp [squash]
  | [a] => by simp [squash]
  | a :: b :: l => by
    have ih := squash_lt (b :: l)
    have hle : (squash (b :: l)).length ≤ (b :: l).length := squash_le_ (b :: l)
    simp only [squash]
    split
    · rename_i h
      subst h
      exact ⟨fun _ => ⟨0, a, rfl, rfl⟩, fun _ => by simp only [List.length_cons] at hle ⊢; omega⟩
    · rename_i h
      simp only [List.length_cons] at ih ⊢
      constructor
      · intro hlt
        obtain ⟨i, x, h1, h2⟩ := ih.1 (by omega)
        exact ⟨i + 1, x, by simpa using h1, by simpa using h2⟩
      · rintro ⟨i, x, h1, h2⟩
        cases i with
        | zero =>
          simp only [List.getElem?_cons_zero, Option.some.injEq, Nat.zero_add, List.getElem?_cons_succ] at h1 h2
          exact absurd (h1.trans h2.symm) h
        | succ i =>
          have := ih.2 ⟨i, x, by simpa using h1, by simpa using h2⟩
          omega

theorem leS_trans (a b c : Str) (h1 : decide (a ≤ b) = true) (h2 : decide (b ≤ c) = true) : decide (a ≤ c) = true := by
  simp only [decide_eq_true_eq] at *
  exact List.le_trans h1 h2

theorem leS_total (a b : Str) : (decide (a ≤ b) || decide (b ≤ a)) = true := by
  simp only [Bool.or_eq_true, decide_eq_true_eq]
  exact List.le_total a b

theorem leS_anti {a b : Str} (h1 : a ≤ b) (h2 : b ≤ a) : a = b := List.le_antisymm h1 h2

theorem dupS_iff : ∀ l : List Str, dupS l = true ↔ ¬ l.Nodup
  | [] => by simp [dupS]
  | s :: l => by
    simp only [dupS, Bool.or_eq_true, List.any_eq_true, eqS_iff, beq_iff_eq, dupS_iff l, List.nodup_cons]
    constructor
    · rintro (⟨x, h1, rfl⟩ | h)
      · exact fun h => h.1 h1
      · exact fun h' => h h'.2
    · intro h
      by_cases hs : s ∈ l
      · exact .inl ⟨s, hs, rfl⟩
      · exact .inr fun h' => h ⟨hs, h'⟩

theorem sorted_dup {zs : List Str} (hs : zs.Pairwise fun a b => decide (a ≤ b) = true) : (∃ i, ∃ x, zs[i]? = some x ∧ zs[i + 1]? = some x) ↔ ¬ zs.Nodup := by
  constructor
  · rintro ⟨i, x, h1, h2⟩ hnd
    rw [List.nodup_iff_pairwise_ne, List.pairwise_iff_getElem] at hnd
    have hi := (List.getElem?_eq_some_iff.1 h1)
    have hj := (List.getElem?_eq_some_iff.1 h2)
    exact hnd i (i + 1) hi.1 hj.1 (by omega) (hi.2.trans hj.2.symm)
  · intro hnd
    rw [List.nodup_iff_pairwise_ne, List.pairwise_iff_getElem] at hnd
    apply Classical.byContradiction
    intro hno
    apply hnd
    intro i j hi hj hij he
    apply hno
    refine ⟨i, zs[i], List.getElem?_eq_getElem hi, ?_⟩
    rw [List.pairwise_iff_getElem] at hs
    have h1 : zs[i] ≤ zs[i + 1] := by
      have := hs i (i + 1) hi (by omega) (by omega)
      simpa using this
    have h2 : zs[i + 1] ≤ zs[j] := by
      by_cases e : i + 1 = j
      · subst e; exact List.le_refl _
      · have := hs (i + 1) j (by omega) hj (by omega)
        simpa using this
    rw [← he] at h2
    rw [List.getElem?_eq_getElem (by omega), leS_anti h1 h2]

theorem squash_sort (l : List Str) : decide ((squash (l.mergeSort fun x y => decide (x ≤ y))).length < l.length) = dupS l := by
  have h1 := squash_lt (l.mergeSort fun x y => decide (x ≤ y))
  rw [List.length_mergeSort] at h1
  have hs := List.pairwise_mergeSort (le := fun x y : Str => decide (x ≤ y)) leS_trans leS_total l
  have h2 := sorted_dup hs
  have h3 : (l.mergeSort fun x y => decide (x ≤ y)).Nodup ↔ l.Nodup := (List.mergeSort_perm l _).nodup_iff
  rw [h3, ← dupS_iff] at h2
  have : (squash (l.mergeSort fun x y => decide (x ≤ y))).length < l.length ↔ dupS l = true := h1.trans h2
  cases h : dupS l with
  | true => simp [this.2 h]
  | false =>
    have : ¬ (squash (l.mergeSort fun x y => decide (x ≤ y))).length < l.length := fun h' => by rw [this.1 h'] at h; cases h
    simp [this]

end Go.Am.Try
