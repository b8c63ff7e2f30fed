/- The library's functions that the machine takes as one step: Clone, Sort, Compact of texts. -/
import Derived.Test.YtdapcelbbejfoaaMFacts
import Derived.Test.YtdapcelbbejfoaaMKnow
import Derived.Test.YtdapcelbbejfoaaMSort
import Derived.Test.YtdapcelbbejfoaaShelf
set_option maxRecDepth 100000
set_option linter.unusedVariables false
namespace Go.Am.Try
open Go Go.Proofs
def tycP : Ctx := ⟨types, [], [], []⟩
theorem tycP_ti (t : Nat) : tycP.ti t = ctx.ti t := rfl
theorem clone91_nilP (σ : H) : primOf types i91 [.nil] σ = some (.nil, σ) := by
 show runFn tycP (fun _ _ => failM) 1 i91 [.nil] σ = _
 simp [i91, c91, tycP_ti]
theorem clone91_ind : ∀ l, AV.noRefs l = true → Ind (primOf types i91 l) := by
 refine primOf_ind clone91_nilP fun s xs r h => ?_
 have h : runFn tycP (fun _ _ => failM) 1 i91 [.sl s xs] [] = some (r, []) := h
 cases xs with
 | nil =>
  by_cases hs : s = 1
  ·subst hs
   simp [i91, c91, tycP_ti] at h
  ·simp [i91, c91, tycP_ti, hs] at h
 | cons x xs =>
  by_cases hs : s = 1
  ·subst hs
   by_cases hc : (xs.length + 1) * 16 ≤ 35184372088832 ∧ xs.length ≤ 35184372088831 ∧ AV.fits ⟨.str, 1, 16, .str [], [.str]⟩ x = true ∧ fitAll ⟨.str, 1, 16, .str [], [.str]⟩ xs = true
   ·simp [i91, c91, tycP_ti, hc] at h
   ·simp [i91, c91, tycP_ti, hc] at h
  ·simp [i91, c91, tycP_ti, hs] at h
theorem clone91_serves : ServesM Try.prog 91 (primOf types i91) := primOf_serves allTy mix fn91
theorem keeps_snoc {α : Type} [Inhabited α] [DecidableEq α] (zs : List α) (x : α) : Lib.compact (zs ++ [x]) = Lib.compact zs ++ (if zs.getLast? = some x then [] else [x]) := by
 unfold Lib.compact
 rw [List.length_append, List.length_singleton, Lib.compactUpTo_succ]
 have hg : ∀ j, j < zs.length → (zs ++ [x]).toArray[j]! = zs.toArray[j]! := fun j hj => by
  rw [Array.getElem!_eq_getD, Array.getElem!_eq_getD, Array.getD_eq_getD_getElem?, Array.getD_eq_getD_getElem?]
  simp [List.getElem?_append_left hj]
 have h1 : Lib.compactUpTo (zs ++ [x]).toArray zs.length = Lib.compactUpTo zs.toArray zs.length := by
  unfold Lib.compactUpTo
  have hk : (List.range zs.length).filter (Lib.keeps (zs ++ [x]).toArray) = (List.range zs.length).filter (Lib.keeps zs.toArray) := by
   apply List.filter_congr
   intro j hj
   have hj : j < zs.length := by simpa using hj
   unfold Lib.keeps
   rw [hg j hj, hg (j - 1) (by omega)]
  rw [hk]
  apply List.map_congr_left
  intro j hj
  have hj : j < zs.length := by
   have := (List.mem_filter.1 hj).1
   simpa using this
  exact hg j hj
 rw [h1]
 have h2 : (zs ++ [x]).toArray[zs.length]! = x := by
  rw [Array.getElem!_eq_getD, Array.getD_eq_getD_getElem?]
  simp
 rw [h2]
 congr 1
 unfold Lib.keeps
 rw [h2]
 cases hz : zs.getLast? with
 | none =>
  have : zs = [] := by simpa using hz
  subst this
  simp
 | some y =>
  have hne : zs ≠ [] := by rintro rfl; simp at hz
  have hl : 0 < zs.length := List.length_pos_iff.2 hne
  have h3 : (zs ++ [x]).toArray[zs.length - 1]! = y := by
   rw [hg _ (by omega), Array.getElem!_eq_getD, Array.getD_eq_getD_getElem?]
   rw [List.getLast?_eq_getElem?] at hz
   simp [hz]
  rw [h3]
  by_cases hxy : y = x
  ·subst hxy
   have : ¬ (zs.length = 0 ∨ y ≠ y) := by simp; omega
   simp [hne]
  ·simp [hxy, Ne.symm hxy]
theorem squash_snoc {α : Type} [DecidableEq α] (x : α) : ∀ zs : List α, squash (zs ++ [x]) = squash zs ++ (if zs.getLast? = some x then [] else [x])
 | [] => by simp [squash]
 | [a] => by
  simp only [List.singleton_append, squash, List.getLast?_singleton, Option.some.injEq]
  split <;> simp_all
 | a :: b :: l => by
  have ih := squash_snoc x (b :: l)
  simp only [List.cons_append, squash] at ih ⊢
  have hg : (a :: b :: l).getLast? = (b :: l).getLast? := by simp
  rw [hg]
  split
  ·exact ih
  ·rw [ih]; rfl
theorem compact_squash_n {α : Type} [Inhabited α] [DecidableEq α] : ∀ (n : Nat) (zs : List α), zs.length = n → Lib.compact zs = squash zs
 | 0, zs, h => by
  have : zs = [] := by simpa using h
  subst this; rfl
 | n + 1, zs, h => by
  rcases List.eq_nil_or_concat zs with e | ⟨l, x, e⟩
  ·subst e; simp at h
  ·subst e
   have hl : l.length = n := by simpa using h
   have := compact_squash_n n l hl
   simp only [List.concat_eq_append, keeps_snoc, squash_snoc, this]
theorem compact_squash {α : Type} [Inhabited α] [DecidableEq α] (zs : List α) : Lib.compact zs = squash zs := compact_squash_n _ zs rfl
theorem sort92_serves : ServesM Try.prog 92 primSort := sort_serves enc_str (enters_of Try.func92 (by kernel_rfl) rfl)
 (fun blk off cap zs w h1 h2 h3 => calls_of_every_depth fun D => AnyS.slices_Sort_string_alone Try.laysSort D blk off cap zs w h1 h2 h3)
 (fun p cap w => Any.slices_Sort_string_none Try.laysSort p cap w)
theorem comp93_serves : ServesM Try.prog 93 primCompact := compact_serves enc_str (enters_of Try.func93 (by kernel_rfl) rfl)
 (fun blk off cap zs w h1 h2 h3 => (calls_of_every_depth fun D => AnyS.slices_Compact_string_in Try.laysCompact D blk off cap zs w h1 h2 h3).mono fun e w' he => by rw [compact_squash] at he; exact he)
 (fun a cap w => calls_of_every_depth fun D => AnyS.slices_Compact_string_empty_in Try.laysCompact D a cap w)
end Go.Am.Try
