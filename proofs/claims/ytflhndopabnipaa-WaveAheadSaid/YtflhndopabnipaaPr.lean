/- The library's functions that the machine takes as one step: Clone, Sort of numbers, SortFunc of groups: the context is right. -/
import Derived.Test.YtflhndopabnipaaS0
import Derived.Test.YtflhndopabnipaaMSort
import Derived.Test.YtflhndopabnipaaPrC
set_option maxRecDepth 100000
set_option linter.unusedVariables false
namespace Go.Am.Try
open Go Go.Proofs Go.Sort
def tycP : Ctx := ⟨types, [], [], []⟩
theorem tycP_ti (t : Nat) : tycP.ti t = ctx.ti t := rfl
theorem clone40_nilP (σ : H) : primOf types i40 [.nil] σ = some (.nil, σ) := by
  show runFn tycP (fun _ _ => failM) 1 i40 [.nil] σ = _
  simp [i40, c40, tycP_ti]
theorem clone40_ind : ∀ l, AV.noRefs l = true → Ind (primOf types i40 l) := by
  refine primOf_ind clone40_nilP fun s xs r h => ?_
  have h : runFn tycP (fun _ _ => failM) 1 i40 [.sl s xs] [] = some (r, []) := h
  cases xs with
  | nil =>
    by_cases hs : s = 1
    · subst hs
      simp [i40, c40, tycP_ti] at h
    · simp [i40, c40, tycP_ti, hs] at h
  | cons x xs =>
    by_cases hs : s = 1
    · subst hs
      by_cases hc : (xs.length + 1) * 8 ≤ 35184372088832 ∧ xs.length ≤ 35184372088831 ∧ AV.fits ⟨.int .i64, 1, 8, .int .i64 0, [.int .i64]⟩ x = true ∧ fitAll ⟨.int .i64, 1, 8, .int .i64 0, [.int .i64]⟩ xs = true
      · simp [i40, c40, tycP_ti, hc] at h
      · simp [i40, c40, tycP_ti, hc] at h
    · simp [i40, c40, tycP_ti, hs] at h
theorem clone40_serves : ServesM Try.prog 40 (primOf types i40) := primOf_serves allTy mix fn40
theorem sort41_serves : ServesM Try.prog 41 primSortI := sort_serves enc_int (enters_of Try.func41 (by kernel_rfl) rfl)
  (fun blk off cap zs w h1 h2 h3 => calls_of_every_depth fun D => AnyS.slices_Sort_int_alone Try.laysSortI D blk off cap zs w h1 h2 h3)
  (fun p cap w => calls_of_every_depth fun D => AnyS.slices_Sort_int_none_alone Try.laysSortI D p cap w)
def cfH {m : Nat} (hs : Fin (m + 1) → Int) (i j : Fin (m + 1)) : Int := Lib.compareInt (hs i) (hs j)
theorem ltH {m : Nat} (hs : Fin (m + 1) → Int) (i j : Fin (m + 1)) : ltOf (cfH hs) i j = decide (hs i < hs j) := by
  unfold ltOf cfH Lib.compareInt
  by_cases h1 : hs i < hs j
  · simp [h1]
  · by_cases h2 : hs j < hs i <;> simp [h1, h2]
theorem swoH {m : Nat} (hs : Fin (m + 1) → Int) : SWO (ltOf (cfH hs)) where
  irrefl x := by rw [ltH]; simp
  trans x y z h1 h2 := by rw [ltH] at *; simp at *; omega
  ntrans x y z h1 h2 := by rw [ltH] at *; simp at *; omega
theorem sort29_serves : ServesM Try.prog 29 (primSortH 30) := by
  refine sortH_serves (enters_of Try.func29 (by kernel_rfl) rfl) (fun blk off cap m vals hs w h1 h2 h3 h4 h5 h6 => ?_) (fun p cap w => AnyF.slices_SortFunc_none (P := Try.prog) (ρ := Try.laysSF_ren) { Try.laysSF with } p cap (.func (.func 30) #[] #[]) w)
  have eg : ∀ args w, (callFunc 30 args).run Try.prog w = .ok (.enter 30 args) w := enters_of Try.func30 (by kernel_rfl) rfl
  have hsz : (List.finRange (m + 1)).toArray.size = m + 1 := by simp
  have hcmp : CmpReads Try.prog 30 #[] vals (cfH hs) blk off (List.finRange (m + 1)).toArray.size w := fun q os dk hdk x y => by
    obtain ⟨b1, o1, n1, c1, e1, k1, k2, k3⟩ := h6 x
    obtain ⟨b2, o2, n2, c2, e2, k4, k5, k6⟩ := h6 y
    have hread : ∀ b o v, b ≠ blk → b < w.heap.size → w.cell? ⟨b, o, none⟩ = some v → (sortWorld vals w blk off q dk os).cell? ⟨b, o, none⟩ = some v := fun b o v hb hl hc => by
      have : (sortWorld vals w blk off q dk os).heap[b]? = w.heap[b]? := by
        show ((w.heap.modify blk (onCells (putCells vals off dk))) ++ os)[b]? = _
        rw [Array.getElem?_append_left (by simpa using hl), Array.getElem?_modify, if_neg (Ne.symm hb)]
      unfold World.cell? at hc ⊢
      rw [this]; exact hc
    rw [e1, e2]
    exact Try.closure30 b1 o1 c1 (n1 + 1) b2 o2 c2 (n2 + 1) (hs x) (hs y) _ (by omega) (by omega) (hread b1 o1 _ k1 k2 k3) (hread b2 o2 _ k4 k5 k6)
  have hT : ∀ x y, ltOf (cfH hs) x y = false → ltOf (cfH hs) y x = false → x = y := fun x y k1 k2 => by
    rw [ltH] at k1 k2
    simp at k1 k2
    exact h2 x y (by omega)
  have hS := Any.slices_SortFunc_total Try.laysSF vals h1 (cfH hs) (swoH hs) 30 #[] blk off cap (List.finRange (m + 1)).toArray w eg hcmp.lays h3 h4 (by rw [hsz]; exact h5) hT
  change Calls Try.prog 29 _ _ _ at hS
  rw [hsz] at hS
  have hge : (fun x y : Fin (m + 1) => !ltOf (cfH hs) y x) = fun i j => decide (hs i ≤ hs j) := by
    funext x y
    rw [ltH]
    by_cases h : hs x ≤ hs y
    · have h' : ¬ hs y < hs x := by omega
      simp [h, h']
    · have h' : hs y < hs x := by omega
      simp [h, h']
  rw [hge] at hS
  exact hS
theorem ctx_ok : CtxOK Try.prog ctx := ctxOK ⟨⟨sort29_serves, sortH_ind⟩, ⟨clone40_serves, clone40_ind⟩, ⟨sort41_serves, sort_ind⟩, trivial⟩
end Go.Am.Try
