/- The program is what the machine takes it to be: Clone, Sort, Compact of texts, Clone of types are one step each. -/
import Derived.Test.YtdapcelbbejfoaaPrD
set_option linter.unusedVariables false
set_option maxRecDepth 100000
namespace Go.Am.Try
open Go Go.Proofs
theorem clone97_nilP (σ : H) : primOf types i97 [.nil] σ = some (.nil, σ) := by
  show runFn tycP (fun _ _ => failM) 1 i97 [.nil] σ = _
  simp [i97, c97, tycP_ti]
theorem clone97_ind : ∀ l, AV.noRefs l = true → Ind (primOf types i97 l) := by
  refine primOf_ind clone97_nilP fun s xs r h => ?_
  have h : runFn tycP (fun _ _ => failM) 1 i97 [.sl s xs] [] = some (r, []) := h
  cases xs with
  | nil =>
    by_cases hs : s = 4
    · subst hs
      simp [i97, c97, tycP_ti] at h
    · simp [i97, c97, tycP_ti, hs] at h
  | cons x xs =>
    by_cases hs : s = 4
    · subst hs
      by_cases hc : (xs.length + 1) * 56 ≤ 35184372088832 ∧ xs.length ≤ 35184372088831 ∧ AV.fits ⟨.strct [(0, 3), (1, 3), (2, 9), (3, 62)], 4, 56, .agg [.int .i64 0, .int .i64 0, .str [], .nil], []⟩ x = true ∧ fitAll ⟨.strct [(0, 3), (1, 3), (2, 9), (3, 62)], 4, 56, .agg [.int .i64 0, .int .i64 0, .str [], .nil], []⟩ xs = true
      · simp [i97, c97, tycP_ti, hc] at h
      · simp [i97, c97, tycP_ti, hc] at h
    · simp [i97, c97, tycP_ti, hs] at h
theorem clone97_serves : ServesM Try.prog 97 (primOf types i97) := primOf_serves allTy mix fn97
theorem ctx_ok : CtxOK Try.prog ctx := ctxOK ⟨⟨clone91_serves, clone91_ind⟩, ⟨sort92_serves, sort_ind⟩, ⟨comp93_serves, compact_ind⟩, ⟨clone97_serves, clone97_ind⟩, trivial⟩
end Go.Am.Try
