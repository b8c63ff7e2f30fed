/- The program is what the machine takes it to be: Clone of types is one step. -/
import Derived.Test.YtjbmnkchnbnhcaaMKnow
import Derived.Test.YtjbmnkchnbnhcaaMFacts
set_option linter.unusedVariables false
set_option maxRecDepth 100000
namespace Go.Am.Try
open Go Go.Proofs
def tycP : Ctx := ⟨types, [], [], [], []⟩
theorem tycP_ti (t : Nat) : tycP.ti t = ctx.ti t := rfl
theorem clone95_nilP (σ : H) : primOf types i95 [.nil] σ = some (.nil, σ) := by
  show runFn tycP (fun _ _ => failM) 1 i95 [.nil] σ = _
  simp [i95, c95, tycP_ti]
theorem clone95_ind : ∀ l, AV.noRefs l = true → Ind (primOf types i95 l) := by
  refine primOf_ind clone95_nilP fun s xs r h => ?_
  have h : runFn tycP (fun _ _ => failM) 1 i95 [.sl s xs] [] = some (r, []) := h
  cases xs with
  | nil =>
    by_cases hs : s = 4
    · subst hs
      simp [i95, c95, tycP_ti] at h
    · simp [i95, c95, tycP_ti, hs] at h
  | cons x xs =>
    by_cases hs : s = 4
    · subst hs
      by_cases hc : (xs.length + 1) * 56 ≤ 35184372088832 ∧ xs.length ≤ 35184372088831 ∧ AV.fits ⟨.strct [(0, 3), (1, 3), (2, 9), (3, 29)], 4, 56, .agg [.int .i64 0, .int .i64 0, .str [], .nil], []⟩ x = true ∧ fitAll ⟨.strct [(0, 3), (1, 3), (2, 9), (3, 29)], 4, 56, .agg [.int .i64 0, .int .i64 0, .str [], .nil], []⟩ xs = true
      · simp [i95, c95, tycP_ti, hc] at h
      · simp [i95, c95, tycP_ti, hc] at h
    · simp [i95, c95, tycP_ti, hs] at h
theorem clone95_serves : ServesM Try.prog 95 (primOf types i95) := primOf_serves allTy mix fn95
theorem ctx_ok : CtxOK Try.prog ctx := ctxOK ⟨⟨clone95_serves, clone95_ind⟩, trivial⟩
end Go.Am.Try
