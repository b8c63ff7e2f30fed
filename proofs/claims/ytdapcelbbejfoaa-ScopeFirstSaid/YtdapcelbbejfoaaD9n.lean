/- Layer 12: a number of an error; a place in a row. -/
import Derived.Test.YtdapcelbbejfoaaD6
import Derived.Test.YtdapcelbbejfoaaP21
set_option linter.unusedVariables false
set_option maxRecDepth 100000
set_option linter.unusedSimpArgs false
namespace Go.Am.Try
open Go Go.Am.Ps

theorem num_ans (n : Int) : Ans ctx 30 [.int .i64 n] (.int .i64 n) := by
  refine Ans.of (σ' := []) fn30_ (by simp) (by simp) ⟨0, fun N hN => ?_⟩
  simp -implicitDefEqProofs [i30, c30]

theorem idx_at {i n : Nat} (h : i < n) : idxN (i : Int) n = some i := by unfold idxN; rw [if_pos (by omega)]; simp

end Go.Am.Try
