/- Layer 21: the document's example. -/
import Derived.Test.YtjbmnkchnbnhcaaIA
set_option linter.unusedVariables false
set_option maxRecDepth 100000
set_option linter.unusedSimpArgs false
namespace Go.Am.Try
open Go Go.Am.Ps
theorem awake_ans : Ans ctx 11 [] (.bool true) := by
  obtain ⟨k1, h1⟩ := one35
  obtain ⟨k2, h2⟩ := one36
  refine Ans.of (σ' := []) fn11_ (by simp) (by simp) ⟨k1 + k2, fun N hN => ?_⟩
  have h1 := h1 N (by omega)
  have h2 := h2 N (by omega)
  simp only [tx35] at h1
  simp only [tx36] at h2
  simp -implicitDefEqProofs [i11, c11, h1, h2]
end Go.Am.Try
