/- Layers 17, 19: the documents' examples. -/
import Derived.Test.YtmhggdoanajboaaDoorMKnow
import Derived.KernelRfl
set_option maxRecDepth 100000
namespace Go.Am.Tryd
open Go
theorem awake_ans : Ans ctx 6 [] (.bool true) := by
  refine ⟨60, fun N hN σ => ?_⟩
  obtain ⟨n, rfl⟩ : ∃ n, N = n + 60 := ⟨N - 60, by omega⟩
  kernel_rfl
theorem awake19_ans : Ans ctx 22 [] (.bool true) := by
  refine ⟨60, fun N hN σ => ?_⟩
  obtain ⟨n, rfl⟩ : ∃ n, N = n + 60 := ⟨N - 60, by omega⟩
  kernel_rfl
end Go.Am.Tryd
