/- Layer 17: the document's example. -/
import Derived.Test.YtmfmofkehnmimaaDoorMKnow
import Derived.KernelRfl
set_option maxRecDepth 100000
namespace Go.Am.Tryd
open Go

theorem awake_ans : Ans ctx 8 [] (.bool true) := by
  refine ⟨40, fun N hN σ => ?_⟩
  obtain ⟨n, rfl⟩ : ∃ n, N = n + 40 := ⟨N - 40, by omega⟩
  kernel_rfl

end Go.Am.Tryd
