/- The abstract machine and the model: the library's tables that a program reads: none. -/
import Derived.WalkKit
namespace Go.Am
def TAB : List (Nat × Obj) := []
end Go.Am
