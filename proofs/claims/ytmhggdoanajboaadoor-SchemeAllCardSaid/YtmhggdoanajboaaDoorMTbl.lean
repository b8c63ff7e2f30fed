/- The abstract machine and the model: the library's tables that a program reads: the powers of ten. -/
import Derived.WalkKit
import Derived.Lib.ItoaNum
namespace Go.Am
def TAB : List (Nat × Array Value) := [(0, (Lib.pow10Tab.map fun z => Value.int .u64 z).toArray)]
end Go.Am
