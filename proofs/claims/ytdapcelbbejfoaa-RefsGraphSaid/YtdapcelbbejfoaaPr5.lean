/- The program is what the machine takes it to be: Sort of numbers is one step; a loop over Backward. -/
import Derived.Test.YtdapcelbbejfoaaV1
import Derived.Test.YtdapcelbbejfoaaMSort
import Derived.Test.YtdapcelbbejfoaaShelfI
set_option maxRecDepth 100000
set_option linter.unusedVariables false
namespace Go.Am.Try
open Go Go.Proofs
theorem sort57_serves : ServesM Try.prog 57 primSortI := sort_serves enc_int (enters_of Try.func57 (by kernel_rfl) rfl)
  (fun blk off cap zs w h1 h2 h3 => calls_of_every_depth fun D => AnyS.slices_Sort_int_alone Try.laysSortI D blk off cap zs w h1 h2 h3)
  (fun p cap w => calls_of_every_depth fun D => AnyS.slices_Sort_int_none_alone Try.laysSortI D p cap w)
theorem ctx_ok : CtxOK Try.prog ctx := ctxOK ⟨⟨sort57_serves, sort_ind⟩, trivial⟩ backs
end Go.Am.Try
