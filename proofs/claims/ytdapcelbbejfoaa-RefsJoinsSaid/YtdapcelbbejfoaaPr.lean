/- The program is what the machine takes it to be; no library function is taken as one step. -/
import Derived.Test.YtdapcelbbejfoaaMFacts
set_option linter.unusedVariables false
namespace Go.Am.Try
open Go Go.Proofs
theorem ctx_ok : CtxOK Try.prog ctx := ctxOK trivial
end Go.Am.Try
