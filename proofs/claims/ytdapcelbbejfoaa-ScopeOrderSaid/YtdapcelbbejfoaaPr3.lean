/- The program is what the machine takes it to be: Clone, Sort, Compact of texts are one step each. -/
import Derived.Test.YtdapcelbbejfoaaPrD
set_option linter.unusedVariables false
namespace Go.Am.Try
open Go Go.Proofs
theorem ctx_ok : CtxOK Try.prog ctx := ctxOK ⟨⟨clone91_serves, clone91_ind⟩, ⟨sort92_serves, sort_ind⟩, ⟨comp93_serves, compact_ind⟩, trivial⟩
end Go.Am.Try
