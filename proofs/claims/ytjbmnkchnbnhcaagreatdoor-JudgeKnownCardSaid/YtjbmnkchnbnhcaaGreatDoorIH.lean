/- Layer 21: the declarations that stand ahead. -/
import Derived.Test.YtjbmnkchnbnhcaaGreatDoorE6s
import Derived.KernelRfl
set_option linter.unusedVariables false
set_option maxRecDepth 100000
set_option linter.unusedSimpArgs false
namespace Go.Am.Tryz
open Go Go.Am.Ps
def hdD : List Da := [⟨[76, 105, 115, 116], 5, [[97]], [⟨[78, 105, 108], 14, []⟩, ⟨[67, 111, 110, 115], 20, [.mk 1 0 [] [], .mk 2 0 [76, 105, 115, 116] [.mk 1 0 [] []]]⟩]⟩, ⟨[79, 112, 116], 42, [[97]], [⟨[78, 111, 110, 101], 50, []⟩, ⟨[83, 111, 109, 101], 57, [.mk 1 0 [] []]⟩]⟩, ⟨[70], 70, [[97], [98]], [⟨[79, 100, 100], 78, [.mk 2 0 [45, 62] [.mk 1 0 [] [], .mk 1 1 [] []], .mk 2 0 [44] [.mk 1 0 [] [], .mk 2 0 [73, 110, 116] []]]⟩]⟩]
end Go.Am.Tryz
