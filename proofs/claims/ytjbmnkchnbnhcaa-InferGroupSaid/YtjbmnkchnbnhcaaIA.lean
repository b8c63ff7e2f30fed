/- Layer 21: the document's example, and one more. -/
import Derived.Test.YtjbmnkchnbnhcaaI1
import Derived.KernelRfl
set_option linter.unusedVariables false
set_option maxRecDepth 100000
set_option linter.unusedSimpArgs false
namespace Go.Am.Try
open Go Go.Am.Ps
def tx35 : Str := [108, 101, 116, 32, 105, 100, 32, 120, 32, 61, 32, 120, 59]
def kB35 : List Bi := [⟨[105, 100], 105, .mk 6 105 [120] 0 [.mk 1 112 [120] 0 [] []] []⟩]
def kR35 : AV := .tup [(.sl 5 [(.agg [(.int .i64 1), (.int .i64 2), (.int .i64 0), (.str [45, 62]), (.sl 4 [(.agg [(.int .i64 1), (.int .i64 0), (.str []), (.nil)]), (.agg [(.int .i64 1), (.int .i64 0), (.str []), (.nil)])])])]), (.int .i64 0)]
theorem parse35 : parse (headsS ++ tx35) = .ok ⟨hdD, kB35⟩ := by kernel_rfl
theorem group35 : Ans ctx 16 [.nil, encR 4 true (encDs hdD), encR 8 true (encBs kB35)] kR35 := ⟨200, fun N hN σ => by obtain ⟨n, rfl⟩ : ∃ n, N = n + 200 := ⟨N - 200, by omega⟩; kernel_rfl⟩
theorem text35 : Ans ctx 18 [.agg [.int .i64 2, .int .i64 0, .str [45, 62], .sl 4 [(.agg [(.int .i64 1), (.int .i64 0), (.str []), (.nil)]), (.agg [(.int .i64 1), (.int .i64 0), (.str []), (.nil)])]]] (.str [97, 32, 45, 62, 32, 97]) := ⟨200, fun N hN σ => by obtain ⟨n, rfl⟩ : ∃ n, N = n + 200 := ⟨N - 200, by omega⟩; kernel_rfl⟩
theorem one35 : Ans ctx 10 [.str tx35] (.str [97, 32, 45, 62, 32, 97]) := one_ok tx35 (by decide) parse35 (l := [.agg [(.int .i64 1), (.int .i64 2), (.int .i64 0), (.str [45, 62]), (.sl 4 [(.agg [(.int .i64 1), (.int .i64 0), (.str []), (.nil)]), (.agg [(.int .i64 1), (.int .i64 0), (.str []), (.nil)])])]]) (by simp) (i := 0) rfl (by decide) (by decide) group35 text35
def tx36 : Str := [108, 101, 116, 32, 102, 32, 61, 32, 49, 32, 50, 59]
def kB36 : List Bi := [⟨[102], 105, .mk 5 109 [] 0 [.mk 3 109 [] 1 [] [], .mk 3 111 [] 2 [] []] []⟩]
def kR36 : AV := .tup [(.nil), (.int .i64 8)]
theorem parse36 : parse (headsS ++ tx36) = .ok ⟨hdD, kB36⟩ := by kernel_rfl
theorem group36 : Ans ctx 16 [.nil, encR 4 true (encDs hdD), encR 8 true (encBs kB36)] kR36 := ⟨200, fun N hN σ => by obtain ⟨n, rfl⟩ : ∃ n, N = n + 200 := ⟨N - 200, by omega⟩; kernel_rfl⟩
theorem one36 : Ans ctx 10 [.str tx36] (.str []) := one_bad tx36 (by decide) parse36 group36
end Go.Am.Try
