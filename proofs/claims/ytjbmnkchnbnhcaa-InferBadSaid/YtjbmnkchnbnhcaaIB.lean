/- Layer 21: what has no type. -/
import Derived.Test.YtjbmnkchnbnhcaaI1
import Derived.KernelRfl
set_option linter.unusedVariables false
set_option maxRecDepth 100000
set_option linter.unusedSimpArgs false
namespace Go.Am.Try
open Go Go.Am.Ps
def tx13 : Str := [108, 101, 116, 32, 102, 32, 120, 32, 61, 32, 120, 32, 120, 59]
def kB13 : List Bi := [⟨[102], 105, .mk 6 105 [120] 0 [.mk 5 111 [] 0 [.mk 1 111 [120] 0 [] [], .mk 1 113 [120] 0 [] []] []] []⟩]
def kR13 : AV := .tup [(.nil), (.int .i64 8)]
theorem parse13 : parse (headsS ++ tx13) = .ok ⟨hdD, kB13⟩ := by kernel_rfl
theorem group13 : Ans ctx 16 [.nil, encR 4 true (encDs hdD), encR 8 true (encBs kB13)] kR13 := ⟨200, fun N hN σ => by obtain ⟨n, rfl⟩ : ∃ n, N = n + 200 := ⟨N - 200, by omega⟩; kernel_rfl⟩
theorem one13 : Ans ctx 10 [.str tx13] (.str []) := one_bad tx13 (by decide) parse13 group13
def tx14 : Str := [108, 101, 116, 32, 102, 32, 61, 32, 116, 114, 117, 101, 32, 49, 59]
def kB14 : List Bi := [⟨[102], 105, .mk 5 109 [] 0 [.mk 4 109 [] 1 [] [], .mk 3 114 [] 1 [] []] []⟩]
def kR14 : AV := .tup [(.nil), (.int .i64 8)]
theorem parse14 : parse (headsS ++ tx14) = .ok ⟨hdD, kB14⟩ := by kernel_rfl
theorem group14 : Ans ctx 16 [.nil, encR 4 true (encDs hdD), encR 8 true (encBs kB14)] kR14 := ⟨200, fun N hN σ => by obtain ⟨n, rfl⟩ : ∃ n, N = n + 200 := ⟨N - 200, by omega⟩; kernel_rfl⟩
theorem one14 : Ans ctx 10 [.str tx14] (.str []) := one_bad tx14 (by decide) parse14 group14
def tx15 : Str := [108, 101, 116, 32, 102, 32, 61, 32, 105, 102, 32, 49, 32, 116, 104, 101, 110, 32, 50, 32, 101, 108, 115, 101, 32, 51, 59]
def kB15 : List Bi := [⟨[102], 105, .mk 9 109 [] 0 [.mk 3 112 [] 1 [] [], .mk 3 119 [] 2 [] [], .mk 3 126 [] 3 [] []] []⟩]
def kR15 : AV := .tup [(.nil), (.int .i64 8)]
theorem parse15 : parse (headsS ++ tx15) = .ok ⟨hdD, kB15⟩ := by kernel_rfl
theorem group15 : Ans ctx 16 [.nil, encR 4 true (encDs hdD), encR 8 true (encBs kB15)] kR15 := ⟨200, fun N hN σ => by obtain ⟨n, rfl⟩ : ∃ n, N = n + 200 := ⟨N - 200, by omega⟩; kernel_rfl⟩
theorem one15 : Ans ctx 10 [.str tx15] (.str []) := one_bad tx15 (by decide) parse15 group15
def tx16 : Str := [108, 101, 116, 32, 102, 32, 61, 32, 105, 102, 32, 116, 114, 117, 101, 32, 116, 104, 101, 110, 32, 49, 32, 101, 108, 115, 101, 32, 116, 114, 117, 101, 59]
def kB16 : List Bi := [⟨[102], 105, .mk 9 109 [] 0 [.mk 4 112 [] 1 [] [], .mk 3 122 [] 1 [] [], .mk 4 129 [] 1 [] []] []⟩]
def kR16 : AV := .tup [(.nil), (.int .i64 8)]
theorem parse16 : parse (headsS ++ tx16) = .ok ⟨hdD, kB16⟩ := by kernel_rfl
theorem group16 : Ans ctx 16 [.nil, encR 4 true (encDs hdD), encR 8 true (encBs kB16)] kR16 := ⟨200, fun N hN σ => by obtain ⟨n, rfl⟩ : ∃ n, N = n + 200 := ⟨N - 200, by omega⟩; kernel_rfl⟩
theorem one16 : Ans ctx 10 [.str tx16] (.str []) := one_bad tx16 (by decide) parse16 group16
def tx17 : Str := [108, 101, 116, 32, 102, 32, 103, 32, 61, 32, 40, 103, 32, 49, 44, 32, 103, 32, 116, 114, 117, 101, 41, 59]
def kB17 : List Bi := [⟨[102], 105, .mk 6 105 [103] 0 [.mk 8 111 [] 0 [.mk 5 112 [] 0 [.mk 1 112 [103] 0 [] [], .mk 3 114 [] 1 [] []] [], .mk 5 117 [] 0 [.mk 1 117 [103] 0 [] [], .mk 4 119 [] 1 [] []] []] []] []⟩]
def kR17 : AV := .tup [(.nil), (.int .i64 8)]
theorem parse17 : parse (headsS ++ tx17) = .ok ⟨hdD, kB17⟩ := by kernel_rfl
theorem group17 : Ans ctx 16 [.nil, encR 4 true (encDs hdD), encR 8 true (encBs kB17)] kR17 := ⟨200, fun N hN σ => by obtain ⟨n, rfl⟩ : ∃ n, N = n + 200 := ⟨N - 200, by omega⟩; kernel_rfl⟩
theorem one17 : Ans ctx 10 [.str tx17] (.str []) := one_bad tx17 (by decide) parse17 group17
def tx18 : Str := [108, 101, 116, 32, 102, 32, 61, 32, 99, 97, 115, 101, 32, 78, 105, 108, 32, 111, 102, 32, 123, 78, 111, 110, 101, 32, 45, 62, 32, 49, 125, 59]
def kB18 : List Bi := [⟨[102], 105, .mk 10 109 [] 0 [.mk 2 114 [78, 105, 108] 0 [] []] [.mk 122 [78, 111, 110, 101] [] (.mk 3 130 [] 1 [] [])]⟩]
def kR18 : AV := .tup [(.nil), (.int .i64 8)]
theorem parse18 : parse (headsS ++ tx18) = .ok ⟨hdD, kB18⟩ := by kernel_rfl
theorem group18 : Ans ctx 16 [.nil, encR 4 true (encDs hdD), encR 8 true (encBs kB18)] kR18 := ⟨200, fun N hN σ => by obtain ⟨n, rfl⟩ : ∃ n, N = n + 200 := ⟨N - 200, by omega⟩; kernel_rfl⟩
theorem one18 : Ans ctx 10 [.str tx18] (.str []) := one_bad tx18 (by decide) parse18 group18
def tx19 : Str := [108, 101, 116, 32, 102, 32, 61, 32, 99, 97, 115, 101, 32, 78, 105, 108, 32, 111, 102, 32, 123, 78, 105, 108, 32, 45, 62, 32, 49, 59, 32, 67, 111, 110, 115, 32, 97, 32, 98, 32, 45, 62, 32, 98, 125, 59]
def kB19 : List Bi := [⟨[102], 105, .mk 10 109 [] 0 [.mk 2 114 [78, 105, 108] 0 [] []] [.mk 122 [78, 105, 108] [] (.mk 3 129 [] 1 [] []), .mk 132 [67, 111, 110, 115] [[97], [98]] (.mk 1 144 [98] 0 [] [])]⟩]
def kR19 : AV := .tup [(.nil), (.int .i64 8)]
theorem parse19 : parse (headsS ++ tx19) = .ok ⟨hdD, kB19⟩ := by kernel_rfl
theorem group19 : Ans ctx 16 [.nil, encR 4 true (encDs hdD), encR 8 true (encBs kB19)] kR19 := ⟨200, fun N hN σ => by obtain ⟨n, rfl⟩ : ∃ n, N = n + 200 := ⟨N - 200, by omega⟩; kernel_rfl⟩
theorem one19 : Ans ctx 10 [.str tx19] (.str []) := one_bad tx19 (by decide) parse19 group19
def tx20 : Str := [108, 101, 116, 32, 102, 32, 61, 32, 67, 111, 110, 115, 32, 49, 32, 40, 67, 111, 110, 115, 32, 116, 114, 117, 101, 32, 78, 105, 108, 41, 59]
def kB20 : List Bi := [⟨[102], 105, .mk 5 109 [] 0 [.mk 5 109 [] 0 [.mk 2 109 [67, 111, 110, 115] 0 [] [], .mk 3 114 [] 1 [] []] [], .mk 5 117 [] 0 [.mk 5 117 [] 0 [.mk 2 117 [67, 111, 110, 115] 0 [] [], .mk 4 122 [] 1 [] []] [], .mk 2 127 [78, 105, 108] 0 [] []] []] []⟩]
def kR20 : AV := .tup [(.nil), (.int .i64 8)]
theorem parse20 : parse (headsS ++ tx20) = .ok ⟨hdD, kB20⟩ := by kernel_rfl
theorem group20 : Ans ctx 16 [.nil, encR 4 true (encDs hdD), encR 8 true (encBs kB20)] kR20 := ⟨200, fun N hN σ => by obtain ⟨n, rfl⟩ : ∃ n, N = n + 200 := ⟨N - 200, by omega⟩; kernel_rfl⟩
theorem one20 : Ans ctx 10 [.str tx20] (.str []) := one_bad tx20 (by decide) parse20 group20
def tx21 : Str := [108, 101, 116, 32, 102, 32, 61, 32, 92, 103, 32, 45, 62, 32, 108, 101, 116, 32, 104, 32, 61, 32, 103, 32, 105, 110, 32, 40, 104, 32, 49, 44, 32, 104, 32, 116, 114, 117, 101, 41, 59]
def kB21 : List Bi := [⟨[102], 105, .mk 6 109 [103] 0 [.mk 7 115 [104] 0 [.mk 1 123 [103] 0 [] [], .mk 8 128 [] 0 [.mk 5 129 [] 0 [.mk 1 129 [104] 0 [] [], .mk 3 131 [] 1 [] []] [], .mk 5 134 [] 0 [.mk 1 134 [104] 0 [] [], .mk 4 136 [] 1 [] []] []] []] []] []⟩]
def kR21 : AV := .tup [(.nil), (.int .i64 8)]
theorem parse21 : parse (headsS ++ tx21) = .ok ⟨hdD, kB21⟩ := by kernel_rfl
theorem group21 : Ans ctx 16 [.nil, encR 4 true (encDs hdD), encR 8 true (encBs kB21)] kR21 := ⟨200, fun N hN σ => by obtain ⟨n, rfl⟩ : ∃ n, N = n + 200 := ⟨N - 200, by omega⟩; kernel_rfl⟩
theorem one21 : Ans ctx 10 [.str tx21] (.str []) := one_bad tx21 (by decide) parse21 group21
def tx22 : Str := [108, 101, 116, 32, 102, 32, 120, 32, 61, 32, 102, 59]
def kB22 : List Bi := [⟨[102], 105, .mk 6 105 [120] 0 [.mk 1 111 [102] 0 [] []] []⟩]
def kR22 : AV := .tup [(.nil), (.int .i64 8)]
theorem parse22 : parse (headsS ++ tx22) = .ok ⟨hdD, kB22⟩ := by kernel_rfl
theorem group22 : Ans ctx 16 [.nil, encR 4 true (encDs hdD), encR 8 true (encBs kB22)] kR22 := ⟨200, fun N hN σ => by obtain ⟨n, rfl⟩ : ∃ n, N = n + 200 := ⟨N - 200, by omega⟩; kernel_rfl⟩
theorem one22 : Ans ctx 10 [.str tx22] (.str []) := one_bad tx22 (by decide) parse22 group22
def tx23 : Str := [108, 101, 116, 32, 102, 32, 61, 32, 40, 49, 44, 32, 50, 41, 32, 51, 59]
def kB23 : List Bi := [⟨[102], 105, .mk 5 109 [] 0 [.mk 8 109 [] 0 [.mk 3 110 [] 1 [] [], .mk 3 113 [] 2 [] []] [], .mk 3 116 [] 3 [] []] []⟩]
def kR23 : AV := .tup [(.nil), (.int .i64 8)]
theorem parse23 : parse (headsS ++ tx23) = .ok ⟨hdD, kB23⟩ := by kernel_rfl
theorem group23 : Ans ctx 16 [.nil, encR 4 true (encDs hdD), encR 8 true (encBs kB23)] kR23 := ⟨200, fun N hN σ => by obtain ⟨n, rfl⟩ : ∃ n, N = n + 200 := ⟨N - 200, by omega⟩; kernel_rfl⟩
theorem one23 : Ans ctx 10 [.str tx23] (.str []) := one_bad tx23 (by decide) parse23 group23
def tx24 : Str := [108, 101, 116, 32, 102, 32, 61, 32, 79, 100, 100, 32, 49, 59]
def kB24 : List Bi := [⟨[102], 105, .mk 5 109 [] 0 [.mk 2 109 [79, 100, 100] 0 [] [], .mk 3 113 [] 1 [] []] []⟩]
def kR24 : AV := .tup [(.nil), (.int .i64 8)]
theorem parse24 : parse (headsS ++ tx24) = .ok ⟨hdD, kB24⟩ := by kernel_rfl
theorem group24 : Ans ctx 16 [.nil, encR 4 true (encDs hdD), encR 8 true (encBs kB24)] kR24 := ⟨200, fun N hN σ => by obtain ⟨n, rfl⟩ : ∃ n, N = n + 200 := ⟨N - 200, by omega⟩; kernel_rfl⟩
theorem one24 : Ans ctx 10 [.str tx24] (.str []) := one_bad tx24 (by decide) parse24 group24
end Go.Am.Try
