/- Layer 21: InferBad. -/
import Derived.Test.YtjbmnkchnbnhcaaIB
import Derived.Test.YtjbmnkchnbnhcaaI2
set_option linter.unusedVariables false
set_option maxRecDepth 100000
set_option linter.unusedSimpArgs false
namespace Go.Am.Try
open Go Go.Am.Ps
def ibL : List Str := [tx13, tx14, tx15, tx16, tx17, tx18, tx19, tx20, tx21, tx22, tx23, tx24]
theorem bad_all (k : Nat) (hk : k < ibL.length) : Ans ctx 10 [.str ibL[k]] (.str []) := by
  have h : k = 0 ∨ k = 1 ∨ k = 2 ∨ k = 3 ∨ k = 4 ∨ k = 5 ∨ k = 6 ∨ k = 7 ∨ k = 8 ∨ k = 9 ∨ k = 10 ∨ k = 11 := by simp [ibL] at hk; omega
  rcases h with rfl | rfl | rfl | rfl | rfl | rfl | rfl | rfl | rfl | rfl | rfl | rfl
  · exact one13
  · exact one14
  · exact one15
  · exact one16
  · exact one17
  · exact one18
  · exact one19
  · exact one20
  · exact one21
  · exact one22
  · exact one23
  · exact one24
set_option maxHeartbeats 4000000 in
theorem inferBad_ans (which : UInt8) : Ans ctx 4 [.int .u8 which.toNat] (.bool true) := by
  obtain ⟨kw, hkw⟩ := awake_ans
  have hr : which.toNat % 12 < 12 := Nat.mod_lt _ (by omega)
  have hrem : ((which.toNat : Int)).tmod 12 = ((which.toNat % 12 : Nat) : Int) := rfl
  have hwr := u8_wrap which
  generalize which.toNat % 12 = k at *
  have g1 := at_str (l := ibL) (k := k) hr
  obtain ⟨k1, hk1⟩ := bad_all k hr
  have hl1 : ibL[k].length ≤ 1000 := of_decide_eq_true (all_at (f := fun n => decide (n.length ≤ 1000)) (l := ibL) (by decide) hr)
  generalize ibL[k] = t1 at *
  simp only [ibL, tx13, tx14, tx15, tx16, tx17, tx18, tx19, tx20, tx21, tx22, tx23, tx24, encSs, List.map_cons, List.map_nil] at g1
  have hi := idx_at hr
  refine Ans.of (σ' := []) fn4_ (by simp) (by simp) ⟨k1 + kw, fun N hN => ?_⟩
  have hk1 := hk1 N (by omega)
  have hkw := hkw N (by omega)
  simp -implicitDefEqProofs [i4, c4, hwr, hrem, g1, hi, hk1, hkw]
end Go.Am.Try
