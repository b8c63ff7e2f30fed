/- Layer 21: InferKnown. -/
import Derived.Test.YtjbmnkchnbnhcaaIK0
import Derived.Test.YtjbmnkchnbnhcaaIK1
import Derived.Test.YtjbmnkchnbnhcaaIK2
import Derived.Test.YtjbmnkchnbnhcaaI2
set_option linter.unusedVariables false
set_option maxRecDepth 100000
set_option linter.unusedSimpArgs false
namespace Go.Am.Try
open Go Go.Am.Ps
def ikL : List (Str × Str) := [(tx0, [97, 32, 45, 62, 32, 98, 32, 45, 62, 32, 97]), (tx1, [40, 97, 32, 45, 62, 32, 98, 32, 45, 62, 32, 99, 41, 32, 45, 62, 32, 40, 97, 32, 45, 62, 32, 98, 41, 32, 45, 62, 32, 97, 32, 45, 62, 32, 99]), (tx2, [40, 97, 32, 45, 62, 32, 97, 41, 32, 45, 62, 32, 97]), (tx3, [40, 73, 110, 116, 44, 32, 66, 111, 111, 108, 41]), (tx4, [40, 97, 32, 45, 62, 32, 98, 41, 32, 45, 62, 32, 76, 105, 115, 116, 32, 97, 32, 45, 62, 32, 76, 105, 115, 116, 32, 98]), (tx5, [40, 97, 32, 45, 62, 32, 98, 41, 32, 45, 62, 32, 40, 97, 44, 32, 73, 110, 116, 41, 32, 45, 62, 32, 70, 32, 97, 32, 98]), (tx6, [66, 111, 111, 108, 32, 45, 62, 32, 73, 110, 116]), (tx7, [97, 32, 45, 62, 32, 40, 97, 44, 32, 97, 41]), (tx8, [40, 73, 110, 116, 32, 45, 62, 32, 97, 41, 32, 45, 62, 32, 40, 97, 44, 32, 97, 41]), (tx9, [40, 97, 32, 45, 62, 32, 98, 41, 32, 45, 62, 32, 40, 99, 32, 45, 62, 32, 97, 41, 32, 45, 62, 32, 99, 32, 45, 62, 32, 98]), (tx10, [97, 32, 45, 62, 32, 98]), (tx11, [76, 105, 115, 116, 32, 97]), (tx12, [40, 73, 110, 116, 32, 45, 62, 32, 97, 41, 32, 45, 62, 32, 40, 97, 44, 32, 97, 41])]
def encP2 (l : List (Str × Str)) : List AV := l.map fun q => .agg [.str q.1, .str q.2]
theorem at_p2 {l : List (Str × Str)} {k : Nat} (h : k < l.length) : (encP2 l)[k]? = some (.agg [.str l[k].1, .str l[k].2]) := by
  unfold encP2
  rw [List.getElem?_map, List.getElem?_eq_getElem h]; rfl
theorem known_all (k : Nat) (hk : k < ikL.length) : Ans ctx 10 [.str ikL[k].1] (.str ikL[k].2) := by
  have h : k = 0 ∨ k = 1 ∨ k = 2 ∨ k = 3 ∨ k = 4 ∨ k = 5 ∨ k = 6 ∨ k = 7 ∨ k = 8 ∨ k = 9 ∨ k = 10 ∨ k = 11 ∨ k = 12 := by simp [ikL] at hk; omega
  rcases h with rfl | rfl | rfl | rfl | rfl | rfl | rfl | rfl | rfl | rfl | rfl | rfl | rfl
  · exact one0
  · exact one1
  · exact one2
  · exact one3
  · exact one4
  · exact one5
  · exact one6
  · exact one7
  · exact one8
  · exact one9
  · exact one10
  · exact one11
  · exact one12
set_option maxHeartbeats 4000000 in
theorem inferKnown_ans (which : UInt8) : Ans ctx 3 [.int .u8 which.toNat] (.bool true) := by
  obtain ⟨kw, hkw⟩ := awake_ans
  have hr : which.toNat % 13 < 13 := Nat.mod_lt _ (by omega)
  have hrem : ((which.toNat : Int)).tmod 13 = ((which.toNat % 13 : Nat) : Int) := rfl
  have hwr := u8_wrap which
  generalize which.toNat % 13 = k at *
  have g1 := at_p2 (l := ikL) (k := k) hr
  obtain ⟨k1, hk1⟩ := known_all k hr
  generalize ikL[k].1 = t1 at *
  generalize ikL[k].2 = t2 at *
  simp only [ikL, tx0, tx1, tx2, tx3, tx4, tx5, tx6, tx7, tx8, tx9, tx10, tx11, tx12, encP2, List.map_cons, List.map_nil] at g1
  have hi := idx_at hr
  refine Ans.of (σ' := []) fn3_ (by simp) (by simp) ⟨k1 + kw, fun N hN => ?_⟩
  have hk1 := hk1 N (by omega)
  have hkw := hkw N (by omega)
  simp -implicitDefEqProofs [i3, c3, hwr, hrem, g1, hi, hk1, hkw]
end Go.Am.Try
