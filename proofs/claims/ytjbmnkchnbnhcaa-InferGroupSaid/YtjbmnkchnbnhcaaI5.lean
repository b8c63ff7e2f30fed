/- Layer 21: InferGroup. -/
import Derived.Test.YtjbmnkchnbnhcaaIG
import Derived.Test.YtjbmnkchnbnhcaaI2
set_option linter.unusedVariables false
set_option maxRecDepth 100000
set_option linter.unusedSimpArgs false
namespace Go.Am.Try
open Go Go.Am.Ps
def igL : List (Str × Str × Str) := [(tx25, [73, 110, 116, 32, 45, 62, 32, 73, 110, 116], [40, 73, 110, 116, 44, 32, 73, 110, 116, 41]), (tx26, [97, 32, 45, 62, 32, 98], [97, 32, 45, 62, 32, 98]), (tx27, [97, 32, 45, 62, 32, 98], [97, 32, 45, 62, 32, 73, 110, 116, 32, 45, 62, 32, 98]), (tx28, [76, 105, 115, 116, 32, 73, 110, 116], [76, 105, 115, 116, 32, 73, 110, 116])]
def encP3 (l : List (Str × Str × Str)) : List AV := l.map fun q => .agg [.str q.1, .str q.2.1, .str q.2.2]
theorem at_p3 {l : List (Str × Str × Str)} {k : Nat} (h : k < l.length) : (encP3 l)[k]? = some (.agg [.str l[k].1, .str l[k].2.1, .str l[k].2.2]) := by
  unfold encP3
  rw [List.getElem?_map, List.getElem?_eq_getElem h]; rfl
def GOk (t w1 w2 : Str) : Prop := ∃ bs a0 a1 a2 a3 a4 b0 b1 b2 b3 b4, t.length ≤ 3000 ∧ parse (headsS ++ t) = .ok ⟨hdD, bs⟩ ∧ Ans ctx 16 [.nil, encR 4 true (encDs hdD), encR 8 true (encBs bs)] (.tup [.sl 5 [.agg [a0, a1, a2, a3, a4], .agg [b0, b1, b2, b3, b4]], .int .i64 0]) ∧
  AV.noRefs [.agg [a0, a1, a2, a3, a4], .agg [b0, b1, b2, b3, b4]] = true ∧ Ans ctx 18 [.agg [a1, a2, a3, a4]] (.str w1) ∧ Ans ctx 18 [.agg [b1, b2, b3, b4]] (.str w2)
theorem gok_all (k : Nat) (hk : k < igL.length) : GOk igL[k].1 igL[k].2.1 igL[k].2.2 := by
  have h : k = 0 ∨ k = 1 ∨ k = 2 ∨ k = 3 := by simp [igL] at hk; omega
  rcases h with rfl | rfl | rfl | rfl
  · exact ⟨kB25, _, _, _, _, _, _, _, _, _, _, Nat.le_of_ble_eq_true rfl, parse25, group25, by decide, text25_0, text25_1⟩
  · exact ⟨kB26, _, _, _, _, _, _, _, _, _, _, Nat.le_of_ble_eq_true rfl, parse26, group26, by decide, text26_0, text26_1⟩
  · exact ⟨kB27, _, _, _, _, _, _, _, _, _, _, Nat.le_of_ble_eq_true rfl, parse27, group27, by decide, text27_0, text27_1⟩
  · exact ⟨kB28, _, _, _, _, _, _, _, _, _, _, Nat.le_of_ble_eq_true rfl, parse28, group28, by decide, text28_0, text28_1⟩
set_option maxHeartbeats 4000000 in
theorem inferGroup_ans (which : UInt8) : Ans ctx 6 [.int .u8 which.toNat] (.bool true) := by
  obtain ⟨kw, hkw⟩ := awake_ans
  have hr : which.toNat % 4 < 4 := Nat.mod_lt _ (by omega)
  have hrem : ((which.toNat : Int)).tmod 4 = ((which.toNat % 4 : Nat) : Int) := rfl
  have hwr := u8_wrap which
  generalize which.toNat % 4 = k at *
  have g1 := at_p3 (l := igL) (k := k) hr
  obtain ⟨bs, a0, a1, a2, a3, a4, b0, b1, b2, b3, b4, q1, q2, ⟨k2, hk2⟩, q3, ⟨k3, hk3⟩, ⟨k4, hk4⟩⟩ := gok_all k hr
  obtain ⟨k1, hk1⟩ := binds_ans _ q1 q2
  obtain ⟨k5, hk5⟩ := binds_ans tx29 (by decide) parse29
  obtain ⟨k6, hk6⟩ := group29
  obtain ⟨k7, hk7⟩ := num_ans 0
  obtain ⟨k8, hk8⟩ := num_ans 8
  generalize igL[k].1 = t1 at *
  generalize igL[k].2.1 = t2 at *
  generalize igL[k].2.2 = t3 at *
  simp only [igL, tx25, tx26, tx27, tx28, encP3, List.map_cons, List.map_nil] at g1
  have hi := idx_at hr
  refine Ans.of (σ' := []) fn6_ (by simp) (by simp) ⟨k1 + k2 + k3 + k4 + k5 + k6 + k7 + k8 + kw, fun N hN => ?_⟩
  have hk1 := hk1 N (by omega)
  have hk2 := hk2 N (by omega)
  have hk3 := hk3 N (by omega)
  have hk4 := hk4 N (by omega)
  have hk5 := hk5 N (by omega)
  have hk6 := hk6 N (by omega)
  have hk7 := hk7 N (by omega)
  have hk8 := hk8 N (by omega)
  have hkw := hkw N (by omega)
  simp only [encPg] at hk1 hk5
  simp only [tx29] at hk5
  simp only [kR29] at hk6
  generalize encR 4 true (encDs hdD) = DV at *
  generalize encR 8 true (encBs bs) = BV at *
  generalize encR 8 true (encBs kB29) = CV at *
  simp only [AV.noRefs, AV.noRef, Bool.and_true, Bool.and_eq_true] at q3
  simp -implicitDefEqProofs [i6, c6, hwr, hrem, g1, hi, hk1, hk2, hk3, hk4, hk5, hk6, hk7, hk8, hkw, q3]
end Go.Am.Try
