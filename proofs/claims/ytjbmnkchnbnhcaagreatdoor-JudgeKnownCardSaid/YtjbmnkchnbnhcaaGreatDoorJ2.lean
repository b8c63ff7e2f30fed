/- Layer 22: JudgeKnown. -/
import Derived.Test.YtjbmnkchnbnhcaaGreatDoorJ1
import Derived.KernelRfl
set_option linter.unusedVariables false
set_option maxRecDepth 100000
set_option linter.unusedSimpArgs false
namespace Go.Am.Tryz
open Go Go.Am.Ps
theorem var0 : Ans ctx 16 [.int .i64 0] (.agg [.int .i64 1, .int .i64 0, .str [], .nil]) := ⟨300, fun N hN σ => by obtain ⟨n, rfl⟩ : ∃ n, N = n + 300 := ⟨N - 300, by omega⟩; kernel_rfl⟩
def jtL : List Str := [tx0, tx1, tx2, tx3, tx4, tx5]
def jgL : List AV := [.agg [.int .i64 2, .int .i64 0, .str [45, 62], .sl 4 [.agg [.int .i64 2, .int .i64 0, .str [66, 111, 111, 108], .nil], .agg [.int .i64 2, .int .i64 0, .str [66, 111, 111, 108], .nil]]], .agg [.int .i64 2, .int .i64 0, .str [44], .sl 4 [.agg [.int .i64 2, .int .i64 0, .str [73, 110, 116], .nil], .agg [.int .i64 2, .int .i64 0, .str [66, 111, 111, 108], .nil]]], .agg [.int .i64 2, .int .i64 0, .str [76, 105, 115, 116], .sl 4 [.agg [.int .i64 2, .int .i64 0, .str [73, 110, 116], .nil]]], .agg [.int .i64 2, .int .i64 0, .str [45, 62], .sl 4 [.agg [.int .i64 2, .int .i64 0, .str [73, 110, 116], .nil], .agg [.int .i64 1, .int .i64 0, .str [], .nil]]], .agg [.int .i64 2, .int .i64 0, .str [45, 62], .sl 4 [.agg [.int .i64 2, .int .i64 0, .str [45, 62], .sl 4 [.agg [.int .i64 2, .int .i64 0, .str [73, 110, 116], .nil], .agg [.int .i64 2, .int .i64 0, .str [66, 111, 111, 108], .nil]]], .agg [.int .i64 2, .int .i64 0, .str [66, 111, 111, 108], .nil]]], .agg [.int .i64 2, .int .i64 0, .str [73, 110, 116], .nil]]
def jbL : List AV := [.agg [.int .i64 2, .int .i64 0, .str [45, 62], .sl 4 [.agg [.int .i64 2, .int .i64 0, .str [66, 111, 111, 108], .nil], .agg [.int .i64 2, .int .i64 0, .str [73, 110, 116], .nil]]], .agg [.int .i64 2, .int .i64 0, .str [44], .sl 4 [.agg [.int .i64 2, .int .i64 0, .str [73, 110, 116], .nil], .agg [.int .i64 2, .int .i64 0, .str [73, 110, 116], .nil]]], .agg [.int .i64 2, .int .i64 0, .str [79, 112, 116], .sl 4 [.agg [.int .i64 2, .int .i64 0, .str [73, 110, 116], .nil]]], .agg [.int .i64 2, .int .i64 0, .str [73, 110, 116], .nil], .agg [.int .i64 2, .int .i64 0, .str [45, 62], .sl 4 [.agg [.int .i64 2, .int .i64 0, .str [45, 62], .sl 4 [.agg [.int .i64 2, .int .i64 0, .str [66, 111, 111, 108], .nil], .agg [.int .i64 2, .int .i64 0, .str [66, 111, 111, 108], .nil]]], .agg [.int .i64 2, .int .i64 0, .str [66, 111, 111, 108], .nil]]], .agg [.int .i64 2, .int .i64 0, .str [66, 111, 111, 108], .nil]]
theorem awake_ans : Ans ctx 6 [] (.bool true) := by
  obtain ⟨k1, h1⟩ := binds_ans tx6 (Nat.le_of_ble_eq_true rfl) parse6
  obtain ⟨k2, h2⟩ := ofA1
  obtain ⟨k3, h3⟩ := ofA2
  obtain ⟨k4, h4⟩ := hasA1
  obtain ⟨k5, h5⟩ := hasA2
  obtain ⟨k6, h6⟩ := num_ans 0
  refine Ans.of (σ' := []) fn6_ (by simp) (by simp) ⟨k1 + k2 + k3 + k4 + k5 + k6, fun N hN => ?_⟩
  have h1 := h1 N (by omega)
  have h2 := h2 N (by omega)
  have h3 := h3 N (by omega)
  have h4 := h4 N (by omega)
  have h5 := h5 N (by omega)
  have h6 := h6 N (by omega)
  simp only [encPg, tx6] at h1
  generalize encR 4 true (encDs hdD) = DV at *
  generalize encR 8 true (encBs kB6) = BV at *
  simp -implicitDefEqProofs [i6, c6, h1, h2, h3, h4, h5, h6]
def JOk (t : Str) (g b : AV) : Prop := ∃ bs g0 g1 g2 g3 b0 b1 b2 b3 s0 s1 s2 s3 s4 u0 u1 u2 u3 u4, t.length ≤ 3000 ∧ parse (headsS ++ t) = .ok ⟨hdD, bs⟩ ∧ g = .agg [g0, g1, g2, g3] ∧ b = .agg [b0, b1, b2, b3] ∧
  AV.noRefs [g0, g1, g2, g3, b0, b1, b2, b3, s0, s1, s2, s3, s4, u0, u1, u2, u3, u4] = true ∧ Ans ctx 10 [.agg [g0, g1, g2, g3]] (.agg [s0, s1, s2, s3, s4]) ∧ Ans ctx 10 [.agg [b0, b1, b2, b3]] (.agg [u0, u1, u2, u3, u4]) ∧
  Ans ctx 13 [envX, encR 4 true (encDs hdD), encR 8 true (encBs bs), .int .i64 0, .agg [s0, s1, s2, s3, s4]] (.bool true) ∧ Ans ctx 13 [envX, encR 4 true (encDs hdD), encR 8 true (encBs bs), .int .i64 0, .agg [u0, u1, u2, u3, u4]] (.bool false) ∧
  Ans ctx 13 [envX, encR 4 true (encDs hdD), encR 8 true (encBs bs), .int .i64 0, .agg [.int .i64 5, g0, g1, g2, g3]] (.bool false)
theorem jok_all (k : Nat) (hk : k < 6) : ∃ g b, jgL[k]? = some g ∧ jbL[k]? = some b ∧ JOk (jtL[k]'hk) g b := by
  have h : k = 0 ∨ k = 1 ∨ k = 2 ∨ k = 3 ∨ k = 4 ∨ k = 5 := by omega
  rcases h with rfl | rfl | rfl | rfl | rfl | rfl
  · exact ⟨_, _, rfl, rfl, kB0, _, _, _, _, _, _, _, _, _, _, _, _, _, _, _, _, _, _, Nat.le_of_ble_eq_true rfl, parse0, rfl, rfl, by rfl, ofG0, ofB0, hasG0, hasB0, hasF0⟩
  · exact ⟨_, _, rfl, rfl, kB1, _, _, _, _, _, _, _, _, _, _, _, _, _, _, _, _, _, _, Nat.le_of_ble_eq_true rfl, parse1, rfl, rfl, by rfl, ofG1, ofB1, hasG1, hasB1, hasF1⟩
  · exact ⟨_, _, rfl, rfl, kB2, _, _, _, _, _, _, _, _, _, _, _, _, _, _, _, _, _, _, Nat.le_of_ble_eq_true rfl, parse2, rfl, rfl, by rfl, ofG2, ofB2, hasG2, hasB2, hasF2⟩
  · exact ⟨_, _, rfl, rfl, kB3, _, _, _, _, _, _, _, _, _, _, _, _, _, _, _, _, _, _, Nat.le_of_ble_eq_true rfl, parse3, rfl, rfl, by rfl, ofG3, ofB3, hasG3, hasB3, hasF3⟩
  · exact ⟨_, _, rfl, rfl, kB4, _, _, _, _, _, _, _, _, _, _, _, _, _, _, _, _, _, _, Nat.le_of_ble_eq_true rfl, parse4, rfl, rfl, by rfl, ofG4, ofB4, hasG4, hasB4, hasF4⟩
  · exact ⟨_, _, rfl, rfl, kB5, _, _, _, _, _, _, _, _, _, _, _, _, _, _, _, _, _, _, Nat.le_of_ble_eq_true rfl, parse5, rfl, rfl, by rfl, ofG5, ofB5, hasG5, hasB5, hasF5⟩
set_option maxHeartbeats 8000000 in
theorem judgeKnown_ans (which : UInt8) : Ans ctx 5 [.int .u8 which.toNat] (.bool true) := by
  obtain ⟨kw, hkw⟩ := awake_ans
  obtain ⟨kv, hkv⟩ := var0
  obtain ⟨ki, hki⟩ := ofIn
  have hr : which.toNat % 6 < 6 := Nat.mod_lt _ (by omega)
  have hrem : ((which.toNat : Int)).tmod 6 = ((which.toNat % 6 : Nat) : Int) := rfl
  have hwr := u8_wrap which
  generalize which.toNat % 6 = k at *
  have f1 := at_str (l := jtL) (k := k) hr
  obtain ⟨g, b, f2, f3, bs, g0, g1, g2, g3, b0, b1, b2, b3, s0, s1, s2, s3, s4, u0, u1, u2, u3, u4, q1, q2, rfl, rfl, q3, ⟨k1, h1⟩, ⟨k2, h2⟩, ⟨k3, h3⟩, ⟨k4, h4⟩, ⟨k5, h5⟩⟩ := jok_all k hr
  obtain ⟨k6, h6⟩ := binds_ans _ q1 q2
  generalize jtL[k] = t1 at *
  simp only [jtL, tx0, tx1, tx2, tx3, tx4, tx5, encSs, List.map_cons, List.map_nil] at f1
  simp only [jgL] at f2
  simp only [jbL] at f3
  obtain ⟨_, f2'⟩ := List.getElem?_eq_some_iff.1 f2
  obtain ⟨_, f3'⟩ := List.getElem?_eq_some_iff.1 f3
  have hi := idx_at hr
  refine Ans.of (σ' := []) fn5_ (by simp) (by simp) ⟨k1 + k2 + k3 + k4 + k5 + k6 + kw + kv + ki, fun N hN => ?_⟩
  have h1 := h1 N (by omega)
  have h2 := h2 N (by omega)
  have h3 := h3 N (by omega)
  have h4 := h4 N (by omega)
  have h5 := h5 N (by omega)
  have h6 := h6 N (by omega)
  have hkw := hkw N (by omega)
  have hkv := hkv N (by omega)
  have hki := hki N (by omega)
  simp only [encPg] at h6
  simp only [envX] at h3 h4 h5
  generalize encR 4 true (encDs hdD) = DV at *
  generalize encR 8 true (encBs bs) = BV at *
  simp only [AV.noRefs, Bool.and_true, Bool.and_eq_true] at q3
  simp -implicitDefEqProofs [i5, c5, hwr, hrem, f1, ↓f2, ↓f3, f2', f3', hi, h1, h2, h3, h4, h5, h6, hkw, hkv, hki, q3]
end Go.Am.Tryz
