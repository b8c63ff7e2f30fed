/- Layer 10: Source: some text that is not too long. -/
import Derived.Test.YtdapcelbbejfoaaP24
import Derived.Test.YtdapcelbbejfoaaE6s
set_option linter.unusedVariables false
set_option maxRecDepth 100000
set_option linter.unusedSimpArgs false
namespace Go.Am.Try
open Go Go.Am.Ps
def rowE (q : Bool × List UInt8) : AV := encR 1 q.1 (ofBytes q.2)
def nm27 : List Str := [[102], [103], [104, 32, 120], [105, 100, 32, 120], [107, 32, 120, 32, 121]]
def dt27 : List Str := [[100, 97, 116, 97, 32, 76, 105, 115, 116, 32, 97, 32, 61, 32, 78, 105, 108, 32, 124, 32, 67, 111, 110, 115, 32, 97, 32, 40, 76, 105, 115, 116, 32, 97, 41, 59, 10], [100, 97, 116, 97, 32, 79, 112, 116, 32, 97, 32, 61, 32, 78, 111, 110, 101, 32, 124, 32, 83, 111, 109, 101, 32, 97, 59, 10], [100, 97, 116, 97, 32, 70, 32, 97, 32, 98, 32, 61, 32, 79, 100, 100, 32, 40, 97, 32, 45, 62, 32, 98, 41, 32, 40, 97, 44, 32, 73, 110, 116, 41, 32, 124, 32, 69, 118, 101, 110, 32, 66, 111, 111, 108, 59, 10]]
def WS : Nat := 2 ^ 40 + 200
theorem ws_eq : WS = 2 ^ 40 + 200 := rfl
theorem ws_le {i : Nat} (h : i ≤ 8) : WS * i ≤ 2 ^ 44 := Nat.le_trans (Nat.mul_le_mul_left WS h) (by decide)
theorem ws_succ (i : Nat) : WS * (i + 1) = WS * i + WS := by rw [Nat.mul_add, Nat.mul_one]
theorem mm40 (n : Nat) : ∃ m : Nat, 0 < m ∧ m ≤ n + 1 ∧ m ≤ 40 ∧ mmA .lss (.int .i64 ((n : Int) + 1)) (.int .i64 40) = some (.int .i64 (m : Int)) := by
  by_cases h : (n : Int) + 1 < 40
  · exact ⟨n + 1, by omega, by omega, by omega, by simp [mmA]; omega⟩
  · exact ⟨40, by omega, by omega, by omega, by simp [mmA]; omega⟩
theorem bounds_to {k len : Nat} (h : k ≤ len) : bounds none (some (k : Int)) len = some (0, k) := by
  unfold bounds
  simp only [Option.getD_some, Option.getD_none]
  rw [if_pos (by omega)]
  simp
set_option maxHeartbeats 2000000 in
theorem lp27 (RL : List AV) (nl : Bool) : ∀ (r : List (Bool × List UInt8)) (i : Nat) (S : Str), Tail RL i (r.map rowE) → i ≤ 8 → S.length ≤ WS * i →
    ∃ fr' S', Lp ctx [] [] [0, 3, 4] b27_0 ⟨[(0, .v (encR 1 nl RL)), (3, .v (.str S)), (4, .v (.int .i64 i))], false⟩ [] (.ex 0) fr' [] ∧ fr'.lk = false ∧ S'.length ≤ 2 ^ 44 ∧ getS fr'.sl 3 = .v (.str S') ∧ getS fr'.sl 2 = .u ∧ getS fr'.sl 58 = .u
  | [], i, S, h, hi, hS => by
    have hwi := ws_le hi
    have h' := h.nil
    refine ⟨?_, S, Lp.exit ⟨0, fun N _ => ?_⟩ (by simp), ?_⟩
    rotate_left
    · simp -implicitDefEqProofs [b27_0, h']
      rfl
    · exact ⟨by simp, by omega, by simp, by simp, by simp⟩
  | q :: r, i, S, h, hi, hS => by
    have hwi := ws_le hi
    have hlen := h.len
    simp only [List.map_cons] at h
    obtain ⟨g1, g2, g3, g4, g5⟩ := h.cons
    simp at hlen
    have hw := wrap_succ (n := i) (by unfold big; omega)
    have g6 := g5 1 nl
    rw [g6]
    by_cases hlt : (i : Int) < 8
    rotate_left
    · refine ⟨?_, S, Lp.exit ⟨0, fun N _ => ?_⟩ (by simp), ?_⟩
      rotate_left
      · simp -implicitDefEqProofs [b27_0, g1, g2, g3, hlt]
        rfl
      · exact ⟨by simp, by omega, by simp, by simp, by simp⟩
    have hr5 : i % 5 < 5 := Nat.mod_lt _ (by omega)
    have hrem : (i : Int).tmod 5 = ((i % 5 : Nat) : Int) := rfl
    have gn := at_str (l := nm27) (k := i % 5) hr5
    have hnl : nm27[i % 5].length ≤ 10 := of_decide_eq_true (all_at (f := fun n => decide (n.length ≤ 10)) (l := nm27) (by decide) hr5)
    have hi5 : idxN ((i % 5 : Nat) : Int) 5 = some (i % 5) := idx_at hr5
    generalize nm27[i % 5] = nm at *
    generalize i % 5 = j at *
    simp only [nm27, encSs, List.map_cons, List.map_nil] at gn
    obtain ⟨S1, e1, v1, s1⟩ := cat13 S [108, 101, 116, 32] (by simp; omega)
    obtain ⟨S2, e2, v2, s2⟩ := cat13 S1 nm (by simp at v1; omega)
    obtain ⟨S3, e3, v3, s3⟩ := cat13 S2 [32, 61, 32] (by simp at v1 ⊢; omega)
    simp only [List.length_cons, List.length_nil] at v1 v3
    have ih : ∀ S5 : Str, S5.length ≤ S.length + 2 ^ 40 + 100 → ∃ fr' S', Lp ctx [] [] [0, 3, 4] b27_0 ⟨[(0, .v (encR 1 nl RL)), (3, .v (.str S5)), (4, .v (.int .i64 ((i + 1 : Nat) : Int)))], false⟩ [] (.ex 0) fr' [] ∧ fr'.lk = false ∧ S'.length ≤ 2 ^ 44 ∧ getS fr'.sl 3 = .v (.str S') ∧ getS fr'.sl 2 = .u ∧ getS fr'.sl 58 = .u := fun S5 h5 =>
      lp27 RL nl r (i + 1) S5 g4 (by omega) (by rw [ws_succ, ws_eq]; rw [ws_eq] at hS; generalize (2 ^ 40 + 200) * i = z at *; omega)
    obtain ⟨qn, ql⟩ := q
    simp only [rowE] at g1
    cases ql with
    | nil =>
      obtain ⟨⟨k, hk⟩, hE⟩ := expr19_ans [] qn (by simp)
      generalize exS 8 [] = E at *
      obtain ⟨S4, e4, v4, s4⟩ := cat13 S3 E (by omega)
      obtain ⟨S5, e5, v5, s5⟩ := cat13 S4 [59, 10] (by simp; omega)
      simp only [List.length_cons, List.length_nil] at v5
      obtain ⟨fr', S', l1, l2⟩ := ih S5 (by omega)
      rw [g6] at l1
      have hb0 : bounds none (some 0) 0 = some (0, 0) := bounds_to (k := 0) (Nat.le_refl _)
      have hm0 : mmA .lss (.int .i64 0) (.int .i64 40) = some (.int .i64 0) := by simp [mmA]
      refine ⟨fr', S', Lp.step ⟨k, fun N hN => ?_⟩ l1, l2⟩
      have hk := hk N hN
      cases qn with
      | true =>
        simp only [ofBytes_nil, encR_tnil] at g1 hk
        simp -implicitDefEqProofs [b27_0, d27_0, d27_1, g1, g2, g3, hw, hlt, hm0, hb0, hrem, hi5, gn, hk, s1, s2, s3, s4, s5, -strOp, -mmA]
      | false =>
        simp only [ofBytes_nil, encR_false] at g1 hk
        simp -implicitDefEqProofs [b27_0, d27_0, d27_1, g1, g2, g3, hw, hlt, hm0, hb0, hrem, hi5, gn, hk, s1, s2, s3, s4, s5, -strOp, -mmA]
    | cons x xs =>
      obtain ⟨m, m0, m1, m2, hmm⟩ := mm40 xs.length
      obtain ⟨m', rfl⟩ : ∃ m', m = m' + 1 := ⟨m - 1, by omega⟩
      have hb := bounds_to (k := m' + 1) (len := xs.length + 1) (by omega)
      obtain ⟨⟨k, hk⟩, hE⟩ := expr19_ans (x :: xs.take m') false (by simp; omega)
      generalize exS 8 (x :: xs.take m') = E at *
      obtain ⟨S4, e4, v4, s4⟩ := cat13 S3 E (by omega)
      obtain ⟨S5, e5, v5, s5⟩ := cat13 S4 [59, 10] (by simp; omega)
      simp only [List.length_cons, List.length_nil] at v5
      simp only [Int.natCast_add, Int.cast_ofNat_Int] at hb hmm
      have hidx : idxN 0 (xs.length + 1) = some 0 := idx_at (i := 0) (by omega)
      have hidy : idxN 0 ((xs.take m').length + 1) = some 0 := idx_at (i := 0) (by omega)
      have htl : (xs.take m').length = m' := by simp; omega
      rw [htl] at hidy
      have e1' : ofBytes (x :: xs) = .int .u8 x.toNat :: ofBytes xs := rfl
      have e2' : ofBytes (x :: xs.take m') = .int .u8 x.toNat :: (ofBytes xs).take m' := by simp [ofBytes]
      rw [encR_false, e2'] at hk
      simp only [e1', encR_cons] at g1
      have hk3 : x.toNat % 3 < 3 := Nat.mod_lt _ (by omega)
      have hrem3 : (x.toNat : Int).tmod 3 = ((x.toNat % 3 : Nat) : Int) := rfl
      have gd := at_str (l := dt27) (k := x.toNat % 3) hk3
      have hdl : dt27[x.toNat % 3].length ≤ 60 := of_decide_eq_true (all_at (f := fun n => decide (n.length ≤ 60)) (l := dt27) (by decide) hk3)
      have hi3 : idxN ((x.toNat % 3 : Nat) : Int) 3 = some (x.toNat % 3) := idx_at hk3
      generalize dt27[x.toNat % 3] = dt at *
      generalize x.toNat % 3 = j3 at *
      simp only [dt27, encSs, List.map_cons, List.map_nil] at gd
      obtain ⟨S6, e6, v6, s6⟩ := cat13 S dt (by omega)
      by_cases hx : (230 : Int) < (x.toNat : Int)
      · obtain ⟨fr', S', l1, l2⟩ := ih S6 (by omega)
        rw [g6] at l1
        refine ⟨fr', S', Lp.step ⟨k, fun N hN => ?_⟩ l1, l2⟩
        clear hk
        simp -implicitDefEqProofs [b27_0, d27_0, d27_1, g1, g2, g3, hw, hlt, hmm, hb, hidx, hidy, hx, hrem3, hi3, gd, s6, -strOp, -mmA]
      · obtain ⟨fr', S', l1, l2⟩ := ih S5 (by omega)
        rw [g6] at l1
        refine ⟨fr', S', Lp.step ⟨k, fun N hN => ?_⟩ l1, l2⟩
        have hk := hk N hN
        simp -implicitDefEqProofs [b27_0, d27_0, d27_1, g1, g2, g3, hw, hlt, hmm, hb, hidx, hidy, hx, hrem, hi5, gn, hk, s1, s2, s3, s4, s5, -strOp, -mmA]
theorem source_ans (l : List (Bool × List UInt8)) (nl : Bool) : ∃ S : Str, S.length ≤ 2 ^ 44 ∧ Ans ctx 27 [encR 1 nl (l.map rowE)] (.str S) := by
  obtain ⟨fr', S, l1, l2, l3, l4, l5, l6⟩ := lp27 (l.map rowE) nl l 0 [] (Tail.all _) (by omega) (by simp)
  obtain ⟨k, hk⟩ := l1.den
  have hnr : ∀ l : List (Bool × List UInt8), AV.noRefs (l.map rowE) = true := fun l => by
    induction l with
    | nil => rfl
    | cons q l ih => simp [AV.noRefs, rowE, ih]
  refine ⟨S, l3, Ans.of (σ' := []) fn27_ (by simp [AV.noRefs, hnr]) (by simp) ⟨k, fun N hN => ?_⟩⟩
  have hk := hk N hN
  simp only [Int.cast_ofNat_Int] at hk
  simp -implicitDefEqProofs [i27, c27, hk, l2, l4, l5, l6]
end Go.Am.Try
