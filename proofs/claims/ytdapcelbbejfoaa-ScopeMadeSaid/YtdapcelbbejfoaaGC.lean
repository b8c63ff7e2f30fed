/- E6h, G5, G6, as one -/
import Derived.Test.YtdapcelbbejfoaaEA
import Derived.Test.YtdapcelbbejfoaaP24
import Derived.Test.YtdapcelbbejfoaaGA
set_option linter.unusedVariables false
set_option maxRecDepth 100000
set_option linter.unusedSimpArgs false
namespace Go.Am.Try
open Go Go.Am.Ps
theorem heads_ans : Ans ctx 38 [] (.str headsS) := by
 refine Ans.of (σ' := []) fn38_ (by simp) (by simp) ⟨0, fun N hN => ?_⟩
 simp -implicitDefEqProofs [i38, c38, headsS]
def rowE (q : Bool × List UInt8) : AV := encR 1 q.1 (ofBytes q.2)
def nm27 : List Str := [[102], [103], [104, 32, 120], [105, 100, 32, 120], [107, 32, 120, 32, 121]]
def dt27 : List Str := [[100, 97, 116, 97, 32, 76, 105, 115, 116, 32, 97, 32, 61, 32, 78, 105, 108, 32, 124, 32, 67, 111, 110, 115, 32, 97, 32, 40, 76, 105, 115, 116, 32, 97, 41, 59, 10], [100, 97, 116, 97, 32, 79, 112, 116, 32, 97, 32, 61, 32, 78, 111, 110, 101, 32, 124, 32, 83, 111, 109, 101, 32, 97, 59, 10], [100, 97, 116, 97, 32, 70, 32, 97, 32, 98, 32, 61, 32, 79, 100, 100, 32, 40, 97, 32, 45, 62, 32, 98, 41, 32, 40, 97, 44, 32, 73, 110, 116, 41, 32, 124, 32, 69, 118, 101, 110, 32, 66, 111, 111, 108, 59, 10]]
def WS : Nat := 2 ^ 40 + 200
theorem ws_eq : WS = 2 ^ 40 + 200 := rfl
theorem ws_le {i : Nat} (h : i ≤ 8) : WS * i ≤ 2 ^ 44 := Nat.le_trans (Nat.mul_le_mul_left WS h) (by decide)
theorem ws_succ (i : Nat) : WS * (i + 1) = WS * i + WS := by rw [Nat.mul_add, Nat.mul_one]
theorem mm40 (n : Nat) : ∃ m : Nat, 0 < m ∧ m ≤ n + 1 ∧ m ≤ 40 ∧ mmA .lss (.int .i64 ((n : Int) + 1)) (.int .i64 40) = some (.int .i64 (m : Int)) := by
 by_cases h : (n : Int) + 1 < 40
 ·exact ⟨n + 1, by omega, by omega, by omega, by simp [mmA]; omega⟩
 ·exact ⟨40, by omega, by omega, by omega, by simp [mmA]; omega⟩
theorem bounds_to {k len : Nat} (h : k ≤ len) : bounds none (some (k : Int)) len = some (0, k) := by
 unfold bounds
 simp only [Option.getD_some, Option.getD_none]
 rw [if_pos (by omega)]
 simp
set_option maxHeartbeats 2000000 in
theorem lp27 (RL : List AV) (nl : Bool) : ∀ (r : List (Bool × List UInt8)) (i : Nat) (S : Str), Tail RL i (r.map rowE) → i ≤ 8 → S.length ≤ WS * i →
  ∃ fr' S', Lp ctx [] [] [0, 3, 4] b27_0 ⟨[(0, .v (encR 1 nl RL)), (3, .v (.str S)), (4, .v (.int .i64 i))], false⟩ [] (.ex 0) fr' [] ∧ fr'.lk = false ∧ S'.length ≤ 2 ^ 44 ∧ getS fr'.sl 3 = .v (.str S') ∧ getS fr'.sl 2 = .u ∧ getS fr'.sl 58 = .u
 | [], i, S, h, hi, hS => by
  have hwi := ws_le hi
  have h' := h.nil
  refine ⟨?_, S, Lp.exit ⟨0, fun N _ => ?_⟩ (by simp), ?_⟩
  rotate_left
  ·simp -implicitDefEqProofs [b27_0, h']
   rfl
  ·exact ⟨by simp, by omega, by simp, by simp, by simp⟩
 | q :: r, i, S, h, hi, hS => by
  have hwi := ws_le hi
  have hlen := h.len
  simp only [List.map_cons] at h
  obtain ⟨g1, g2, g3, g4, g5⟩ := h.cons
  simp at hlen
  have hw := wrap_succ (n := i) (by unfold big; omega)
  have g6 := g5 1 nl
  rw [g6]
  by_cases hlt : (i : Int) < 8
  rotate_left
  ·refine ⟨?_, S, Lp.exit ⟨0, fun N _ => ?_⟩ (by simp), ?_⟩
   rotate_left
   ·simp -implicitDefEqProofs [b27_0, g1, g2, g3, hlt]
    rfl
   ·exact ⟨by simp, by omega, by simp, by simp, by simp⟩
  have hr5 : i % 5 < 5 := Nat.mod_lt _ (by omega)
  have hrem : (i : Int).tmod 5 = ((i % 5 : Nat) : Int) := rfl
  have gn := at_str (l := nm27) (k := i % 5) hr5
  have hnl : nm27[i % 5].length ≤ 10 := of_decide_eq_true (all_at (f := fun n => decide (n.length ≤ 10)) (l := nm27) (by decide) hr5)
  have hi5 : idxN ((i % 5 : Nat) : Int) 5 = some (i % 5) := idx_at hr5
  generalize nm27[i % 5] = nm at *
  generalize i % 5 = j at *
  simp only [nm27, encSs, List.map_cons, List.map_nil] at gn
  obtain ⟨S1, e1, v1, s1⟩ := cat13 S [108, 101, 116, 32] (by simp; omega)
  obtain ⟨S2, e2, v2, s2⟩ := cat13 S1 nm (by simp at v1; omega)
  obtain ⟨S3, e3, v3, s3⟩ := cat13 S2 [32, 61, 32] (by simp at v1 ⊢; omega)
  simp only [List.length_cons, List.length_nil] at v1 v3
  have ih : ∀ S5 : Str, S5.length ≤ S.length + 2 ^ 40 + 100 → ∃ fr' S', Lp ctx [] [] [0, 3, 4] b27_0 ⟨[(0, .v (encR 1 nl RL)), (3, .v (.str S5)), (4, .v (.int .i64 ((i + 1 : Nat) : Int)))], false⟩ [] (.ex 0) fr' [] ∧ fr'.lk = false ∧ S'.length ≤ 2 ^ 44 ∧ getS fr'.sl 3 = .v (.str S') ∧ getS fr'.sl 2 = .u ∧ getS fr'.sl 58 = .u := fun S5 h5 =>
   lp27 RL nl r (i + 1) S5 g4 (by omega) (by rw [ws_succ, ws_eq]; rw [ws_eq] at hS; generalize (2 ^ 40 + 200) * i = z at *; omega)
  obtain ⟨qn, ql⟩ := q
  simp only [rowE] at g1
  cases ql with
  | nil =>
   obtain ⟨⟨k, hk⟩, hE⟩ := expr19_ans [] qn (by simp)
   generalize exS 8 [] = E at *
   obtain ⟨S4, e4, v4, s4⟩ := cat13 S3 E (by omega)
   obtain ⟨S5, e5, v5, s5⟩ := cat13 S4 [59, 10] (by simp; omega)
   simp only [List.length_cons, List.length_nil] at v5
   obtain ⟨fr', S', l1, l2⟩ := ih S5 (by omega)
   rw [g6] at l1
   have hb0 : bounds none (some 0) 0 = some (0, 0) := bounds_to (k := 0) (Nat.le_refl _)
   have hm0 : mmA .lss (.int .i64 0) (.int .i64 40) = some (.int .i64 0) := by simp [mmA]
   refine ⟨fr', S', Lp.step ⟨k, fun N hN => ?_⟩ l1, l2⟩
   have hk := hk N hN
   cases qn with
   | true =>
    simp only [ofBytes_nil, encR_tnil] at g1 hk
    simp -implicitDefEqProofs [b27_0, d27_0, d27_1, g1, g2, g3, hw, hlt, hm0, hb0, hrem, hi5, gn, hk, s1, s2, s3, s4, s5, -strOp, -mmA]
   | false =>
    simp only [ofBytes_nil, encR_false] at g1 hk
    simp -implicitDefEqProofs [b27_0, d27_0, d27_1, g1, g2, g3, hw, hlt, hm0, hb0, hrem, hi5, gn, hk, s1, s2, s3, s4, s5, -strOp, -mmA]
  | cons x xs =>
   obtain ⟨m, m0, m1, m2, hmm⟩ := mm40 xs.length
   obtain ⟨m', rfl⟩ : ∃ m', m = m' + 1 := ⟨m - 1, by omega⟩
   have hb := bounds_to (k := m' + 1) (len := xs.length + 1) (by omega)
   obtain ⟨⟨k, hk⟩, hE⟩ := expr19_ans (x :: xs.take m') false (by simp; omega)
   generalize exS 8 (x :: xs.take m') = E at *
   obtain ⟨S4, e4, v4, s4⟩ := cat13 S3 E (by omega)
   obtain ⟨S5, e5, v5, s5⟩ := cat13 S4 [59, 10] (by simp; omega)
   simp only [List.length_cons, List.length_nil] at v5
   simp only [Int.natCast_add, Int.cast_ofNat_Int] at hb hmm
   have hidx : idxN 0 (xs.length + 1) = some 0 := idx_at (i := 0) (by omega)
   have hidy : idxN 0 ((xs.take m').length + 1) = some 0 := idx_at (i := 0) (by omega)
   have htl : (xs.take m').length = m' := by simp; omega
   rw [htl] at hidy
   have e1' : ofBytes (x :: xs) = .int .u8 x.toNat :: ofBytes xs := rfl
   have e2' : ofBytes (x :: xs.take m') = .int .u8 x.toNat :: (ofBytes xs).take m' := by simp [ofBytes]
   rw [encR_false, e2'] at hk
   simp only [e1', encR_cons] at g1
   have hk3 : x.toNat % 3 < 3 := Nat.mod_lt _ (by omega)
   have hrem3 : (x.toNat : Int).tmod 3 = ((x.toNat % 3 : Nat) : Int) := rfl
   have gd := at_str (l := dt27) (k := x.toNat % 3) hk3
   have hdl : dt27[x.toNat % 3].length ≤ 60 := of_decide_eq_true (all_at (f := fun n => decide (n.length ≤ 60)) (l := dt27) (by decide) hk3)
   have hi3 : idxN ((x.toNat % 3 : Nat) : Int) 3 = some (x.toNat % 3) := idx_at hk3
   generalize dt27[x.toNat % 3] = dt at *
   generalize x.toNat % 3 = j3 at *
   simp only [dt27, encSs, List.map_cons, List.map_nil] at gd
   obtain ⟨S6, e6, v6, s6⟩ := cat13 S dt (by omega)
   by_cases hx : (230 : Int) < (x.toNat : Int)
   ·obtain ⟨fr', S', l1, l2⟩ := ih S6 (by omega)
    rw [g6] at l1
    refine ⟨fr', S', Lp.step ⟨k, fun N hN => ?_⟩ l1, l2⟩
    clear hk
    simp -implicitDefEqProofs [b27_0, d27_0, d27_1, g1, g2, g3, hw, hlt, hmm, hb, hidx, hidy, hx, hrem3, hi3, gd, s6, -strOp, -mmA]
   ·obtain ⟨fr', S', l1, l2⟩ := ih S5 (by omega)
    rw [g6] at l1
    refine ⟨fr', S', Lp.step ⟨k, fun N hN => ?_⟩ l1, l2⟩
    have hk := hk N hN
    simp -implicitDefEqProofs [b27_0, d27_0, d27_1, g1, g2, g3, hw, hlt, hmm, hb, hidx, hidy, hx, hrem, hi5, gn, hk, s1, s2, s3, s4, s5, -strOp, -mmA]
theorem source_ans (l : List (Bool × List UInt8)) (nl : Bool) : ∃ S : Str, S.length ≤ 2 ^ 44 ∧ Ans ctx 27 [encR 1 nl (l.map rowE)] (.str S) := by
 obtain ⟨fr', S, l1, l2, l3, l4, l5, l6⟩ := lp27 (l.map rowE) nl l 0 [] (Tail.all _) (by omega) (by simp)
 obtain ⟨k, hk⟩ := l1.den
 have hnr : ∀ l : List (Bool × List UInt8), AV.noRefs (l.map rowE) = true := fun l => by
  induction l with
  | nil => rfl
  | cons q l ih => simp [AV.noRefs, rowE, ih]
 refine ⟨S, l3, Ans.of (σ' := []) fn27_ (by simp [AV.noRefs, hnr]) (by simp) ⟨k, fun N hN => ?_⟩⟩
 have hk := hk N hN
 simp only [Int.cast_ofNat_Int] at hk
 simp -implicitDefEqProofs [i27, c27, hk, l2, l4, l5, l6]
theorem both_check2 {s : Str} {p : Pg} (hp : parse s = .ok p) : Ans ctx 36 [.agg [encR 4 true (encDs p.ds), encR 8 true (encBs p.bs)]] (.tup [.int .i64 (scI (checkScope p)).1, .int .i64 (scI (checkScope p)).2]) ∧
  Ans ctx 37 [.agg [encR 4 true (encDs p.ds), encR 8 true (encBs p.bs)]] (.agg [.int .i64 (scI (checkScope p)).1, .int .i64 (scI (checkScope p)).2]) := by
 have hok := (parse_ans s).2 p hp
 obtain ⟨x1, x2, x3, x4⟩ := parse_okX hp
 exact ⟨scheck_ans p hok (parse_okB hp), rcheckScope_ans p hok x1 x2 (by omega) (fun b hb => by have := x4 b hb; omega)⟩
def md1 : Str := [108, 101, 116, 32, 120, 32, 61, 32, 49, 59, 32, 108, 101, 116, 32, 121, 32, 61, 32, 50, 59, 32, 108, 101, 116, 32, 97, 32, 61, 32, 51, 59]
def md2 : Str := [108, 101, 116, 32, 120, 32, 61, 32, 49, 59, 32, 108, 101, 116, 32, 121, 32, 61, 32, 50, 59, 32, 108, 101, 116, 32, 102, 32, 61, 32, 120, 59, 32, 108, 101, 116, 32, 103, 32, 61, 32, 121, 59, 32, 108, 101, 116, 32, 105, 100, 32, 61, 32, 102, 59]
set_option maxHeartbeats 2000000 in
theorem scopeMade_ans (l : List (Bool × List UInt8)) (how : UInt8) (nl : Bool) : Ans ctx 12 [encR 1 nl (l.map rowE), .int .u8 how.toNat] (.bool true) := by
 obtain ⟨S, hS, ⟨k0, hk0⟩⟩ := source_ans l nl
 obtain ⟨k2, hk2⟩ := awake13_ans
 obtain ⟨kh, hkh⟩ := heads_ans
 have hnr : ∀ l : List (Bool × List UInt8), AV.noRefs (l.map rowE) = true := fun l => by
  induction l with
  | nil => rfl
  | cons q l ih => simp [AV.noRefs, rowE, ih]
 have hn2 : AV.noRefs [encR 1 nl (l.map rowE), .int .u8 how.toNat] = true := by simp [AV.noRefs, AV.noRef, hnr]
 have hr : how.toNat % 4 < 4 := Nat.mod_lt _ (by omega)
 have hrem : ((how.toNat : Int)).tmod 4 = ((how.toNat % 4 : Nat) : Int) := rfl
 have hlen : headsS.length = 101 := by rfl
 have hmd1 : md1 = [108, 101, 116, 32, 120, 32, 61, 32, 49, 59, 32, 108, 101, 116, 32, 121, 32, 61, 32, 50, 59, 32, 108, 101, 116, 32, 97, 32, 61, 32, 51, 59] := rfl
 have hmd2 : md2 = [108, 101, 116, 32, 120, 32, 61, 32, 49, 59, 32, 108, 101, 116, 32, 121, 32, 61, 32, 50, 59, 32, 108, 101, 116, 32, 102, 32, 61, 32, 120, 59, 32, 108, 101, 116, 32, 103, 32, 61, 32, 121, 59, 32, 108, 101, 116, 32, 105, 100, 32, 61, 32, 102, 59] := rfl
 obtain ⟨A1, _, a1, t1⟩ := cat13 headsS S (by omega)
 obtain ⟨B0, _, b0, t2⟩ := cat13 headsS md1 (by rw [hmd1]; simp; omega)
 obtain ⟨B1, _, b1, t3⟩ := cat13 B0 S (by rw [hmd1] at b0; simp at b0; omega)
 obtain ⟨C0, _, c0, t4⟩ := cat13 headsS md2 (by rw [hmd2]; simp; omega)
 rw [hmd1] at t2
 rw [hmd2] at t4
 generalize headsS = HS at *
 generalize how.toNat % 4 = j at *
 -- what is parsed at the end
 have fin : ∀ T : Str, ∃ k : Nat, (∀ N, k ≤ N → ∀ σ, acall ctx N 18 [.str T] σ = some (encPd (parse T), σ)) ∧ (match parse T with
   | .bad e _ => ((e : Int) != 0) = true
   | .ok p => (∀ N, k ≤ N → ∀ σ, acall ctx N 36 [.agg [encR 4 true (encDs p.ds), encR 8 true (encBs p.bs)]] σ = some (.tup [.int .i64 (scI (checkScope p)).1, .int .i64 (scI (checkScope p)).2], σ)) ∧
     (∀ N, k ≤ N → ∀ σ, acall ctx N 37 [.agg [encR 4 true (encDs p.ds), encR 8 true (encBs p.bs)]] σ = some (.agg [.int .i64 (scI (checkScope p)).1, .int .i64 (scI (checkScope p)).2], σ)) ∧
     (∀ N, k ≤ N → ∀ σ, acall ctx N 30 [.int .i64 (scI (checkScope p)).1] σ = some (.int .i64 (scI (checkScope p)).1, σ))) := fun T => by
  obtain ⟨k1, hk1⟩ := (parse_ans T).1
  cases hp : parse T with
  | bad e a =>
   rw [hp] at hk1
   have he := parse_neq hp
   exact ⟨k1, hk1, by simp; omega⟩
  | ok p =>
   rw [hp] at hk1
   obtain ⟨⟨k3, hk3⟩, ⟨k4, hk4⟩⟩ := both_check2 hp
   obtain ⟨k6, hk6⟩ := num_ans (scI (checkScope p)).1
   exact ⟨k1 + k3 + k4 + k6, fun N hN => hk1 N (by omega), fun N hN => hk3 N (by omega), fun N hN => hk4 N (by omega), fun N hN => hk6 N (by omega)⟩
 have hj : j = 0 ∨ j = 1 ∨ j = 2 ∨ j = 3 := by omega
 rcases hj with rfl | rfl | rfl | rfl
 ·obtain ⟨k1, hk1, hres⟩ := fin A1
  cases hp : parse A1 with
  | bad e a =>
   rw [hp] at hk1 hres
   simp only at hres
   refine Ans.of (σ' := []) fn12_ hn2 (by simp) ⟨k0 + k1 + k2 + kh, fun N hN => ?_⟩
   have hk0 := hk0 N (by omega)
   have hk1 := hk1 N (by omega)
   have hk2 := hk2 N (by omega)
   have hkh := hkh N (by omega)
   simp only [encPd] at hk1
   simp -implicitDefEqProofs [i12, c12, hk0, hk1, hk2, hkh, hrem, t1, hres, -strOp, -bne_iff_ne]
  | ok p =>
   rw [hp] at hk1 hres
   obtain ⟨hk3, hk4, hk6⟩ := hres
   refine Ans.of (σ' := []) fn12_ hn2 (by simp) ⟨k0 + k1 + k2 + kh, fun N hN => ?_⟩
   have hk0 := hk0 N (by omega)
   have hk1 := hk1 N (by omega)
   have hk2 := hk2 N (by omega)
   have hkh := hkh N (by omega)
   have hk3 := hk3 N (by omega)
   have hk4 := hk4 N (by omega)
   have hk6 := hk6 N (by omega)
   simp only [encPd] at hk1
   simp -implicitDefEqProofs [i12, c12, d12_0, hk0, hk1, hk2, hkh, hk3, hk4, hk6, hrem, t1, -strOp]
 ·obtain ⟨k1, hk1, hres⟩ := fin B1
  cases hp : parse B1 with
  | bad e a =>
   rw [hp] at hk1 hres
   simp only at hres
   refine Ans.of (σ' := []) fn12_ hn2 (by simp) ⟨k0 + k1 + k2 + kh, fun N hN => ?_⟩
   have hk0 := hk0 N (by omega)
   have hk1 := hk1 N (by omega)
   have hk2 := hk2 N (by omega)
   have hkh := hkh N (by omega)
   simp only [encPd] at hk1
   simp -implicitDefEqProofs [i12, c12, hk0, hk1, hk2, hkh, hrem, t2, t3, hres, -strOp, -bne_iff_ne]
  | ok p =>
   rw [hp] at hk1 hres
   obtain ⟨hk3, hk4, hk6⟩ := hres
   refine Ans.of (σ' := []) fn12_ hn2 (by simp) ⟨k0 + k1 + k2 + kh, fun N hN => ?_⟩
   have hk0 := hk0 N (by omega)
   have hk1 := hk1 N (by omega)
   have hk2 := hk2 N (by omega)
   have hkh := hkh N (by omega)
   have hk3 := hk3 N (by omega)
   have hk4 := hk4 N (by omega)
   have hk6 := hk6 N (by omega)
   simp only [encPd] at hk1
   simp -implicitDefEqProofs [i12, c12, d12_0, hk0, hk1, hk2, hkh, hk3, hk4, hk6, hrem, t2, t3, -strOp]
 ·obtain ⟨k1, hk1, hres⟩ := fin C0
  cases hp : parse C0 with
  | bad e a =>
   rw [hp] at hk1 hres
   simp only at hres
   refine Ans.of (σ' := []) fn12_ hn2 (by simp) ⟨k0 + k1 + k2 + kh, fun N hN => ?_⟩
   have hk0 := hk0 N (by omega)
   have hk1 := hk1 N (by omega)
   have hk2 := hk2 N (by omega)
   have hkh := hkh N (by omega)
   simp only [encPd] at hk1
   simp -implicitDefEqProofs [i12, c12, hk0, hk1, hk2, hkh, hrem, t4, hres, -strOp, -bne_iff_ne]
  | ok p =>
   rw [hp] at hk1 hres
   obtain ⟨hk3, hk4, hk6⟩ := hres
   refine Ans.of (σ' := []) fn12_ hn2 (by simp) ⟨k0 + k1 + k2 + kh, fun N hN => ?_⟩
   have hk0 := hk0 N (by omega)
   have hk1 := hk1 N (by omega)
   have hk2 := hk2 N (by omega)
   have hkh := hkh N (by omega)
   have hk3 := hk3 N (by omega)
   have hk4 := hk4 N (by omega)
   have hk6 := hk6 N (by omega)
   simp only [encPd] at hk1
   simp -implicitDefEqProofs [i12, c12, d12_0, hk0, hk1, hk2, hkh, hk3, hk4, hk6, hrem, t4, -strOp]
 ·obtain ⟨k1, hk1, hres⟩ := fin S
  cases hp : parse S with
  | bad e a =>
   rw [hp] at hk1 hres
   simp only at hres
   refine Ans.of (σ' := []) fn12_ hn2 (by simp) ⟨k0 + k1 + k2 + kh, fun N hN => ?_⟩
   have hk0 := hk0 N (by omega)
   have hk1 := hk1 N (by omega)
   have hk2 := hk2 N (by omega)
   have hkh := hkh N (by omega)
   simp only [encPd] at hk1
   simp -implicitDefEqProofs [i12, c12, hk0, hk1, hk2, hkh, hrem, t1, hres, -strOp, -bne_iff_ne]
  | ok p =>
   rw [hp] at hk1 hres
   obtain ⟨hk3, hk4, hk6⟩ := hres
   refine Ans.of (σ' := []) fn12_ hn2 (by simp) ⟨k0 + k1 + k2 + kh, fun N hN => ?_⟩
   have hk0 := hk0 N (by omega)
   have hk1 := hk1 N (by omega)
   have hk2 := hk2 N (by omega)
   have hkh := hkh N (by omega)
   have hk3 := hk3 N (by omega)
   have hk4 := hk4 N (by omega)
   have hk6 := hk6 N (by omega)
   simp only [encPd] at hk1
   simp -implicitDefEqProofs [i12, c12, d12_0, hk0, hk1, hk2, hkh, hk3, hk4, hk6, hrem, t1, -strOp]
end Go.Am.Try
