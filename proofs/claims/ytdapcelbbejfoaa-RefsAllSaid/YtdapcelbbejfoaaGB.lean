/- G2, G3, as one -/
import Derived.Test.YtdapcelbbejfoaaE6s
set_option linter.unusedVariables false
set_option maxRecDepth 100000
set_option linter.unusedSimpArgs false
namespace Go.Am.Try
open Go Go.Am.Ps
def PartsOK (t : Ps.Ty) : Prop := ∀ d : Nat, d ≤ 81 → ∃ m : Nat, m ≤ 1000 * (82 - d) ∧ Ans ctx 53 [encY t, .int .i64 d] (.int .i64 m)
def ManyOK (e : Ex) : Prop := ∀ d : Nat, d ≤ 81 → ∃ m : Nat, m ≤ 1000 * (82 - d) ∧ Ans ctx 52 [encE e, .int .i64 d] (.int .i64 m)
theorem lp53 (d : Nat) (hd : d ≤ 80) (K : Nat) (M : Int) (S : Str) (L : List AV) (hL : L.length < big) : ∀ (r : List Ps.Ty) (i n : Nat), Tail L i (encYs r) → (∀ t ∈ r, PartsOK t) → n ≤ 1000 * (82 - d) →
    ∃ fr' m, Lp ctx [] [] [1, 2, 5, 6] b53_0 ⟨[(1, .v (.int .i64 d)), (2, .bx (.agg [.int .i64 K, .int .i64 M, .str S, encR 4 true L])), (5, .v (.int .i64 n)), (6, .v (.int .i64 i))], false⟩ [] (.ex 0) fr' [] ∧ fr'.lk = false ∧ m ≤ 1000 * (82 - d) ∧ getS fr'.sl 5 = .v (.int .i64 (m : Nat)) ∧ getS fr'.sl 4 = .u ∧ Hi2 41 43 fr'
  | [], i, n, h, _, hn => by
    have h' := h.nil
    refine ⟨?_, n, Lp.exit ⟨0, fun N _ => ?_⟩ (by simp), ?_⟩
    rotate_left
    · simp -implicitDefEqProofs [b53_0, h']
      rfl
    · refine ⟨by simp, hn, by simp, by simp, fun t h1 h2 => ?_⟩
      simp only [getS]
      repeat rw [if_neg (by omega)]
  | t :: r, i, n, h, hc, hn => by
    have hlen := h.len
    simp only [encYs_cons] at h
    obtain ⟨g1, g2, g3, g4, g5⟩ := h.cons
    simp at hlen
    have hw := wrap_succ (n := i) (by omega)
    have hwd := wrap_succ (n := d) (by unfold big; omega)
    have g6 := g5 4 true
    by_cases hlt : (n : Int) < 1000
    · obtain ⟨m0, hm0, ⟨k, hk⟩⟩ := hc t (by simp) (d + 1) (by omega)
      obtain ⟨fr', m, l1, l2, l3⟩ := lp53 d hd K M S L hL r (i + 1) (n + m0) g4 (fun x hx => hc x (by simp [hx])) (by omega)
      have hwn : IntKind.i64.wrap ((n : Int) + (m0 : Int)) = ((n + m0 : Nat) : Int) := by rw [wrap_i64 (by omega)]; omega
      rw [g6] at l1 ⊢
      refine ⟨fr', m, Lp.step ⟨k, fun N hN => ?_⟩ l1, l2, l3⟩
      have hk := hk N hN
      simp only [Int.natCast_add, Int.cast_ofNat_Int] at hk hwn
      simp -implicitDefEqProofs [b53_0, g1, g2, g3, hk, hw, hwd, hlt, hwn]
    · rw [g6]
      refine ⟨?_, n, Lp.exit ⟨0, fun N _ => ?_⟩ (by simp), ?_⟩
      rotate_left
      · simp -implicitDefEqProofs [b53_0, g1, g2, g3, hlt]
        rfl
      · refine ⟨by simp, hn, by simp, by simp, fun t h1 h2 => ?_⟩
        simp only [getS]
        repeat rw [if_neg (by omega)]
theorem parts_body (k : Nat) (n : Int) (s : Str) (ks : List Ps.Ty) (hk : ks.length < big) (h : ∀ t ∈ ks, PartsOK t) : PartsOK (.mk k n s ks) := by
  intro d hd
  rw [encY_mk]
  by_cases h1 : (80 : Int) < (d : Int)
  · refine ⟨1000, by omega, Ans.of (σ' := []) fn53_ (by simp) (by simp) ⟨0, fun N hN => ?_⟩⟩
    simp -implicitDefEqProofs [i53, c53, h1]
  by_cases h2 : (30 : Int) < (ks.length : Int)
  · refine ⟨1000, by omega, Ans.of (σ' := []) fn53_ (by simp) (by simp) ⟨0, fun N hN => ?_⟩⟩
    simp -implicitDefEqProofs [i53, c53, h1, h2]
  by_cases h3 : (60 : Int) < (s.length : Int)
  · refine ⟨1000, by omega, Ans.of (σ' := []) fn53_ (by simp) (by simp) ⟨0, fun N hN => ?_⟩⟩
    simp -implicitDefEqProofs [i53, c53, h1, h2, h3]
  obtain ⟨fr', m, l1, l2, l3, l4, l6, l5⟩ := lp53 d (by omega) k n s (encYs ks) (by simpa using hk) ks 0 1 (Tail.all _) h (by omega)
  obtain ⟨k1, hk1⟩ := l1.den
  unfold Hi2 at l5
  refine ⟨m, l3, Ans.of (σ' := []) fn53_ (by simp) (by simp) ⟨k1, fun N hN => ?_⟩⟩
  have hk1 := hk1 N hN
  simp only [Int.cast_ofNat_Int] at hk1
  simp -implicitDefEqProofs [i53, c53, h1, h2, h3, hk1, l2, l4, l5, l6]
mutual
theorem parts_ok : ∀ t : Ps.Ty, okT t → PartsOK t
  | .mk k n s ks, h => by
    unfold okT at h
    exact parts_body k n s ks (by have := h.1; unfold lim at this; unfold big; omega) (partss_ok ks h.2)
theorem partss_ok : ∀ l : List Ps.Ty, okTs l → ∀ t ∈ l, PartsOK t
  | [], _, t, ht => by cases ht
  | u :: us, h, t, ht => by
    unfold okTs at h
    rcases List.mem_cons.1 ht with e | ht
    · rw [e]; exact parts_ok u h.1
    · exact partss_ok us h.2 t ht
end
theorem lp52_0 (d : Nat) (hd : d ≤ 80) (K A : Nat) (S : Str) (N' : Nat) (L : List AV) (C5 : AV) (hL : L.length < big) : ∀ (r : List Ex) (i n : Nat), Tail L i (encEs r) → (∀ t ∈ r, ManyOK t) → n ≤ 1000 * (82 - d) →
    ∃ fr' m, Lp ctx [] [] [1, 2, 5, 6] b52_0 ⟨[(1, .v (.int .i64 d)), (2, .bx (.agg [.int .i64 K, .int .i64 A, .str S, .int .i64 N', encR 6 true L, C5])), (5, .v (.int .i64 n)), (6, .v (.int .i64 i))], false⟩ [] (.ex 0) fr' [] ∧ fr'.lk = false ∧ m ≤ 1000 * (82 - d) ∧ getS fr'.sl 5 = .v (.int .i64 (m : Nat)) ∧ getS fr'.sl 1 = .v (.int .i64 d) ∧ getS fr'.sl 2 = .bx (.agg [.int .i64 K, .int .i64 A, .str S, .int .i64 N', encR 6 true L, C5]) ∧ Hi2 48 80 fr' ∧ Hi2 7 28 fr'
  | [], i, n, h, _, hn => by
    have h' := h.nil
    refine ⟨?_, n, Lp.exit ⟨0, fun N _ => ?_⟩ (by simp), ?_⟩
    rotate_left
    · simp -implicitDefEqProofs [b52_0, h']
      rfl
    · refine ⟨by simp, hn, by simp, by simp, by simp, fun t h1 h2 => ?_, fun t h1 h2 => ?_⟩
      all_goals simp only [getS]
      all_goals repeat rw [if_neg (by omega)]
  | t :: r, i, n, h, hc, hn => by
    have hlen := h.len
    simp only [encEs_cons] at h
    obtain ⟨g1, g2, g3, g4, g5⟩ := h.cons
    simp at hlen
    have hw := wrap_succ (n := i) (by omega)
    have hwd := wrap_succ (n := d) (by unfold big; omega)
    have g6 := g5 6 true
    by_cases hlt : (n : Int) < 1000
    · obtain ⟨m0, hm0, ⟨k, hk⟩⟩ := hc t (by simp) (d + 1) (by omega)
      obtain ⟨fr', m, l1, l2, l3⟩ := lp52_0 d hd K A S N' L C5 hL r (i + 1) (n + m0) g4 (fun x hx => hc x (by simp [hx])) (by omega)
      have hwn : IntKind.i64.wrap ((n : Int) + (m0 : Int)) = ((n + m0 : Nat) : Int) := by rw [wrap_i64 (by omega)]; omega
      rw [g6] at l1 l3 ⊢
      refine ⟨fr', m, Lp.step ⟨k, fun N hN => ?_⟩ l1, l2, l3⟩
      have hk := hk N hN
      simp only [Int.natCast_add, Int.cast_ofNat_Int] at hk hwn
      simp -implicitDefEqProofs [b52_0, g1, g2, g3, hk, hw, hwd, hlt, hwn]
    · rw [g6]
      refine ⟨?_, n, Lp.exit ⟨0, fun N _ => ?_⟩ (by simp), ?_⟩
      rotate_left
      · simp -implicitDefEqProofs [b52_0, g1, g2, g3, hlt]
        rfl
      · refine ⟨by simp, hn, by simp, by simp, by simp, fun t h1 h2 => ?_, fun t h1 h2 => ?_⟩
        all_goals simp only [getS]
        all_goals repeat rw [if_neg (by omega)]
theorem lp52_1 (d : Nat) (hd : d ≤ 80) (K A : Nat) (S : Str) (N' : Nat) (C4 : AV) (L : List AV) (hL : L.length < big) : ∀ (r : List Al) (i n : Nat), Tail L i (encAs r) → (∀ t ∈ r, match t with | .mk _ _ _ b => ManyOK b) → n ≤ 1000 * (82 - d) →
    ∃ e fr', Lp ctx [] [] [1, 2, 5, 7] b52_1 ⟨[(1, .v (.int .i64 d)), (2, .bx (.agg [.int .i64 K, .int .i64 A, .str S, .int .i64 N', C4, encR 9 true L])), (5, .v (.int .i64 n)), (7, .v (.int .i64 i))], false⟩ [] e fr' [] ∧ fr'.lk = false ∧
      (e = .ret ∧ getS fr'.sl 4 = .v (.int .i64 1000) ∨ e = .ex 2 ∧ (∃ m, m ≤ 1000 * (82 - d) ∧ getS fr'.sl 5 = .v (.int .i64 (m : Nat))) ∧ getS fr'.sl 79 = .u ∧ getS fr'.sl 4 = .u)
  | [], i, n, h, _, hn => by
    have h' := h.nil
    refine ⟨.ex 2, ?_, Lp.exit ⟨0, fun N _ => ?_⟩ (by simp), ?_⟩
    rotate_left
    · simp -implicitDefEqProofs [b52_1, h']
      rfl
    · exact ⟨by simp, .inr ⟨rfl, ⟨n, hn, by simp⟩, by simp, by simp⟩⟩
  | t :: r, i, n, h, hc, hn => by
    have hlen := h.len
    simp only [encAs_cons] at h
    obtain ⟨g1, g2, g3, g4, g5⟩ := h.cons
    simp at hlen
    have hw := wrap_succ (n := i) (by omega)
    have hwd := wrap_succ (n := d) (by unfold big; omega)
    have g6 := g5 9 true
    have ht := hc t (by simp)
    obtain ⟨a, c, ns, b⟩ := t
    simp only at ht
    by_cases hlt : (n : Int) < 1000
    · obtain ⟨m0, hm0, ⟨k, hk⟩⟩ := ht (d + 1) (by omega)
      obtain ⟨e, fr', l1, l2, l3⟩ := lp52_1 d hd K A S N' C4 L hL r (i + 1) (n + m0) g4 (fun x hx => hc x (by simp [hx])) (by omega)
      have hwn : IntKind.i64.wrap ((n : Int) + (m0 : Int)) = ((n + m0 : Nat) : Int) := by rw [wrap_i64 (by omega)]; omega
      obtain ⟨bk, ba, bs, bn, bks, bas⟩ := b
      simp only [encA, cellsE] at g1
      rw [encE_mk] at hk
      rw [g6] at l1 ⊢
      by_cases hns : (20 : Int) < (ns.length : Int)
      · refine ⟨.ret, ?_, Lp.exit ⟨0, fun N _ => ?_⟩ (by simp), ?_⟩
        rotate_left
        · simp -implicitDefEqProofs [b52_1, g1, g2, g3, hlt, hns]
          rfl
        · exact ⟨by simp, .inl ⟨rfl, by simp⟩⟩
      · refine ⟨e, fr', Lp.step ⟨k, fun N hN => ?_⟩ l1, l2, l3⟩
        have hk := hk N hN
        simp only [Int.natCast_add, Int.cast_ofNat_Int] at hk hwn
        simp -implicitDefEqProofs [b52_1, g1, g2, g3, hk, hw, hwd, hlt, hwn, hns]
    · rw [g6]
      refine ⟨.ex 2, ?_, Lp.exit ⟨0, fun N _ => ?_⟩ (by simp), ?_⟩
      rotate_left
      · simp -implicitDefEqProofs [b52_1, g1, g2, g3, hlt]
        rfl
      · exact ⟨by simp, .inr ⟨rfl, ⟨n, hn, by simp⟩, by simp, by simp⟩⟩
theorem many_body (k a : Nat) (s : Str) (n : Nat) (ks : List Ex) (as : List Al) (hkl : ks.length < big) (hal : as.length < big) (h : ∀ t ∈ ks, ManyOK t) (h' : ∀ t ∈ as, match t with | .mk _ _ _ b => ManyOK b) : ManyOK (.mk k a s n ks as) := by
  intro d hd
  rw [encE_mk]
  by_cases h1 : (80 : Int) < (d : Int)
  · refine ⟨1000, by omega, Ans.of (σ' := []) fn52_ (by simp) (by simp) ⟨0, fun N hN => ?_⟩⟩
    simp -implicitDefEqProofs [i52, c52, h1]
  by_cases h2 : (20 : Int) < (ks.length : Int)
  · refine ⟨1000, by omega, Ans.of (σ' := []) fn52_ (by simp) (by simp) ⟨0, fun N hN => ?_⟩⟩
    simp -implicitDefEqProofs [i52, c52, h1, h2]
  by_cases h3 : (20 : Int) < (as.length : Int)
  · refine ⟨1000, by omega, Ans.of (σ' := []) fn52_ (by simp) (by simp) ⟨0, fun N hN => ?_⟩⟩
    simp -implicitDefEqProofs [i52, c52, h1, h2, h3]
  by_cases h4 : (60 : Int) < (s.length : Int)
  · refine ⟨1000, by omega, Ans.of (σ' := []) fn52_ (by simp) (by simp) ⟨0, fun N hN => ?_⟩⟩
    simp -implicitDefEqProofs [i52, c52, h1, h2, h3, h4]
  obtain ⟨fr1, m1, l1, l2, l3, l4, l5, l6, l7, l8⟩ := lp52_0 d (by omega) k a s n (encEs ks) (encR 9 true (encAs as)) (by simpa using hkl) ks 0 1 (Tail.all _) h (by omega)
  obtain ⟨k1, hk1⟩ := l1.den
  unfold Hi2 at l7 l8
  obtain ⟨e2, fr2, q1, q2, q3⟩ := lp52_1 d (by omega) k a s n (encR 6 true (encEs ks)) (encAs as) (by simpa using hal) as 0 m1 (Tail.all _) h' l3
  obtain ⟨k2, hk2⟩ := q1.den
  simp only [Int.cast_ofNat_Int] at hk1 hk2
  rcases q3 with ⟨rfl, q4⟩ | ⟨rfl, ⟨m, hm, q4⟩, q5, q6⟩
  · refine ⟨1000, by omega, Ans.of (σ' := []) fn52_ (by simp) (by simp) ⟨k1 + k2, fun N hN => ?_⟩⟩
    have hk1 := hk1 N (by omega)
    have hk2 := hk2 N (by omega)
    simp -implicitDefEqProofs [i52, c52, h1, h2, h3, h4, hk1, hk2, l2, l4, l5, l6, l7, l8, q2, q4]
  · refine ⟨m, hm, Ans.of (σ' := []) fn52_ (by simp) (by simp) ⟨k1 + k2, fun N hN => ?_⟩⟩
    have hk1 := hk1 N (by omega)
    have hk2 := hk2 N (by omega)
    simp -implicitDefEqProofs [i52, c52, h1, h2, h3, h4, hk1, hk2, l2, l4, l5, l6, l7, l8, q2, q4, q5, q6]
mutual
theorem many_ok : ∀ e : Ex, okE e → ManyOK e
  | .mk k a s n ks as, h => by
    unfold okE at h
    exact many_body k a s n ks as (by have := h.1; unfold lim at this; unfold big; omega) (by have := h.2.1; unfold lim at this; unfold big; omega) (manys_ok ks h.2.2.1) (manyA_ok as h.2.2.2)
theorem manys_ok : ∀ l : List Ex, okEs l → ∀ x ∈ l, ManyOK x
  | [], _, x, hx => by cases hx
  | e :: l, h, x, hx => by
    unfold okEs at h
    rcases List.mem_cons.1 hx with e1 | hx
    · rw [e1]; exact many_ok e h.1
    · exact manys_ok l h.2 x hx
theorem manyA_ok : ∀ l : List Al, okAs l → ∀ y ∈ l, match y with | .mk _ _ _ b => ManyOK b
  | [], _, y, hy => by cases hy
  | .mk a c ns b :: l, h, y, hy => by
    unfold okAs okA at h
    rcases List.mem_cons.1 hy with e1 | hy
    · rw [e1]; exact many_ok b h.1.2
    · exact manyA_ok l h.2 y hy
end
theorem natadd {a b : Nat} (h : a + b ≤ 2 ^ 62) : IntKind.i64.wrap ((a : Int) + (b : Int)) = (a : Int) + (b : Int) := wrap_i64 (by omega)
theorem lp22_0 (DV : AV) (L : List AV) (hL : L.length < big) : ∀ (r : List Bi) (i n : Nat), Tail L i (encBs r) → (∀ b ∈ r, ManyOK b.b) → i ≤ 20 → n ≤ 82000 * i →
    ∃ fr' m, Lp ctx [] [] [1, 3, 4] b22_0 ⟨[(1, .bx (.agg [DV, encR 8 true L])), (3, .v (.int .i64 n)), (4, .v (.int .i64 i))], false⟩ [] (.ex 0) fr' [] ∧ fr'.lk = false ∧ m ≤ 2 ^ 30 ∧ getS fr'.sl 3 = .v (.int .i64 (m : Nat)) ∧ getS fr'.sl 1 = .bx (.agg [DV, encR 8 true L]) ∧ getS fr'.sl 2 = .u ∧ Hi2 27 133 fr' ∧ Hi2 5 8 fr'
  | [], i, n, h, _, hi, hn => by
    have h' := h.nil
    refine ⟨?_, n, Lp.exit ⟨0, fun N _ => ?_⟩ (by simp), ?_⟩
    rotate_left
    · simp -implicitDefEqProofs [b22_0, h']
      rfl
    · refine ⟨by simp, by omega, by simp, by simp, by simp, fun t h1 h2 => ?_, fun t h1 h2 => ?_⟩
      all_goals simp only [getS]
      all_goals repeat rw [if_neg (by omega)]
  | b :: r, i, n, h, hc, hi, hn => by
    have hlen := h.len
    simp only [encBs_cons] at h
    obtain ⟨g1, g2, g3, g4, g5⟩ := h.cons
    simp at hlen
    have hw := wrap_succ (n := i) (by omega)
    have g6 := g5 8 true
    by_cases hlt : (i : Int) < 20
    · obtain ⟨m0, hm0, ⟨k, hk⟩⟩ := hc b (by simp) 0 (by omega)
      obtain ⟨fr', m, l1, l2, l3⟩ := lp22_0 DV L hL r (i + 1) (n + m0) g4 (fun x hx => hc x (by simp [hx])) (by omega) (by omega)
      have hwn := natadd (a := n) (b := m0) (by omega)
      obtain ⟨s, a, ⟨bk, ba, bs, bn, bks, bas⟩⟩ := b
      simp only [encB, cellsE] at g1
      simp only at hk
      rw [encE_mk] at hk
      rw [g6] at l1 l3 ⊢
      refine ⟨fr', m, Lp.step ⟨k, fun N hN => ?_⟩ l1, l2, l3⟩
      have hk := hk N hN
      simp only [Int.cast_ofNat_Int] at hk
      simp -implicitDefEqProofs [b22_0, g1, g2, g3, hk, hw, hlt, hwn]
    · rw [g6]
      refine ⟨?_, n, Lp.exit ⟨0, fun N _ => ?_⟩ (by simp), ?_⟩
      rotate_left
      · simp -implicitDefEqProofs [b22_0, g1, g2, g3, hlt]
        rfl
      · refine ⟨by simp, by omega, by simp, by simp, by simp, fun t h1 h2 => ?_, fun t h1 h2 => ?_⟩
        all_goals simp only [getS]
        all_goals repeat rw [if_neg (by omega)]
theorem lp22_1 (DL : List AV) (BV : AV) (di ci : Nat) (X Y VV X' Y' : AV) (CL AL : List AV) (hdi : idxN (di : Int) DL.length = some di) (hda : DL[di]? = some (.agg [X, Y, VV, .sl 3 CL])) (hci : idxN (ci : Int) CL.length = some ci) (hca : CL[ci]? = some (.agg [X', Y', encR 4 true AL])) (hA : AL.length < big) (N0 : Nat) (hN0 : N0 ≤ 2 ^ 60) : ∀ (r : List Ps.Ty) (i n : Nat), Tail AL i (encYs r) → (∀ t ∈ r, PartsOK t) → i ≤ 30 → n ≤ N0 + 82000 * i →
    ∃ fr' m, Lp ctx [] [] [1, 3, 5, 6, 7] b22_1 ⟨[(1, .bx (.agg [.sl 4 DL, BV])), (3, .v (.int .i64 n)), (5, .v (.int .i64 di)), (6, .v (.int .i64 ci)), (7, .v (.int .i64 i))], false⟩ [] (.ex 6) fr' [] ∧ fr'.lk = false ∧ m ≤ N0 + 2460000 ∧ getS fr'.sl 3 = .v (.int .i64 (m : Nat)) ∧ getS fr'.sl 1 = .bx (.agg [.sl 4 DL, BV]) ∧ getS fr'.sl 5 = .v (.int .i64 di) ∧ getS fr'.sl 6 = .v (.int .i64 ci) ∧ Hi2 8 76 fr' ∧ Hi2 110 133 fr' ∧ getS fr'.sl 2 = .u
  | [], i, n, h, _, hi, hn => by
    have h' := h.nil
    refine ⟨?_, n, Lp.exit ⟨0, fun N _ => ?_⟩ (by simp), ?_⟩
    rotate_left
    · simp -implicitDefEqProofs [b22_1, hdi, hda, hci, hca, h']
      rfl
    · refine ⟨by simp, by omega, by simp, by simp, by simp, by simp, fun t h1 h2 => ?_, fun t h1 h2 => ?_, by simp⟩
      all_goals simp only [getS]
      all_goals repeat rw [if_neg (by omega)]
  | t :: r, i, n, h, hc, hi, hn => by
    have hlen := h.len
    simp only [encYs_cons] at h
    obtain ⟨g1, g2, g3, g4, g5⟩ := h.cons
    simp at hlen
    have hw := wrap_succ (n := i) (by omega)
    have g6 := g5 4 true
    have hca' := hca
    rw [g6] at hca
    by_cases hlt : (i : Int) < 30
    · obtain ⟨m0, hm0, ⟨k, hk⟩⟩ := hc t (by simp) 0 (by omega)
      obtain ⟨fr', m, l1, l2, l3⟩ := lp22_1 DL BV di ci X Y VV X' Y' CL AL hdi hda hci hca' hA N0 hN0 r (i + 1) (n + m0) g4 (fun x hx => hc x (by simp [hx])) (by omega) (by omega)
      have hwn := natadd (a := n) (b := m0) (by omega)
      refine ⟨fr', m, Lp.step ⟨k, fun N hN => ?_⟩ l1, l2, l3⟩
      have hk := hk N hN
      simp only [Int.cast_ofNat_Int] at hk
      simp -implicitDefEqProofs [b22_1, hdi, hda, hci, hca, g1, g2, g3, hk, hw, hlt, hwn]
    · refine ⟨?_, n, Lp.exit ⟨0, fun N _ => ?_⟩ (by simp), ?_⟩
      rotate_left
      · simp -implicitDefEqProofs [b22_1, hdi, hda, hci, hca, g1, g2, g3, hlt]
        rfl
      · refine ⟨by simp, by omega, by simp, by simp, by simp, by simp, fun t h1 h2 => ?_, fun t h1 h2 => ?_, by simp⟩
        all_goals simp only [getS]
        all_goals repeat rw [if_neg (by omega)]
def WC : Nat := 2199023255552
def WD : Nat := 140737488355328
theorem wc_le {i : Nat} (h : i ≤ 20) : WC * i ≤ 2 ^ 46 := Nat.le_trans (Nat.mul_le_mul_left WC h) (by decide)
theorem wd_le {i : Nat} (h : i ≤ 20) : WD * i ≤ 2 ^ 52 := Nat.le_trans (Nat.mul_le_mul_left WD h) (by decide)
theorem wc_big : 2 ^ 40 + 2460000 ≤ WC := by decide
theorem wd_big : 2 ^ 40 + 2 ^ 46 ≤ WD := by decide
theorem arith1 {m n N0 i a : Nat} (q : m ≤ n + a + 2460000) (hn : n ≤ N0 + WC * i) (ha : a ≤ 2 ^ 40) : m ≤ N0 + WC * (i + 1) := by
  rw [Nat.mul_add, Nat.mul_one]
  have := wc_big
  generalize WC * i = x at *
  generalize WC = y at *
  omega
theorem arith2 {m n i a : Nat} (q : m ≤ n + a + 2 ^ 46) (hn : n ≤ 2 ^ 30 + WD * i) (ha : a ≤ 2 ^ 40) : m ≤ 2 ^ 30 + WD * (i + 1) := by
  rw [Nat.mul_add, Nat.mul_one]
  have := wd_big
  generalize WD * i = x at *
  generalize WD = y at *
  omega
theorem lp22_2 (DL : List AV) (BV : AV) (di : Nat) (X Y VV : AV) (CL : List AV) (hdi : idxN (di : Int) DL.length = some di) (hda : DL[di]? = some (.agg [X, Y, VV, encR 3 true CL])) (hC : CL.length < big) (N0 : Nat) (hN0 : N0 ≤ 2 ^ 59) : ∀ (r : List Cn) (i n : Nat), Tail CL i (encCs r) → (∀ c ∈ r, c.as.length ≤ lim ∧ ∀ t ∈ c.as, PartsOK t) → i ≤ 20 → n ≤ N0 + WC * i →
    ∃ fr' m, Lp ctx [] [] [1, 3, 5, 6] b22_2 ⟨[(1, .bx (.agg [.sl 4 DL, BV])), (3, .v (.int .i64 n)), (5, .v (.int .i64 di)), (6, .v (.int .i64 i))], false⟩ [] (.ex 4) fr' [] ∧ fr'.lk = false ∧ m ≤ N0 + 2 ^ 46 ∧ getS fr'.sl 3 = .v (.int .i64 (m : Nat)) ∧ getS fr'.sl 1 = .bx (.agg [.sl 4 DL, BV]) ∧ getS fr'.sl 5 = .v (.int .i64 di) ∧ Hi2 7 48 fr' ∧ Hi2 76 133 fr' ∧ getS fr'.sl 2 = .u
  | [], i, n, h, _, hi, hn => by
    have hwi := wc_le hi
    have h' := h.nil
    refine ⟨?_, n, Lp.exit ⟨0, fun N _ => ?_⟩ (by simp), ?_⟩
    rotate_left
    · simp -implicitDefEqProofs [b22_2, hdi, hda, h']
      rfl
    · refine ⟨by simp, by omega, by simp, by simp, by simp, fun t h1 h2 => ?_, fun t h1 h2 => ?_, by simp⟩
      all_goals simp only [getS]
      all_goals repeat rw [if_neg (by omega)]
  | c :: r, i, n, h, hc, hi, hn => by
    have hwi := wc_le hi
    have hlen := h.len
    simp only [encCs_cons] at h
    obtain ⟨g1, g2, g3, g4, g5⟩ := h.cons
    simp at hlen
    have hw := wrap_succ (n := i) (by omega)
    have g6 := g5 3 true
    have hda' := hda
    rw [g6] at hda
    unfold encC at g1
    obtain ⟨hc1, hc2⟩ := hc c (by simp)
    unfold lim at hc1
    by_cases hlt : (i : Int) < 20
    · have hw1 := natadd (a := n) (b := c.as.length) (by omega)
      obtain ⟨fr1, m1, q1, q2, q3, q4, q5, q6, q7, q8, q9, q10⟩ := lp22_1 DL BV di i X Y VV (.str c.s) (.int .i64 c.a) CL (encYs c.as) hdi hda g3 g1 (by simp; unfold big; omega) (n + c.as.length) (by omega) c.as 0 (n + c.as.length) (Tail.all _) hc2 (by omega) (by omega)
      obtain ⟨k, hk⟩ := q1.den
      unfold Hi2 at q8 q9
      have hb1 : m1 ≤ N0 + WC * (i + 1) := arith1 q3 hn hc1
      obtain ⟨fr', m, l1, l2, l3⟩ := lp22_2 DL BV di X Y VV CL hdi hda' hC N0 hN0 r (i + 1) m1 g4 (fun x hx => hc x (by simp [hx])) (by omega) hb1
      refine ⟨fr', m, Lp.step ⟨k, fun N hN => ?_⟩ l1, l2, l3⟩
      have hk := hk N hN
      simp only [Int.natCast_add, Int.cast_ofNat_Int] at hk
      simp -implicitDefEqProofs [b22_2, hdi, hda, g1, g2, g3, hk, hw, hlt, hw1, q2, q4, q5, q6, q7, q8, q9, q10]
    · refine ⟨?_, n, Lp.exit ⟨0, fun N _ => ?_⟩ (by simp), ?_⟩
      rotate_left
      · simp -implicitDefEqProofs [b22_2, hdi, hda, g1, g2, g3, hlt]
        rfl
      · refine ⟨by simp, by omega, by simp, by simp, by simp, fun t h1 h2 => ?_, fun t h1 h2 => ?_, by simp⟩
        all_goals simp only [getS]
        all_goals repeat rw [if_neg (by omega)]
theorem okTs_mem {l : List Ps.Ty} (h : okTs l) : ∀ t ∈ l, PartsOK t := partss_ok l h
theorem lp22_3 (DL : List AV) (BV : AV) (hD : DL.length < big) : ∀ (r : List Da) (i n : Nat), Tail DL i (encDs r) → (∀ d ∈ r, okD d) → i ≤ 20 → n ≤ 2 ^ 30 + WD * i →
    ∃ e fr', Lp ctx [] [] [1, 3, 5] b22_3 ⟨[(1, .bx (.agg [encR 4 true DL, BV])), (3, .v (.int .i64 n)), (5, .v (.int .i64 i))], false⟩ [] e fr' [] ∧ fr'.lk = false ∧
      (e = .ret ∧ getS fr'.sl 2 = .v (.bool true) ∨ e = .ex 2 ∧ (∃ m : Nat, getS fr'.sl 3 = .v (.int .i64 m)) ∧ getS fr'.sl 1 = .bx (.agg [encR 4 true DL, BV]) ∧ getS fr'.sl 2 = .u ∧ Hi2 110 133 fr')
  | [], i, n, h, _, hi, hn => by
    have hwi := wd_le hi
    have h' := h.nil
    refine ⟨.ex 2, ?_, Lp.exit ⟨0, fun N _ => ?_⟩ (by simp), ?_⟩
    rotate_left
    · simp -implicitDefEqProofs [b22_3, h']
      rfl
    · refine ⟨by simp, .inr ⟨rfl, ⟨n, by simp⟩, by simp, by simp, fun t h1 h2 => ?_⟩⟩
      simp only [getS]
      repeat rw [if_neg (by omega)]
  | d :: r, i, n, h, hc, hi, hn => by
    have hwi := wd_le hi
    have hlen := h.len
    simp only [encDs_cons] at h
    obtain ⟨g1, g2, g3, g4, g5⟩ := h.cons
    simp at hlen
    have hw := wrap_succ (n := i) (by omega)
    have g6 := g5 4 true
    unfold encD at g1
    obtain ⟨hd1, hd2, hd3⟩ := hc d (by simp)
    unfold lim at hd1 hd2
    by_cases hlt : (i : Int) < 20
    · have hw1 := natadd (a := n) (b := d.vs.length) (by omega)
      obtain ⟨fr1, m1, q1, q2, q3, q4, q5, q6, q7, q8, q9⟩ := lp22_2 DL BV i (.str d.s) (.int .i64 d.a) (encR 1 true (encSs d.vs)) (encCs d.cs) g3 g1 (by simp; unfold big; omega) (n + d.vs.length) (by omega) d.cs 0 (n + d.vs.length) (Tail.all _) (fun c h => ⟨(hd3 c h).1, okTs_mem (hd3 c h).2⟩) (by omega) (by omega)
      obtain ⟨k, hk⟩ := q1.den
      unfold Hi2 at q7 q8
      by_cases hcl : (15 : Int) < (d.cs.length : Int)
      · rw [g6]
        refine ⟨.ret, ?_, Lp.exit ⟨k, fun N hN => ?_⟩ (by simp), ?_⟩
        rotate_left
        · have hk := hk N hN
          simp only [Int.natCast_add, Int.cast_ofNat_Int] at hk
          simp -implicitDefEqProofs [b22_3, g1, g2, g3, hk, hw, hlt, hw1, hcl, q2, q4, q5, q6, q7, q8, q9]
          rfl
        · refine ⟨?_, .inl ⟨rfl, ?_⟩⟩
          · simp [q2]
          · simp
      · have hb1 : m1 ≤ 2 ^ 30 + WD * (i + 1) := arith2 q3 hn hd1
        obtain ⟨e, fr', l1, l2, l3⟩ := lp22_3 DL BV hD r (i + 1) m1 g4 (fun x hx => hc x (by simp [hx])) (by omega) hb1
        rw [g6] at l1 l3 ⊢
        refine ⟨e, fr', Lp.step ⟨k, fun N hN => ?_⟩ l1, l2, l3⟩
        have hk := hk N hN
        simp only [Int.natCast_add, Int.cast_ofNat_Int] at hk
        simp -implicitDefEqProofs [b22_3, g1, g2, g3, hk, hw, hlt, hw1, hcl, q2, q4, q5, q6, q7, q8, q9]
    · rw [g6]
      refine ⟨.ex 2, ?_, Lp.exit ⟨0, fun N _ => ?_⟩ (by simp), ?_⟩
      rotate_left
      · simp -implicitDefEqProofs [b22_3, g1, g2, g3, hlt]
        rfl
      · refine ⟨by simp, .inr ⟨rfl, ⟨n, by simp⟩, by simp, by simp, fun t h1 h2 => ?_⟩⟩
        simp only [getS]
        repeat rw [if_neg (by omega)]
theorem great_ans (p : Pg) (hp : okP p) : ∃ b, Ans ctx 22 [.agg [encR 4 true (encDs p.ds), encR 8 true (encBs p.bs)]] (.bool b) := by
  have hds := hp.ds
  have hbs := hp.bs
  unfold lim at hds hbs
  obtain ⟨fr1, m1, l1, l2, l3, l4, l5, l6, l7, l8⟩ := lp22_0 (encR 4 true (encDs p.ds)) (encBs p.bs) (by simp; unfold big; omega) p.bs 0 0 (Tail.all _) (fun b h => many_ok b.b (hp.b b h)) (by omega) (by omega)
  obtain ⟨k1, hk1⟩ := l1.den
  unfold Hi2 at l7 l8
  obtain ⟨e2, fr2, q1, q2, q3⟩ := lp22_3 (encDs p.ds) (encR 8 true (encBs p.bs)) (by simp; unfold big; omega) p.ds 0 m1 (Tail.all _) hp.d (by omega) (by omega)
  obtain ⟨k2, hk2⟩ := q1.den
  simp only [Int.cast_ofNat_Int] at hk1 hk2
  rcases q3 with ⟨rfl, q4⟩ | ⟨rfl, ⟨m, q4⟩, q5, q6, q7⟩
  · refine ⟨true, Ans.of (σ' := []) fn22_ (by simp) (by simp) ⟨k1 + k2, fun N hN => ?_⟩⟩
    have hk1 := hk1 N (by omega)
    have hk2 := hk2 N (by omega)
    simp -implicitDefEqProofs [i22, c22, hk1, hk2, l2, l4, l5, l6, l7, l8, q2, q4]
  · unfold Hi2 at q7
    have key : ∀ b, (∀ N, k1 + k2 ≤ N → runFn ctx (acall ctx N) N i22 [.agg [encR 4 true (encDs p.ds), encR 8 true (encBs p.bs)]] [] = some (.bool b, [])) → ∃ b, Ans ctx 22 [.agg [encR 4 true (encDs p.ds), encR 8 true (encBs p.bs)]] (.bool b) := fun b h =>
      ⟨b, Ans.of (σ' := []) fn22_ (by simp) (by simp) ⟨k1 + k2, h⟩⟩
    by_cases h1 : (600 : Int) < (m : Int)
    · refine key true fun N hN => ?_
      have hk1 := hk1 N (by omega)
      have hk2 := hk2 N (by omega)
      simp -implicitDefEqProofs [i22, c22, hk1, hk2, l2, l4, l5, l6, l7, l8, q2, q4, q5, q6, q7, h1]
    by_cases h2 : (15 : Int) < (p.bs.length : Int)
    · refine key true fun N hN => ?_
      have hk1 := hk1 N (by omega)
      have hk2 := hk2 N (by omega)
      simp -implicitDefEqProofs [i22, c22, hk1, hk2, l2, l4, l5, l6, l7, l8, q2, q4, q5, q6, q7, h1, h2]
    · refine key (decide ((15 : Int) < (p.ds.length : Int))) fun N hN => ?_
      have hk1 := hk1 N (by omega)
      have hk2 := hk2 N (by omega)
      simp -implicitDefEqProofs [i22, c22, hk1, hk2, l2, l4, l5, l6, l7, l8, q2, q4, q5, q6, q7, h1, h2]
end Go.Am.Try
