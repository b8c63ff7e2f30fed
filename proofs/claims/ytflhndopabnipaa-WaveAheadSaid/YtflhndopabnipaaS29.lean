/- WaveMade. -/
import Derived.Test.YtflhndopabnipaaS28
import Derived.Test.YtflhndopabnipaaS14
set_option linter.unusedVariables false
set_option linter.unusedSimpArgs false
set_option maxRecDepth 100000
namespace Go.Am.Try
open Go Go.Am.Sc
set_option maxHeartbeats 2000000 in
theorem lp11_0 (X5 X8 : AV) (lv : List Nat) (i : Nat) (hbn : i ≤ 2 ^ 30) (W : List (List Nat)) (l : List Nat) (hi : W[i]? = some l) (hll : l.length ≤ 2 ^ 30) (hlt : ∀ y ∈ l, y < lv.length ∧ lv.getD y 0 = i) : ∀ (r : List Nat) (k : Nat), Tail (encNs l) k (encNs r) →
    ∃ fr', Lp ctx [] [] [5, 6, 7, 8, 9, 10] b11_0 ⟨[(5, .v X5), (6, .v (.sl 1 (encNs lv))), (7, .v (.sl 1 (encU W))), (8, .v X8), (9, .v (.int .i64 i)), (10, .v (.int .i64 k))], false⟩ [] (.ex 2) fr' [] ∧ fr'.lk = false ∧ getS fr'.sl 5 = .v X5 ∧ getS fr'.sl 6 = .v (.sl 1 (encNs lv)) ∧ getS fr'.sl 7 = .v (.sl 1 (encU W)) ∧ getS fr'.sl 8 = .v X8 ∧ getS fr'.sl 9 = .v (.int .i64 i) ∧ Hi 73 fr' ∧ getS fr'.sl 22 = .u ∧ getS fr'.sl 23 = .u
  | [], k, ht => by
    have hlen := ht.nil
    simp only [encNs_length] at hlen
    have hgi := encU_at hi
    have hix := idx_at (List.getElem?_eq_some_iff.1 hi).1
    have hkl : ¬ (k : Int) < (l.length : Int) := by omega
    refine ⟨?_, Lp.exit ⟨0, fun N _ => ?_⟩ (by simp), ?_⟩
    rotate_left
    · simp -implicitDefEqProofs [b11_0, hgi, hix, hkl]
      rfl
    · exact ⟨by simp, by simp, by simp, by simp, by simp, by simp, hi_of (by simp), by simp, by simp⟩
  | y :: r, k, ht => by
    have hlk := tail_get ht
    rw [encNs_cons] at ht
    obtain ⟨a1, a2, a3, a4, a5⟩ := ht.cons
    simp only [encNs_length] at a2 a3
    have hkn : k < l.length := (List.getElem?_eq_some_iff.1 hlk).1
    have hw := wrap_succ (n := k) (by unfold big; omega)
    obtain ⟨hy, hyv⟩ := hlt y (List.mem_of_getElem? hlk)
    have hgi := encU_at hi
    have hrow : encR 1 true (encNs l) = .sl 1 (encNs l) := a5 1 true
    rw [hrow] at hgi
    have hix := idx_at (List.getElem?_eq_some_iff.1 hi).1
    have hiy := idx_at hy
    have hy0 : ¬ (y : Int) < 0 := by omega
    have hyn : ¬ lv.length ≤ y := by omega
    have hgy : (encNs lv)[y]? = some (.int .i64 (i : Int)) := by
      have := encNs_get hy
      rw [hyv] at this; exact this
    obtain ⟨fr', l1, l2⟩ := lp11_0 X5 X8 lv i hbn W l hi hll hlt r (k + 1) a4
    refine ⟨fr', Lp.step ⟨0, fun N hN => ?_⟩ l1, l2⟩
    clear l1 l2
    simp -implicitDefEqProofs [b11_0, ↓hgi, hix, hkn, ↓a1, a3, hw, hiy, hy0, hyn, ↓hgy]
set_option maxHeartbeats 2000000 in
theorem lp11_1 (X5 : AV) (lv : List Nat) (W : List (List Nat)) (hW : W.length ≤ 2 ^ 20) (hok : ∀ (i : Nat) l, W[i]? = some l → l ≠ [] ∧ l.length ≤ 2 ^ 20 ∧ ∀ y ∈ l, y < lv.length ∧ lv.getD y 0 = i) : ∀ (r : List (List Nat)) (i n : Nat), (∃ p : List (List Nat), p.length = i ∧ W = p ++ r) → n ≤ i * 2 ^ 20 →
    ∃ fr', Lp ctx [] [] [5, 6, 7, 8, 9] b11_1 ⟨[(5, .v X5), (6, .v (.sl 1 (encNs lv))), (7, .v (encR 1 true (encU W))), (8, .v (.int .i64 n)), (9, .v (.int .i64 i))], false⟩ [] (.ex 0) fr' [] ∧ fr'.lk = false ∧ getS fr'.sl 5 = .v X5 ∧ getS fr'.sl 6 = .v (.sl 1 (encNs lv)) ∧ getS fr'.sl 7 = .v (encR 1 true (encU W)) ∧ getS fr'.sl 8 = .v (.int .i64 ((n + Sc.lens r : Nat) : Int)) ∧ Hi 80 fr' ∧ getS fr'.sl 4 = .u
  | [], i, n, hp, hn => by
    obtain ⟨p, h1, h2⟩ := hp
    have hi : i = W.length := by rw [h2]; simp [h1]
    have hlt : ¬ (i : Int) < (W.length : Int) := by omega
    refine ⟨?_, Lp.exit ⟨0, fun N _ => ?_⟩ (by simp), ?_⟩
    rotate_left
    · simp -implicitDefEqProofs [b11_1, hlt]
      rfl
    · exact ⟨by simp, by simp, by simp, by simp, by simp [Sc.lens], hi_of (by simp), by simp⟩
  | l :: r, i, n, hp, hn => by
    obtain ⟨p, h1, h2⟩ := hp
    have hi : W[i]? = some l := by rw [h2, List.getElem?_append_right (by omega)]; simp [h1]
    have hil := (List.getElem?_eq_some_iff.1 hi).1
    obtain ⟨hne, hll, hlt⟩ := hok i l hi
    have hw := wrap_succ (n := i) (by unfold big; omega)
    obtain ⟨fr1, b1, b2, b3, b4, b5, b6, b7, b8, b9, b10⟩ := lp11_0 X5 (.int .i64 n) lv i (by omega) W l hi (by omega) hlt l 0 (Tail.all _)
    obtain ⟨k1, hk1⟩ := b1.den
    have hmul : (i + 1) * 2 ^ 20 = i * 2 ^ 20 + 2 ^ 20 := Nat.succ_mul _ _
    obtain ⟨S, hS⟩ : ∃ S, S = n + l.length := ⟨_, rfl⟩
    obtain ⟨fr', l1, l2⟩ := lp11_1 X5 lv W hW hok r (i + 1) S ⟨p ++ [l], by simp [h1], by rw [h2]; simp⟩ (by omega)
    have hUne : encU W ≠ [] := fun e => by
      have := congrArg List.length e
      simp at this
      rw [this] at hil; simp at hil
    have e : n + Sc.lens (l :: r) = S + Sc.lens r := by rw [Sc.lens]; omega
    rw [e]
    rw [encR_ne hUne] at l1 l2 ⊢
    refine ⟨fr', Lp.step ⟨k1, fun N hN => ?_⟩ l1, l2⟩
    have hk1 := hk1 N hN
    simp only [Int.cast_ofNat_Int] at hk1
    have hib : i * 2 ^ 20 ≤ 2 ^ 20 * 2 ^ 20 := Nat.mul_le_mul_right _ (by omega)
    have hwS : IntKind.i64.wrap ((n : Int) + (l.length : Int)) = (S : Int) := by rw [wrap_i64 (by omega)]; omega
    have hl0 : ((l.length : Int) == 0) = false := by
      rw [beq_eq_false_iff_ne]
      have := List.length_pos_iff.2 hne
      omega
    have hgi := encU_at hi
    have hix := idx_at hil
    have j73 := b8 73 (by omega)
    have j74 := b8 74 (by omega)
    have j75 := b8 75 (by omega)
    have j76 := b8 76 (by omega)
    have j77 := b8 77 (by omega)
    have j78 := b8 78 (by omega)
    have j79 := b8 79 (by omega)
    clear l1 l2 b1 hS
    simp -implicitDefEqProofs [b11_1, hil, hw, hk1, ↓hgi, hix, hl0, hwS, b2, b3, b4, b5, b6, b7, b9, b10, j73, j74, j75, j76, j77, j78, j79]
set_option maxHeartbeats 4000000 in
theorem waveMade_ans (bs : List UInt8) (n : UInt8) (nb : Bool) : Ans ctx 11 [encR 1 nb (ofBytes bs), .int .u8 n.toNat] (.bool true) := by
  obtain ⟨Gr, hO, km, hm⟩ := make_ans bs nb n
  obtain ⟨K, hK⟩ : ∃ K, K = n.toNat % 16 := ⟨_, rfl⟩
  rw [← hK] at hO
  have hK16 : K < 16 := by omega
  have hgl : (toI Gr).length = K := by rw [toI_length]; exact hO.1
  have hgr : ∀ q ∈ toI Gr, q.2.length ≤ 2 ^ 30 := fun q hq => by
    obtain ⟨l, hl, rfl⟩ := List.mem_map.1 hq
    have := (hO.2 l hl).1
    simp; omega
  obtain ⟨G, g1, g2, kg, hgs⟩ := groups_ans (toI Gr) false (by omega) (fun q hq => by have := hgr q hq; unfold big; omega)
  have hGl := Grp.len_le g1 g2
  have hwv := wave_all (toI Gr) false (by omega) hgr g1 g2
  have hll := lvL_len (toI Gr).length (Ed (outG (toI Gr))) G
  have hlt := lvL_lt g1 g2 16 (by omega) (by omega)
  have hwl := wav_lens (lvL (toI Gr).length (Ed (outG (toI Gr))) G)
  have hO2 : ∃ o, IsOf G o := by
    obtain ⟨_, _, o, e1, e2, e3, _⟩ := below_ans (toI Gr) false (by omega) hgr
    have := Grp.only e1 g1 e2 g2
    subst this
    exact ⟨o, e3⟩
  obtain ⟨o, ho⟩ := hO2
  have hne : ∀ {v : Nat} {l : List Nat}, (wav (lvL (toI Gr).length (Ed (outG (toI Gr))) G))[v]? = some l → l ≠ [] := fun h => wav_ne g1 ho h
  rw [encR_false, ← encU_toI] at hwv hgs
  obtain ⟨LV, hLV⟩ : ∃ z, z = lvL (toI Gr).length (Ed (outG (toI Gr))) G := ⟨_, rfl⟩
  rw [← hLV] at hwv hll hlt hwl hne
  obtain ⟨⟨k1, h1⟩, ⟨k2, h2⟩, ⟨k3, h3⟩, ⟨k4, h4⟩⟩ := hwv
  have hws := wav_small (b := 16) (by omega) hlt
  obtain ⟨k5, h5⟩ := ints_U LV LV (by unfold big; omega)
  obtain ⟨k6, h6⟩ := same_U (wav LV) (wav LV) true true (by unfold big; omega) (fun l hl' => by have := hws.2 l hl'; unfold big; omega)
  obtain ⟨k7, h7⟩ := awake23_ans
  obtain ⟨fr1, a1, a2, a3, a4, a5, a6, a7, a8⟩ := lp11_1 (.sl 1 (encU Gr)) LV (wav LV) (by omega) (fun i l hi => ⟨hne hi, by have := hws.2 l (List.mem_of_getElem? hi); omega, wav_at hi⟩) (wav LV) 0 0 ⟨[], rfl, rfl⟩ (by omega)
  rw [hwl, hll, Nat.zero_add] at a6
  obtain ⟨k8, hk8⟩ := a1.den
  refine Ans.of (σ' := []) fn11_ (by simp [AV.noRefs, AV.noRef]) (by simp) ⟨km + kg + k1 + k2 + k3 + k4 + k5 + k6 + k7 + k8, fun N hN => ?_⟩
  have hm := hm N (by omega)
  have hgs := hgs N (by omega)
  have h1 := h1 N (by omega)
  have h2 := h2 N (by omega)
  have h3 := h3 N (by omega)
  have h4 := h4 N (by omega)
  have h5' : ∀ σ, acall ctx N 17 [.sl 1 (encNs LV), .sl 1 (encNs LV)] σ = some (.bool true, σ) := fun σ => by rw [h5 N (by omega) σ]; simp
  have h6' : ∀ σ, acall ctx N 16 [encR 1 true (encU (wav LV)), encR 1 true (encU (wav LV))] σ = some (.bool true, σ) := fun σ => by rw [h6 N (by omega) σ]; simp
  have h7 := h7 N (by omega)
  have hk8 := hk8 N (by omega)
  simp only [Int.cast_ofNat_Int] at hk8
  have j80 := a7 80 (by omega)
  have j81 := a7 81 (by omega)
  have j82 := a7 82 (by omega)
  have j83 := a7 83 (by omega)
  have j84 := a7 84 (by omega)
  have j85 := a7 85 (by omega)
  have j86 := a7 86 (by omega)
  have j87 := a7 87 (by omega)
  have j88 := a7 88 (by omega)
  have j89 := a7 89 (by omega)
  have j90 := a7 90 (by omega)
  have j91 := a7 91 (by omega)
  have j92 := a7 92 (by omega)
  have j93 := a7 93 (by omega)
  have j94 := a7 94 (by omega)
  have j95 := a7 95 (by omega)
  have j96 := a7 96 (by omega)
  have j97 := a7 97 (by omega)
  have j98 := a7 98 (by omega)
  have j99 := a7 99 (by omega)
  clear a1 g1 g2 h5 h6
  simp -implicitDefEqProofs [i11, c11, hm, hgs, h1, h2, h3, h4, h5', h6', h7, hk8, a2, a3, a4, a5, a6, a8, j80, j81, j82, j83, j84, j85, j86, j87, j88, j89, j90, j91, j92, j93, j94, j95, j96, j97, j98, j99]
end Go.Am.Try
