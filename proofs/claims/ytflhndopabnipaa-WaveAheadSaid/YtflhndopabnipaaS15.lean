/- SccMade. -/
import Derived.Test.YtflhndopabnipaaS14
set_option linter.unusedVariables false
set_option linter.unusedSimpArgs false
set_option maxRecDepth 100000
namespace Go.Am.Try
open Go Go.Am.Sc
def incs (ins : List Nat) : List Nat → List Nat
  | [] => ins
  | y :: l => incs (ins.set y (ins.getD y 0 + 1)) l
theorem incs_len : ∀ (l ins : List Nat), (incs ins l).length = ins.length
  | [], _ => rfl
  | y :: l, ins => by rw [incs, incs_len]; simp
theorem incs_get : ∀ (l ins : List Nat) (x : Nat), l.Nodup → (∀ y ∈ l, y < ins.length) → (incs ins l).getD x 0 = ins.getD x 0 + if x ∈ l then 1 else 0
  | [], ins, x, _, _ => by simp [incs]
  | y :: l, ins, x, hn, hl => by
    rw [List.nodup_cons] at hn
    rw [incs, incs_get l _ x hn.2 (fun z hz => by simpa using hl z (by simp [hz])), getD_set _ _ _ _ _ (hl y (by simp))]
    by_cases e : y = x
    · subst e
      rw [if_pos rfl, if_neg hn.1]; simp
    · rw [if_neg e]
      have : x ∈ y :: l ↔ x ∈ l := by
        rw [List.mem_cons]
        exact ⟨fun h => h.resolve_left fun k => e k.symm, .inr⟩
      simp only [this]
set_option maxHeartbeats 2000000 in
theorem lp5_0 (X2 X3 X12 : AV) (R : List AV) (n : Nat) (hR : R.length = n) (hn : n ≤ 300) (G : List (List Nat)) (hG : G ≠ []) (i : Nat) (l : List Nat) (hi : G[i]? = some l) (hrise : l.Pairwise (· < ·)) (hlt : ∀ y ∈ l, y < n) : ∀ (r : List Nat) (k : Nat) (ins : List Nat), Tail (encNs l) k (encNs r) → ins.length = n → (∀ x, ins.getD x 0 ≤ 2 ^ 30 - r.length) → r.length ≤ 300 →
    ∃ fr', Lp ctx [23] [] [2, 3, 9, 10, 11, 12, 13, 14] b5_0 ⟨[(2, .v X2), (3, .v X3), (9, .v (.sl 1 R)), (10, .v (.sl 1 (encU G))), (11, .v (.hs 0 n 0 n 1)), (12, .v X12), (13, .v (.int .i64 i)), (14, .v (.int .i64 k))], false⟩ [.arr false 1 (encNs ins)] (.ex 2) fr' [.arr false 1 (encNs (incs ins r))] ∧ fr'.lk = false ∧ getS fr'.sl 2 = .v X2 ∧ getS fr'.sl 3 = .v X3 ∧ getS fr'.sl 9 = .v (.sl 1 R) ∧ getS fr'.sl 10 = .v (.sl 1 (encU G)) ∧ getS fr'.sl 11 = .v (.hs 0 n 0 n 1) ∧ getS fr'.sl 12 = .v X12 ∧ getS fr'.sl 13 = .v (.int .i64 i) ∧ getS fr'.sl 28 = .u ∧ getS fr'.sl 29 = .u
  | [], k, ins, ht, hl, hb, hr3 => by
    have hlen := ht.nil
    simp only [encNs_length] at hlen
    have hgi := encU_at hi
    have hil := (List.getElem?_eq_some_iff.1 hi).1
    have hix := idx_at hil
    have hkl : ¬ (k : Int) < (l.length : Int) := by omega
    have e0 : incs ins [] = ins := rfl
    rw [e0]
    refine ⟨?_, Lp.exit ⟨0, fun N _ => ?_⟩ (by simp), ?_⟩
    rotate_left
    · simp -implicitDefEqProofs [b5_0, hgi, hix, hkl]
      rfl
    · simp
  | y :: r, k, ins, ht, hl, hb, hr3 => by
    have hlk := tail_get ht
    rw [encNs_cons] at ht
    obtain ⟨a1, a2, a3, a4, a5⟩ := ht.cons
    simp only [encNs_length] at a2 a3
    have hkn : k < l.length := (List.getElem?_eq_some_iff.1 hlk).1
    have hw := wrap_succ (n := k) (by have := ht.len; simp at this; unfold big; have := nodup_le (nodup_of_lt (f := id) hrise) hlt; omega)
    have hy : y < n := hlt y (List.mem_of_getElem? hlk)
    have hgi := encU_at hi
    have hrow : encR 1 true (encNs l) = .sl 1 (encNs l) := encR_ne (fun e => by
      have := congrArg List.length e
      simp at this
      rw [this] at hkn; simp at hkn)
    rw [hrow] at hgi
    have hil := (List.getElem?_eq_some_iff.1 hi).1
    have hix := idx_at hil
    have hiy := idx_at hy
    have hyl : y < ins.length := by omega
    have hgy := encNs_get hyl
    obtain ⟨V, hV⟩ : ∃ V : Nat, V = ins.getD y 0 + 1 := ⟨_, rfl⟩
    have hbV := hb y
    simp only [List.length_cons] at hbV hr3
    have hwV : IntKind.i64.wrap (((ins.getD y 0 : Nat) : Int) + 1) = (V : Int) := by rw [wrap_i64 (by omega)]; omega
    have hset := encNs_set ins y V
    have hinl : (encNs ins).length = n := by simpa using hl
    have hyn : ¬ n ≤ y := by omega
    have hy0 : ¬ (y : Int) < 0 := by omega
    obtain ⟨fr', l1, l2⟩ := lp5_0 X2 X3 X12 R n hR hn G hG i l hi hrise hlt r (k + 1) (ins.set y V) a4 (by simpa using hl) (fun x => by
      rw [getD_set _ _ _ _ _ hyl]
      split
      · omega
      · have := hb x; simp only [List.length_cons] at this; omega) (by omega)
    have ee : incs ins (y :: r) = incs (ins.set y V) r := by rw [incs, hV]
    rw [ee]
    refine ⟨fr', Lp.step ⟨0, fun N hN => ?_⟩ l1, l2⟩
    clear l1 l2
    obtain ⟨W, hW⟩ : ∃ W : Nat, W = ins.getD y 0 := ⟨_, rfl⟩
    rw [← hW] at hgy hwV
    cases k with
    | zero =>
      simp only [Int.cast_ofNat_Int] at a1 a2 a3 hw ⊢
      have h0l : 0 < l.length := hkn
      have hw1 : IntKind.i64.wrap 1 = 1 := wrap_i64 (by omega)
      simp (maxSteps := 4000000) -implicitDefEqProofs [b5_0, h0l, hw1, d5_0, hgi, hix, ↓a1, hy0, a2, a3, hw, hiy, hgy, hwV, hset, hinl, hyn, hR]
    | succ k =>
      obtain ⟨z, hz⟩ : ∃ z, l[k]? = some z := ⟨_, List.getElem?_eq_getElem (by omega)⟩
      have hzy : z < y := by
        have h1 := List.pairwise_iff_getElem.1 hrise k (k + 1) (by omega) hkn (by omega)
        obtain ⟨_, e1⟩ := List.getElem?_eq_some_iff.1 hz
        obtain ⟨_, e2⟩ := List.getElem?_eq_some_iff.1 hlk
        rw [e1, e2] at h1; exact h1
      have hez : (encNs l)[k]? = some (.int .i64 (z : Int)) := by unfold encNs; rw [List.getElem?_map, hz]; rfl
      have hiz : idxN (k : Int) l.length = some k := idx_at (by omega)
      have hwk : IntKind.i64.wrap (k : Int) = (k : Int) := wrap_i64 (by have := nodup_le (nodup_of_lt (f := id) hrise) hlt; omega)
      have hzy' : ¬ y ≤ z := by omega
      have hk0 : (k : Int) + 1 > 0 := by omega
      have hkl : (k : Int) + 1 < (l.length : Int) := by omega
      have hi1 : idxN ((k : Int) + 1) l.length = some (k + 1) := by
        have := idx_at hkn
        simpa using this
      push_cast at hw
      simp (maxSteps := 4000000) -implicitDefEqProofs [b5_0, d5_0, hgi, hix, ↓a1, hy0, hkl, hi1, hw, hiy, hgy, hwV, hset, hinl, hyn, hR, ↓hez, hiz, hwk, hzy', hk0]
theorem Grp.dis {n : Nat} {R : Nat → Nat → Prop} {L : List (List Nat)} (h : Grp n R L) (ho : L.Pairwise fun l m => hd l < hd m) {i j : Nat} {l m : List Nat} (hij : i < j) (hi : L[i]? = some l) (hj : L[j]? = some m) {x : Nat} (hx : x ∈ l) : x ∉ m := fun hm => by
  have hl := List.mem_of_getElem? hi
  have hmm := List.mem_of_getElem? hj
  have e : l = m := pw_ext (h.rise l hl).2 (h.rise m hmm).2 (h.same hl hmm hx hm)
  obtain ⟨h1, e1⟩ := List.getElem?_eq_some_iff.1 hi
  obtain ⟨h2, e2⟩ := List.getElem?_eq_some_iff.1 hj
  have := List.pairwise_iff_getElem.1 ho i j h1 h2 hij
  rw [e1, e2, e] at this
  omega
theorem take_succ_mem' {α : Type} {L : List α} {i : Nat} {l m : α} (hi : L[i]? = some l) : m ∈ L.take (i + 1) ↔ m ∈ L.take i ∨ m = l := by
  obtain ⟨h1, e1⟩ := List.getElem?_eq_some_iff.1 hi
  rw [List.take_succ_eq_append_getElem h1, e1]
  simp
set_option maxHeartbeats 2000000 in
theorem lp5_1 (X2 X3 : AV) (R : List AV) (n : Nat) (hR : R.length = n) (hn : n ≤ 300) (G : List (List Nat)) (P : Nat → Nat → Prop) (hG : Grp n P G) (ho : G.Pairwise fun l m => hd l < hd m) : ∀ (f i : Nat) (ins : List Nat) (LS : Int), i + f = G.length → ins.length = n → (∀ x, x < n → ins.getD x 0 = 1 ∧ (∃ l ∈ G.take i, x ∈ l) ∨ ins.getD x 0 = 0 ∧ ¬ (∃ l ∈ G.take i, x ∈ l)) → (∀ l, G[i]? = some l → LS < (hd l : Int)) →
    ∃ fr' ins', Lp ctx [23] [] [2, 3, 9, 10, 11, 12, 13] b5_1 ⟨[(2, .v X2), (3, .v X3), (9, .v (.sl 1 R)), (10, .v (encR 1 true (encU G))), (11, .v (.hs 0 n 0 n 1)), (12, .v (.int .i64 LS)), (13, .v (.int .i64 i))], false⟩ [.arr false 1 (encNs ins)] (.ex 0) fr' [.arr false 1 (encNs ins')] ∧ ins'.length = n ∧ (∀ x, x < n → ins'.getD x 0 = 1) ∧ fr'.lk = false ∧ getS fr'.sl 2 = .v X2 ∧ getS fr'.sl 3 = .v X3 ∧ getS fr'.sl 9 = .v (.sl 1 R) ∧ getS fr'.sl 10 = .v (encR 1 true (encU G)) ∧ getS fr'.sl 11 = .v (.hs 0 n 0 n 1) ∧ getS fr'.sl 15 = .u := by
  intro f
  induction f with
  | zero =>
    intro i ins LS hi hl hin hls
    have e : i = G.length := by omega
    subst e
    refine ⟨?_, ins, Lp.exit ⟨0, fun N _ => ?_⟩ (by simp), ?_⟩
    rotate_left
    · simp -implicitDefEqProofs [b5_1]
      rfl
    · refine ⟨hl, fun x hx => ?_, by simp, by simp, by simp, by simp, by simp, by simp, by simp⟩
      rcases hin x hx with ⟨k, _⟩ | ⟨_, k⟩
      · exact k
      · rw [List.take_length] at k
        exact absurd (hG.all x hx) k
  | succ f ih =>
    intro i ins LS hi hl hin hls
    obtain ⟨l, hgl⟩ : ∃ l, G[i]? = some l := ⟨_, List.getElem?_eq_getElem (by omega)⟩
    have hmem := List.mem_of_getElem? hgl
    obtain ⟨hne, hrise⟩ := hG.rise l hmem
    have hlt := hG.lt l hmem
    have hll := nodup_le (nodup_of_lt (f := id) hrise) hlt
    have hGl := (Grp.len_le hG ho).1
    have hLS := hls l hgl
    have hGne : G ≠ [] := fun e => by rw [e] at hgl; simp at hgl
    have hUne : encU G ≠ [] := fun e => by
      have := congrArg List.length e
      simp at this
      exact hGne this
    obtain ⟨fr1, a1, a2⟩ := lp5_0 X2 X3 (.int .i64 (hd l : Int)) R n hR hn G hGne i l hgl hrise hlt l 0 ins (Tail.all _) hl (fun x => by
      by_cases hx : x < n
      · rcases hin x hx with ⟨k, _⟩ | ⟨k, _⟩ <;> omega
      · rw [List.getD_eq_getElem?_getD, List.getElem?_eq_none (by omega)]
        simp) (by omega)
    obtain ⟨b2, b3, b4, b5, b6, b7, b8, b9, b10, b11⟩ := a2
    obtain ⟨kk, hk⟩ := a1.den
    obtain ⟨fr', ins', l1, l2⟩ := ih (i + 1) (incs ins l) (hd l : Int) (by omega) (by rw [incs_len]; exact hl) (fun x hx => by
      rw [incs_get l ins x (nodup_of_lt (f := id) hrise) (fun y hy => by rw [hl]; exact hlt y hy)]
      have hex : (∃ m ∈ G.take (i + 1), x ∈ m) ↔ (∃ m ∈ G.take i, x ∈ m) ∨ x ∈ l := by
        constructor
        · rintro ⟨m, h1, h2⟩
          rcases (take_succ_mem' hgl).1 h1 with h1 | rfl
          · exact .inl ⟨m, h1, h2⟩
          · exact .inr h2
        · rintro (⟨m, h1, h2⟩ | h2)
          · exact ⟨m, (take_succ_mem' hgl).2 (.inl h1), h2⟩
          · exact ⟨l, (take_succ_mem' hgl).2 (.inr rfl), h2⟩
      rw [hex]
      rcases hin x hx with ⟨k1, k2⟩ | ⟨k1, k2⟩
      · have hxl : x ∉ l := by
          obtain ⟨m, h1, h2⟩ := k2
          obtain ⟨j, hj⟩ := List.getElem?_of_mem h1
          rw [List.getElem?_take] at hj
          split at hj
          · rename_i hji
            exact Grp.dis hG ho hji hj hgl h2
          · cases hj
        rw [if_neg hxl]
        exact .inl ⟨by omega, .inl k2⟩
      · by_cases hxl : x ∈ l
        · rw [if_pos hxl]
          exact .inl ⟨by omega, .inr hxl⟩
        · rw [if_neg hxl]
          exact .inr ⟨by omega, fun k => k.elim k2 hxl⟩) (fun m hm => by
      obtain ⟨h1, e1⟩ := List.getElem?_eq_some_iff.1 hgl
      obtain ⟨h2, e2⟩ := List.getElem?_eq_some_iff.1 hm
      have := List.pairwise_iff_getElem.1 ho i (i + 1) h1 h2 (by omega)
      rw [e1, e2] at this
      omega)
    rw [encR_ne hUne] at l1 l2 ⊢
    refine ⟨fr', ins', Lp.step ⟨kk, fun N hN => ?_⟩ l1, l2⟩
    have hk := hk N hN
    simp only [Int.cast_ofNat_Int] at hk
    clear l1 l2 ih a1
    have hgi := encU_at hgl
    obtain ⟨x0, l0, hl0⟩ : ∃ x0 l0, l = x0 :: l0 := by
      cases l with
      | nil => exact absurd rfl hne
      | cons a b => exact ⟨a, b, rfl⟩
    have hhd : hd l = x0 := by rw [hl0]; rfl
    rw [hhd] at hk hLS
    have hrow : encR 1 true (encNs l) = .sl 1 (.int .i64 (x0 : Int) :: encNs l0) := by rw [hl0]; rfl
    rw [hrow] at hgi
    have hix := idx_at (List.getElem?_eq_some_iff.1 hgl).1
    have hil : i < G.length := by omega
    have hls' : ¬ (x0 : Int) ≤ LS := by omega
    have hw := wrap_succ (n := i) (by unfold big; omega)
    have h0 : idxN 0 (l0.length + 1) = some 0 := idx_at (i := 0) (by omega)
    have hb0 : ((l0.length : Int) + 1 == 0) = false := by rw [beq_eq_false_iff_ne]; omega
    simp -implicitDefEqProofs [b5_1, ↓hgi, hix, hil, hls', hw, h0, hb0, hk, b2, b3, b4, b5, b6, b7, b8, b9, b10, b11]
theorem lp5_2 (X2 X3 : AV) (R : List AV) (n : Nat) (hn : n ≤ 300) (X10 : AV) (ins : List Nat) (hl : ins.length = n) (h1 : ∀ x, x < n → ins.getD x 0 = 1) : ∀ (f i : Nat), i + f = n →
    ∃ fr', Lp ctx [23] [] [2, 3, 9, 10, 11, 15] b5_2 ⟨[(2, .v X2), (3, .v X3), (9, .v (.sl 1 R)), (10, .v X10), (11, .v (.hs 0 n 0 n 1)), (15, .v (.int .i64 i))], false⟩ [.arr false 1 (encNs ins)] (.ex 4) fr' [.arr false 1 (encNs ins)] ∧ fr'.lk = false ∧ getS fr'.sl 2 = .v X2 ∧ getS fr'.sl 3 = .v X3 ∧ getS fr'.sl 9 = .v (.sl 1 R) ∧ getS fr'.sl 10 = .v X10 ∧ Hi 126 fr' ∧ getS fr'.sl 8 = .u := by
  intro f
  induction f with
  | zero =>
    intro i hi
    have e : i = n := by omega
    subst e
    refine ⟨?_, Lp.exit ⟨0, fun N _ => ?_⟩ (by simp), ?_⟩
    rotate_left
    · simp -implicitDefEqProofs [b5_2]
      rfl
    · exact ⟨by simp, by simp, by simp, by simp, by simp, hi_of (by simp), by simp⟩
  | succ f ih =>
    intro i hi
    obtain ⟨fr', l1, l2⟩ := ih (i + 1) (by omega)
    have hil : i < n := by omega
    have hix := idx_at hil
    have hg : (encNs ins)[i]? = some (.int .i64 1) := by
      have := encNs_get (l := ins) (i := i) (by omega)
      rw [h1 i hil] at this
      exact this
    have hw := wrap_succ (n := i) (by unfold big; omega)
    have hinl : (encNs ins).length = n := by simpa using hl
    refine ⟨fr', Lp.step ⟨0, fun N hN => ?_⟩ l1, l2⟩
    clear l1 l2 ih
    simp -implicitDefEqProofs [b5_2, ↓hg, hix, hil, hw, hinl]
set_option maxHeartbeats 2000000 in
theorem sccMade_ans (bs : List UInt8) (n a b : UInt8) (nb : Bool) : Ans ctx 5 [encR 1 nb (ofBytes bs), .int .u8 n.toNat, .int .u8 a.toNat, .int .u8 b.toNat] (.bool true) := by
  obtain ⟨Gr, hO, km, hm⟩ := make_ans bs nb n
  obtain ⟨K, hK⟩ : ∃ K, K = n.toNat % 16 := ⟨_, rfl⟩
  rw [← hK] at hO
  have hK16 : K < 16 := by omega
  have hgl : (toI Gr).length = K := by rw [toI_length]; exact hO.1
  have hgr : ∀ q ∈ toI Gr, q.2.length ≤ 2 ^ 30 := fun q hq => by
    obtain ⟨l, hl, rfl⟩ := List.mem_map.1 hq
    have := (hO.2 l hl).1
    simp; omega
  obtain ⟨G, g1, g2, ko, hof⟩ := of_ans (toI Gr) false (by omega) hgr
  obtain ⟨G', g1', g2', kg, hgs⟩ := groups_ans (toI Gr) false (by omega) (fun q hq => by have := hgr q hq; unfold big; omega)
  have e : G' = G := Grp.only g1' g1 g2' g2
  subst e
  rw [hgl] at g1
  have hGl := Grp.len_le g1 g2
  obtain ⟨ks, hss⟩ := same_U G' G' true true (by unfold big; omega) (fun l hl => by have := hGl.2 l hl; unfold big; omega)
  obtain ⟨kr, hr⟩ := reach_ans (toI Gr) false (by omega) hgr (a.toNat : Int) (b.toNat : Int)
  obtain ⟨kq, hq⟩ := rreach_ans (toI Gr) false (by omega) (fun q hq => by have := hgr q hq; unfold big; omega) (a.toNat : Int) (b.toNat : Int)
  obtain ⟨ka, ha⟩ := awake14_ans
  rw [encR_false, ← encU_toI] at hof hgs hr hq
  have hRl : (encU Gr).length = K := by rw [encU_length]; exact hO.1
  obtain ⟨fr1, ins, a1, a2, a3, a4, a5, a6, a7, a8, a9, a10⟩ := lp5_1 (.int .u8 a.toNat) (.int .u8 b.toNat) (encU Gr) K hRl (by omega) G' _ g1 g2 G'.length 0 (List.replicate K 0) (-1) (by omega) (by simp) (fun x hx => .inr ⟨getD_rep _ _ _, by simp⟩) (fun l _ => by omega)
  obtain ⟨fr2, b1, b2, b3, b4, b5, b6, b7, b8⟩ := lp5_2 (.int .u8 a.toNat) (.int .u8 b.toNat) (encU Gr) K (by omega) (encR 1 true (encU G')) ins a2 a3 K 0 (by omega)
  obtain ⟨k1, hk1⟩ := a1.den
  obtain ⟨k2, hk2⟩ := b1.den
  have e0 : encNs (List.replicate K 0) = List.replicate K (.int .i64 0) := by simp [encNs]
  rw [e0] at hk1
  have hal : (a.toNat : Nat) < 256 := a.toNat_lt
  have hbl : (b.toNat : Nat) < 256 := b.toNat_lt
  refine Ans.of (σ' := [.arr false 1 (encNs ins)]) fn5_ (by simp [AV.noRefs, AV.noRef]) (by simp) ⟨km + ko + kg + ks + kr + kq + ka + k1 + k2, fun N hN => ?_⟩
  have hm := hm N (by omega)
  have hof := hof N (by omega)
  have hgs := hgs N (by omega)
  have hss := hss N (by omega)
  have hr := hr N (by omega)
  have hq := hq N (by omega)
  have ha := ha N (by omega)
  have hk1 := hk1 N (by omega)
  have hk2 := hk2 N (by omega)
  simp only [Int.cast_ofNat_Int] at hk1 hk2
  have hss' : ∀ σ, acall ctx N 16 [encR 1 true (encU G'), encR 1 true (encU G')] σ = some (.bool true, σ) := fun σ => by rw [hss σ]; simp
  have hwa : IntKind.i64.wrap (a.toNat : Int) = (a.toNat : Int) := wrap_i64 (by omega)
  have hwb : IntKind.i64.wrap (b.toNat : Int) = (b.toNat : Int) := wrap_i64 (by omega)
  have hbg : K * 8 ≤ 35184372088832 ∧ K ≤ 35184372088832 := by omega
  have hf1 := fitAll_replicate ⟨.int .i64, 1, 8, .int .i64 0, [.int .i64]⟩ (.int .i64 0) rfl K
  have hGr : Gr.length = K := hO.1
  have j126 := b7 126 (by omega)
  have j127 := b7 127 (by omega)
  have j128 := b7 128 (by omega)
  have j129 := b7 129 (by omega)
  have j130 := b7 130 (by omega)
  have j131 := b7 131 (by omega)
  have j132 := b7 132 (by omega)
  have j133 := b7 133 (by omega)
  have j134 := b7 134 (by omega)
  have j135 := b7 135 (by omega)
  have j136 := b7 136 (by omega)
  have j137 := b7 137 (by omega)
  have j138 := b7 138 (by omega)
  have j139 := b7 139 (by omega)
  have j140 := b7 140 (by omega)
  have j141 := b7 141 (by omega)
  have j142 := b7 142 (by omega)
  have j143 := b7 143 (by omega)
  have j144 := b7 144 (by omega)
  have j145 := b7 145 (by omega)
  have j146 := b7 146 (by omega)
  have j147 := b7 147 (by omega)
  clear a1 b1 g1 g1' g2 g2' hss
  simp -implicitDefEqProofs [i5, c5, hm, hof, hgs, hss', hr, hq, ha, hk1, hk2, hwa, hwb, hbg, hf1, hGr, a4, a5, a6, a7, a8, a9, a10, b2, b3, b4, b5, b6, b8, j126, j127, j128, j129, j130, j131, j132, j133, j134, j135, j136, j137, j138, j139, j140, j141, j142, j143, j144, j145, j146, j147]
end Go.Am.Try
