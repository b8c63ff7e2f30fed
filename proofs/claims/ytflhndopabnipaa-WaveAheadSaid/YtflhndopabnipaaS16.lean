/- SccReach. -/
import Derived.Test.YtflhndopabnipaaS15
set_option linter.unusedVariables false
set_option linter.unusedSimpArgs false
set_option maxRecDepth 100000
namespace Go.Am.Try
open Go Go.Am.Sc
def fills (v : Nat) (o : List Nat) : List Nat → List Nat
  | [] => o
  | y :: l => fills v (o.set y v) l
theorem fills_len (v : Nat) : ∀ (l o : List Nat), (fills v o l).length = o.length
  | [], _ => rfl
  | y :: l, o => by rw [fills, fills_len]; simp
theorem fills_get (v : Nat) : ∀ (l o : List Nat) (x : Nat), (∀ y ∈ l, y < o.length) → (fills v o l).getD x 0 = if x ∈ l then v else o.getD x 0
  | [], o, x, _ => by simp [fills]
  | y :: l, o, x, hl => by
    rw [fills, fills_get v l _ x (fun z hz => by simpa using hl z (by simp [hz])), getD_set _ _ _ _ _ (hl y (by simp))]
    by_cases h1 : x ∈ l
    · rw [if_pos h1, if_pos (by simp [h1])]
    · rw [if_neg h1]
      by_cases e : y = x
      · rw [if_pos e, if_pos (by simp [e])]
      · rw [if_neg e, if_neg (by
          rw [List.mem_cons]
          exact fun h => h.elim (fun k => e k.symm) h1)]
set_option maxHeartbeats 2000000 in
theorem lp6_0 (X12 X13 X14 : AV) (R : List AV) (n : Nat) (hR : R.length = n) (hn : n ≤ 300) (G : List (List Nat)) (i : Nat) (l : List Nat) (hi : G[i]? = some l) (hll : l.length ≤ 300) (hlt : ∀ y ∈ l, y < n) : ∀ (r : List Nat) (k : Nat) (o : List Nat), Tail (encNs l) k (encNs r) → o.length = n →
    ∃ fr', Lp ctx [48] [] [11, 12, 13, 14, 15, 16, 17, 18] b6_0 ⟨[(11, .v (.sl 1 R)), (12, .v X12), (13, .v X13), (14, .v X14), (15, .v (.sl 1 (encU G))), (16, .v (.hs 0 n 0 n 1)), (17, .v (.int .i64 i)), (18, .v (.int .i64 k))], false⟩ [.arr false 1 (encNs o)] (.ex 2) fr' [.arr false 1 (encNs (fills i o r))] ∧ fr'.lk = false ∧ getS fr'.sl 11 = .v (.sl 1 R) ∧ getS fr'.sl 12 = .v X12 ∧ getS fr'.sl 13 = .v X13 ∧ getS fr'.sl 14 = .v X14 ∧ getS fr'.sl 15 = .v (.sl 1 (encU G)) ∧ getS fr'.sl 16 = .v (.hs 0 n 0 n 1) ∧ getS fr'.sl 17 = .v (.int .i64 i) ∧ getS fr'.sl 53 = .u ∧ getS fr'.sl 54 = .u
  | [], k, o, ht, hl => by
    have hlen := ht.nil
    simp only [encNs_length] at hlen
    have hgi := encU_at hi
    have hix := idx_at (List.getElem?_eq_some_iff.1 hi).1
    have hkl : ¬ (k : Int) < (l.length : Int) := by omega
    have e0 : fills i o [] = o := rfl
    rw [e0]
    refine ⟨?_, Lp.exit ⟨0, fun N _ => ?_⟩ (by simp), ?_⟩
    rotate_left
    · simp -implicitDefEqProofs [b6_0, hgi, hix, hkl]
      rfl
    · simp
  | y :: r, k, o, ht, hl => by
    have hlk := tail_get ht
    rw [encNs_cons] at ht
    obtain ⟨a1, a2, a3, a4, a5⟩ := ht.cons
    simp only [encNs_length] at a2 a3
    have hkn : k < l.length := (List.getElem?_eq_some_iff.1 hlk).1
    have hw := wrap_succ (n := k) (by unfold big; omega)
    have hy : y < n := hlt y (List.mem_of_getElem? hlk)
    have hgi := encU_at hi
    have hrow : encR 1 true (encNs l) = .sl 1 (encNs l) := encR_ne (fun e => by
      have := congrArg List.length e
      simp at this
      rw [this] at hkn; simp at hkn)
    rw [hrow] at hgi
    have hix := idx_at (List.getElem?_eq_some_iff.1 hi).1
    have hiy := idx_at hy
    have hset := encNs_set o y i
    have hinl : (encNs o).length = n := by simpa using hl
    have hyn : ¬ n ≤ y := by omega
    have hy0 : ¬ (y : Int) < 0 := by omega
    have hgy := encNs_get (l := o) (i := y) (by omega)
    obtain ⟨fr', l1, l2⟩ := lp6_0 X12 X13 X14 R n hR hn G i l hi hll hlt r (k + 1) (o.set y i) a4 (by simpa using hl)
    have ee : fills i o (y :: r) = fills i (o.set y i) r := rfl
    rw [ee]
    refine ⟨fr', Lp.step ⟨0, fun N hN => ?_⟩ l1, l2⟩
    clear l1 l2
    simp (maxSteps := 4000000) -implicitDefEqProofs [b6_0, hgi, hix, hkn, ↓a1, a3, hw, hiy, hset, hinl, hyn, hy0, hR, ↓hgy]
set_option maxHeartbeats 2000000 in
theorem lp6_1 (X12 X13 X14 : AV) (R : List AV) (n : Nat) (hR : R.length = n) (hn : n ≤ 300) (G : List (List Nat)) (P : Nat → Nat → Prop) (hG : Grp n P G) (ho : G.Pairwise fun l m => hd l < hd m) : ∀ (f i : Nat) (o : List Nat), i + f = G.length → o.length = n → (∀ x j m, j < i → G[j]? = some m → x ∈ m → o.getD x 0 = j) →
    ∃ fr' o', Lp ctx [48] [] [11, 12, 13, 14, 15, 16, 17] b6_1 ⟨[(11, .v (.sl 1 R)), (12, .v X12), (13, .v X13), (14, .v X14), (15, .v (encR 1 true (encU G))), (16, .v (.hs 0 n 0 n 1)), (17, .v (.int .i64 i))], false⟩ [.arr false 1 (encNs o)] (.ex 0) fr' [.arr false 1 (encNs o')] ∧ o'.length = n ∧ (∀ x j m, G[j]? = some m → x ∈ m → o'.getD x 0 = j) ∧ fr'.lk = false ∧ getS fr'.sl 11 = .v (.sl 1 R) ∧ getS fr'.sl 12 = .v X12 ∧ getS fr'.sl 13 = .v X13 ∧ getS fr'.sl 14 = .v X14 ∧ getS fr'.sl 16 = .v (.hs 0 n 0 n 1) ∧ Hi 94 fr' ∧ getS fr'.sl 19 = .u ∧ getS fr'.sl 20 = .u ∧ getS fr'.sl 21 = .u := by
  intro f
  induction f with
  | zero =>
    intro i o hi hl hin
    have e : i = G.length := by omega
    subst e
    refine ⟨?_, o, Lp.exit ⟨0, fun N _ => ?_⟩ (by simp), ?_⟩
    rotate_left
    · simp -implicitDefEqProofs [b6_1]
      rfl
    · exact ⟨hl, fun x j m hj hx => hin x j m (List.getElem?_eq_some_iff.1 hj).1 hj hx, by simp, by simp, by simp, by simp, by simp, by simp, hi_of (by simp), by simp, by simp, by simp⟩
  | succ f ih =>
    intro i o hi hl hin
    obtain ⟨l, hgl⟩ : ∃ l, G[i]? = some l := ⟨_, List.getElem?_eq_getElem (by omega)⟩
    have hmem := List.mem_of_getElem? hgl
    have hGl := Grp.len_le hG ho
    have hll := hGl.2 l hmem
    have hlt := hG.lt l hmem
    have hUne : encU G ≠ [] := fun e => by
      have := congrArg List.length e
      simp at this
      rw [this] at hgl; simp at hgl
    obtain ⟨fr1, a1, b2, b3, b4, b5, b6, b7, b8, b9, b10, b11⟩ := lp6_0 X12 X13 X14 R n hR hn G i l hgl (by omega) hlt l 0 o (Tail.all _) hl
    obtain ⟨kk, hk⟩ := a1.den
    obtain ⟨fr', o', l1, l2⟩ := ih (i + 1) (fills i o l) (by omega) (by rw [fills_len]; exact hl) (fun x j m hj hm hx => by
      rw [fills_get i l o x (fun y hy => by rw [hl]; exact hlt y hy)]
      by_cases hji : j = i
      · subst hji
        rw [hm] at hgl
        rw [if_pos (by rw [← Option.some.inj hgl]; exact hx)]
      · rw [if_neg (fun hxl => Grp.dis hG ho (show j < i by omega) hm hgl hx hxl)]
        exact hin x j m (by omega) hm hx)
    rw [encR_ne hUne] at l1 ⊢
    refine ⟨fr', o', Lp.step ⟨kk, fun N hN => ?_⟩ l1, l2⟩
    have hk := hk N hN
    simp only [Int.cast_ofNat_Int] at hk
    clear l1 l2 ih a1
    have hil : i < G.length := by omega
    have hw := wrap_succ (n := i) (by unfold big; omega)
    simp -implicitDefEqProofs [b6_1, hil, hw, hk, b2, b3, b4, b5, b6, b7, b8, b9, b10, b11]
set_option maxHeartbeats 2000000 in
theorem lp6_2 (Gr : List (List Nat)) (x : Nat) (row : List Nat) (hx : Gr[x]? = some row) (hl : row.length ≤ 300) (X13 X14 X16 X19 X20 : AV) (σ : H) (hR : ∀ y ∈ row, Ans ctx 20 [.sl 1 (encU Gr), .int .i64 x, .int .i64 y] (.bool true)) : ∀ (r : List Nat) (k : Nat), Tail (encNs row) k (encNs r) → (∀ y ∈ r, y ∈ row) →
    ∃ fr', Lp ctx [48] [] [11, 12, 13, 14, 16, 19, 20, 21] b6_2 ⟨[(11, .v (.sl 1 (encU Gr))), (12, .v (.int .i64 x)), (13, .v X13), (14, .v X14), (16, .v X16), (19, .v X19), (20, .v X20), (21, .v (.int .i64 k))], false⟩ σ (.ex 4) fr' σ ∧ fr'.lk = false ∧ getS fr'.sl 11 = .v (.sl 1 (encU Gr)) ∧ getS fr'.sl 12 = .v (.int .i64 x) ∧ getS fr'.sl 13 = .v X13 ∧ getS fr'.sl 14 = .v X14 ∧ getS fr'.sl 16 = .v X16 ∧ getS fr'.sl 19 = .v X19 ∧ getS fr'.sl 20 = .v X20 ∧ Hi 122 fr' ∧ getS fr'.sl 10 = .u
  | [], k, ht, hy => by
    have hlen := ht.nil
    simp only [encNs_length] at hlen
    have hgi := encU_at hx
    have hix := idx_at (List.getElem?_eq_some_iff.1 hx).1
    have hkl : ¬ (k : Int) < (row.length : Int) := by omega
    refine ⟨?_, Lp.exit ⟨0, fun N _ => ?_⟩ (by simp), ?_⟩
    rotate_left
    · simp -implicitDefEqProofs [b6_2, hgi, hix, hkl]
      rfl
    · exact ⟨by simp, by simp, by simp, by simp, by simp, by simp, by simp, by simp, hi_of (by simp), by simp⟩
  | y :: r, k, ht, hy => by
    have hlk := tail_get ht
    rw [encNs_cons] at ht
    obtain ⟨a1, a2, a3, a4, a5⟩ := ht.cons
    simp only [encNs_length] at a2 a3
    have hkn : k < row.length := (List.getElem?_eq_some_iff.1 hlk).1
    have hw := wrap_succ (n := k) (by unfold big; omega)
    have hgi := encU_at hx
    have hrow : encR 1 true (encNs row) = .sl 1 (encNs row) := encR_ne (fun e => by
      have := congrArg List.length e
      simp at this
      rw [this] at hkn; simp at hkn)
    rw [hrow] at hgi
    have hix := idx_at (List.getElem?_eq_some_iff.1 hx).1
    obtain ⟨kk, hk⟩ := hR y (hy y (by simp))
    obtain ⟨fr', l1, l2⟩ := lp6_2 Gr x row hx hl X13 X14 X16 X19 X20 σ hR r (k + 1) a4 (fun z hz => hy z (by simp [hz]))
    refine ⟨fr', Lp.step ⟨kk, fun N hN => ?_⟩ l1, l2⟩
    have hk := hk N hN
    clear l1 l2
    simp -implicitDefEqProofs [b6_2, hgi, hix, hkn, ↓a1, a3, hw, hk]
set_option maxHeartbeats 8000000 in
theorem sccReach_ans (bs : List UInt8) (n a b c : UInt8) (nb : Bool) : Ans ctx 6 [encR 1 nb (ofBytes bs), .int .u8 n.toNat, .int .u8 a.toNat, .int .u8 b.toNat, .int .u8 c.toNat] (.bool true) := by
  obtain ⟨Gr, hO, km, hm⟩ := make_ans bs nb n
  obtain ⟨K, hK⟩ : ∃ K, K = n.toNat % 16 := ⟨_, rfl⟩
  rw [← hK] at hO
  have hK16 : K < 16 := by omega
  have hGr : Gr.length = K := hO.1
  obtain ⟨ka, ha⟩ := awake14_ans
  by_cases h0 : K = 0
  · have hz : Gr = [] := List.length_eq_zero_iff.1 (by omega)
    subst hz
    refine Ans.of (σ' := []) fn6_ (by simp [AV.noRefs, AV.noRef]) (by simp) ⟨km + ka, fun N hN => ?_⟩
    have hm := hm N (by omega)
    have ha := ha N (by omega)
    have e : encU [] = [] := rfl
    rw [e] at hm
    simp -implicitDefEqProofs [i6, c6, hm, ha]
  have hgl : (toI Gr).length = K := by rw [toI_length]; exact hO.1
  have hgr : ∀ q ∈ toI Gr, q.2.length ≤ 2 ^ 30 := fun q hq => by
    obtain ⟨l, hl, rfl⟩ := List.mem_map.1 hq
    have := (hO.2 l hl).1
    simp; omega
  obtain ⟨G, g1, g2, ko, hof⟩ := of_ans (toI Gr) false (by omega) hgr
  rw [hgl] at g1
  have hGl := Grp.len_le g1 g2
  rw [encR_false, ← encU_toI] at hof
  obtain ⟨E, hE⟩ : ∃ E, E = Ed (outG (toI Gr)) := ⟨_, rfl⟩
  rw [← hE] at g1
  have reach : ∀ i j : Int, Ans ctx 20 [.sl 1 (encU Gr), .int .i64 i, .int .i64 j] (.bool (rchB (toI Gr) i j)) := fun i j => by
    have := reach_ans (toI Gr) false (by omega) hgr i j
    rw [encR_false, ← encU_toI] at this
    exact this
  have rin : ∀ i j : Nat, i < K → j < K → (rchB (toI Gr) (i : Int) (j : Int) = true ↔ Rch E i j) := fun i j hi hj => by
    rw [rchB_iff, hE]
    simp only [Int.toNat_natCast]
    exact ⟨fun h => h.2.2.2.2, fun h => ⟨by omega, by omega, by omega, by omega, h⟩⟩
  obtain ⟨x, hx⟩ : ∃ x, x = a.toNat % K := ⟨_, rfl⟩
  obtain ⟨y, hy⟩ : ∃ y, y = b.toNat % K := ⟨_, rfl⟩
  obtain ⟨z, hz⟩ : ∃ z, z = c.toNat % K := ⟨_, rfl⟩
  have hxK : x < K := by rw [hx]; exact Nat.mod_lt _ (by omega)
  have hyK : y < K := by rw [hy]; exact Nat.mod_lt _ (by omega)
  have hzK : z < K := by rw [hz]; exact Nat.mod_lt _ (by omega)
  have hal : (a.toNat : Nat) < 256 := a.toNat_lt
  have hbl : (b.toNat : Nat) < 256 := b.toNat_lt
  have hcl : (c.toNat : Nat) < 256 := c.toNat_lt
  have hmx : Int.tmod (a.toNat : Int) (K : Int) = (x : Int) := by rw [tmod_nat, ← hx]
  have hmy : Int.tmod (b.toNat : Int) (K : Int) = (y : Int) := by rw [tmod_nat, ← hy]
  have hmz : Int.tmod (c.toNat : Int) (K : Int) = (z : Int) := by rw [tmod_nat, ← hz]
  obtain ⟨XY, hXY⟩ : ∃ v, v = rchB (toI Gr) (x : Int) (y : Int) := ⟨_, rfl⟩
  obtain ⟨YX, hYX⟩ : ∃ v, v = rchB (toI Gr) (y : Int) (x : Int) := ⟨_, rfl⟩
  obtain ⟨YZ, hYZ⟩ : ∃ v, v = rchB (toI Gr) (y : Int) (z : Int) := ⟨_, rfl⟩
  obtain ⟨XZ, hXZ⟩ : ∃ v, v = rchB (toI Gr) (x : Int) (z : Int) := ⟨_, rfl⟩
  have rXY := rin x y hxK hyK
  have rYX := rin y x hyK hxK
  have rYZ := rin y z hyK hzK
  have rXZ := rin x z hxK hzK
  rw [← hXY] at rXY
  rw [← hYX] at rYX
  rw [← hYZ] at rYZ
  rw [← hXZ] at rXZ
  have htr : XY = true → YZ = true → XZ = true := fun h1 h2 => rXZ.2 ((rXY.1 h1).trans (rYZ.1 h2))
  have hXX : rchB (toI Gr) (x : Int) (x : Int) = true := (rin x x hxK hxK).2 (.refl _)
  have hXn : rchB (toI Gr) (x : Int) (K : Int) = false := rchB_no fun h => by omega
  have hNx : rchB (toI Gr) (-1 : Int) (x : Int) = false := rchB_no fun h => by omega
  have hRl : (encU Gr).length = K := by rw [encU_length]; exact hGr
  obtain ⟨row, hrow⟩ : ∃ row, Gr[x]? = some row := ⟨_, List.getElem?_eq_getElem (by omega)⟩
  have hrm := hO.2 row (List.mem_of_getElem? hrow)
  obtain ⟨fr1, o, a1, a2, a3, a4, a5, a6, a7, a8, a9, a10, a11, a12, a13⟩ := lp6_1 (.int .i64 x) (.int .i64 y) (.int .i64 z) (encU Gr) K hRl (by omega) G _ g1 g2 G.length 0 (List.replicate K 0) (by omega) (by simp) (fun x j m hj => by omega)
  obtain ⟨k1, hk1⟩ := a1.den
  obtain ⟨fr2, b1, b2, b3, b4, b5, b6, b7, b8, b9, b10, b11⟩ := lp6_2 Gr x row hrow (by omega) (.int .i64 y) (.int .i64 z) (.hs 0 K 0 K 1) (.bool XY) (.bool YX) [.arr false 1 (encNs o)] (fun e he => by
    have := reach (x : Int) (e : Int)
    rw [(rin x e hxK (hrm.2 e he)).2 (.one (by
      rw [hE]
      unfold Ed
      have hq : (toI Gr)[x]? = some (true, row.map fun (n : Nat) => (n : Int)) := by unfold toI; rw [List.getElem?_map, hrow]; rfl
      rw [outs_at hq, hgl, cl_mem]
      exact ⟨hrm.2 e he, List.mem_map.2 ⟨e, he, rfl⟩⟩))] at this
    exact this) row 0 (Tail.all _) (fun _ h => h)
  obtain ⟨k2, hk2⟩ := b1.den
  have e0 : encNs (List.replicate K 0) = List.replicate K (.int .i64 0) := by simp [encNs]
  rw [e0] at hk1
  -- where two stand
  obtain ⟨lx, hlx, hxm⟩ := g1.all x hxK
  obtain ⟨ly, hly, hym⟩ := g1.all y hyK
  obtain ⟨jx, hjx⟩ := List.getElem?_of_mem hlx
  obtain ⟨jy, hjy⟩ := List.getElem?_of_mem hly
  have ox := a3 x jx lx hjx hxm
  have oy := a3 y jy ly hjy hym
  have hox : (encNs o)[x]? = some (.int .i64 (jx : Int)) := by
    have := encNs_get (l := o) (i := x) (by omega)
    rw [ox] at this; exact this
  have hoy : (encNs o)[y]? = some (.int .i64 (jy : Int)) := by
    have := encNs_get (l := o) (i := y) (by omega)
    rw [oy] at this; exact this
  have heq : ((jx : Int) == (jy : Int)) = (XY && YX) := by
    rw [Bool.eq_iff_iff, Bool.and_eq_true, rXY, rYX]
    simp only [beq_iff_eq]
    constructor
    · intro h
      have h' : jx = jy := by omega
      subst h'
      rw [hjx] at hjy
      have e := Option.some.inj hjy
      subst e
      exact (g1.one lx hlx x hxm y).1 hym
    · intro h
      have h1 := (g1.one lx hlx x hxm y).2 h
      rcases Nat.lt_trichotomy jx jy with h2 | h2 | h2
      · exact absurd hym (Grp.dis g1 g2 h2 hjx hjy h1)
      · omega
      · exact absurd h1 (Grp.dis g1 g2 h2 hjy hjx hym)
  obtain ⟨q1, r1⟩ := reach (x : Int) (y : Int)
  obtain ⟨q2, r2⟩ := reach (y : Int) (x : Int)
  obtain ⟨q3, r3⟩ := reach (y : Int) (z : Int)
  obtain ⟨q4, r4⟩ := reach (x : Int) (z : Int)
  obtain ⟨q5, r5⟩ := reach (x : Int) (x : Int)
  obtain ⟨q6, r6⟩ := reach (x : Int) (K : Int)
  obtain ⟨q7, r7⟩ := reach (-1 : Int) (x : Int)
  rw [← hXY] at r1
  rw [← hYX] at r2
  rw [← hYZ] at r3
  rw [← hXZ] at r4
  rw [hXX] at r5
  rw [hXn] at r6
  rw [hNx] at r7
  refine Ans.of (σ' := [.arr false 1 (encNs o)]) fn6_ (by simp [AV.noRefs, AV.noRef]) (by simp) ⟨km + ko + ka + k1 + k2 + q1 + q2 + q3 + q4 + q5 + q6 + q7, fun N hN => ?_⟩
  have hm := hm N (by omega)
  have hof := hof N (by omega)
  have ha := ha N (by omega)
  have hk1 := hk1 N (by omega)
  have hk2 := hk2 N (by omega)
  have r1 := r1 N (by omega)
  have r2 := r2 N (by omega)
  have r3 := r3 N (by omega)
  have r4 := r4 N (by omega)
  have r5 := r5 N (by omega)
  have r6 := r6 N (by omega)
  have r7 := r7 N (by omega)
  simp only [Int.cast_ofNat_Int] at hk1 hk2
  have hwa : IntKind.i64.wrap (a.toNat : Int) = (a.toNat : Int) := wrap_i64 (by omega)
  have hwb : IntKind.i64.wrap (b.toNat : Int) = (b.toNat : Int) := wrap_i64 (by omega)
  have hwc : IntKind.i64.wrap (c.toNat : Int) = (c.toNat : Int) := wrap_i64 (by omega)
  have hbg : K * 8 ≤ 35184372088832 ∧ K ≤ 35184372088832 := by omega
  have hf1 := fitAll_replicate ⟨.int .i64, 1, 8, .int .i64 0, [.int .i64]⟩ (.int .i64 0) rfl K
  have hK0 : ((K : Int) == 0) = false := by rw [beq_eq_false_iff_ne]; omega
  have hol : (encNs o).length = K := by simpa using a2
  have hix := idx_at hxK
  have hiy := idx_at hyK
  have j94 := a10 94 (by omega)
  have j95 := a10 95 (by omega)
  have j96 := a10 96 (by omega)
  have j97 := a10 97 (by omega)
  have j98 := a10 98 (by omega)
  have j99 := a10 99 (by omega)
  have j100 := a10 100 (by omega)
  have j101 := a10 101 (by omega)
  have j122 := b10 122 (by omega)
  have j123 := b10 123 (by omega)
  have j124 := b10 124 (by omega)
  have j125 := b10 125 (by omega)
  have j126 := b10 126 (by omega)
  have j127 := b10 127 (by omega)
  have j128 := b10 128 (by omega)
  have j129 := b10 129 (by omega)
  have j130 := b10 130 (by omega)
  have j131 := b10 131 (by omega)
  have j132 := b10 132 (by omega)
  have j133 := b10 133 (by omega)
  have j134 := b10 134 (by omega)
  have j135 := b10 135 (by omega)
  have j136 := b10 136 (by omega)
  have j137 := b10 137 (by omega)
  have j138 := b10 138 (by omega)
  have j139 := b10 139 (by omega)
  have j140 := b10 140 (by omega)
  have j141 := b10 141 (by omega)
  have j142 := b10 142 (by omega)
  have j143 := b10 143 (by omega)
  have j144 := b10 144 (by omega)
  have j145 := b10 145 (by omega)
  have j146 := b10 146 (by omega)
  have j147 := b10 147 (by omega)
  have j148 := b10 148 (by omega)
  have j149 := b10 149 (by omega)
  have j150 := b10 150 (by omega)
  have j151 := b10 151 (by omega)
  have j152 := b10 152 (by omega)
  have j153 := b10 153 (by omega)
  have j154 := b10 154 (by omega)
  have j155 := b10 155 (by omega)
  have j156 := b10 156 (by omega)
  have j157 := b10 157 (by omega)
  have j158 := b10 158 (by omega)
  have j159 := b10 159 (by omega)
  have j160 := b10 160 (by omega)
  have j161 := b10 161 (by omega)
  have j162 := b10 162 (by omega)
  have j163 := b10 163 (by omega)
  have j164 := b10 164 (by omega)
  have j165 := b10 165 (by omega)
  have j166 := b10 166 (by omega)
  have j167 := b10 167 (by omega)
  have j168 := b10 168 (by omega)
  have j169 := b10 169 (by omega)
  have j170 := b10 170 (by omega)
  have j171 := b10 171 (by omega)
  have j172 := b10 172 (by omega)
  have j173 := b10 173 (by omega)
  have j174 := b10 174 (by omega)
  have j175 := b10 175 (by omega)
  clear a1 b1 g1 g2 a3 reach rin rXY rYX rYZ rXZ
  have heqN : (jx == jy) = (XY && YX) := by
    rw [← heq, Bool.eq_iff_iff]
    simp only [beq_iff_eq]
    omega
  cases XY
  · rw [Bool.false_and] at heq heqN
    simp (maxSteps := 8000000) -implicitDefEqProofs [i6, c6, d6_0, d6_4, hm, hof, ha, hk1, hk2, r1, r2, r3, r4, r5, r6, r7, hmx, hmy, hmz, hwa, hwb, hwc, hbg, hf1, hK0, h0, hGr, a4, a5, a6, a7, a8, a9, a11, a12, a13, b2, b3, b4, b5, b6, b7, b8, b9, b11, j94, j95, j96, j97, j98, j99, j100, j101, j122, j123, j124, j125, j126, j127, j128, j129, j130, j131, j132, j133, j134, j135, j136, j137, j138, j139, j140, j141, j142, j143, j144, j145, j146, j147, j148, j149, j150, j151, j152, j153, j154, j155, j156, j157, j158, j159, j160, j161, j162, j163, j164, j165, j166, j167, j168, j169, j170, j171, j172, j173, j174, j175, ↓hox, ↓hoy, hol, hix, hiy, heq, heqN]
  · rw [Bool.true_and] at heq heqN
    cases YZ
    · simp (maxSteps := 8000000) -implicitDefEqProofs [i6, c6, d6_0, d6_4, hm, hof, ha, hk1, hk2, r1, r2, r3, r4, r5, r6, r7, hmx, hmy, hmz, hwa, hwb, hwc, hbg, hf1, hK0, h0, hGr, a4, a5, a6, a7, a8, a9, a11, a12, a13, b2, b3, b4, b5, b6, b7, b8, b9, b11, j94, j95, j96, j97, j98, j99, j100, j101, j122, j123, j124, j125, j126, j127, j128, j129, j130, j131, j132, j133, j134, j135, j136, j137, j138, j139, j140, j141, j142, j143, j144, j145, j146, j147, j148, j149, j150, j151, j152, j153, j154, j155, j156, j157, j158, j159, j160, j161, j162, j163, j164, j165, j166, j167, j168, j169, j170, j171, j172, j173, j174, j175, ↓hox, ↓hoy, hol, hix, hiy, heq, heqN]
    · have hXZ1 : XZ = true := htr rfl rfl
      rw [hXZ1] at r4
      simp (maxSteps := 8000000) -implicitDefEqProofs [i6, c6, d6_0, d6_4, hm, hof, ha, hk1, hk2, r1, r2, r3, r4, r5, r6, r7, hmx, hmy, hmz, hwa, hwb, hwc, hbg, hf1, hK0, h0, hGr, a4, a5, a6, a7, a8, a9, a11, a12, a13, b2, b3, b4, b5, b6, b7, b8, b9, b11, j94, j95, j96, j97, j98, j99, j100, j101, j122, j123, j124, j125, j126, j127, j128, j129, j130, j131, j132, j133, j134, j135, j136, j137, j138, j139, j140, j141, j142, j143, j144, j145, j146, j147, j148, j149, j150, j151, j152, j153, j154, j155, j156, j157, j158, j159, j160, j161, j162, j163, j164, j165, j166, j167, j168, j169, j170, j171, j172, j173, j174, j175, ↓hox, ↓hoy, hol, hix, hiy, heq, heqN]
end Go.Am.Try
