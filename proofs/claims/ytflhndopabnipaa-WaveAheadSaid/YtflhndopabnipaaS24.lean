/- wave.Levels: the levels of groups. -/
import Derived.Test.YtflhndopabnipaaS23
set_option linter.unusedVariables false
set_option linter.unusedSimpArgs false
set_option maxRecDepth 100000
namespace Go.Am.Try
open Go Go.Am.Sc
set_option maxHeartbeats 4000000 in
theorem lp22_0 (U : List AV) (K : Nat) (hK : K ≤ 2 ^ 30) (M : Nat) (hM : M ≤ 2 ^ 40) (x i : Nat) (row : List Nat) (hrl : row.length ≤ 2 ^ 30) (lev : List Nat) (known : List Bool) (hlv : lev.length = K) (hkn : known.length = K) (hval : ∀ y, lev.getD y 0 < M) (hrow : ∀ y ∈ row, y < K) (q : Nat) (hq2 : 2 ≤ q) : ∀ (r : List Nat) (j n : Nat) (rd : Bool) (st : List Nat) (zs : List AV) (σ : H), Tail (encNs row) j (encNs r) → σ[0]? = some (.arr false 1 (encNs lev)) → σ[1]? = some (.arr false 1 (encBo known)) → σ[q]? = some (.arr false 1 zs) → zs.take st.length = encNs st.reverse → st.length ≤ zs.length → (Sc.look lev known r n rd st).2.2.length ≤ M →
    ∃ fr' zs' σ', Lp ctx [17, 20, 27, 54] [] [3, 4, 5, 7, 8, 9, 10, 22, 23, 40, 41, 42] b22_0 ⟨[(3, .v (.sl 1 U)), (4, .v (.hs 0 K 0 K 1)), (5, .v (.hs 1 K 0 K 1)), (7, .v (.hs q zs.length 0 st.length 1)), (8, .v (.int .i64 x)), (9, .v (.int .i64 n)), (10, .v (.bool rd)), (22, .v (.int .i64 K)), (23, .v (.int .i64 i)), (40, .v (encR 1 true (encNs row))), (41, .v (.int .i64 row.length)), (42, .v (.int .i64 j))], false⟩ σ
      (.ex 4) fr' σ' ∧ (∀ j, j ≠ q → σ'[j]? = σ[j]?) ∧ σ'.length = σ.length ∧ σ'[q]? = some (.arr false 1 zs') ∧ zs'.take (Sc.look lev known r n rd st).2.2.length = encNs (Sc.look lev known r n rd st).2.2.reverse ∧ (Sc.look lev known r n rd st).2.2.length ≤ zs'.length ∧
      fr'.lk = false ∧ getS fr'.sl 3 = .v (.sl 1 U) ∧ getS fr'.sl 4 = .v (.hs 0 K 0 K 1) ∧ getS fr'.sl 5 = .v (.hs 1 K 0 K 1) ∧ getS fr'.sl 7 = .v (.hs q zs'.length 0 (Sc.look lev known r n rd st).2.2.length 1) ∧ getS fr'.sl 8 = .v (.int .i64 x) ∧ getS fr'.sl 9 = .v (.int .i64 (Sc.look lev known r n rd st).1) ∧ getS fr'.sl 10 = .v (.bool (Sc.look lev known r n rd st).2.1) ∧ getS fr'.sl 22 = .v (.int .i64 K) ∧ getS fr'.sl 23 = .v (.int .i64 i) ∧ Hi 63 fr'
  | [], j, n, rd, st, zs, σ, ht, h0, h1, hq, hz, hl, hb => by
    have hlen := ht.nil
    simp only [encNs_length] at hlen
    refine ⟨?_, zs, σ, Lp.exit ⟨0, fun N _ => ?_⟩ (by simp), ?_⟩
    rotate_left
    · simp -implicitDefEqProofs [b22_0, hlen]
      rfl
    · exact ⟨by simp, by simp, hq, by simpa [Sc.look] using hz, by simpa [Sc.look] using hl, by simp, by simp, by simp, by simp, by simp [Sc.look], by simp, by simp [Sc.look], by simp [Sc.look], by simp, by simp, hi_of (by simp)⟩
  | y :: r, j, n, rd, st, zs, σ, ht, h0, h1, hq, hz, hl, hb => by
    have hlk := tail_get ht
    rw [encNs_cons] at ht
    obtain ⟨a1, a2, a3, a4, a5⟩ := ht.cons
    simp only [encNs_length] at a2 a3
    have hjl : j < row.length := (List.getElem?_eq_some_iff.1 hlk).1
    have hw := wrap_succ (n := j) (by unfold big; omega)
    have hyK : y < K := hrow y (List.mem_of_getElem? hlk)
    have hiy := idx_at hyK
    have hR := a5 1 true
    have hVM := hval y
    obtain ⟨V, hV⟩ : ∃ V, V = lev.getD y 0 := ⟨_, rfl⟩
    rw [← hV] at hVM
    obtain ⟨W, hW⟩ : ∃ W, W = V + 1 := ⟨_, rfl⟩
    have hwV : IntKind.i64.wrap ((V : Int) + 1) = (W : Int) := by rw [wrap_i64 (by omega)]; omega
    have hly : (encNs lev)[y]? = some (.int .i64 (V : Int)) := by rw [hV]; exact encNs_get (by omega)
    have hky := encBo_get (l := known) (i := y) (by omega)
    have hll : (encNs lev).length = K := by simpa using hlv
    have hkl : (encBo known).length = K := by simpa using hkn
    cases hb1 : known.getD y false with
    | true =>
      rw [hb1] at hky
      have em : Sc.look lev known (y :: r) n rd st = Sc.look lev known r (max n W) rd st := by rw [Sc.look, if_pos hb1, hW, hV]
      rw [em] at hb ⊢
      have ih := lp22_0 U K hK M hM x i row hrl lev known hlv hkn hval hrow q hq2 r (j + 1) (max n W) rd st zs σ a4 h0 h1 hq hz hl hb
      rw [hR] at ih ⊢
      obtain ⟨fr', zs', σ', l1, l2⟩ := ih
      refine ⟨fr', zs', σ', Lp.step ⟨0, fun N hN => ?_⟩ l1, l2⟩
      clear l1 l2
      by_cases hgt : n < W
      · have e : max n W = W := Nat.max_eq_right (by omega)
        rw [e]
        simp -implicitDefEqProofs [b22_0, hjl, ↓a1, a3, hw, hiy, h0, h1, ↓hly, ↓hky, hll, hkl, hwV, hgt]
      · have e : max n W = n := Nat.max_eq_left (by omega)
        have hgt' : ¬ n < W := hgt
        rw [e]
        simp -implicitDefEqProofs [b22_0, hjl, ↓a1, a3, hw, hiy, h0, h1, ↓hly, ↓hky, hll, hkl, hwV, hgt]
    | false =>
      rw [hb1] at hky
      have em : Sc.look lev known (y :: r) n rd st = Sc.look lev known r (max n W) false (y :: st) := by rw [Sc.look, if_neg (by rw [hb1]; simp), hW, hV]
      rw [em] at hb ⊢
      have hst : st.length + 1 ≤ M := by
        rw [look_st] at hb
        have := (unk_len known r (y :: st)).1
        simp at this
        omega
      have hsl : (encNs st.reverse).length = st.length := by simp
      obtain ⟨zs1, p1, p2, p3⟩ := push_at tiI σ q zs (encNs st.reverse) (.int .i64 (y : Int)) hq (by simp [tiI]) (by rw [hsl]; exact hz) (by rw [hsl]; exact hl) (by rw [hsl]; simp [tiI]; omega) (by rw [hsl]; omega)
      rw [hsl] at p1 p2 p3
      unfold tiI at p1
      simp only at p1
      have hql : q < σ.length := (List.getElem?_eq_some_iff.1 hq).1
      obtain ⟨σ1, hσ1⟩ : ∃ σ1, σ1 = σ.set q (.arr false tiI.size zs1) := ⟨_, rfl⟩
      have s0 : σ1[0]? = some (.arr false 1 (encNs lev)) := by rw [hσ1, List.getElem?_set_ne (by omega)]; exact h0
      have s1 : σ1[1]? = some (.arr false 1 (encBo known)) := by rw [hσ1, List.getElem?_set_ne (by omega)]; exact h1
      have sq : σ1[q]? = some (.arr false 1 zs1) := by rw [hσ1, List.getElem?_set_self hql]; rfl
      have ih := lp22_0 U K hK M hM x i row hrl lev known hlv hkn hval hrow q hq2 r (j + 1) (max n W) false (y :: st) zs1 σ1 a4 s0 s1 sq (by
        rw [List.length_cons, List.reverse_cons, encNs_app, p2]; rfl) (by simpa using p3) hb
      have p1 : appendH ⟨.int .i64, 1, 8, .int .i64 0, [.int .i64]⟩ (.hs q zs.length 0 st.length 1) [.int .i64 (y : Int)] σ = some (.hs q zs1.length 0 (st.length + 1) 1, σ1) := by rw [hσ1]; exact p1
      rw [hR] at ih ⊢
      obtain ⟨fr', zs', σ', l1, l2, l3, l4⟩ := ih
      simp only [List.length_cons] at l1
      refine ⟨fr', zs', σ', Lp.step ⟨0, fun N hN => ?_⟩ l1, fun j hj => by rw [l2 j hj, hσ1, List.getElem?_set_ne (Ne.symm hj)], by rw [l3, hσ1]; simp, l4⟩
      clear l1 l2 l3 l4 hσ1
      by_cases hgt : n < W
      · have e : max n W = W := Nat.max_eq_right (by omega)
        rw [e]
        simp -implicitDefEqProofs [b22_0, hjl, ↓a1, a3, hw, hiy, h0, h1, s0, ↓hly, ↓hky, hll, hkl, hwV, hgt, p1, -appendH]
      · have e : max n W = n := Nat.max_eq_left (by omega)
        rw [e]
        simp -implicitDefEqProofs [b22_0, hjl, ↓a1, a3, hw, hiy, h0, h1, s0, ↓hly, ↓hky, hll, hkl, hwV, hgt, p1, -appendH]
structure LH (K q : Nat) (s : List Nat × List Bool) (st : List Nat) (zs : List AV) (σ : H) : Prop where
  lev : σ[0]? = some (.arr false 1 (encNs s.1))
  kn : σ[1]? = some (.arr false 1 (encBo s.2))
  ob : σ[q]? = some (.arr false 1 zs)
  tk : zs.take st.length = encNs st.reverse
  le : st.length ≤ zs.length
  l1 : s.1.length = K
  l2 : s.2.length = K
set_option maxHeartbeats 4000000 in
theorem lp22_1 (L : List (List Nat)) (K : Nat) (hLK : L.length = K) (hK : K ≤ 2 ^ 30) (hL : ∀ l ∈ L, l.length ≤ 2 ^ 30 ∧ ∀ y ∈ l, y < K) (M : Nat) (hM : M ≤ 2 ^ 40) (i q : Nat) (hq2 : 2 ≤ q) {st : List Nat} {s s' : List Nat × List Bool} (h : Lvs L M st s s') : ∀ (zs : List AV) (σ : H), LH K q s st zs σ →
    ∃ fr' zs' σ', Lp ctx [17, 20, 27, 54] [] [3, 4, 5, 7, 22, 23] b22_1 ⟨[(3, .v (.sl 1 (encU L))), (4, .v (.hs 0 K 0 K 1)), (5, .v (.hs 1 K 0 K 1)), (7, .v (.hs q zs.length 0 st.length 1)), (22, .v (.int .i64 K)), (23, .v (.int .i64 i))], false⟩ σ
      (.ex 2) fr' σ' ∧ LH K q s' [] zs' σ' ∧ σ'.length = σ.length ∧ fr'.lk = false ∧ getS fr'.sl 3 = .v (.sl 1 (encU L)) ∧ getS fr'.sl 4 = .v (.hs 0 K 0 K 1) ∧ getS fr'.sl 5 = .v (.hs 1 K 0 K 1) ∧ getS fr'.sl 22 = .v (.int .i64 K) ∧ getS fr'.sl 23 = .v (.int .i64 i) ∧ getS fr'.sl 76 = .u := by
  induction h with
  | done s =>
    intro zs σ hH
    refine ⟨?_, zs, σ, Lp.exit ⟨0, fun N _ => ?_⟩ (by simp), ?_⟩
    rotate_left
    · simp -implicitDefEqProofs [b22_1]
      rfl
    · exact ⟨hH, rfl, by simp, by simp, by simp, by simp, by simp, by simp, by simp⟩
  | @ready x st s s' hx hst hv hr hs ih =>
    intro zs σ hH
    obtain ⟨h0, h1, hq, hz, hl, l1, l2⟩ := hH
    obtain ⟨t1, t2⟩ := top_of hz
    have hxL := outs_at' hx
    have hrow := hL _ (List.mem_of_getElem? hxL)
    have hlook := look_st s.1 s.2 (outs L x) 0 true (x :: st)
    have hun : unk s.2 (outs L x) (x :: st) = x :: st := by
      obtain ⟨pre, e, hp⟩ := unk_app s.2 (outs L x) (x :: st)
      have hr' := (look_ready _ _ _ _ _).1 hr
      have : ∀ (l st : List Nat), (∀ y ∈ l, s.2.getD y false = true) → unk s.2 l st = st := fun l => by
        induction l with
        | nil => exact fun _ _ => rfl
        | cons y l ih => exact fun st h => by rw [unk, if_pos (h y (by simp))]; exact ih st fun z hz => h z (by simp [hz])
      exact this _ _ hr'
    rw [hun] at hlook
    obtain ⟨fr1, zs1, σ1, a1, a2, a3, a4, a5, a6, a7, a8, a9, a10, a11, a12, a13, a14, a15, a16, a17⟩ := lp22_0 (encU L) K hK M hM x i (outs L x) hrow.1 s.1 s.2 l1 l2 hv hrow.2 q hq2 (outs L x) 0 0 true (x :: st) zs σ (Tail.all _) h0 h1 hq hz hl (by rw [hlook]; simpa using hst)
    obtain ⟨k1, hk1⟩ := a1.den
    rw [hlook] at a5 a6 a11
    rw [hr] at a14
    obtain ⟨V, hV⟩ : ∃ V, V = (Sc.look s.1 s.2 (outs L x) 0 true (x :: st)).1 := ⟨_, rfl⟩
    rw [← hV] at a13 ih
    have hq1 := a4
    obtain ⟨t3, t4⟩ := top_of a5
    have h01 : σ1[0]? = some (.arr false 1 (encNs s.1)) := by rw [a2 0 (by omega)]; exact h0
    have h11 : σ1[1]? = some (.arr false 1 (encBo s.2)) := by rw [a2 1 (by omega)]; exact h1
    have hl0 : 0 < σ1.length := (List.getElem?_eq_some_iff.1 h01).1
    have hl1 : 1 < σ1.length := (List.getElem?_eq_some_iff.1 h11).1
    obtain ⟨σ2, hσ2⟩ : ∃ σ2, σ2 = (σ1.set 0 (.arr false 1 (encNs (s.1.set x V)))).set 1 (.arr false 1 (encBo (s.2.set x true))) := ⟨_, rfl⟩
    have hqq : σ2[q]? = some (.arr false 1 zs1) := by rw [hσ2, List.getElem?_set_ne (by omega), List.getElem?_set_ne (by omega)]; exact hq1
    obtain ⟨fr', zs', σ', b1, b2, b3, b4⟩ := ih zs1 σ2 ⟨by rw [hσ2, List.getElem?_set_ne (by omega), List.getElem?_set_self hl0], by rw [hσ2, List.getElem?_set_self (by simpa using hl1)], hqq, t4, by simp at a6; omega, by simpa using l1, by simpa using l2⟩
    refine ⟨fr', zs', σ', Lp.step ⟨k1, fun N hN => ?_⟩ b1, b2, by rw [b3, hσ2]; simp [a3], b4⟩
    have hk1 := hk1 N hN
    simp only [Int.cast_ofNat_Int] at hk1
    have hxK : x < K := by omega
    have hix := idx_at hxK
    have hUl : (encU L).length = K := by rw [encU_length]; exact hLK
    have hUx := encU_at hxL
    have hw : IntKind.i64.wrap ((st.length : Int)) = (st.length : Int) := wrap_i64 (by omega)
    have hw2 : ((st.length + 1 : Nat) : Int) - 1 = (st.length : Int) := by omega
    have hgt : ((st.length : Int) + 1) > 0 := by omega
    have hixs : idxN (st.length : Int) (st.length + 1) = some st.length := idx_pred
    have hbd := bounds_pred (n := st.length)
    have hll : (encNs s.1).length = K := by simpa using l1
    have hkl : (encBo s.2).length = K := by simpa using l2
    have hs1 := encNs_set s.1 x V
    have hgx := encNs_get (l := s.1) (i := x) (by omega)
    have hgb := encBo_get (l := s.2) (i := x) (by omega)
    have hs2 := encBo_set s.2 x true
    have hle : st.length < zs.length := by simp at hl; omega
    have hle1 : st.length < zs1.length := by simp at a6; omega
    simp only [List.length_cons] at hk1 a11
    have j63 := a17 63 (by omega)
    have j64 := a17 64 (by omega)
    have j65 := a17 65 (by omega)
    have j66 := a17 66 (by omega)
    have j67 := a17 67 (by omega)
    have j68 := a17 68 (by omega)
    have j69 := a17 69 (by omega)
    have j70 := a17 70 (by omega)
    have j71 := a17 71 (by omega)
    have j72 := a17 72 (by omega)
    have j73 := a17 73 (by omega)
    have j74 := a17 74 (by omega)
    have j75 := a17 75 (by omega)
    have h11' : (σ1.set 0 (.arr false 1 (encNs (s.1.set x V))))[1]? = some (.arr false 1 (encBo s.2)) := by rw [List.getElem?_set_ne (by omega)]; exact h11
    clear b1 b2 b3 b4 a1 hs ih
    simp -implicitDefEqProofs [b22_1, hq, ↓t1, hgt, hw, hw2, hixs, hUl, ↓hUx, hix, hk1, a7, a8, a9, a10, a11, a12, a13, a14, a15, a16, j63, j64, j65, j66, j67, j68, j69, j70, j71, j72, j73, j74, j75, h01, h11, h11', ↓hgx, ↓hgb, hll, hkl, hs1, hs2, hbd, hle, hle1, hσ2]
  | @more x st s s' hx hst hv hr hs ih =>
    intro zs σ hH
    obtain ⟨h0, h1, hq, hz, hl, l1, l2⟩ := hH
    obtain ⟨t1, t2⟩ := top_of hz
    have hxL := outs_at' hx
    have hrow := hL _ (List.mem_of_getElem? hxL)
    obtain ⟨fr1, zs1, σ1, a1, a2, a3, a4, a5, a6, a7, a8, a9, a10, a11, a12, a13, a14, a15, a16, a17⟩ := lp22_0 (encU L) K hK M hM x i (outs L x) hrow.1 s.1 s.2 l1 l2 hv hrow.2 q hq2 (outs L x) 0 0 true (x :: st) zs σ (Tail.all _) h0 h1 hq hz hl hst
    obtain ⟨k1, hk1⟩ := a1.den
    rw [hr] at a14
    obtain ⟨S1, hS1⟩ : ∃ z, z = (Sc.look s.1 s.2 (outs L x) 0 true (x :: st)).2.2 := ⟨_, rfl⟩
    have hlb : st.length + 1 ≤ M := by
      rw [look_st] at hst
      have := (unk_len s.2 (outs L x) (x :: st)).1
      simp at this; omega
    rw [← hS1] at a5 a6 a11 ih
    obtain ⟨fr', zs', σ', b1, b2, b3, b4⟩ := ih zs1 σ1 ⟨by rw [a2 0 (by omega)]; exact h0, by rw [a2 1 (by omega)]; exact h1, a4, a5, a6, l1, l2⟩
    refine ⟨fr', zs', σ', Lp.step ⟨k1, fun N hN => ?_⟩ b1, b2, by rw [b3, a3], b4⟩
    have hk1 := hk1 N hN
    simp only [Int.cast_ofNat_Int] at hk1
    have hxK : x < K := by omega
    have hix := idx_at hxK
    have hUl : (encU L).length = K := by rw [encU_length]; exact hLK
    have hUx := encU_at hxL
    have hw : IntKind.i64.wrap ((st.length : Int)) = (st.length : Int) := wrap_i64 (by omega)
    have hw2 : ((st.length + 1 : Nat) : Int) - 1 = (st.length : Int) := by omega
    have hgt : ((st.length : Int) + 1) > 0 := by omega
    have hixs : idxN (st.length : Int) (st.length + 1) = some st.length := idx_pred
    have hle : st.length < zs.length := by simp at hl; omega
    simp only [List.length_cons] at hk1
    have j63 := a17 63 (by omega)
    clear b1 b2 b3 b4 a1 hs ih
    simp -implicitDefEqProofs [b22_1, hq, ↓t1, hgt, hw, hw2, hixs, hUl, ↓hUx, hix, hk1, a7, a8, a9, a10, a11, a12, a13, a14, a15, a16, j63, hle]
set_option maxHeartbeats 4000000 in
theorem lp22_2 (L : List (List Nat)) (K : Nat) (hLK : L.length = K) (hK : K ≤ 2 ^ 30) (hL : ∀ l ∈ L, l.length ≤ 2 ^ 30 ∧ ∀ y ∈ l, y < K) (M : Nat) (hM : M ≤ 2 ^ 40) {i : Nat} {s s' : List Nat × List Bool} (h : LvAll L M i s s') : ∀ (σ : H), σ[0]? = some (.arr false 1 (encNs s.1)) → σ[1]? = some (.arr false 1 (encBo s.2)) → s.1.length = K → s.2.length = K →
    ∃ fr' σ', Lp ctx [17, 20, 27, 54] [] [3, 4, 5, 22, 23] b22_2 ⟨[(3, .v (.sl 1 (encU L))), (4, .v (.hs 0 K 0 K 1)), (5, .v (.hs 1 K 0 K 1)), (22, .v (.int .i64 K)), (23, .v (.int .i64 i))], false⟩ σ
      (.ex 0) fr' σ' ∧ σ'[0]? = some (.arr false 1 (encNs s'.1)) ∧ s'.1.length = K ∧ fr'.lk = false ∧ getS fr'.sl 4 = .v (.hs 0 K 0 K 1) ∧ getS fr'.sl 2 = .u ∧ getS fr'.sl 77 = .u := by
  induction h with
  | @done i s hi =>
    intro σ h0 h1 l1 l2
    have e : i = K := by omega
    subst e
    refine ⟨?_, σ, Lp.exit ⟨0, fun N _ => ?_⟩ (by simp), ?_⟩
    rotate_left
    · simp -implicitDefEqProofs [b22_2]
      rfl
    · exact ⟨h0, l1, by simp, by simp, by simp, by simp⟩
  | @step i s s1 s' hi hs hA ih =>
    intro σ h0 h1 l1 l2
    have hl1 : 1 < σ.length := (List.getElem?_eq_some_iff.1 h1).1
    obtain ⟨fr1, zs1, σ1, a1, a2, a3, a4, a5, a6, a7, a8, a9, a10⟩ := lp22_1 L K hLK hK hL M hM i σ.length (by omega) hs [.int .i64 (i : Int)] (σ ++ [.arr false 1 [.int .i64 (i : Int)]]) ⟨by rw [List.getElem?_append_left (by omega)]; exact h0, by rw [List.getElem?_append_left (by omega)]; exact h1, by simp, by simp [encNs], by simp, l1, l2⟩
    obtain ⟨k1, hk1⟩ := a1.den
    obtain ⟨fr', σ', b1, b2⟩ := ih σ1 a2.lev a2.kn a2.l1 a2.l2
    refine ⟨fr', σ', Lp.step ⟨k1, fun N hN => ?_⟩ b1, b2⟩
    have hk1 := hk1 N hN
    simp only [List.length_singleton] at hk1
    have hiK : i < K := by omega
    have hw := wrap_succ (n := i) (by unfold big; omega)
    clear b1 b2 a1 a2 hA ih hs
    simp -implicitDefEqProofs [b22_2, hiK, hw, hk1, a4, a5, a6, a7, a8, a9, a10]
set_option maxHeartbeats 4000000 in
theorem levels_ans (g : List (Bool × List Int)) (ng : Bool) (hg : g.length ≤ 2 ^ 18) (hr : ∀ q ∈ g, q.2.length ≤ 2 ^ 30) {G : List (List Nat)} (hG : Grp g.length (Rch (Ed (outG g))) G) (hrise : G.Pairwise fun l m => hd l < hd m) : Ans ctx 22 [encR 1 ng (encG g)] (.sl 1 (encNs (lvL g.length (Ed (outG g)) G))) := by
  obtain ⟨G', L, o, g1, g2, ho, hL, kb, hb⟩ := below_ans g ng (by omega) hr
  have eG : G' = G := Grp.only g1 hG g2 hrise
  subst eG
  have hGl := Grp.len_le g1 g2
  have hok : ∀ a b, Ed (outG g) a b → b < g.length := fun a b h => by rw [← outG_len]; exact ed_ok g a b h
  obtain ⟨nd, _⟩ := blw_dn (outG_len g) hok g1 ho
  rw [← hL] at nd
  obtain ⟨s', hA, hs'⟩ := prog_lv (outG_len g) hok g1 ho hL
  have hbnd : G'.length * G'.length ≤ 2 ^ 18 * 2 ^ 18 := Nat.mul_le_mul (by omega) (by omega)
  have hLr : ∀ l ∈ L, l.length ≤ 2 ^ 30 ∧ ∀ y ∈ l, y < G'.length := fun l hl => by
    obtain ⟨a, ha⟩ := List.getElem?_of_mem hl
    have hal := (List.getElem?_eq_some_iff.1 ha).1
    rw [outs_at' hal] at ha
    have e := Option.some.inj ha
    have h1 := nd.le a
    have h2 := (nd.2 a).2
    rw [e] at h1 h2
    exact ⟨by omega, h2⟩
  have e0 : ∀ n, encNs (List.replicate n 0) = List.replicate n (.int .i64 0) := fun n => by simp [encNs]
  have e1 : ∀ n, encBo (List.replicate n false) = List.replicate n (.bool false) := fun n => by simp [encBo]
  obtain ⟨K, hK⟩ : ∃ K, K = G'.length := ⟨_, rfl⟩
  rw [← hK] at hA hLr
  have hLK : L.length = K := by rw [hK]; exact nd.1
  obtain ⟨fr', σ', l1, l2, l3, l4, l5, l6, l7⟩ := lp22_2 L K hLK (by omega) hLr (1 + K * K + K) (by rw [hK]; omega) hA [.arr false 1 (List.replicate K (.int .i64 0)), .arr false 1 (List.replicate K (.bool false))] (by rw [e0]; rfl) (by rw [e1]; rfl) (by simp) (by simp)
  obtain ⟨k, hk⟩ := l1.den
  have hsn : snapA σ' 200 (.hs 0 K 0 K 1) = some (.sl 1 (encNs s'.1), [0]) := by
    have ht : (encNs s'.1).take K = encNs s'.1 := List.take_of_length_le (by simp [l3])
    rw [snapA_hs (m := K) l2 (by simpa using l3) (Nat.le_refl _) (by rw [ht]; simp), ht]
  rw [hs'] at hsn
  refine Ans.fn (rs := []) (σ' := σ') fn22_ (by simp [AV.noRefs]) ⟨kb + k, fun N hN => ?_⟩ hsn
  have hb := hb N (by omega)
  have hk := hk N (by omega)
  simp only [Int.cast_ofNat_Int] at hk
  have hUl : (encU L).length = K := by rw [encU_length]; exact hLK
  have hbg : K * 8 ≤ 35184372088832 ∧ K ≤ 35184372088832 := by omega
  have hbg2 : K ≤ 35184372088832 := by omega
  have hf1 := fitAll_replicate ⟨.int .i64, 1, 8, .int .i64 0, [.int .i64]⟩ (.int .i64 0) rfl K
  have hf2 := fitAll_replicate ⟨.bool, 1, 1, .bool false, [.bool]⟩ (.bool false) rfl K
  clear l1 l2 hA hsn
  simp -implicitDefEqProofs [i22, c22, hb, hk, hUl, hbg, hbg2, hf1, hf2, l4, l5, l6, l7]
end Go.Am.Try
