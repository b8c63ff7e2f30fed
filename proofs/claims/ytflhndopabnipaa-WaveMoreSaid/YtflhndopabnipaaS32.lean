/- WaveMore. -/
import Derived.Test.YtflhndopabnipaaS30
import Derived.Test.YtflhndopabnipaaS20
set_option linter.unusedVariables false
set_option linter.unusedSimpArgs false
set_option maxRecDepth 100000
namespace Go.Am.Try
open Go Go.Am.Sc
theorem fitAll_U : ∀ L : List (List Nat), fitAll tiR (encU L) = true
  | [] => rfl
  | a :: L => by
    have : encU (a :: L) = encR 1 true (encNs a) :: encU L := rfl
    rw [this, fitAll, fitAll_U L, encR_fits]; rfl
theorem app_lastR (σ : H) (ys : List AV) (hy : ys ≠ []) (hb : ys.length ≤ 2 ^ 40) (hf : fitAll tiR ys = true) :
    appendH tiR (.hs σ.length 0 0 0 1) ys (σ ++ [.arr false 1 []]) = some (.hs σ.length ys.length 0 ys.length 1, σ ++ [.arr false 1 ys]) := by
  have hs : (σ ++ [HObj.arr false 1 []])[σ.length]? = some (.arr false 1 []) := by simp
  have hc : True ∧ True ∧ 0 + 0 ≤ 0 ∧ (0 + ys.length) * 24 ≤ 2 ^ 45 ∧ 0 + ys.length ≤ 2 ^ 45 ∧ fitAll ⟨.slice 3, 1, 24, .nil, []⟩ ys = true := ⟨trivial, trivial, by omega, by omega, by omega, hf⟩
  have : 0 < ys.length := List.length_pos_iff.2 hy
  unfold tiR
  simp only [appendH, arrAt, hs, List.length_nil, if_true]
  rw [if_pos hc, if_neg (by omega)]
  simp
def rowAt (Gr : List (List Nat)) (x : Nat) (M : List Int) : List (Bool × List Int) := (toI Gr).set x (true, M)
theorem rowAt_len (Gr : List (List Nat)) (x : Nat) (M : List Int) : (rowAt Gr x M).length = Gr.length := by simp [rowAt]
theorem snap_rowAt {σ : H} {Gr : List (List Nat)} {K p q x n : Nat} {M : List Int} {fz fz' : Bool} (hK : Gr.length = K) (hx : x < K) (hp : σ[p]? = some (.arr fz 1 ((encU Gr).set x (.hs q n 0 n 1)))) (hq : σ[q]? = some (.arr fz' 1 (encIs M))) (hn : M.length = n) (hM : M ≠ []) : ∃ ns, snapA σ 200 (.hs p K 0 K 1) = some (.sl 1 (encG (rowAt Gr x M)), ns) := by
  refine snap_any 198 hp (by simp [hK]) (by simp [rowAt]) fun j v hv => ?_
  have hj : j < K := by
    have := (List.getElem?_eq_some_iff.1 hv).1
    rw [encG_length, rowAt_len] at this
    omega
  by_cases e : j = x
  · subst e
    have hMl : (encIs M).take n = encIs M := List.take_of_length_le (by simp [hn])
    refine ⟨.hs q n 0 n 1, [q], by rw [List.getElem?_set_self (by simp [hK]; exact hx)], ?_⟩
    have := snapA_hs (n := 198) (m := n) hq (by simpa using hn) (Nat.le_refl _) (by rw [hMl]; simp)
    rw [hMl] at this
    rw [this]
    unfold encG rowAt at hv
    rw [List.getElem?_map, List.getElem?_set_self (by rw [toI_length, hK]; exact hx)] at hv
    have hv := Option.some.inj hv
    rw [← hv]
    have hne : encIs M ≠ [] := fun e => hM (by
      have := congrArg List.length e
      simp at this
      exact this)
    show some (AV.sl 1 (encIs M), [q]) = some (rowI (true, M), [q])
    unfold rowI
    rw [encR_ne hne]
  · obtain ⟨m, hm⟩ : ∃ m, Gr[j]? = some m := ⟨_, List.getElem?_eq_getElem (by omega)⟩
    refine ⟨encR 1 true (encNs m), [], by rw [List.getElem?_set_ne (Ne.symm e)]; exact encU_at hm, ?_⟩
    have hv2 : v = encR 1 true (encNs m) := by
      unfold encG rowAt at hv
      rw [List.getElem?_map, List.getElem?_set_ne (Ne.symm e)] at hv
      have := encU_at hm
      rw [encU_toI] at this
      unfold encG at this
      rw [List.getElem?_map, hv] at this
      exact Option.some.inj this
    rw [hv2]
    exact snapA_noRef (by simp)
theorem rowAt_out {k b : Nat} {Gr : List (List Nat)} (h : OkT k b Gr) {x : Nat} {M : List Int} {m : List Nat} (hm : cl k M = m) : outG (rowAt Gr x M) = Gr.set x m := by
  have h1 := outG_toI h
  unfold outG at h1 ⊢
  rw [rowAt_len]
  unfold rowAt
  rw [List.map_set]
  rw [toI_length] at h1
  rw [h1]
  congr 1
  rw [h.1]
  exact hm
theorem cl_app (n : Nat) : ∀ (a b : List Int), cl n (a ++ b) = cl n a ++ cl n b
  | [], _ => rfl
  | x :: a, b => by
    rw [List.cons_append, cl, cl, cl_app n a b]
    split <;> simp
set_option maxHeartbeats 2000000 in
theorem lp9 (L M : List Nat) (hl : L.length = M.length) (hb : L.length ≤ 2 ^ 20) (hle : ∀ a, L.getD a 0 ≤ M.getD a 0) : ∀ (f i : Nat), i + f = L.length → ∀ σ : H,
    ∃ fr', Lp ctx [24, 26, 39, 44, 47, 49, 51, 54, 59, 64, 68] [] [14, 15, 16] b9_0 ⟨[(14, .v (.sl 1 (encNs L))), (15, .v (.sl 1 (encNs M))), (16, .v (.int .i64 i))], false⟩ σ (.ex 0) fr' σ ∧ fr'.lk = false ∧ getS fr'.sl 8 = .u ∧ getS fr'.sl 107 = .u
  | 0, i, hi, σ => by
    have e : i = L.length := by omega
    subst e
    refine ⟨?_, Lp.exit ⟨0, fun N _ => ?_⟩ (by simp), ?_⟩
    rotate_left
    · simp -implicitDefEqProofs [b9_0]
      rfl
    · simp
  | f + 1, i, hi, σ => by
    obtain ⟨fr', l1, l2⟩ := lp9 L M hl hb hle f (i + 1) (by omega) σ
    have hil : i < L.length := by omega
    have hw := wrap_succ (n := i) (by unfold big; omega)
    obtain ⟨U, hU⟩ : ∃ U, U = L.getD i 0 := ⟨_, rfl⟩
    obtain ⟨V, hV⟩ : ∃ V, V = M.getD i 0 := ⟨_, rfl⟩
    have h := hle i
    rw [← hU, ← hV] at h
    have hgU : (encNs L)[i]? = some (.int .i64 (U : Int)) := by rw [hU]; exact encNs_get (by omega)
    have hgV : (encNs M)[i]? = some (.int .i64 (V : Int)) := by rw [hV]; exact encNs_get (by omega)
    have hlt : ¬ V < U := by omega
    have hix := idx_at hil
    have hix2 := idx_at (i := i) (n := M.length) (by omega)
    refine ⟨fr', Lp.step ⟨0, fun N hN => ?_⟩ l1, l2⟩
    clear l1 l2
    simp -implicitDefEqProofs [b9_0, d9_1, hil, hix, hix2, hw, ↓hgU, ↓hgV, hlt]
set_option maxHeartbeats 8000000 in
theorem waveMore_ans (bs : List UInt8) (n a b : UInt8) (nb : Bool) : Ans ctx 9 [encR 1 nb (ofBytes bs), .int .u8 n.toNat, .int .u8 a.toNat, .int .u8 b.toNat] (.bool true) := by
  obtain ⟨Gr, hO, km, hm⟩ := make_ans bs nb n
  obtain ⟨K, hK⟩ : ∃ K, K = n.toNat % 16 := ⟨_, rfl⟩
  rw [← hK] at hO
  have hK16 : K < 16 := by omega
  have hGr : Gr.length = K := hO.1
  obtain ⟨ka, ha⟩ := awake23_ans
  by_cases h0 : K = 0
  · have hz : Gr = [] := List.length_eq_zero_iff.1 (by omega)
    subst hz
    refine Ans.of (σ' := []) fn9_ (by simp [AV.noRefs, AV.noRef]) (by simp) ⟨km + ka, fun N hN => ?_⟩
    have hm := hm N (by omega)
    have ha := ha N (by omega)
    have e : encU [] = [] := rfl
    rw [e] at hm
    simp -implicitDefEqProofs [i9, c9, hm, ha]
  obtain ⟨x, hx⟩ : ∃ x, x = a.toNat % K := ⟨_, rfl⟩
  obtain ⟨y, hy⟩ : ∃ y, y = b.toNat % K := ⟨_, rfl⟩
  have hxK : x < K := by rw [hx]; exact Nat.mod_lt _ (by omega)
  have hyK : y < K := by rw [hy]; exact Nat.mod_lt _ (by omega)
  obtain ⟨l, hl⟩ : ∃ l, Gr[x]? = some l := ⟨_, List.getElem?_eq_getElem (by omega)⟩
  obtain ⟨hl80, hlK⟩ := hO.2 l (List.mem_of_getElem? hl)
  have houtx : outs Gr x = l := by
    have := outs_at' (L := Gr) (a := x) (by omega)
    rw [hl] at this
    exact (Option.some.inj this).symm
  -- the graphs
  obtain ⟨M1, hM1⟩ : ∃ M1, M1 = (l ++ [y]).map fun (n : Nat) => (n : Int) := ⟨_, rfl⟩
  obtain ⟨M2, hM2⟩ : ∃ M2, M2 = ((l ++ l).map fun (n : Nat) => (n : Int)) ++ [-1, (K : Int)] := ⟨_, rfl⟩
  have hM1l : M1.length = l.length + 1 := by rw [hM1]; simp
  have hM2l : M2.length = l.length + l.length + 2 := by rw [hM2]; simp; omega
  have hM1n : M1 ≠ [] := fun e => by rw [e] at hM1l; simp at hM1l
  have hM2n : M2 ≠ [] := fun e => by rw [e] at hM2l; simp at hM2l
  have hc1 : cl K M1 = l ++ [y] := by
    rw [hM1]
    exact cl_self fun z hz => by
      rcases List.mem_append.1 hz with h | h
      · exact hlK z h
      · simp at h; omega
  have hc2 : cl K M2 = l ++ l := by
    rw [hM2, cl_app, cl_self (fun z hz => by rcases List.mem_append.1 hz with h | h <;> exact hlK z h)]
    have : cl K [-1, (K : Int)] = [] := by
      rw [cl, if_neg (by omega), cl, if_neg (by omega)]; rfl
    rw [this, List.append_nil]
  have ho1 := rowAt_out (x := x) hO hc1
  have ho2 := rowAt_out (x := x) hO hc2
  have hl1 := rowAt_len Gr x M1
  have hl2 := rowAt_len Gr x M2
  rw [hGr] at hl1 hl2
  have hE1 : ∀ u v, Ed Gr u v → Ed (outG (rowAt Gr x M1)) u v := fun u v h => by
    rw [ho1]
    unfold Ed at h ⊢
    rw [outs_set (by omega)]
    by_cases e : x = u
    · rw [if_pos e]
      subst e
      rw [houtx] at h
      exact List.mem_append_left _ h
    · rw [if_neg e]; exact h
  have hE2 : Ed (outG (rowAt Gr x M2)) = Ed Gr := by
    funext u v
    rw [ho2]
    unfold Ed
    rw [outs_set (by omega)]
    by_cases e : x = u
    · rw [if_pos e]
      subst e
      rw [houtx]
      simp
    · rw [if_neg e]
  have hsm0 : ∀ q ∈ toI Gr, q.2.length ≤ 2 ^ 30 := fun q hq => by
    obtain ⟨l, hl, rfl⟩ := List.mem_map.1 hq
    have := (hO.2 l hl).1
    simp; omega
  have hsm : ∀ M : List Int, M.length ≤ 2 ^ 30 → ∀ q ∈ rowAt Gr x M, q.2.length ≤ 2 ^ 30 := fun M hM q hq => by
    rcases List.mem_or_eq_of_mem_set hq with h | rfl
    · exact hsm0 q h
    · exact hM
  have hgl : (toI Gr).length = K := by rw [toI_length]; exact hGr
  obtain ⟨G, g1, g2, _⟩ := of_ans (toI Gr) false (by omega) hsm0
  obtain ⟨G', m1, m2, _⟩ := of_ans (rowAt Gr x M1) false (by omega) (hsm M1 (by omega))
  have hGl := Grp.len_le g1 g2
  have hGl' := Grp.len_le m1 m2
  have e0 : outG (toI Gr) = Gr := outG_toI hO
  have hO2 : ∃ o, IsOf G o := by
    obtain ⟨_, _, o, e1, e2, e3, _⟩ := below_ans (toI Gr) false (by omega) hsm0
    have := Grp.only e1 g1 e2 g2
    subst this
    exact ⟨o, e3⟩
  obtain ⟨o, hof⟩ := hO2
  have t1 : Grp (rowAt Gr x M2).length (Rch (Ed (outG (rowAt Gr x M2)))) G := by
    rw [hE2, hl2, ← e0, ← hgl]; exact g1
  obtain ⟨k1, h1⟩ := levels_ans (toI Gr) false (by omega) hsm0 g1 g2
  have h2 := levels_ans (rowAt Gr x M1) false (by omega) (hsm M1 (by omega)) m1 m2
  have h3 := levels_ans (rowAt Gr x M2) false (by omega) (hsm M2 (by omega)) t1 g2
  rw [encR_false, ← encU_toI, hgl, e0] at h1
  rw [encR_false, hl1] at h2
  rw [encR_false, hE2, hl2] at h3
  rw [hgl, e0] at g1
  rw [hgl] at hGl
  rw [hl1] at m1 hGl'
  have hmore := grp_more g1 g2 m1 m2 (fun u v h => h.mono hE1)
  have hll := lvL_len K (Ed Gr) G
  have hml := lvL_len K (Ed (outG (rowAt Gr x M1))) G'
  have hle : G'.length = G.length → ∀ a, (lvL K (Ed Gr) G).getD a 0 ≤ (lvL K (Ed (outG (rowAt Gr x M1))) G').getD a 0 := fun e a => by
    have eG := hmore.2 e
    subst eG
    rw [lvL_get, lvL_get]
    exact lv_more g1 m1 hof hE1 a
  obtain ⟨LV, hLV⟩ : ∃ z, z = lvL K (Ed Gr) G := ⟨_, rfl⟩
  obtain ⟨MV, hMV⟩ : ∃ z, z = lvL K (Ed (outG (rowAt Gr x M1))) G' := ⟨_, rfl⟩
  rw [← hLV] at h1 h3 hll hle
  rw [← hMV] at h2 hml hle
  -- the heap
  obtain ⟨UV, hUV⟩ : ∃ z, z = encU Gr := ⟨_, rfl⟩
  have hUl : UV.length = K := by rw [hUV, encU_length, hGr]
  have hUne : UV ≠ [] := fun e => by rw [e] at hUl; simp at hUl; omega
  obtain ⟨NV, hNV⟩ : ∃ z, z = encNs l := ⟨_, rfl⟩
  have hNl : NV.length = l.length := by rw [hNV]; simp
  have hUx : UV[x]? = some (encR 1 true NV) := by rw [hUV, hNV]; exact encU_at hl
  obtain ⟨A1, hA1⟩ : ∃ z, z = NV ++ [.int .i64 (y : Int)] := ⟨_, rfl⟩
  obtain ⟨A2, hA2⟩ : ∃ z, z = NV ++ NV := ⟨_, rfl⟩
  obtain ⟨A3, hA3⟩ : ∃ z, z = A2 ++ [.int .i64 (-1), .int .i64 (K : Int)] := ⟨_, rfl⟩
  have hA1e : A1 = encIs M1 := by
    rw [hA1, hM1, hNV, ← encNs_Is, encNs_app]; rfl
  have hA3e : A3 = encIs M2 := by
    rw [hA3, hA2, hM2, hNV, ← encNs_app, encNs_Is]
    simp [encIs]
  obtain ⟨N1, hN1⟩ : ∃ N1, N1 = l.length + 1 := ⟨_, rfl⟩
  obtain ⟨N2, hN2⟩ : ∃ N2, N2 = l.length + l.length := ⟨_, rfl⟩
  obtain ⟨N3, hN3⟩ : ∃ N3, N3 = N2 + 2 := ⟨_, rfl⟩
  obtain ⟨C1, hC1⟩ : ∃ z, z = UV.set x (.hs 1 N1 0 N1 1) := ⟨_, rfl⟩
  obtain ⟨C2, hC2⟩ : ∃ z, z = UV.set x (.hs 3 N3 0 N3 1) := ⟨_, rfl⟩
  have fU : fitAll tiR UV = true := by rw [hUV]; exact fitAll_U Gr
  have fN : fitAll tiI NV = true := by rw [hNV]; exact fitAll_Ns l
  have p1 := app_lastR [] UV hUne (by omega) fU
  have p2 := app_last [.arr false 1 UV] [] NV 0 rfl (by omega) fN
  have p3 := app_last [.arr false 1 UV] NV [.int .i64 (y : Int)] l.length hNl (by simp; omega) rfl
  have p4 := app_lastR [.arr false 1 C1, .arr false 1 A1] UV hUne (by omega) fU
  have p5 := app_last [.arr false 1 C1, .arr false 1 A1, .arr false 1 UV] [] NV 0 rfl (by omega) fN
  have p6 := app_last [.arr false 1 C1, .arr false 1 A1, .arr false 1 UV] NV NV l.length hNl (by omega) fN
  have p7 := app_last [.arr false 1 C1, .arr false 1 A1, .arr false 1 UV] A2 [.int .i64 (-1), .int .i64 (K : Int)] N2 (by rw [hA2, hN2]; simp [hNl]) (by simp; omega) rfl
  simp only [List.length_nil, List.nil_append, List.length_cons, List.cons_append, hUl, Nat.zero_add, hNl, Nat.reduceAdd] at p1 p2 p3 p4 p5 p6 p7
  rw [← hA1, ← hN1] at p3
  rw [← hA2, ← hN2] at p6
  rw [← hA3, ← hN3] at p7
  have hHh : ∃ ns, snapA [.arr false 1 C1, .arr false 1 A1, .arr false 1 C2, .arr false 1 A3] 200 (.hs 0 K 0 K 1) = some (.sl 1 (encG (rowAt Gr x M1)), ns) :=
    snap_rowAt (q := 1) (n := N1) hGr hxK (by rw [hC1, hUV]; rfl) (by rw [hA1e]; rfl) (by omega) hM1n
  obtain ⟨ns1, k2, hk2⟩ := tab_lay fn22_ hHh (by simp) h2 rfl
  have hHt : ∃ ns, snapA (frzH [.arr false 1 C1, .arr false 1 A1, .arr false 1 C2, .arr false 1 A3] ns1) 200 (.hs 2 K 0 K 1) = some (.sl 1 (encG (rowAt Gr x M2)), ns) := by
    obtain ⟨f1, q1⟩ := frz_at ns1 (σ := [.arr false 1 C1, .arr false 1 A1, .arr false 1 C2, .arr false 1 A3]) (j := 2) (sz := 1) (fz := false) (xs := C2) rfl
    obtain ⟨f2, q2⟩ := frz_at ns1 (σ := [.arr false 1 C1, .arr false 1 A1, .arr false 1 C2, .arr false 1 A3]) (j := 3) (sz := 1) (fz := false) (xs := A3) rfl
    exact snap_rowAt (q := 3) (n := N3) hGr hxK (by rw [q1, hC2, hUV]) (by rw [q2, hA3e]) (by omega) hM2n
  obtain ⟨ns2, k3, hk3⟩ := tab_lay fn22_ hHt (by simp) h3 rfl
  obtain ⟨k4, h4⟩ := ints_U LV LV (by unfold big; omega)
  simp only [decide_true] at h4
  obtain ⟨σ1, hσ1⟩ : ∃ s, s = frzH [.arr false 1 C1, .arr false 1 A1, .arr false 1 C2, .arr false 1 A3] ns1 := ⟨_, rfl⟩
  rw [← hσ1] at hk2 hk3
  obtain ⟨σ2, hσ2⟩ : ∃ s, s = frzH σ1 ns2 := ⟨_, rfl⟩
  rw [← hσ2] at hk3
  have hml' : MV.length = G'.length := hml
  obtain ⟨fr1, k5, b1, b2, b3⟩ : ∃ fr1 k5, (LV.length = MV.length → ∀ N, k5 ≤ N → ∀ fr, norm [14, 15, 16] fr = some ⟨[(14, .v (.sl 1 (encNs LV))), (15, .v (.sl 1 (encNs MV))), (16, .v (.int .i64 0))], false⟩ → den ctx (acall ctx N) [24, 26, 39, 44, 47, 49, 51, 54, 59, 64, 68] [] N (ACode.loop [14, 15, 16] b9_0) fr σ2 = some ((Ext.ex 0, fr1), σ2)) ∧ (LV.length = MV.length → fr1.lk = false ∧ getS fr1.sl 8 = .u ∧ getS fr1.sl 107 = .u) ∧ True := by
    by_cases e : LV.length = MV.length
    · obtain ⟨fr', l1, l2⟩ := lp9 LV MV e (by omega) (hle (by omega)) LV.length 0 (by omega) σ2
      obtain ⟨k5, hk5⟩ := l1.den
      exact ⟨fr', k5, fun _ N hN fr hn => hk5 N hN fr hn, fun _ => l2, trivial⟩
    · exact ⟨⟨[], false⟩, 0, fun h => absurd h e, fun h => absurd h e, trivial⟩
  refine Ans.of (σ' := σ2) fn9_ (by simp [AV.noRefs, AV.noRef]) (by simp) ⟨km + ka + k1 + k2 + k3 + k4 + k5, fun N hN => ?_⟩
  have hm := hm N (by omega)
  have ha := ha N (by omega)
  have h1 := h1 N (by omega)
  have hk2 := hk2 N (by omega)
  have hk3 := hk3 N (by omega)
  have h4 := h4 N (by omega)
  have hal : (a.toNat : Nat) < 256 := a.toNat_lt
  have hbl : (b.toNat : Nat) < 256 := b.toNat_lt
  have hmx : Int.tmod (a.toNat : Int) (K : Int) = (x : Int) := by rw [tmod_nat, ← hx]
  have hmy : Int.tmod (b.toNat : Int) (K : Int) = (y : Int) := by rw [tmod_nat, ← hy]
  have hwa : IntKind.i64.wrap (a.toNat : Int) = (a.toNat : Int) := wrap_i64 (by omega)
  have hwb : IntKind.i64.wrap (b.toNat : Int) = (b.toNat : Int) := wrap_i64 (by omega)
  have hK0 : ((K : Int) == 0) = false := by rw [beq_eq_false_iff_ne]; omega
  have hix := idx_at hxK
  rw [← hUV] at hm h1
  unfold tiI at p2 p3 p5 p6 p7
  unfold tiR at p1 p4
  have hel := elemsM_row ⟨.int .i64, 1, 8, .int .i64 0, [.int .i64]⟩ rfl l
  rw [← hNV] at hel
  have hel2 : ∀ σ, elemsM ⟨.slice 3, 1, 24, .nil, []⟩ (.sl 1 UV) σ = some (UV, σ) := fun σ => rfl
  have hel3 : ∀ X σ, elemsM ⟨.int .i64, 1, 8, .int .i64 0, [.int .i64]⟩ (.sl 1 X) σ = some (X, σ) := fun X σ => rfl
  by_cases e : LV.length = MV.length
  · have hb1 := b1 e N (by omega)
    obtain ⟨d1, d2, d3⟩ := b2 e
    have hne : ((LV.length : Int) != (MV.length : Int)) = false := by rw [e]; simp
    clear b1 b2 b3 g1 m1 t1 h2 h3 hHh hHt
    simp (maxSteps := 8000000) -implicitDefEqProofs [i9, c9, d9_0, hm, ha, h1, hk2, hk3, h4, hmx, hmy, hwa, hwb, hK0, h0, hix, p1, p2, p3, p4, p5, p6, p7, hel, hel2, hel3, hUl, ↓hUx, hC1.symm, hC2.symm, hb1, d1, d2, d3, hne, -appendH, -elemsM, -bne_iff_ne, -beq_iff_eq]
  · have hne : ((LV.length : Int) != (MV.length : Int)) = true := by rw [bne_iff_ne]; omega
    have hlt : MV.length < LV.length := by
      have := hmore.1
      omega
    clear b1 b2 b3 g1 m1 t1 h2 h3 hHh hHt
    simp (maxSteps := 8000000) -implicitDefEqProofs [i9, c9, d9_0, hm, ha, h1, hk2, hk3, h4, hmx, hmy, hwa, hwb, hK0, h0, hix, p1, p2, p3, p4, p5, p6, p7, hel, hel2, hel3, hUl, ↓hUx, hC1.symm, hC2.symm, hne, hlt, -appendH, -elemsM, -bne_iff_ne, -beq_iff_eq]
end Go.Am.Try
