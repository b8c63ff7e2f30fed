/- scc.Of: the groups in the order of their first nodes. -/
import Derived.Test.YtflhndopabnipaaS11
set_option linter.unusedVariables false
set_option linter.unusedSimpArgs false
set_option maxRecDepth 100000
namespace Go.Am.Try
open Go Go.Am.Sc
theorem unAll_get {α : Type} {f : AV → Option α} : ∀ {xs : List AV} {ys : List α}, xs.length = ys.length → (∀ (i : Nat) y, ys[i]? = some y → ∃ x, xs[i]? = some x ∧ f x = some y) → unAll f xs = some ys
  | [], [], _, _ => rfl
  | [], _ :: _, h, _ => by simp at h
  | _ :: _, [], h, _ => by simp at h
  | x :: xs, y :: ys, h, k => by
    obtain ⟨x', e1, e2⟩ := k 0 y (by simp)
    simp at e1
    subst e1
    have := unAll_get (f := f) (xs := xs) (ys := ys) (by simpa using h) fun i z hz => by
      obtain ⟨x', a, b⟩ := k (i + 1) z (by simpa using hz)
      exact ⟨x', by simpa using a, b⟩
    simp only [unAll, e2, this]
theorem zip_get {α β : Type} {c : List α} {g : List β} (hl : c.length = g.length) {p : α × β} (hp : p ∈ c.zip g) : ∃ i : Nat, c[i]? = some p.1 ∧ g[i]? = some p.2 := by
  obtain ⟨i, hi⟩ := List.getElem?_of_mem hp
  refine ⟨i, ?_⟩
  rw [List.getElem?_zip_eq_some] at hi
  exact hi
set_option maxHeartbeats 1000000 in
theorem sortF_at {σ : H} {gq : Nat} {cells : List AV} {G : List (List Nat)} (h : OutAt σ 3 gq cells G) (hne : ∀ l ∈ G, l ≠ []) (hnd : (G.map hd).Nodup) (hb : G.length ≤ 2 ^ 30) :
    ∃ cells' G' σ', AnsH ctx 29 [rowV gq G.length 1, .fn 30 []] σ (.tup []) σ' ∧ OutAt σ' 3 gq cells' G' ∧ (∀ l, l ∈ G' ↔ l ∈ G) ∧ (G'.Pairwise fun l m => hd l < hd m) ∧ (∀ j, j ≤ 3 → σ'[j]? = σ[j]?) ∧ G'.length = G.length := by
  have hl := h.len
  cases hG : G with
  | nil =>
    subst hG
    refine ⟨[], [], σ, AnsH.prim (by rfl) (by rfl) (by rfl) ?_, ⟨rfl, fun h => absurd rfl h, fun h => absurd rfl h, fun i l h => by simp at h⟩, by simp, by simp, fun _ _ => rfl, rfl⟩
    rfl
  | cons l0 G0 =>
    have hc : cells ≠ [] := fun e => by rw [e, hG] at hl; simp at hl
    obtain ⟨Z, hZ⟩ : ∃ Z, Z = (cells.zip G).mergeSort fun a b => decide ((hd a.2 : Int) ≤ (hd b.2 : Int)) := ⟨_, rfl⟩
    have hperm : Z.Perm (cells.zip G) := by rw [hZ]; exact List.mergeSort_perm _ _
    have hsorted : Z.Pairwise fun a b => hd a.2 ≤ hd b.2 := by
      have := List.pairwise_mergeSort (le := fun (a b : AV × List Nat) => decide ((hd a.2 : Int) ≤ (hd b.2 : Int))) (fun a b c h1 h2 => by simp at *; omega) (fun a b => by simp; omega) (cells.zip G)
      rw [← hZ] at this
      exact this.imp fun h => by simpa using h
    have hZG : (cells.zip G).map Prod.snd = G := List.map_snd_zip (by omega)
    have hZl : Z.length = G.length := by rw [hperm.length_eq]; simp [hl]
    have hmem : ∀ l, l ∈ Z.map Prod.snd ↔ l ∈ G := fun l => by rw [(hperm.map _).mem_iff, hZG]
    have hnd2 : (Z.map fun p => hd p.2).Nodup := by
      rw [(hperm.map _).nodup_iff]
      have : (cells.zip G).map (fun p => hd p.2) = G.map hd := by rw [← hZG, List.map_map, hZG]; rfl
      rw [this]; exact hnd
    have hstrict : (Z.map Prod.snd).Pairwise fun l m => hd l < hd m := by
      rw [List.pairwise_map]
      rw [List.nodup_iff_pairwise_ne, List.pairwise_map] at hnd2
      exact (hsorted.and hnd2).imp fun ⟨a, b⟩ => by omega
    obtain ⟨hs, hhs⟩ : ∃ hs : List Int, hs = G.map fun l => (hd l : Int) := ⟨_, rfl⟩
    have hsnd : hs.Nodup := by
      rw [hhs, List.nodup_iff_pairwise_ne, List.pairwise_map]
      rw [List.nodup_iff_pairwise_ne, List.pairwise_map] at hnd
      exact hnd.imp fun h e => h (by omega)
    have hsort : sortH cells hs = Z.map Prod.fst := by
      unfold sortH
      have e1 : cells.zip hs = (cells.zip G).map fun p => (p.1, (hd p.2 : Int)) := by
        rw [hhs, List.zip_map_right]; rfl
      have e2 := List.map_mergeSort (l := cells.zip G) (f := fun p => (p.1, (hd p.2 : Int))) (r := fun a b => decide ((hd a.2 : Int) ≤ (hd b.2 : Int))) (s := fun a b => decide (a.2 ≤ b.2)) (fun a _ b _ => rfl)
      rw [e1, ← e2, List.map_map, hZ]
      rfl
    have harr := h.row hc
    obtain ⟨kp1, kp2⟩ := h.pos hc
    have hun : unAll (headA σ gq) cells = some hs := by
      refine unAll_get (by rw [hhs]; simpa using hl) fun i y hy => ?_
      rw [hhs, List.getElem?_map] at hy
      cases hg : G[i]? with
      | none => rw [hg] at hy; simp at hy
      | some l =>
        rw [hg] at hy
        simp at hy
        obtain ⟨q, c1, c2, c3⟩ := h.at' i l hg
        refine ⟨_, c1, ?_⟩
        have hl0 := hne l (List.mem_of_getElem? hg)
        obtain ⟨a, m, rfl⟩ : ∃ a m, l = a :: m := by
          cases l with
          | nil => exact absurd rfl hl0
          | cons a m => exact ⟨a, m, rfl⟩
        have hq := c2 (by simp [encNs])
        have hqn := (c3 hl0).2.2
        simp only [List.length_cons, rowV, headA, if_neg hqn, arrAt, hq, encNs_length, if_true]
        rw [encNs_cons]
        simp [← hy, hd]
    have hlc : cells.length = G0.length + 1 := by rw [hl, hG]; rfl
    have hset : setCells cells 0 (Z.map Prod.fst) = Z.map Prod.fst := by
      have := setCells_all cells (Z.map Prod.fst) [] (by simp; omega)
      simpa using this
    have hfree : ∀ j, j ≠ gq → (σ.set gq (.arr false 1 (Z.map Prod.fst)))[j]? = σ[j]? := fun j hj => by rw [List.getElem?_set_ne (Ne.symm hj)]
    refine ⟨Z.map Prod.fst, Z.map Prod.snd, σ.set gq (.arr false 1 (Z.map Prod.fst)), AnsH.prim (by rfl) (by rfl) (by rfl) ?_, ⟨by simp, fun _ => by rw [List.getElem?_set_self kp2], fun _ => ⟨kp1, by simpa using kp2⟩, fun i l hi => ?_⟩, by rw [← hG]; exact hmem, hstrict, fun j hj => hfree j (by omega), by rw [← hG, List.length_map]; exact hZl⟩
    · show primSortH 30 [rowV gq (G0.length + 1) 1, .fn 30 []] σ = _
      simp only [rowV, primSortH, arrAt, harr, hlc, if_true]
      rw [if_pos (by rw [hG] at hb; simp at hb; exact ⟨trivial, trivial, trivial, by omega, by omega⟩)]
      have ht : (cells.drop 0).take (G0.length + 1) = cells := by rw [List.drop_zero, List.take_of_length_le (by omega)]
      simp only [ht, hun, if_pos hsnd, hsort, hset]
    · rw [List.getElem?_map] at hi
      cases hz : Z[i]? with
      | none => rw [hz] at hi; simp at hi
      | some p =>
        rw [hz] at hi
        simp at hi
        obtain ⟨j, k1, k2⟩ := zip_get hl (hperm.mem_iff.1 (List.mem_of_getElem? hz))
        rw [hi] at k2
        obtain ⟨q, c1, c2, c3⟩ := h.at' j l k2
        rw [k1] at c1
        refine ⟨q, by rw [List.getElem?_map, hz]; exact c1, fun hx => ?_, fun hne' => ⟨(c3 hne').1, by simpa using (c3 hne').2.1, (c3 hne').2.2⟩⟩
        rw [hfree q (c3 (fun e => hx (by rw [e]; rfl))).2.2]
        exact c2 hx
theorem Inv_runs {out : List (List Nat)} {S : List (Nat × Nat)} {t t' : T} (h : Runs out S t t') : Inv out S t → Inv out [] t' := by
  induction h with
  | nil t => exact id
  | turn _ ih => intro h; exact ih h.turn.1
theorem lp15 (L : List (List Nat)) (hn : L.length ≤ 2 ^ 30) (hr : ∀ l ∈ L, l.length ≤ 2 ^ 30) {x : Nat} {t t' : T} (h : Goes L x t t') : ∀ (σ : H) (OV : AV) (oq gq : Nat) (cells : List AV), x ≤ L.length → Inv L [] t → FS σ L.length (.sl 1 (encU L)) t OV oq gq cells → t.cnt + zeros t.num ≤ L.length →
    ∃ fr' OV' oq' gq' cells' σ', Lp ctx [11, 13, 15, 17] [] [4, 17, 19, 20] b15_0 ⟨[(4, .v (.ptr 3 1 0 0)), (17, .v (.ptr 3 1 0 0)), (19, .v (.int .i64 L.length)), (20, .v (.int .i64 x))], false⟩ σ (.ex 0) fr' σ' ∧ FS σ' L.length (.sl 1 (encU L)) t' OV' oq' gq' cells' ∧ fr'.lk = false ∧ getS fr'.sl 4 = .v (.ptr 3 1 0 0) ∧ Hi 35 fr' ∧ getS fr'.sl 2 = .u := by
  induction h with
  | @done x t hx =>
    intro σ OV oq gq cells hxl hI hF hc
    have e : x = L.length := by omega
    subst e
    refine ⟨?_, OV, oq, gq, cells, σ, Lp.exit ⟨0, fun N _ => ?_⟩ (by simp), ?_⟩
    rotate_left
    · simp -implicitDefEqProofs [b15_0]
      rfl
    · exact ⟨hF, by simp, by simp, hi_of (by simp), by simp⟩
  | @old x t t' hx h0 hG ih =>
    intro σ OV oq gq cells hxl hI hF hc
    obtain ⟨fr', OV', oq', gq', cells', σ', l1, l2⟩ := ih σ OV oq gq cells hx hI hF hc
    refine ⟨fr', OV', oq', gq', cells', σ', Lp.step ⟨0, fun N hN => ?_⟩ l1, l2⟩
    clear l1 l2 ih
    obtain ⟨GV, hGV⟩ : ∃ z, z = rowV gq t.grp.length 1 := ⟨_, rfl⟩
    have g0 := hF.num
    have g3 := hF.obj
    rw [← hGV] at g3
    unfold finderV at g3
    have hix := idx_at hx
    have hlt : (x : Int) < (L.length : Int) := by omega
    have hw := wrap_succ (n := x) (by unfold big; omega)
    have hnl : (encNs t.num).length = L.length := by simpa using hF.ln
    have hny : (encNs t.num)[x]? = some (.int .i64 (t.nm x : Nat)) := encNs_get (by rw [hF.ln]; exact hx)
    have h0' : (((t.nm x : Nat) : Int) == 0) = false := by rw [beq_eq_false_iff_ne]; omega
    simp -implicitDefEqProofs [b15_0, g0, g3, hix, hlt, hw, hnl, hny, h0']
  | @new x t t1 t' hx h0 hR hG ih =>
    intro σ OV oq gq cells hxl hI hF hc
    obtain ⟨OV1, oq1, gq1, cells1, σ1, b1, b2, b3⟩ := from_ans L hn hr hI hx h0 hR hF hc
    obtain ⟨fr', OV', oq', gq', cells', σ', l1, l2⟩ := ih σ1 OV1 oq1 gq1 cells1 hx (Inv_runs hR (hI.enter hx h0 (.inl ⟨rfl, hI.none_open⟩))) b2 b3
    obtain ⟨k1, hk1⟩ := b1
    refine ⟨fr', OV', oq', gq', cells', σ', Lp.step ⟨k1, fun N hN => ?_⟩ l1, l2⟩
    have hk1 := hk1 N hN
    clear l1 l2 ih b2
    obtain ⟨GV, hGV⟩ : ∃ z, z = rowV gq t.grp.length 1 := ⟨_, rfl⟩
    have g0 := hF.num
    have g3 := hF.obj
    rw [← hGV] at g3
    unfold finderV at g3
    have hix := idx_at hx
    have hlt : (x : Int) < (L.length : Int) := by omega
    have hw := wrap_succ (n := x) (by unfold big; omega)
    have hnl : (encNs t.num).length = L.length := by simpa using hF.ln
    have hny : (encNs t.num)[x]? = some (.int .i64 (t.nm x : Nat)) := encNs_get (by rw [hF.ln]; exact hx)
    have h0' : (((t.nm x : Nat) : Int) == 0) = true := by rw [h0]; rfl
    simp -implicitDefEqProofs [b15_0, g0, g3, hix, hlt, hw, hnl, hny, h0', hk1]
theorem zeros_rep (n : Nat) : zeros (List.replicate n 0) = n := by
  induction n with
  | zero => rfl
  | succ n ih => rw [List.replicate_succ]; simp only [zeros, ih]; simp; omega
set_option maxHeartbeats 2000000 in
theorem of_ans (g : List (Bool × List Int)) (ng : Bool) (hg : g.length ≤ 2 ^ 30) (hr : ∀ q ∈ g, q.2.length ≤ 2 ^ 30) : ∃ G, Grp g.length (Rch (Ed (outG g))) G ∧ (G.Pairwise fun l m => hd l < hd m) ∧ Ans ctx 15 [encR 1 ng (encG g)] (encR 1 true (encU G)) := by
  obtain ⟨ke, he⟩ := edges_ans g ng hg hr
  obtain ⟨L, hL⟩ : ∃ L, L = g.map (rowU g.length) := ⟨_, rfl⟩
  have hlen : L.length = g.length := by rw [hL]; simp
  have hLr := rowU_ok g hr
  rw [← hL] at he hLr
  have hok : ∀ x y, Ed L x y → y < L.length := fun x y h => by
    rw [hL] at h
    rw [hlen, ← outG_len]; exact ed_ok g x y ((rowU_ed g x y).1 h)
  have hI0 := Inv.start hok
  obtain ⟨t', hG, hI', hall⟩ := Inv.goes L.length 0 (T0 L.length) hI0 (by omega) (fun z hz => by omega)
  have e0 : ∀ n, encNs (List.replicate n 0) = List.replicate n (.int .i64 0) := fun n => by simp [encNs]
  have e1 : ∀ n, encBo (List.replicate n false) = List.replicate n (.bool false) := fun n => by simp [encBo]
  obtain ⟨fr', OV', oq', gq', cells', σ', l1, l2, l3, l4, l5, l6⟩ := lp15 L (by omega) (fun l hl => (hLr l hl).1) hG [.arr false 1 (List.replicate L.length (.int .i64 0)), .arr false 1 (List.replicate L.length (.int .i64 0)), .arr false 1 (List.replicate L.length (.bool false)), .arr false 7 [finderV (.sl 1 (encU L)) .nil L.length 0 .nil]] .nil 0 0 [] (Nat.zero_le _) hI0
    ⟨by simp [T0, e0], by simp [T0, e0], by simp [T0, e1], rfl, by simp [T0], by simp [T0], by simp [T0], .inl ⟨rfl, rfl⟩, ⟨rfl, fun h => absurd rfl h, fun h => absurd rfl h, fun i l h => by simp [T0] at h⟩, fun h => absurd rfl h⟩ (by show 0 + zeros (List.replicate L.length 0) ≤ _; rw [zeros_rep]; omega)
  obtain ⟨hgrp, hdis⟩ := hI'.grp hall
  have hne : ∀ l ∈ t'.grp, l ≠ [] := fun l hl => (hgrp.rise l hl).1
  have hnd : (t'.grp.map hd).Nodup := by
    rw [List.nodup_iff_pairwise_ne, List.pairwise_map]
    exact hdis.imp_of_mem fun {a b} ha hb k e => k (hd a) (hd_mem (hne a ha)) (by rw [e]; exact hd_mem (hne b hb))
  have hgl := hI'.grp_le
  obtain ⟨cells2, G, σ2, s1, s2, s3, s4, s5, s6⟩ := sortF_at l2.grp hne hnd (by omega)
  refine ⟨G, ?_, s4, ?_⟩
  · have hg1 := hgrp.of_mem s3
    rw [hlen] at hg1
    refine hg1.iff (fun a b _ _ => ?_) (fun a b ha h => ?_)
    · rw [hL]; exact rch_iff (rowU_ed g) a b
    · exact h.inv (p := fun z => z < g.length) (fun x y _ e => by rw [← outG_len]; exact ed_ok g x y e) ha
  · obtain ⟨ns, hsn⟩ := s2.snap 198
    obtain ⟨k, hk⟩ := l1.den
    obtain ⟨k2, hk2⟩ := s1
    have g3 := l2.obj
    have g4 : σ2[3]? = _ := (s5 3 (Nat.le_refl _)).trans g3
    obtain ⟨GV, hGV⟩ : ∃ z, z = rowV gq' t'.grp.length 1 := ⟨_, rfl⟩
    rw [s6, ← hGV] at hsn
    rw [← hGV] at g3 g4 hk2
    unfold finderV at g3 g4
    refine Ans.fn (rs := []) (σ' := σ2) fn15_ (by simp [AV.noRefs]) ⟨ke + k + k2, fun N hN => ?_⟩ hsn
    have hk := hk N (by omega)
    have hk2 := hk2 N (by omega)
    have he := he N (by omega)
    rw [hlen] at hk
    unfold finderV at hk
    simp only [Int.cast_ofNat_Int] at hk
    have hbg : g.length * 8 ≤ 35184372088832 ∧ g.length ≤ 35184372088832 := by omega
    have hbg2 : g.length ≤ 35184372088832 := by omega
    have hf1 := fitAll_replicate ⟨.int .i64, 1, 8, .int .i64 0, [.int .i64]⟩ (.int .i64 0) rfl g.length
    have hf2 := fitAll_replicate ⟨.bool, 1, 1, .bool false, [.bool]⟩ (.bool false) rfl g.length
    have j35 := l5 35 (by omega)
    have j36 := l5 36 (by omega)
    have j37 := l5 37 (by omega)
    have j38 := l5 38 (by omega)
    have j39 := l5 39 (by omega)
    have j40 := l5 40 (by omega)
    have j41 := l5 41 (by omega)
    have j42 := l5 42 (by omega)
    have j43 := l5 43 (by omega)
    clear l1 l2 hI0 hI' hG hall hgrp hdis s2 s3 s4 s5
    simp -implicitDefEqProofs [i15, c15, d15_0, he, hk, hk2, hbg, hbg2, hf1, hf2, l3, l4, l6, j35, j36, j37, j38, j39, j40, j41, j42, j43, g3, g4]
end Go.Am.Try
