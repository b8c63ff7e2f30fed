/- Tarjan's finder: a node is left. -/
import Derived.Test.YtflhndopabnipaaS9
set_option linter.unusedVariables false
set_option linter.unusedSimpArgs false
set_option maxRecDepth 100000
namespace Go.Am.Try
open Go Go.Am.Sc
theorem set_same {α : Type} {l : List α} {i : Nat} {a : α} (h : l[i]? = some a) : l.set i a = l := by
  obtain ⟨hi, e⟩ := List.getElem?_eq_some_iff.1 h
  rw [← e]; exact List.set_getElem_self hi
theorem tail_get {A r : List Nat} {i : Nat} {a : Nat} (h : Tail (encNs A) i (encNs (a :: r))) : A[i]? = some a := by
  rw [encNs_cons] at h
  have := h.cons.1
  unfold encNs at this
  rw [List.getElem?_map] at this
  cases hA : A[i]? with
  | none => rw [hA] at this; simp at this
  | some b =>
    rw [hA] at this
    simp at this
    exact congrArg some (by omega)
set_option maxHeartbeats 1000000 in
theorem lp35 (n q : Nat) (A B C D E F : AV) (G : List Nat) (hG : G.length ≤ 2 ^ 30) (hq : 3 < q) : ∀ (r : List Nat) (j : Nat) (is : List Bool) (σ : H), Tail (encNs G) j (encNs r) → (∀ y ∈ r, y < n) → is.length = n → σ[2]? = some (.arr false 1 (encBo is)) → σ[3]? = some (.arr false 7 [.agg [A, B, C, D, .hs 2 n 0 n 1, E, F]]) → σ[q]? = some (.arr false 1 (encNs G)) →
    ∃ fr', Lp ctx [67] [] [0, 5, 45, 46, 47] b35_0 ⟨[(0, .v (.ptr 3 1 0 0)), (5, .v (.hs q G.length 0 G.length 1)), (45, .v (.hs q G.length 0 G.length 1)), (46, .v (.int .i64 G.length)), (47, .v (.int .i64 j))], false⟩ σ (.ex 0) fr' (σ.set 2 (.arr false 1 (encBo (offs is r)))) ∧ fr'.lk = false ∧ getS fr'.sl 0 = .v (.ptr 3 1 0 0) ∧ getS fr'.sl 5 = .v (.hs q G.length 0 G.length 1) ∧ Hi 58 fr'
  | [], j, is, σ, ht, hr, hl, h2, h3, hqo => by
    have hlen := ht.nil
    simp only [encNs_length] at hlen
    have hj : (j : Int) = (G.length : Int) := by omega
    rw [offs, set_same h2, hj]
    refine ⟨?_, Lp.exit ⟨0, fun N _ => ?_⟩ (by simp), ?_⟩
    rotate_left
    · simp -implicitDefEqProofs [b35_0]
      rfl
    · exact ⟨by simp, by simp, by simp, hi_of (by simp)⟩
  | y :: r, j, is, σ, ht, hr, hl, h2, h3, hqo => by
    have hgj := tail_get ht
    rw [encNs_cons] at ht
    obtain ⟨a1, a2, a3, a4, a5⟩ := ht.cons
    simp only [encNs_length] at a2 a3
    have hw := wrap_succ (n := j) (by have := ht.len; simp at this; unfold big; omega)
    have hy : y < n := hr y (by simp)
    have hiY := idx_at hy
    have hyl : y < is.length := by omega
    have hset := encBo_set is y false
    have hg := encBo_get hyl
    have hinb : (encBo is).length = n := by simp [hl]
    have h2l : 2 < σ.length := (List.getElem?_eq_some_iff.1 h2).1
    obtain ⟨σ1, e1⟩ : ∃ s, s = σ.set 2 (.arr false 1 (encBo (is.set y false))) := ⟨_, rfl⟩
    obtain ⟨fr', l1, l2⟩ := lp35 n q A B C D E F G hG hq r (j + 1) (is.set y false) σ1 a4 (fun z hz => hr z (by simp [hz])) (by simpa using hl) (by rw [e1, List.getElem?_set_self h2l]) (by rw [e1, List.getElem?_set_ne (by omega)]; exact h3) (by rw [e1, List.getElem?_set_ne (by omega)]; exact hqo)
    have ee : σ1.set 2 (.arr false 1 (encBo (offs (is.set y false) r))) = σ.set 2 (.arr false 1 (encBo (offs is (y :: r)))) := by rw [e1, List.set_set]; rfl
    rw [ee] at l1
    refine ⟨fr', Lp.step ⟨0, fun N hN => ?_⟩ l1, l2⟩
    clear l1 l2
    simp -implicitDefEqProofs [b35_0, a1, a2, a3, hw, hiY, h2, h3, hqo, hset, hinb, hg, e1.symm]
theorem OutAt.push2 {σ : H} {p qo : Nat} {cells : List AV} {L : List (List Nat)} (h : OutAt σ p qo cells L) {q : Nat} {l : List Nat} (hr : RowAt σ q 1 (encNs l)) (hq : l ≠ [] → p < q ∧ q < σ.length ∧ (cells ≠ [] → q ≠ qo)) (hp : p < σ.length) (hb : L.length ≤ 2 ^ 30) :
    ∃ qo' σ', appendH tiR (rowV qo L.length 1) [rowV q l.length 1] σ = some (rowV qo' (L.length + 1) 1, σ') ∧ OutAt σ' p qo' (cells ++ [rowV q l.length 1]) (L ++ [l]) ∧ (∀ j, j < σ.length → (cells ≠ [] → j ≠ qo) → σ'[j]? = σ[j]? ∧ j ≠ qo') ∧ σ.length ≤ σ'.length := by
  have hl := h.len
  obtain ⟨qo', σ', p1, p2, p3, p4, p5⟩ := app_raw2 tiR (y := rowV q l.length 1) h.row (by simp [tiR, TK.isAgg]) (by simp [tiR]; omega) (by omega)
  rw [hl] at p1
  have keep : ∀ j, j < σ.length → (cells ≠ [] → j ≠ qo) → σ'[j]? = σ[j]? := fun j hj hn => by
    have := List.getElem?_eq_getElem hj
    rw [this]
    exact p4 j _ this hn
  have hpo : p < qo' := Nat.lt_of_not_le fun hle => p5 qo' (by omega) (fun hx e => by have := (h.pos hx).1; omega) rfl
  refine ⟨qo', σ', p1, ⟨by simp [hl], fun _ => p2, fun _ => ⟨hpo, (List.getElem?_eq_some_iff.1 p2).1⟩, fun i l' hi => ?_⟩, fun j hj hn => ⟨keep j hj hn, p5 j hj hn⟩, p3⟩
  by_cases hil : i < L.length
  · rw [List.getElem?_append_left hil] at hi
    obtain ⟨q1, c1, c2, c3⟩ := h.at' i l' hi
    refine ⟨q1, by rw [List.getElem?_append_left (by omega)]; exact c1, fun hx => ?_, fun hne => ?_⟩
    · obtain ⟨k1, k2, k3⟩ := c3 (fun e => hx (by rw [e]; rfl))
      rw [keep q1 k2 (fun _ => k3)]
      exact c2 hx
    · obtain ⟨k1, k2, k3⟩ := c3 hne
      exact ⟨k1, by omega, p5 q1 k2 (fun _ => k3)⟩
  · have e : i = L.length := by
      have := (List.getElem?_eq_some_iff.1 hi).1
      simp at this; omega
    subst e
    simp at hi
    subst hi
    refine ⟨q, by rw [← hl]; simp, fun hx => ?_, fun hne => ?_⟩
    · obtain ⟨k1, k2, k3⟩ := hq (fun e => hx (by rw [e]; rfl))
      rw [keep q k2 k3]
      exact hr hx
    · obtain ⟨k1, k2, k3⟩ := hq hne
      exact ⟨k1, by omega, p5 q k2 k3⟩
structure Off (s : Nat) (OV : AV) (oq gq : Nat) (cells : List AV) (L : List (List Nat)) : Prop where
  opn : OV ≠ .nil → s ≠ oq
  grp : cells ≠ [] → s ≠ gq
  row : ∀ (i : Nat) l, L[i]? = some l → l ≠ [] → cells[i]? ≠ some (rowV s l.length 1)
theorem rowV_ne {s q m : Nat} {l : List Nat} (hl : l ≠ []) (h : s ≠ q) : some (rowV q l.length 1) ≠ some (rowV s l.length 1) := fun e => by
  obtain ⟨m, hm⟩ : ∃ m, l.length = m + 1 := ⟨l.length - 1, by have := List.length_pos_iff.2 hl; omega⟩
  rw [hm] at e
  exact h (rowV_inj (Option.some.inj e)).symm
set_option maxHeartbeats 4000000 in
theorem leave_ans {σ : H} {n : Nat} {OUT : AV} {t : T} {OV : AV} {oq gq : Nat} {cells : List AV} (h : FS σ n OUT t OV oq gq cells) (hn : n ≤ 2 ^ 30) (x : Nat) (hx : x < n) (hno : ¬ t.lo x < t.nm x) (hxo : x ∈ t.opn) (hnd : t.opn.Nodup) (hob : ∀ y ∈ t.opn, y < n) (hol : t.opn.length ≤ 2 ^ 30) (hgl : t.grp.length ≤ 2 ^ 30) :
    ∃ OV' gq' cells' σ', AnsH ctx 35 [.ptr 3 1 0 0, .int .i64 x] σ (.tup []) σ' ∧ FS σ' n OUT (t.leave x) OV' oq gq' cells' ∧ σ.length ≤ σ'.length ∧ ∀ s, 3 < s → s < σ.length → Off s OV oq gq cells t.grp → σ'[s]? = σ[s]? ∧ Off s OV' oq gq' cells' (t.leave x).grp := by
  have h3 := get3 h
  obtain ⟨C, hC⟩ : ∃ C : Int, C = (t.cnt : Int) := ⟨_, rfl⟩
  have hix := idx_at hx
  obtain ⟨NU, hNU⟩ : ∃ z, z = encNs t.num := ⟨_, rfl⟩
  obtain ⟨LO, hLO⟩ : ∃ z, z = encNs t.low := ⟨_, rfl⟩
  have nl : NU.length = n := by rw [hNU]; simpa using h.ln
  have ll : LO.length = n := by rw [hLO]; simpa using h.ll
  have nx : NU[x]? = some (.int .i64 (t.nm x)) := by rw [hNU]; exact encNs_get (by rw [h.ln]; exact hx)
  have lx : LO[x]? = some (.int .i64 (t.lo x)) := by rw [hLO]; exact encNs_get (by rw [h.ll]; exact hx)
  obtain ⟨zs, k1, k2, k3, k4, k5⟩ : ∃ zs, OV = .hs oq zs.length 0 t.opn.length 1 ∧ σ[oq]? = some (.arr false 1 zs) ∧ zs.take t.opn.length = encNs t.opn ∧ t.opn.length ≤ zs.length ∧ 3 < oq := by
    rcases h.opn with ⟨e, _⟩ | e
    · rw [e] at hxo; simp at hxo
    · exact e
  have hOn : OV ≠ .nil := by rw [k1]; simp
  have hoql : oq < σ.length := (List.getElem?_eq_some_iff.1 k2).1
  -- the cut
  have hcat := cutAt_app x t.opn
  obtain ⟨r0, hr0⟩ := cutAt_mem hxo
  obtain ⟨P, hP⟩ : ∃ z, z = (cutAt x t.opn).1 := ⟨_, rfl⟩
  obtain ⟨G, hG⟩ : ∃ z, z = (cutAt x t.opn).2 := ⟨_, rfl⟩
  rw [← hP, ← hG] at hcat
  rw [← hG] at hr0
  have hGl : G.length = r0.length + 1 := by rw [hr0]; rfl
  have hlen : P.length + (r0.length + 1) = t.opn.length := by rw [← hcat]; simp [hGl]
  have hGm : ∀ y ∈ G, y ∈ t.opn := fun y hy => by rw [← hcat]; simp [hy]
  have hGnd : G.Nodup := by
    rw [← hcat] at hnd
    exact (List.nodup_append.1 hnd).2.1
  have hzd : (zs.drop P.length).take (r0.length + 1) = encNs G := by
    have e1 : (zs.take t.opn.length).drop P.length = (encNs t.opn).drop P.length := by rw [k3]
    rw [List.drop_take] at e1
    have e2 : t.opn.length - P.length = r0.length + 1 := by omega
    rw [e2] at e1
    rw [e1, ← hcat, encNs_app]
    exact List.drop_left' (by simp)
  have hzt : zs.take P.length = encNs P := by
    have e1 : (zs.take t.opn.length).take P.length = (encNs t.opn).take P.length := by rw [k3]
    rw [List.take_take, Nat.min_eq_left (by omega)] at e1
    rw [e1, ← hcat, encNs_app]
    exact List.take_left' (by simp)
  obtain ⟨M, hM⟩ : ∃ z, z = r0.length + 1 := ⟨_, rfl⟩
  rw [← hM] at hlen hGl hzd
  -- the letters of the heap
  obtain ⟨GV, hGV⟩ : ∃ z, z = rowV gq t.grp.length 1 := ⟨_, rfl⟩
  obtain ⟨OV', hOV'⟩ : ∃ z : AV, z = .hs oq zs.length 0 P.length 1 := ⟨_, rfl⟩
  have g0 := h.num
  have g1 := h.low
  have g2 := h.is
  have g3 := h.obj
  rw [← hNU] at g0
  rw [← hLO] at g1
  rw [← hGV, k1, ← hC] at g3
  unfold finderV at g3
  -- where the node stands
  have hind : AnsH ctx 39 [.hs oq zs.length 0 t.opn.length 1, .int .i64 x] σ (.int .i64 (P.length : Nat)) σ := by
    rw [hP]
    exact AnsH.lay (l' := [.sl 1 (encNs t.opn), .int .i64 x]) (ns := [oq]) fn39_ (by simp [AV.noRefs, AV.noRef]) (by
      unfold snapL mapO2
      rw [snapA_hs k2 rfl k4 (by rw [k3]; simp), k3]
      rfl) (by simp [AV.noRefs, AV.noRef]) (index_ans x t.opn (by omega) hxo)
  -- the group
  have hcl : AnsH ctx 40 [.hs oq zs.length P.length M 1] σ (.hs σ.length M 0 M 1) (σ ++ [.arr false 1 (encNs G)]) := by
    have := clone_at σ oq zs.length P.length r0.length zs (encNs G) k2 rfl (by rw [← hM]; exact hzd) (by omega) (by omega) (by
      have : ∀ l, fitAll tiI (encNs l) = true := fun l => by
        induction l with
        | nil => rfl
        | cons a l ih => rw [encNs_cons, fitAll, ih]; rfl
      exact this G)
    rw [← hM] at this
    exact this
  obtain ⟨Q, hQ⟩ : ∃ z, z = σ.length := ⟨_, rfl⟩
  obtain ⟨σ1, e1⟩ : ∃ s, s = σ ++ [.arr false 1 (encNs G)] := ⟨_, rfl⟩
  rw [← e1, ← hQ] at hcl
  have a3 : σ1[3]? = some (.arr false 7 [.agg [OUT, .hs 0 n 0 n 1, .hs 1 n 0 n 1, .hs oq zs.length 0 t.opn.length 1, .hs 2 n 0 n 1, .int .i64 C, GV]]) := by rw [e1, List.getElem?_append_left h3]; exact g3
  have aq : σ1[Q]? = some (.arr false 1 (encNs G)) := by rw [e1, hQ]; simp
  have ar : ∀ j, j < Q → σ1[j]? = σ[j]? := fun j hj => by rw [e1, List.getElem?_append_left (by omega)]
  have al : σ1.length = Q + 1 := by rw [e1, hQ]; simp
  obtain ⟨σ2, e2⟩ : ∃ s, s = σ1.set 3 (.arr false 7 [.agg [OUT, .hs 0 n 0 n 1, .hs 1 n 0 n 1, OV', .hs 2 n 0 n 1, .int .i64 C, GV]]) := ⟨_, rfl⟩
  have bl : σ2.length = Q + 1 := by rw [e2]; simp [al]
  have b3 : σ2[3]? = some (.arr false 7 [.agg [OUT, .hs 0 n 0 n 1, .hs 1 n 0 n 1, OV', .hs 2 n 0 n 1, .int .i64 C, GV]]) := by rw [e2, List.getElem?_set_self (by omega)]
  have br : ∀ j, j ≠ 3 → σ2[j]? = σ1[j]? := fun j hj => by rw [e2, List.getElem?_set_ne (Ne.symm hj)]
  have b2 : σ2[2]? = some (.arr false 1 (encBo t.is)) := by rw [br 2 (by omega), ar 2 (by omega)]; exact g2
  have bq : σ2[Q]? = some (.arr false 1 (encNs G)) := by rw [br Q (by omega)]; exact aq
  obtain ⟨fr', l1, l2, l3, l4, l5⟩ := lp35 n Q OUT (.hs 0 n 0 n 1) (.hs 1 n 0 n 1) OV' (.int .i64 C) GV G (by omega) (by omega) G 0 t.is σ2 (Tail.all _) (fun y hy => hob y (hGm y hy)) h.li b2 b3 bq
  obtain ⟨kk, hk⟩ := l1.den
  obtain ⟨σ3, e3⟩ : ∃ s, s = σ2.set 2 (.arr false 1 (encBo (offs t.is G))) := ⟨_, rfl⟩
  rw [← e3] at hk
  have cl' : σ3.length = Q + 1 := by rw [e3]; simp [bl]
  have c2 : σ3[2]? = some (.arr false 1 (encBo (offs t.is G))) := by rw [e3, List.getElem?_set_self (by omega)]
  have cr : ∀ j, j ≠ 2 → σ3[j]? = σ2[j]? := fun j hj => by rw [e3, List.getElem?_set_ne (Ne.symm hj)]
  have cq : σ3[Q]? = some (.arr false 1 (encNs G)) := by rw [cr Q (by omega)]; exact bq
  have hso := sort_at σ3 Q G cq hGnd (by omega)
  rw [hGl] at hso hk l4
  obtain ⟨SG, hSG⟩ : ∃ z, z = sortN G := ⟨_, rfl⟩
  obtain ⟨σ4, e4⟩ : ∃ s, s = σ3.set Q (.arr false 1 (encNs SG)) := ⟨_, rfl⟩
  rw [← hSG, ← e4] at hso
  have hsl : SG.length = M := by
    have h1 : ∀ (x : Nat) (m : List Nat), (insN x m).length = m.length + 1 := fun x m => by
      induction m with
      | nil => rfl
      | cons y m ih => unfold insN; split <;> simp [ih]
    have h2 : ∀ m : List Nat, (sortN m).length = m.length := fun m => by
      induction m with
      | nil => rfl
      | cons y m ih => simp [sortN, h1, ih]
    rw [hSG, h2, hGl]
  have dl : σ4.length = Q + 1 := by rw [e4]; simp [cl']
  have dq : σ4[Q]? = some (.arr false 1 (encNs SG)) := by rw [e4, List.getElem?_set_self (by omega)]
  have dr : ∀ j, j ≠ Q → σ4[j]? = σ3[j]? := fun j hj => by rw [e4, List.getElem?_set_ne (Ne.symm hj)]
  have d3 : σ4[3]? = some (.arr false 7 [.agg [OUT, .hs 0 n 0 n 1, .hs 1 n 0 n 1, OV', .hs 2 n 0 n 1, .int .i64 C, GV]]) := by rw [dr 3 (by omega), cr 3 (by omega)]; exact b3
  have dall : ∀ j, j < Q → j ≠ 2 → j ≠ 3 → σ4[j]? = σ[j]? := fun j h1 h2 h3 => by rw [dr j (by omega), cr j h2, br j h3, ar j h1]
  have hO4 : OutAt σ4 3 gq cells t.grp := h.grp_keep (fun j hj hjl _ => dall j (by omega) (by omega) (by omega)) (by omega)
  obtain ⟨gq', σ5, p1, p2, p3, p4⟩ := hO4.push2 (q := Q) (l := SG) (fun _ => dq) (fun _ => ⟨by omega, by omega, fun hc e => by have := (h.grp.pos hc).2; omega⟩) (by omega) hgl
  rw [hsl] at p1
  unfold tiR at p1
  rw [← hGV] at p1
  have eQ : rowV Q M 1 = .hs Q M 0 M 1 := by rw [hM]; rfl
  rw [eQ] at p1
  obtain ⟨GV', hGV'⟩ : ∃ z, z = rowV gq' (t.grp.length + 1) 1 := ⟨_, rfl⟩
  rw [← hGV'] at p1
  have sm : ∀ j, j ≤ 3 → σ5[j]? = σ4[j]? := fun j hj => (p3 j (by omega) (fun hc e => by have := (h.grp.pos hc).1; omega)).1
  have f3 : σ5[3]? = some (.arr false 7 [.agg [OUT, .hs 0 n 0 n 1, .hs 1 n 0 n 1, OV', .hs 2 n 0 n 1, .int .i64 C, GV]]) := by rw [sm 3 (by omega)]; exact d3
  obtain ⟨σ6, e6⟩ : ∃ s, s = σ5.set 3 (.arr false 7 [.agg [OUT, .hs 0 n 0 n 1, .hs 1 n 0 n 1, OV', .hs 2 n 0 n 1, .int .i64 C, GV']]) := ⟨_, rfl⟩
  have fr6 : ∀ j, j ≠ 3 → σ6[j]? = σ5[j]? := fun j hj => by rw [e6, List.getElem?_set_ne (Ne.symm hj)]
  have fl6 : σ6.length = σ5.length := by rw [e6]; simp
  have hlv : t.leave x = { t with opn := P, is := offs t.is G, grp := t.grp ++ [SG] } := by
    unfold T.leave
    rw [if_neg hno, ← hP, ← hG, ← hSG]
  have all6 : ∀ j, 3 < j → j < Q → (cells ≠ [] → j ≠ gq) → σ6[j]? = σ[j]? ∧ j ≠ gq' := fun j h1 h2 h3 => by
    obtain ⟨u1, u2⟩ := p3 j (by omega) h3
    exact ⟨by rw [fr6 j (by omega), u1, dall j h2 (by omega) (by omega)], u2⟩
  refine ⟨OV', gq', cells ++ [rowV Q SG.length 1], σ6, AnsH.of fn35_ (by simp [AV.noRefs, AV.noRef]) (snapPtr ..) (by simp [AV.noRef, AV.noRefs]) ?_, ?_, by omega, fun s hs hsl' ho => ?_⟩
  · obtain ⟨q1, hq1⟩ := hind
    obtain ⟨q2, hq2⟩ := hcl
    obtain ⟨q3, hq3⟩ := hso
    refine ⟨kk + q1 + q2 + q3, fun N hN => ?_⟩
    have hk := hk N (by omega)
    have hq1 := hq1 N (by omega)
    have hq2 := hq2 N (by omega)
    have hq3 := hq3 N (by omega)
    have hlt : ¬ (t.lo x : Int) < (t.nm x : Int) := by omega
    have hPl : P.length ≤ t.opn.length := by omega
    have hbd1 : bounds (some (P.length : Int)) none t.opn.length = some (P.length, t.opn.length) := by
      unfold bounds
      simp [hPl]
    have hbd2 : bounds none (some (P.length : Int)) t.opn.length = some (0, P.length) := by
      unfold bounds
      simp [hPl]
    have hM2 : t.opn.length - P.length = M := by omega
    have fo : OV'.fits ⟨.slice 3, 1, 24, .nil, []⟩ = true := by rw [hOV']; rfl
    have oc : OV'.cells = [OV'] := by rw [hOV']; rfl
    have gc : GV'.cells = [GV'] := by rw [hGV']; rfl
    have fg : GV'.fits ⟨.slice 26, 1, 24, .nil, []⟩ = true := by rw [hGV', rowV_fits]; rfl
    have j58 := l5 58 (by omega)
    have j59 := l5 59 (by omega)
    have j60 := l5 60 (by omega)
    have j61 := l5 61 (by omega)
    have j62 := l5 62 (by omega)
    have j63 := l5 63 (by omega)
    have j64 := l5 64 (by omega)
    have j65 := l5 65 (by omega)
    have j66 := l5 66 (by omega)
    have j67 := l5 67 (by omega)
    have j68 := l5 68 (by omega)
    have j69 := l5 69 (by omega)
    clear l1 all6 hO4 p2 p3 hlv
    simp -implicitDefEqProofs [i35, c35, d35_0, g0, g1, g3, hix, nl, ll, nx, lx, hlt, hq1, hq2, hq3, a3, e2.symm, hbd1, hbd2, hM2, hk, l2, l3, l4, j58, j59, j60, j61, j62, j63, j64, j65, j66, j67, j68, j69, fo, oc, gc, fg, d3, p1, f3, e6.symm, hOV'.symm, -appendH]
  · rw [hlv]
    have hdis := h.dis hOn
    obtain ⟨w1, w2⟩ := all6 oq k5 (by omega) hdis.1
    refine ⟨?_, ?_, ?_, ?_, h.ln, h.ll, ?_, .inr ⟨zs, hOV', ?_, hzt, by simp only; omega, k5⟩, ?_, fun _ => ⟨fun _ => w2, fun i l hi hl => ?_⟩⟩
    · rw [fr6 0 (by omega), sm 0 (by omega), dr 0 (by omega), cr 0 (by omega), br 0 (by omega), ar 0 (by omega), g0, hNU]
    · rw [fr6 1 (by omega), sm 1 (by omega), dr 1 (by omega), cr 1 (by omega), br 1 (by omega), ar 1 (by omega), g1, hLO]
    · rw [fr6 2 (by omega), sm 2 (by omega), dr 2 (by omega), c2]
    · rw [e6, List.getElem?_set_self (by omega), hGV', hC]
      simp [finderV]
    · rw [offs_len]; exact h.li
    · rw [w1]; exact k2
    · refine ⟨p2.len, fun hx => ?_, fun hx => ⟨(p2.pos hx).1, by rw [fl6]; exact (p2.pos hx).2⟩, fun i l hi => ?_⟩
      · have := (p2.pos hx).1
        rw [fr6 gq' (by omega)]; exact p2.row hx
      · obtain ⟨q, z1, z2, z3⟩ := p2.at' i l hi
        refine ⟨q, z1, fun hx => ?_, fun hl => ⟨(z3 hl).1, by rw [fl6]; exact (z3 hl).2.1, (z3 hl).2.2⟩⟩
        have := (z3 (fun e => hx (by rw [e]; rfl))).1
        rw [fr6 q (by omega)]; exact z2 hx
    · have hgl' := h.grp.len
      by_cases hil : i < t.grp.length
      · rw [List.getElem?_append_left (by omega)]
        rw [List.getElem?_append_left hil] at hi
        exact hdis.2 i l hi hl
      · have e : i = t.grp.length := by
          have := (List.getElem?_eq_some_iff.1 hi).1
          simp at this; omega
        subst e
        simp at hi
        subst hi
        rw [← hgl']
        simp only [List.getElem?_concat_length]
        exact rowV_ne (m := 0) hl (by omega)
  · obtain ⟨w1, w2⟩ := all6 s hs (by omega) ho.grp
    refine ⟨w1, fun _ => ho.opn hOn, fun _ => w2, fun i l hi hl => ?_⟩
    rw [hlv] at hi
    have hgl' := h.grp.len
    by_cases hil : i < t.grp.length
    · rw [List.getElem?_append_left (by omega)]
      rw [List.getElem?_append_left hil] at hi
      exact ho.row i l hi hl
    · have e : i = t.grp.length := by
        have := (List.getElem?_eq_some_iff.1 hi).1
        simp at this; omega
      subst e
      simp at hi
      subst hi
      rw [← hgl']
      simp only [List.getElem?_concat_length]
      exact rowV_ne (m := 0) hl (by omega)
theorem leave_not {σ : H} {n : Nat} {OUT : AV} {t : T} {OV : AV} {oq gq : Nat} {cells : List AV} (h : FS σ n OUT t OV oq gq cells) (x : Nat) (hx : x < n) (hno : t.lo x < t.nm x) : AnsH ctx 35 [.ptr 3 1 0 0, .int .i64 x] σ (.tup []) σ := by
  have hix := idx_at hx
  obtain ⟨NU, hNU⟩ : ∃ z, z = encNs t.num := ⟨_, rfl⟩
  obtain ⟨LO, hLO⟩ : ∃ z, z = encNs t.low := ⟨_, rfl⟩
  have nl : NU.length = n := by rw [hNU]; simpa using h.ln
  have ll : LO.length = n := by rw [hLO]; simpa using h.ll
  have nx : NU[x]? = some (.int .i64 (t.nm x)) := by rw [hNU]; exact encNs_get (by rw [h.ln]; exact hx)
  have lx : LO[x]? = some (.int .i64 (t.lo x)) := by rw [hLO]; exact encNs_get (by rw [h.ll]; exact hx)
  have g0 := h.num
  have g1 := h.low
  have g3 := h.obj
  rw [← hNU] at g0
  rw [← hLO] at g1
  generalize rowV gq t.grp.length 1 = GV at g3
  unfold finderV at g3
  refine AnsH.of fn35_ (by simp [AV.noRefs, AV.noRef]) (snapPtr ..) (by simp [AV.noRef, AV.noRefs]) ⟨0, fun N hN => ?_⟩
  simp -implicitDefEqProofs [i35, c35, d35_0, g0, g1, g3, hix, nl, ll, nx, lx, hno]
end Go.Am.Try
