/- Tarjan's finder in the heap; a node is come to. -/
import Derived.Test.YtflhndopabnipaaS7
set_option linter.unusedVariables false
set_option linter.unusedSimpArgs false
set_option maxRecDepth 100000
namespace Go.Am.Try
open Go Go.Am.Sc
theorem snapPtr (σ : H) (q v i o : Nat) (l : List AV) : snapL σ (.ptr q v i o :: l) = none := by
  unfold snapL mapO2
  have : snapA σ 200 (.ptr q v i o) = none := by
    unfold snapA
    rw [if_neg (by simp [AV.noRef])]
  rw [this]
def finderV (OUT OV : AV) (n : Nat) (c : Int) (GV : AV) : AV := .agg [OUT, .hs 0 n 0 n 1, .hs 1 n 0 n 1, OV, .hs 2 n 0 n 1, .int .i64 c, GV]
structure FS (σ : H) (n : Nat) (OUT : AV) (t : T) (OV : AV) (oq gq : Nat) (cells : List AV) : Prop where
  num : σ[0]? = some (.arr false 1 (encNs t.num))
  low : σ[1]? = some (.arr false 1 (encNs t.low))
  is : σ[2]? = some (.arr false 1 (encBo t.is))
  obj : σ[3]? = some (.arr false 7 [finderV OUT OV n t.cnt (rowV gq t.grp.length 1)])
  ln : t.num.length = n
  ll : t.low.length = n
  li : t.is.length = n
  opn : (t.opn = [] ∧ OV = .nil) ∨ ∃ zs, OV = .hs oq zs.length 0 t.opn.length 1 ∧ σ[oq]? = some (.arr false 1 zs) ∧ zs.take t.opn.length = encNs t.opn ∧ t.opn.length ≤ zs.length ∧ 3 < oq
  grp : OutAt σ 3 gq cells t.grp
  dis : OV ≠ .nil → (cells ≠ [] → oq ≠ gq) ∧ ∀ (i : Nat) l, t.grp[i]? = some l → l ≠ [] → cells[i]? ≠ some (rowV oq l.length 1)
theorem rowV_inj {q q' m : Nat} (h : rowV q (m + 1) 1 = rowV q' (m + 1) 1) : q = q' := by simpa [rowV] using h
theorem FS.grp_keep {σ σ' : H} {n : Nat} {OUT : AV} {t : T} {OV : AV} {oq gq : Nat} {cells : List AV} (h : FS σ n OUT t OV oq gq cells) (hk : ∀ j, 3 < j → j < σ.length → (OV ≠ .nil → j ≠ oq) → σ'[j]? = σ[j]?) (hl : σ.length ≤ σ'.length) : OutAt σ' 3 gq cells t.grp := by
  have hg := h.grp
  refine ⟨hg.len, fun hx => ?_, fun hx => ⟨(hg.pos hx).1, by have := (hg.pos hx).2; omega⟩, fun i l hi => ?_⟩
  · obtain ⟨k1, k2⟩ := hg.pos hx
    rw [hk gq k1 k2 (fun ho e => (h.dis ho).1 hx e.symm)]
    exact hg.row hx
  · obtain ⟨q, c1, c2, c3⟩ := hg.at' i l hi
    refine ⟨q, c1, fun hx => ?_, fun hne => ?_⟩
    · have hne : l ≠ [] := fun e => hx (by rw [e]; rfl)
      obtain ⟨k1, k2, k3⟩ := c3 hne
      rw [hk q k1 k2 (fun ho e => (h.dis ho).2 i l hi hne (by rw [c1, e]))]
      exact c2 hx
    · obtain ⟨k1, k2, k3⟩ := c3 hne
      exact ⟨k1, by omega, k3⟩
theorem get3 {σ : H} {n : Nat} {OUT : AV} {t : T} {OV : AV} {oq gq : Nat} {cells : List AV} (h : FS σ n OUT t OV oq gq cells) : 3 < σ.length := (List.getElem?_eq_some_iff.1 h.obj).1
set_option maxHeartbeats 2000000 in
theorem enter_ans {σ : H} {n : Nat} {OUT : AV} {t : T} {OV : AV} {oq gq : Nat} {cells : List AV} (h : FS σ n OUT t OV oq gq cells) (hn : n ≤ 2 ^ 30) (x : Nat) (hx : x < n) (hc : t.cnt ≤ 2 ^ 40) (ho : t.opn.length ≤ 2 ^ 30) :
    ∃ OV' oq' σ', AnsH ctx 34 [.ptr 3 1 0 0, .int .i64 x] σ (.agg [.int .i64 x, .int .i64 0]) σ' ∧ FS σ' n OUT (t.enter x) OV' oq' gq cells ∧ (∀ j, 3 < j → j < σ.length → (OV ≠ .nil → j ≠ oq) → σ'[j]? = σ[j]?) ∧ σ.length ≤ σ'.length ∧ OV' ≠ .nil ∧ (oq' = oq ∧ OV ≠ .nil ∨ oq' = σ.length) := by
  have h3 := get3 h
  obtain ⟨C, hC⟩ : ∃ C : Int, C = ((t.cnt + 1 : Nat) : Int) := ⟨_, rfl⟩
  have hw : IntKind.i64.wrap ((t.cnt : Int) + 1) = C := by rw [wrap_i64 (by omega), hC]; omega
  have hix := idx_at hx
  -- the rows, as letters
  obtain ⟨NU, hNU⟩ : ∃ z, z = encNs t.num := ⟨_, rfl⟩
  obtain ⟨LO, hLO⟩ : ∃ z, z = encNs t.low := ⟨_, rfl⟩
  obtain ⟨IS, hIS⟩ : ∃ z, z = encBo t.is := ⟨_, rfl⟩
  have nl : NU.length = n := by rw [hNU]; simpa using h.ln
  have ll : LO.length = n := by rw [hLO]; simpa using h.ll
  have il : IS.length = n := by rw [hIS]; simpa using h.li
  have nx : NU[x]? = some (.int .i64 (t.num.getD x 0 : Nat)) := by rw [hNU]; exact encNs_get (by rw [h.ln]; exact hx)
  have lx : LO[x]? = some (.int .i64 (t.low.getD x 0 : Nat)) := by rw [hLO]; exact encNs_get (by rw [h.ll]; exact hx)
  have ix : IS[x]? = some (.bool (t.is.getD x false)) := by rw [hIS]; exact encBo_get (by rw [h.li]; exact hx)
  obtain ⟨NU', hNU'⟩ : ∃ z, z = NU.set x (.int .i64 C) := ⟨_, rfl⟩
  obtain ⟨LO', hLO'⟩ : ∃ z, z = LO.set x (.int .i64 C) := ⟨_, rfl⟩
  obtain ⟨IS', hIS'⟩ : ∃ z, z = IS.set x (.bool true) := ⟨_, rfl⟩
  obtain ⟨GV, hGV⟩ : ∃ z, z = rowV gq t.grp.length 1 := ⟨_, rfl⟩
  have g0 := h.num
  have g1 := h.low
  have g2 := h.is
  have g3 := h.obj
  rw [← hNU] at g0
  rw [← hLO] at g1
  rw [← hIS] at g2
  rw [← hGV] at g3
  unfold finderV at g3
  -- the heaps
  obtain ⟨σ1, e1⟩ : ∃ s, s = σ.set 3 (.arr false 7 [.agg [OUT, .hs 0 n 0 n 1, .hs 1 n 0 n 1, OV, .hs 2 n 0 n 1, .int .i64 C, GV]]) := ⟨_, rfl⟩
  have a0 : σ1[0]? = some (.arr false 1 NU) := by rw [e1, List.getElem?_set_ne (by omega)]; exact g0
  have a1 : σ1[1]? = some (.arr false 1 LO) := by rw [e1, List.getElem?_set_ne (by omega)]; exact g1
  have a2 : σ1[2]? = some (.arr false 1 IS) := by rw [e1, List.getElem?_set_ne (by omega)]; exact g2
  have a3 : σ1[3]? = some (.arr false 7 [.agg [OUT, .hs 0 n 0 n 1, .hs 1 n 0 n 1, OV, .hs 2 n 0 n 1, .int .i64 C, GV]]) := by rw [e1, List.getElem?_set_self h3]
  have al : σ1.length = σ.length := by rw [e1]; simp
  have ar : ∀ j, 3 < j → σ1[j]? = σ[j]? := fun j hj => by rw [e1, List.getElem?_set_ne (by omega)]
  obtain ⟨σ2, e2⟩ : ∃ s, s = σ1.set 0 (.arr false 1 NU') := ⟨_, rfl⟩
  have b0 : σ2[0]? = some (.arr false 1 NU') := by rw [e2, List.getElem?_set_self (by omega)]
  have b1 : σ2[1]? = some (.arr false 1 LO) := by rw [e2, List.getElem?_set_ne (by omega)]; exact a1
  have b2 : σ2[2]? = some (.arr false 1 IS) := by rw [e2, List.getElem?_set_ne (by omega)]; exact a2
  have b3 : σ2[3]? = some (.arr false 7 [.agg [OUT, .hs 0 n 0 n 1, .hs 1 n 0 n 1, OV, .hs 2 n 0 n 1, .int .i64 C, GV]]) := by rw [e2, List.getElem?_set_ne (by omega)]; exact a3
  have bl : σ2.length = σ.length := by rw [e2]; simp [al]
  have br : ∀ j, 3 < j → σ2[j]? = σ[j]? := fun j hj => by rw [e2, List.getElem?_set_ne (by omega)]; exact ar j hj
  obtain ⟨σ3, e3⟩ : ∃ s, s = σ2.set 1 (.arr false 1 LO') := ⟨_, rfl⟩
  have c0 : σ3[0]? = some (.arr false 1 NU') := by rw [e3, List.getElem?_set_ne (by omega)]; exact b0
  have c1 : σ3[1]? = some (.arr false 1 LO') := by rw [e3, List.getElem?_set_self (by omega)]
  have c2 : σ3[2]? = some (.arr false 1 IS) := by rw [e3, List.getElem?_set_ne (by omega)]; exact b2
  have c3 : σ3[3]? = some (.arr false 7 [.agg [OUT, .hs 0 n 0 n 1, .hs 1 n 0 n 1, OV, .hs 2 n 0 n 1, .int .i64 C, GV]]) := by rw [e3, List.getElem?_set_ne (by omega)]; exact b3
  have cl' : σ3.length = σ.length := by rw [e3]; simp [bl]
  have cr : ∀ j, 3 < j → σ3[j]? = σ[j]? := fun j hj => by rw [e3, List.getElem?_set_ne (by omega)]; exact br j hj
  -- what is open
  have hap : ∃ OV' oq' zs' σ4, appendH ⟨.int .i64, 1, 8, .int .i64 0, [.int .i64]⟩ OV [.int .i64 (x : Int)] σ3 = some (OV', σ4) ∧ OV' = .hs oq' zs'.length 0 (t.opn.length + 1) 1 ∧ σ4[oq']? = some (.arr false 1 zs') ∧ zs'.take (t.opn.length + 1) = encNs (t.opn ++ [x]) ∧ t.opn.length + 1 ≤ zs'.length ∧ 3 < oq' ∧ (∀ j, j < σ.length → (OV ≠ .nil → j ≠ oq) → σ4[j]? = σ3[j]?) ∧ σ.length ≤ σ4.length ∧ (oq' = oq ∧ OV ≠ .nil ∨ oq' = σ.length) := by
    rcases h.opn with ⟨k1, k2⟩ | ⟨zs, k1, k2, k3, k4, k5⟩
    · refine ⟨.hs σ3.length 1 0 1 1, σ3.length, [.int .i64 (x : Int)], σ3 ++ [.arr false 1 [.int .i64 (x : Int)]], ?_, by simp [k1], by simp, by simp [k1, encNs], by simp [k1], by omega, fun j hj _ => by rw [List.getElem?_append_left (by omega)], by simp; omega, .inr cl'⟩
      rw [k2]
      simp [appendH, fitAll]
    · have hll : (encNs t.opn).length = t.opn.length := by simp
      obtain ⟨zs', p1, p2, p3⟩ := push_at tiI σ3 oq zs (encNs t.opn) (.int .i64 (x : Int)) (by rw [cr oq k5]; exact k2) (by simp [tiI]) (by rw [hll]; exact k3) (by rw [hll]; exact k4) (by rw [hll]; simp [tiI]; omega) (by rw [hll]; omega)
      rw [hll] at p1 p2 p3
      unfold tiI at p1
      have hol : oq < σ3.length := by rw [cl']; exact (List.getElem?_eq_some_iff.1 k2).1
      refine ⟨_, oq, zs', _, by rw [k1]; exact p1, rfl, by simp [hol], by rw [p2, encNs_app]; rfl, p3, k5, fun j hj hn => ?_, by simp [cl'], .inl ⟨rfl, by rw [k1]; simp⟩⟩
      rw [List.getElem?_set_ne (fun e => hn (by rw [k1]; simp) e.symm)]
  obtain ⟨OV', oq', zs', σ4, hap, hOV', ho1, ho2, ho3, ho4, hk4, hl4, hor⟩ := hap
  have hsm : ∀ j, j ≤ 3 → σ4[j]? = σ3[j]? := fun j hj => hk4 j (by omega) (fun hne e => by
    rcases h.opn with ⟨_, k2⟩ | ⟨zs, _, _, _, _, k5⟩
    · exact hne k2
    · omega)
  have d0 : σ4[0]? = some (.arr false 1 NU') := by rw [hsm 0 (by omega)]; exact c0
  have d1 : σ4[1]? = some (.arr false 1 LO') := by rw [hsm 1 (by omega)]; exact c1
  have d2 : σ4[2]? = some (.arr false 1 IS) := by rw [hsm 2 (by omega)]; exact c2
  have d3 : σ4[3]? = some (.arr false 7 [.agg [OUT, .hs 0 n 0 n 1, .hs 1 n 0 n 1, OV, .hs 2 n 0 n 1, .int .i64 C, GV]]) := by rw [hsm 3 (by omega)]; exact c3
  obtain ⟨σ5, e5⟩ : ∃ s, s = σ4.set 3 (.arr false 7 [.agg [OUT, .hs 0 n 0 n 1, .hs 1 n 0 n 1, OV', .hs 2 n 0 n 1, .int .i64 C, GV]]) := ⟨_, rfl⟩
  have f2 : σ5[2]? = some (.arr false 1 IS) := by rw [e5, List.getElem?_set_ne (by omega)]; exact d2
  have f3 : σ5[3]? = some (.arr false 7 [.agg [OUT, .hs 0 n 0 n 1, .hs 1 n 0 n 1, OV', .hs 2 n 0 n 1, .int .i64 C, GV]]) := by rw [e5, List.getElem?_set_self (by omega)]
  have fr5 : ∀ j, j ≠ 3 → σ5[j]? = σ4[j]? := fun j hj => by rw [e5, List.getElem?_set_ne (Ne.symm hj)]
  have fl5 : σ5.length = σ4.length := by rw [e5]; simp
  refine ⟨OV', oq', σ5.set 2 (.arr false 1 IS'), AnsH.of fn34_ (by simp [AV.noRefs, AV.noRef]) (snapPtr ..) (by simp [AV.noRef, AV.noRefs]) ⟨0, fun N hN => ?_⟩, ?_, fun j hj hjl hne => ?_, by simp; omega, by rw [hOV']; simp, hor⟩
  · have fo : OV'.fits ⟨.slice 3, 1, 24, .nil, []⟩ = true := by rw [hOV']; rfl
    have fo2 : OV.fits ⟨.slice 3, 1, 24, .nil, []⟩ = true := by
      rcases h.opn with ⟨_, k2⟩ | ⟨zs, k1, _⟩
      · rw [k2]; rfl
      · rw [k1]; rfl
    have oc : OV'.cells = [OV'] := by rw [hOV']; rfl
    simp -implicitDefEqProofs [i34, c34, d34_0, hw, hix, g3, a0, a1, a3, b1, b3, c2, c3, d3, f2, f3, nx, lx, ix, nl, ll, il, fo, fo2, oc, hap, hNU'.symm, hLO'.symm, hIS'.symm, e1.symm, e2.symm, e3.symm, e5.symm, d2, -appendH]
  · have hcnt : (t.enter x).cnt = t.cnt + 1 := rfl
    have hset : encNs (t.enter x).num = NU' := by
      rw [hNU', hNU, hC, encNs_set]; rfl
    have hset2 : encNs (t.enter x).low = LO' := by
      rw [hLO', hLO, hC, encNs_set]; rfl
    have hset3 : encBo (t.enter x).is = IS' := by
      rw [hIS', hIS, encBo_set]; rfl
    have hgrp : (t.enter x).grp = t.grp := rfl
    have hopn : (t.enter x).opn = t.opn ++ [x] := rfl
    have hfin : ∀ j, 3 < j → j < σ.length → (OV ≠ .nil → j ≠ oq) → (σ5.set 2 (.arr false 1 IS'))[j]? = σ[j]? := fun j hj hjl hne => by
      rw [List.getElem?_set_ne (by omega), fr5 j (by omega), hk4 j hjl hne, cr j hj]
    refine ⟨?_, ?_, ?_, ?_, ?_, ?_, ?_, .inr ⟨zs', ?_, ?_, ?_, ?_, ho4⟩, ?_, fun _ => ⟨fun hx e => ?_, fun i l hi hl e => ?_⟩⟩
    · rw [List.getElem?_set_ne (by omega), fr5 0 (by omega), d0, hset]
    · rw [List.getElem?_set_ne (by omega), fr5 1 (by omega), d1, hset2]
    · rw [List.getElem?_set_self (by omega), hset3]
    · rw [List.getElem?_set_ne (by omega), f3, hcnt, hgrp, hC, hGV]
      rfl
    · show (t.num.set _ _).length = n
      simpa using h.ln
    · show (t.low.set _ _).length = n
      simpa using h.ll
    · show (t.is.set _ _).length = n
      simpa using h.li
    · rw [hopn, hOV']; simp
    · rw [List.getElem?_set_ne (by omega), fr5 oq' (by omega)]; exact ho1
    · rw [hopn]; simpa using ho2
    · rw [hopn]; simpa using ho3
    · exact h.grp_keep hfin (by simp; omega)
    · obtain ⟨k1, k2⟩ := h.grp.pos hx
      rcases hor with ⟨rfl, hne⟩ | rfl
      · exact (h.dis hne).1 hx e
      · omega
    · rcases hor with ⟨rfl, hne⟩ | rfl
      · exact (h.dis hne).2 i l hi hl e
      · obtain ⟨q, q1, q2, q3⟩ := h.grp.at' i l hi
        rw [q1] at e
        obtain ⟨m, hm⟩ : ∃ m, l.length = m + 1 := ⟨l.length - 1, by have := List.length_pos_iff.2 hl; omega⟩
        rw [hm] at e
        have := rowV_inj (Option.some.inj e)
        have := (q3 hl).2.1
        omega
  · rw [List.getElem?_set_ne (by omega), fr5 j (by omega), hk4 j hjl hne, cr j hj]
end Go.Am.Try
