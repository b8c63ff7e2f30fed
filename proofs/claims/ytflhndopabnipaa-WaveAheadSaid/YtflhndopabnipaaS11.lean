/- Tarjan's finder: all from one node on. -/
import Derived.Test.YtflhndopabnipaaS10
import Derived.Test.YtflhndopabnipaaTA
set_option linter.unusedVariables false
set_option linter.unusedSimpArgs false
set_option maxRecDepth 100000
namespace Go.Am.Try
open Go Go.Am.Sc
theorem Off.fresh {σ : H} {n : Nat} {OUT : AV} {t : T} {OV : AV} {oq gq : Nat} {cells : List AV} (h : FS σ n OUT t OV oq gq cells) {s : Nat} (hs : σ.length ≤ s) : Off s OV oq gq cells t.grp := by
  refine ⟨fun ho e => ?_, fun hc e => ?_, fun i l hi hl e => ?_⟩
  · rcases h.opn with ⟨_, k⟩ | ⟨zs, k1, k2, _⟩
    · exact ho k
    · have := (List.getElem?_eq_some_iff.1 k2).1; omega
  · have := (h.grp.pos hc).2; omega
  · obtain ⟨q, z1, z2, z3⟩ := h.grp.at' i l hi
    have := (z3 hl).2.1
    rw [z1] at e
    exact rowV_ne (m := 0) hl (by omega) e
theorem FS.keep {σ σ' : H} {n : Nat} {OUT : AV} {t : T} {OV : AV} {oq gq : Nat} {cells : List AV} (h : FS σ n OUT t OV oq gq cells) {s : Nat} (hs : 3 < s) (ho : Off s OV oq gq cells t.grp) (hk : ∀ j, j < σ.length → j ≠ s → σ'[j]? = σ[j]?) (hl : σ.length ≤ σ'.length) : FS σ' n OUT t OV oq gq cells := by
  have h3 := get3 h
  refine ⟨by rw [hk 0 (by omega) (by omega)]; exact h.num, by rw [hk 1 (by omega) (by omega)]; exact h.low, by rw [hk 2 (by omega) (by omega)]; exact h.is, by rw [hk 3 (by omega) (by omega)]; exact h.obj, h.ln, h.ll, h.li, ?_, ⟨h.grp.len, fun hx => ?_, fun hx => ⟨(h.grp.pos hx).1, by have := (h.grp.pos hx).2; omega⟩, fun i l hi => ?_⟩, h.dis⟩
  · rcases h.opn with k | ⟨zs, k1, k2, k3, k4, k5⟩
    · exact .inl k
    · refine .inr ⟨zs, k1, ?_, k3, k4, k5⟩
      rw [hk oq (List.getElem?_eq_some_iff.1 k2).1 (fun e => ho.opn (by rw [k1]; simp) e.symm)]
      exact k2
  · obtain ⟨k1, k2⟩ := h.grp.pos hx
    rw [hk gq k2 (fun e => ho.grp hx e.symm)]
    exact h.grp.row hx
  · obtain ⟨q, c1, c2, c3⟩ := h.grp.at' i l hi
    refine ⟨q, c1, fun hx => ?_, fun hne => ⟨(c3 hne).1, by have := (c3 hne).2.1; omega, (c3 hne).2.2⟩⟩
    have hne : l ≠ [] := fun e => hx (by rw [e]; rfl)
    rw [hk q (c3 hne).2.1 (fun e => ho.row i l hi hne (by rw [c1, e]))]
    exact c2 hx
theorem FS.low' {σ : H} {n : Nat} {OUT : AV} {t : T} {OV : AV} {oq gq : Nat} {cells : List AV} (h : FS σ n OUT t OV oq gq cells) (u v : Nat) : FS (σ.set 1 (.arr false 1 (encNs (t.low.set u v)))) n OUT (t.low1 u v) OV oq gq cells := by
  have h3 := get3 h
  refine ⟨by rw [List.getElem?_set_ne (by omega)]; exact h.num, by rw [List.getElem?_set_self (by omega)]; rfl, by rw [List.getElem?_set_ne (by omega)]; exact h.is, by rw [List.getElem?_set_ne (by omega)]; exact h.obj, h.ln, ?_, h.li, ?_, ⟨h.grp.len, fun hx => ?_, fun hx => ⟨(h.grp.pos hx).1, by have := (h.grp.pos hx).2; simpa using this⟩, fun i l hi => ?_⟩, h.dis⟩
  · show (t.low.set u v).length = n
    simpa using h.ll
  · rcases h.opn with k | ⟨zs, k1, k2, k3, k4, k5⟩
    · exact .inl k
    · refine .inr ⟨zs, k1, ?_, k3, k4, k5⟩
      rw [List.getElem?_set_ne (by omega)]; exact k2
  · have := (h.grp.pos hx).1
    rw [List.getElem?_set_ne (by omega)]; exact h.grp.row hx
  · obtain ⟨q, c1, c2, c3⟩ := h.grp.at' i l hi
    refine ⟨q, c1, fun hx => ?_, fun hne => ⟨(c3 hne).1, by simpa using (c3 hne).2.1, (c3 hne).2.2⟩⟩
    have := (c3 (fun e => hx (by rw [e]; rfl))).1
    rw [List.getElem?_set_ne (by omega)]; exact c2 hx
def encF (S : List (Nat × Nat)) : List AV := S.map fun p => .agg [.int .i64 (p.1 : Int), .int .i64 (p.2 : Int)]
@[simp] theorem encF_length (S : List (Nat × Nat)) : (encF S).length = S.length := by simp [encF]
def tiF : TI := ⟨.strct [(0, 3), (1, 3)], 2, 16, .agg [.int .i64 0, .int .i64 0], []⟩
structure Stk (σ : H) (sq : Nat) (zs : List AV) (S : List (Nat × Nat)) : Prop where
  at' : σ[sq]? = some (.arr false 2 zs)
  eq : zs.take S.length = encF S.reverse
  le : S.length ≤ zs.length
theorem topF {zs : List AV} {S : List (Nat × Nat)} {p : Nat × Nat} (h : zs.take (p :: S).length = encF (p :: S).reverse) : zs[S.length]? = some (.agg [.int .i64 (p.1 : Int), .int .i64 (p.2 : Int)]) ∧ zs.take S.length = encF S.reverse := by
  have ea : ∀ l m, encF (l ++ m) = encF l ++ encF m := fun l m => by simp [encF]
  simp only [List.length_cons, List.reverse_cons, ea] at h
  constructor
  · have := congrArg (fun z => z[S.length]?) h
    simp only [List.getElem?_take_of_lt (Nat.lt_succ_self _)] at this
    rw [this, List.getElem?_append_right (by simp)]
    simp [encF]
  · have := congrArg (fun z => z.take S.length) h
    simp only [List.take_take] at this
    rw [Nat.min_eq_left (by omega)] at this
    rw [this, List.take_append_of_le_length (by simp)]
    simp [encF, List.take_of_length_le]
theorem setF {zs : List AV} {S : List (Nat × Nat)} {p : Nat × Nat} (q : Nat × Nat) (h : zs.take (p :: S).length = encF (p :: S).reverse) (hl : (p :: S).length ≤ zs.length) : (zs.set S.length (.agg [.int .i64 (q.1 : Int), .int .i64 (q.2 : Int)])).take (q :: S).length = encF (q :: S).reverse := by
  have ea : ∀ l m, encF (l ++ m) = encF l ++ encF m := fun l m => by simp [encF]
  simp only [List.length_cons] at hl
  simp only [List.length_cons, List.reverse_cons, ea]
  rw [List.take_succ_eq_append_getElem (by simp; omega), List.take_set_of_le (Nat.le_refl _), (topF h).2]
  simp [encF]
theorem fitsF (p : Nat × Nat) : (AV.agg [.int .i64 (p.1 : Int), .int .i64 (p.2 : Int)]).fits tiF = true := by rfl
structure At (σ : H) (L : List (List Nat)) (t : T) (S : List (Nat × Nat)) (OV : AV) (oq gq : Nat) (cells : List AV) (sq : Nat) (zs : List AV) : Prop where
  fs : FS σ L.length (.sl 1 (encU L)) t OV oq gq cells
  stk : Stk σ sq zs S
  off : Off sq OV oq gq cells t.grp
  lt : 3 < sq
  cnt : t.cnt + zeros t.num ≤ L.length
theorem leave_both {σ : H} {n : Nat} {OUT : AV} {t : T} {OV : AV} {oq gq : Nat} {cells : List AV} (h : FS σ n OUT t OV oq gq cells) (hn : n ≤ 2 ^ 30) (x : Nat) (hx : x < n) (hxo : x ∈ t.opn) (hnd : t.opn.Nodup) (hob : ∀ y ∈ t.opn, y < n) (hol : t.opn.length ≤ 2 ^ 30) (hgl : t.grp.length ≤ 2 ^ 30) :
    ∃ OV' gq' cells' σ', AnsH ctx 35 [.ptr 3 1 0 0, .int .i64 x] σ (.tup []) σ' ∧ FS σ' n OUT (t.leave x) OV' oq gq' cells' ∧ σ.length ≤ σ'.length ∧ ∀ s, 3 < s → s < σ.length → Off s OV oq gq cells t.grp → σ'[s]? = σ[s]? ∧ Off s OV' oq gq' cells' (t.leave x).grp := by
  by_cases hno : t.lo x < t.nm x
  · have e : t.leave x = t := by unfold T.leave; rw [if_pos hno]
    rw [e]
    exact ⟨OV, gq, cells, σ, leave_not h x hx hno, h, Nat.le_refl _, fun s _ _ ho => ⟨rfl, ho⟩⟩
  · exact leave_ans h hn x hx hno hxo hnd hob hol hgl
set_option maxHeartbeats 4000000 in
theorem lp28 (L : List (List Nat)) (hn : L.length ≤ 2 ^ 30) (hr : ∀ l ∈ L, l.length ≤ 2 ^ 30) {S : List (Nat × Nat)} {t t' : T} (h : Runs L S t t') : ∀ (σ : H) (OV : AV) (oq gq : Nat) (cells : List AV) (sq : Nat) (zs : List AV), Inv L S t → At σ L t S OV oq gq cells sq zs →
    ∃ fr' OV' oq' gq' cells' σ', Lp ctx [12, 74] [] [0, 4] b28_0 ⟨[(0, .v (.ptr 3 1 0 0)), (4, .v (.hs sq zs.length 0 S.length 2))], false⟩ σ (.ex 0) fr' σ' ∧ FS σ' L.length (.sl 1 (encU L)) t' OV' oq' gq' cells' ∧ t'.cnt + zeros t'.num ≤ L.length ∧ fr'.lk = false := by
  induction h with
  | nil t =>
    intro σ OV oq gq cells sq zs hI hA
    refine ⟨?_, OV, oq, gq, cells, σ, Lp.exit ⟨0, fun N _ => ?_⟩ (by simp), ?_⟩
    rotate_left
    · simp -implicitDefEqProofs [b28_0]
      rfl
    · exact ⟨hA.fs, hA.cnt, by simp⟩
  | @turn x j S t t' hR ih =>
    intro σ OV oq gq cells sq zs hI hA
    obtain ⟨hfs, ⟨s1, s2, s3⟩, hoff, hsq, hcnt⟩ := hA
    have hIt := (hI.turn).1
    have h3 := get3 hfs
    have hSl := hI.stk_le
    have hol := hI.opn_le
    simp only [List.length_cons] at hSl s3
    have hxo := (hI.stk (x, j) (by simp)).1
    have hjl := (hI.stk (x, j) (by simp)).2
    have hx := hI.inO x hxo
    simp only at hxo hjl
    obtain ⟨q, hq⟩ : ∃ q, L[x]? = some q := ⟨_, List.getElem?_eq_getElem hx⟩
    have ho : outs L x = q := by unfold outs; rw [List.getD_eq_getElem?_getD, hq]; rfl
    have hql := hr q (List.mem_of_getElem? hq)
    rw [ho] at hjl
    obtain ⟨t1, t2⟩ := topF s2
    have hgx := encU_at hq
    have hixx := idx_at hx
    have hsql : sq < σ.length := (List.getElem?_eq_some_iff.1 s1).1
    -- the finder
    obtain ⟨GV, hGV⟩ : ∃ z, z = rowV gq t.grp.length 1 := ⟨_, rfl⟩
    obtain ⟨C, hC⟩ : ∃ C : Int, C = (t.cnt : Int) := ⟨_, rfl⟩
    have g0 := hfs.num
    have g1 := hfs.low
    have g2 := hfs.is
    have g3 := hfs.obj
    rw [← hGV, ← hC] at g3
    unfold finderV at g3
    have hw : IntKind.i64.wrap ((S.length : Int)) = (S.length : Int) := wrap_i64 (by omega)
    have hgt : ((S.length : Int) + 1) > 0 := by omega
    have hix : idxN (S.length : Int) (S.length + 1) = some S.length := idx_pred
    have hbd := bounds_pred (n := S.length)
    have hle : S.length < zs.length := by omega
    have t1e : zs[S.length] = .agg [.int .i64 (x : Int), .int .i64 (j : Int)] := by
      have := t1
      rw [List.getElem?_eq_getElem hle] at this
      exact Option.some.inj this
    have hnl : (encNs t.num).length = L.length := by simpa using hfs.ln
    have hll : (encNs t.low).length = L.length := by simpa using hfs.ll
    have hil : (encBo t.is).length = L.length := by simpa using hfs.li
    have hlx : (encNs t.low)[x]? = some (.int .i64 (t.lo x : Nat)) := encNs_get (by rw [hfs.ll]; exact hx)
    cases hj : q[j]? with
    | some y =>
      have hjlt := (List.getElem?_eq_some_iff.1 hj).1
      have hjL : (outs L x)[j]? = some y := by rw [ho]; exact hj
      have hy : y < L.length := hI.ok x y (by unfold Ed; exact List.mem_of_getElem? hjL)
      have hiY := idx_at hy
      have hiJ := idx_at hjlt
      have hqy : (encNs q)[j]? = some (.int .i64 (y : Int)) := by unfold encNs; rw [List.getElem?_map, hj]; rfl
      have hrow : encR 1 true (encNs q) = .sl 1 (encNs q) := encR_ne (fun e => by
        have := congrArg List.length e
        simp at this
        rw [this] at hjlt; simp at hjlt)
      rw [hrow] at hgx
      have hjl' : (j : Int) < (q.length : Int) := by omega
      obtain ⟨J, hJ⟩ : ∃ J : Int, J = ((j + 1 : Nat) : Int) := ⟨_, rfl⟩
      have hwj := wrap_succ (n := j) (by unfold big; omega)
      rw [← hJ] at hwj
      have hny : (encNs t.num)[y]? = some (.int .i64 (t.nm y : Nat)) := encNs_get (by rw [hfs.ln]; exact hy)
      have hIy := encBo_get (l := t.is) (i := y) (by rw [hfs.li]; exact hy)
      -- the next edge
      obtain ⟨zs1, ez⟩ : ∃ z, z = zs.set S.length (.agg [.int .i64 (x : Int), .int .i64 J]) := ⟨_, rfl⟩
      obtain ⟨σ1, e1⟩ : ∃ s, s = σ.set sq (.arr false 2 zs1) := ⟨_, rfl⟩
      have zl : zs1.length = zs.length := by rw [ez]; simp
      have al : σ1.length = σ.length := by rw [e1]; simp
      have ar : ∀ i, i ≠ sq → σ1[i]? = σ[i]? := fun i hi => by rw [e1, List.getElem?_set_ne (Ne.symm hi)]
      have aq : σ1[sq]? = some (.arr false 2 zs1) := by rw [e1, List.getElem?_set_self hsql]
      have hS1 : Stk σ1 sq zs1 ((x, j + 1) :: S) := ⟨aq, by rw [ez, hJ]; exact setF (x, j + 1) s2 s3, by rw [zl]; exact s3⟩
      have hF1 : FS σ1 L.length (.sl 1 (encU L)) t OV oq gq cells := hfs.keep hsq hoff (fun i _ hi => ar i hi) (by omega)
      have a0 : σ1[0]? = some (.arr false 1 (encNs t.num)) := hF1.num
      have a1 : σ1[1]? = some (.arr false 1 (encNs t.low)) := hF1.low
      have a2 : σ1[2]? = some (.arr false 1 (encBo t.is)) := hF1.is
      have a3 : σ1[3]? = some (.arr false 7 [.agg [.sl 1 (encU L), .hs 0 L.length 0 L.length 1, .hs 1 L.length 0 L.length 1, OV, .hs 2 L.length 0 L.length 1, .int .i64 C, GV]]) := by rw [ar 3 (by omega)]; exact g3
      by_cases h0 : t.nm y = 0
      · have et : Sc.turn L ((x, j) :: S) t = ((y, 0) :: (x, j + 1) :: S, t.enter y) := by rw [turn_some hjL, if_pos h0]
        rw [et] at ih hIt
        simp only at ih hIt
        obtain ⟨OV1, oq1, σ2, b1, b2, b3, b4, b5, b6⟩ := enter_ans hF1 hn y hy (by omega) (by omega)
        have b7 : σ2[sq]? = some (.arr false 2 zs1) := by rw [b3 sq hsq (by omega) hoff.opn]; exact aq
        have hoff1 : Off sq OV1 oq1 gq cells (t.enter y).grp := ⟨fun _ => by
          rcases b6 with ⟨e, ho'⟩ | e
          · rw [e]; exact hoff.opn ho'
          · omega, hoff.grp, hoff.row⟩
        have hsl2 : sq < σ2.length := by omega
        have hlF : (encF ((x, j + 1) :: S).reverse).length = S.length + 1 := by simp
        obtain ⟨zs2, p1, p2, p3⟩ := push_at tiF σ2 sq zs1 (encF ((x, j + 1) :: S).reverse) (.agg [.int .i64 (y : Int), .int .i64 ((0 : Nat) : Int)]) b7 (fitsF (y, 0)) (by rw [hlF]; exact hS1.eq) (by rw [hlF]; exact hS1.le) (by rw [hlF]; simp [tiF]; omega) (by rw [hlF]; omega)
        rw [hlF] at p1 p2 p3
        unfold tiF at p1
        rw [zl] at p1
        simp only [Int.cast_ofNat_Int] at p1
        obtain ⟨σ3, e3⟩ : ∃ s, s = σ2.set sq (.arr false 2 zs2) := ⟨_, rfl⟩
        rw [← e3] at p1
        have cr : ∀ i, i ≠ sq → σ3[i]? = σ2[i]? := fun i hi => by rw [e3, List.getElem?_set_ne (Ne.symm hi)]
        have cl3 : σ3.length = σ2.length := by rw [e3]; simp
        have hF3 := b2.keep (σ' := σ3) hsq hoff1 (fun i _ hi => cr i hi) (by omega)
        have hS3 : Stk σ3 sq zs2 ((y, 0) :: (x, j + 1) :: S) := ⟨by rw [e3, List.getElem?_set_self hsl2], by
          show zs2.take (S.length + 1 + 1) = _
          rw [p2]
          simp [encF], p3⟩
        obtain ⟨fr', OV', oq', gq', cells', σ', l1, l2⟩ := ih σ3 OV1 oq1 gq cells sq zs2 hIt ⟨hF3, hS3, hoff1, hsq, by rw [zeros_enter hI hy h0]; exact hcnt⟩
        simp only [List.length_cons] at l1
        obtain ⟨k1, hk1⟩ := b1
        refine ⟨fr', OV', oq', gq', cells', σ', Lp.step ⟨k1, fun N hN => ?_⟩ l1, l2⟩
        have hk1 := hk1 N hN
        clear l1 l2 ih b2 b3 hF3 hS3
        have h0' : (((t.nm y : Nat) : Int) == 0) = true := by rw [h0]; rfl
        simp -implicitDefEqProofs [b28_0, d28_0, d28_1, hw, hgt, hix, hle, g3, s1, t1e, hgx, hixx, hjl', hqy, hiJ, hwj, ez.symm, e1.symm, a0, a2, a3, hnl, hil, hiY, hny, hIy, h0', hk1, p1, -appendH]
      by_cases h1 : t.is.getD y false = true
      · have et : Sc.turn L ((x, j) :: S) t = ((x, j + 1) :: S, t.low1 x (min (t.lo x) (t.nm y))) := by rw [turn_some hjL, if_neg h0, if_pos h1]
        rw [et] at ih hIt
        simp only at ih hIt
        obtain ⟨V, hV⟩ : ∃ V : Nat, V = min (t.lo x) (t.nm y) := ⟨_, rfl⟩
        rw [← hV] at ih hIt
        obtain ⟨σ2, e2⟩ : ∃ s, s = σ1.set 1 (.arr false 1 (encNs (t.low.set x V))) := ⟨_, rfl⟩
        have hF2 : FS σ2 L.length (.sl 1 (encU L)) (t.low1 x V) OV oq gq cells := by rw [e2]; exact hF1.low' x V
        have hS2 : Stk σ2 sq zs1 ((x, j + 1) :: S) := ⟨by rw [e2, List.getElem?_set_ne (by omega)]; exact aq, hS1.eq, hS1.le⟩
        obtain ⟨fr', OV', oq', gq', cells', σ', l1, l2⟩ := ih σ2 OV oq gq cells sq zs1 hIt ⟨hF2, hS2, hoff, hsq, hcnt⟩
        rw [zl] at l1
        refine ⟨fr', OV', oq', gq', cells', σ', Lp.step ⟨0, fun N hN => ?_⟩ l1, l2⟩
        clear l1 l2 ih
        have h0' : (((t.nm y : Nat) : Int) == 0) = false := by rw [beq_eq_false_iff_ne]; omega
        rw [h1] at hIy
        have hset := encNs_set t.low x V
        have hz1 : zs1[S.length]? = some (.agg [.int .i64 (x : Int), .int .i64 J]) := by rw [ez, List.getElem?_set_self hle]
        have hmin : (if t.nm y < t.lo x then ((t.nm y : Nat) : Int) else ((t.lo x : Nat) : Int)) = (V : Int) := by split <;> omega
        simp -implicitDefEqProofs [b28_0, d28_0, d28_1, d28_2, hw, hgt, hix, hle, g3, s1, t1e, hgx, hixx, hjl', hqy, hiJ, hwj, ez.symm, e1.symm, a0, a2, a3, hnl, hil, hiY, hny, hIy, h0', hll, hlx, a1, hmin, hset, e2.symm, aq, zl, ↓hz1]
      · have et : Sc.turn L ((x, j) :: S) t = ((x, j + 1) :: S, t) := by rw [turn_some hjL, if_neg h0, if_neg h1]
        rw [et] at ih hIt
        simp only at ih hIt
        obtain ⟨fr', OV', oq', gq', cells', σ', l1, l2⟩ := ih σ1 OV oq gq cells sq zs1 hIt ⟨hF1, hS1, hoff, hsq, hcnt⟩
        rw [zl] at l1
        refine ⟨fr', OV', oq', gq', cells', σ', Lp.step ⟨0, fun N hN => ?_⟩ l1, l2⟩
        clear l1 l2 ih
        have h0' : (((t.nm y : Nat) : Int) == 0) = false := by rw [beq_eq_false_iff_ne]; omega
        have h1' : t.is.getD y false = false := by simpa using h1
        rw [h1'] at hIy
        simp -implicitDefEqProofs [b28_0, d28_0, d28_1, hw, hgt, hix, hle, g3, s1, t1e, hgx, hixx, hjl', hqy, hiJ, hwj, ez.symm, e1.symm, a0, a2, a3, hnl, hil, hiY, hny, hIy, h0']
    | none =>
      have hjL : (outs L x)[j]? = none := by rw [ho]; exact hj
      have hjq : j = q.length := by have := List.getElem?_eq_none_iff.1 hj; omega
      have hjl' : ¬ (j : Int) < (q.length : Int) := by omega
      cases S with
      | nil =>
        have et : Sc.turn L [(x, j)] t = ([], t.leave x) := turn_last hjL
        rw [et] at ih hIt
        simp only at ih hIt
        obtain ⟨OV1, gq1, cells1, σ1, b1, b2, b3, b4⟩ := leave_both hfs hn x hx hxo hI.opn_nodup hI.inO (by omega) (by have := hI.grp_le; omega)
        obtain ⟨b5, b6⟩ := b4 sq hsq hsql hoff
        have hnum := (leave_nm t x).2
        obtain ⟨fr', OV', oq', gq', cells', σ', l1, l2⟩ := ih σ1 OV1 oq gq1 cells1 sq zs hIt ⟨b2, ⟨by rw [b5]; exact s1, rfl, by simp⟩, b6, hsq, by
          rw [hnum]
          have : (t.leave x).cnt = t.cnt := by unfold T.leave; split <;> rfl
          rw [this]; exact hcnt⟩
        simp only [List.length_nil, Int.cast_ofNat_Int] at l1 t1e hix hw hgt hbd hle ⊢
        obtain ⟨k1, hk1⟩ := b1
        refine ⟨fr', OV', oq', gq', cells', σ', Lp.step ⟨k1, fun N hN => ?_⟩ l1, l2⟩
        have hk1 := hk1 N hN
        clear l1 l2 ih b2 b4
        simp -implicitDefEqProofs [b28_0, d28_0, hw, hgt, hix, hle, hbd, g3, s1, t1e, hgx, hixx, hjl', hk1]
      | cons p S =>
        obtain ⟨u, k⟩ := p
        have et : Sc.turn L ((x, j) :: (u, k) :: S) t = ((u, k) :: S, (t.low1 u (min (t.lo u) (t.lo x))).leave x) := turn_pop hjL
        rw [et] at ih hIt
        simp only at ih hIt
        obtain ⟨V, hV⟩ : ∃ V : Nat, V = min (t.lo u) (t.lo x) := ⟨_, rfl⟩
        rw [← hV] at ih hIt
        have hu : u < L.length := hI.inO u (hI.stk (u, k) (by simp)).1
        have hiU := idx_at hu
        have hlu : (encNs t.low)[u]? = some (.int .i64 (t.lo u : Nat)) := encNs_get (by rw [hfs.ll]; exact hu)
        obtain ⟨σ1, e1⟩ : ∃ s, s = σ.set 1 (.arr false 1 (encNs (t.low.set u V))) := ⟨_, rfl⟩
        have hF1 : FS σ1 L.length (.sl 1 (encU L)) (t.low1 u V) OV oq gq cells := by rw [e1]; exact hfs.low' u V
        have al : σ1.length = σ.length := by rw [e1]; simp
        have as1 : σ1[sq]? = some (.arr false 2 zs) := by rw [e1, List.getElem?_set_ne (by omega)]; exact s1
        obtain ⟨OV1, gq1, cells1, σ2, b1, b2, b3, b4⟩ := leave_both hF1 hn x hx hxo hI.opn_nodup hI.inO (by show t.opn.length ≤ _; omega) (by have := hI.grp_le; show t.grp.length ≤ _; omega)
        obtain ⟨b5, b6⟩ := b4 sq hsq (by omega) hoff
        have hnum : ((t.low1 u V).leave x).num = t.num := (leave_nm (t.low1 u V) x).2
        obtain ⟨fr', OV', oq', gq', cells', σ', l1, l2⟩ := ih σ2 OV1 oq gq1 cells1 sq zs hIt ⟨b2, ⟨by rw [b5]; exact as1, t2, by simp only [List.length_cons] at s3 ⊢; omega⟩, b6, hsq, by
          rw [hnum]
          have : ((t.low1 u V).leave x).cnt = t.cnt := by unfold T.leave; split <;> rfl
          rw [this]; exact hcnt⟩
        obtain ⟨u1, u2⟩ := topF t2
        simp only [List.length_cons] at l1 t1e hix hw hgt hbd hle hSl ⊢
        have hle2 : S.length < zs.length := by omega
        have u1e : zs[S.length] = .agg [.int .i64 (u : Int), .int .i64 (k : Int)] := by
          have := u1
          rw [List.getElem?_eq_getElem hle2] at this
          exact Option.some.inj this
        have hwb : IntKind.i64.wrap ((S.length : Int)) = (S.length : Int) := wrap_i64 (by omega)
        have hgtb : ((S.length : Int) + 1) > 0 := by omega
        have hixb : idxN (S.length : Int) (S.length + 1) = some S.length := idx_pred
        have hmin : (if t.lo x < t.lo u then ((t.lo x : Nat) : Int) else ((t.lo u : Nat) : Int)) = (V : Int) := by split <;> omega
        have hset := encNs_set t.low u V
        have hle3 : S.length + 1 < zs.length := by omega
        obtain ⟨k1, hk1⟩ := b1
        refine ⟨fr', OV', oq', gq', cells', σ', Lp.step ⟨k1, fun N hN => ?_⟩ l1, l2⟩
        have hk1 := hk1 N hN
        clear l1 l2 ih b2 b4 hF1
        have hwA : IntKind.i64.wrap ((S.length : Int) + 1) = (S.length : Int) + 1 := wrap_i64 (by omega)
        have hgtA : ((S.length : Int) + 1 + 1) > 0 := by omega
        have hixA : idxN ((S.length : Int) + 1) (S.length + 1 + 1) = some (S.length + 1) := by
          have := idx_pred (n := S.length + 1)
          simpa using this
        have hbdA : bounds none (some ((S.length : Int) + 1)) (S.length + 1 + 1) = some (0, S.length + 1) := by
          have := bounds_pred (n := S.length + 1)
          simpa using this
        simp -implicitDefEqProofs [b28_0, d28_0, d28_3, hwA, hgtA, hixA, hbdA, hle3, hle2, g1, g3, s1, t1e, u1e, hgx, hixx, hjl', hk1, hwb, hgtb, hixb, hll, hlx, hlu, hiU, hmin, hset, e1.symm]
set_option maxHeartbeats 1000000 in
theorem from_ans (L : List (List Nat)) (hn : L.length ≤ 2 ^ 30) (hr : ∀ l ∈ L, l.length ≤ 2 ^ 30) {t t' : T} {x : Nat} (hI : Inv L [] t) (hx : x < L.length) (h0 : t.nm x = 0) (hR : Runs L [(x, 0)] (t.enter x) t') {σ : H} {OV : AV} {oq gq : Nat} {cells : List AV} (hF : FS σ L.length (.sl 1 (encU L)) t OV oq gq cells) (hc : t.cnt + zeros t.num ≤ L.length) :
    ∃ OV' oq' gq' cells' σ', AnsH ctx 28 [.ptr 3 1 0 0, .int .i64 x] σ (.tup []) σ' ∧ FS σ' L.length (.sl 1 (encU L)) t' OV' oq' gq' cells' ∧ t'.cnt + zeros t'.num ≤ L.length := by
  have h3 := get3 hF
  have hol := hI.opn_le
  obtain ⟨OV1, oq1, σ1, b1, b2, b3, b4, b5, b6⟩ := enter_ans hF hn x hx (by omega) (by omega)
  have hE : Inv L [(x, 0)] (t.enter x) := hI.enter hx h0 (.inl ⟨rfl, hI.none_open⟩)
  obtain ⟨fr', OV', oq', gq', cells', σ', l1, l2, l3, l4⟩ := lp28 L hn hr hR (σ1 ++ [.arr false 2 [.agg [.int .i64 (x : Int), .int .i64 0]]]) OV1 oq1 gq cells σ1.length [.agg [.int .i64 (x : Int), .int .i64 0]] hE ⟨b2.keep (s := σ1.length) (by omega) (Off.fresh b2 (Nat.le_refl _)) (fun i hi _ => by rw [List.getElem?_append_left hi]) (by simp), ⟨by simp, by simp [encF], by simp⟩, Off.fresh b2 (Nat.le_refl _), by omega, by rw [zeros_enter hI hx h0]; exact hc⟩
  obtain ⟨k1, hk1⟩ := b1
  obtain ⟨k2, hk2⟩ := l1.den
  refine ⟨OV', oq', gq', cells', σ', AnsH.of fn28_ (by simp [AV.noRefs, AV.noRef]) (snapPtr ..) (by simp [AV.noRef, AV.noRefs]) ⟨k1 + k2, fun N hN => ?_⟩, l2, l3⟩
  have hk1 := hk1 N (by omega)
  have hk2 := hk2 N (by omega)
  simp only [List.length_singleton, Int.cast_ofNat_Int] at hk2
  clear l1 b2 b3
  simp -implicitDefEqProofs [i28, c28, hk1, hk2, l4]
end Go.Am.Try
