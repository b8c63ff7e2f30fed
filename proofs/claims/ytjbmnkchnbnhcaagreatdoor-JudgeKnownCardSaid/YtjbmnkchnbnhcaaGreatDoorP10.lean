/- Layers 12 to 14: the reference's parser: expressions. -/
import Derived.Test.YtjbmnkchnbnhcaaGreatDoorP9
set_option linter.unusedVariables false
set_option maxRecDepth 100000
set_option linter.unusedSimpArgs false
namespace Go.Am.Tryz
open Go Go.Am.Ps
theorem elems_encR (te : TI) (sz : Nat) (nl : Bool) (xs : List AV) (h : sz = te.size) (σ : H) : elemsM te (encR sz nl xs) σ = some (xs, σ) := by
  cases nl <;> cases xs <;> simp [encR, elemsM, h]
theorem Own.apps {q q2 sz : Nat} {σ0 σ : H} {xs : List AV} (h : Own q σ0 σ q2 sz xs) (hx : xs ≠ []) (te : TI) (ys : List AV) (hs : te.size = sz) (hy : fitAll te ys = true) (hn : AV.noRefs ys = true) (hb : (xs.length + ys.length) * te.bytes ≤ 2 ^ 45) (hl : xs.length + ys.length ≤ 2 ^ 45) :
    ∃ σ', appendH te (rowV q2 xs.length sz) ys σ = some (rowV q2 (xs.length + ys.length) sz, σ') ∧ Own q σ0 σ' q2 sz (xs ++ ys) ∧ σ'[q]? = σ[q]? := by
  subst hs
  have hlt := h.lt
  have hle := h.ext.len
  obtain ⟨h1, h2⟩ := h.row hx
  have hl2 := (List.getElem?_eq_some_iff.1 h1).1
  refine ⟨σ.set q2 (.arr false te.size (xs ++ ys)), ?_, ⟨hlt, ⟨by simp; omega, fun j hj hq => ?_⟩, fun _ => ⟨List.getElem?_set_self hl2, h2⟩, by rw [noRefs_append, h.nr, hn]; rfl⟩, by rw [List.getElem?_set_ne (by omega)]⟩
  · obtain ⟨m, hm⟩ : ∃ m, xs.length = m + 1 := ⟨xs.length - 1, by have := List.length_pos_iff.2 hx; omega⟩
    rw [hm] at hb hl ⊢
    have e0 : rowV q2 (m + 1) te.size = .hs q2 (m + 1) 0 (m + 1) te.size := rfl
    have e1 : rowV q2 (m + 1 + ys.length) te.size = .hs q2 (m + 1 + ys.length) 0 (m + 1 + ys.length) te.size := by
      rw [show m + 1 + ys.length = (m + ys.length) + 1 by omega]; rfl
    rw [e0, e1]
    unfold appendH
    simp only [arrAt, h1, hm, if_true]
    rw [if_pos ⟨trivial, trivial, by omega, hb, hl, hy⟩]
    by_cases hy0 : ys = []
    · subst hy0
      simp [setCells]
    · have : 0 < ys.length := List.length_pos_iff.2 hy0
      have ht : xs.take (m + 1) = xs := List.take_of_length_le (by omega)
      rw [if_neg (by omega)]
      first | rw [if_pos rfl, ht] | rw [ht]
  · rw [List.getElem?_set_ne (by omega)]
    exact h.ext.rest j hj hq
theorem fitAll_toks (te : TI) (hk : te.k.isAgg = true) (hs : te.size = 4) : ∀ l, fitAll te (encToks l) = true
  | [] => rfl
  | t :: l => by simp only [encToks_cons, fitAll, encTok_fits, hk, hs, fitAll_toks te hk hs l]; rfl
theorem lp48_1 (T : List Tok) (E q : Nat) (Z : AV) : ∀ (n : Nat), (∀ m, m < n → AtomOK T E m) → ∀ (p : PS) (e : Ex) (σ : H), 4 * mu p + 2 ≤ n → PO T E q σ p →
    ∃ fr' σ', Lp ctx [47, 51, 133, 144, 153] [] [0, 2, 11] b82_1 ⟨[(0, .v (.ptr q 1 0 0)), (2, .bx Z), (11, .bx (encE e))], false⟩ σ (.ex 3) fr' σ' ∧ fr'.lk = false ∧ Hi 170 fr' ∧ getS fr'.sl 2 = .bx Z ∧ getS fr'.sl 11 = .bx (encE (apps E n e p).1) ∧
      PO T E q σ' (apps E n e p).2 ∧ Ext q σ σ'
  | 0, _, _, _, _, h, _ => by omega
  | n + 1, hE, p, e, σ, hn, hp => by
    obtain ⟨k1, hk1⟩ := atomic_ans hp
    cases ha : p.atomic with
    | false =>
      rw [show apps E (n + 1) e p = (e, p) by simp [apps, ha]]
      refine ⟨?_, σ, Lp.exit ⟨k1, fun N hN => ?_⟩ (by simp), ?_⟩
      rotate_left
      · have hk1 := hk1 N hN
        rw [ha] at hk1
        simp -implicitDefEqProofs [b82_1, hk1]
        rfl
      · exact ⟨by simp, hi_of (by simp), by simp, by simp, hp, Ext.refl _ _⟩
    | true =>
      obtain ⟨d, m1, m2⟩ := hE n (by omega) p (by omega)
      have m3 := m2 ha
      obtain ⟨σ1, ⟨k2, hk2⟩, p1, x1⟩ := d q σ hp
      obtain ⟨ek, ea, es, en, eks, eas⟩ := e
      rw [show apps E (n + 1) (.mk ek ea es en eks eas) p = apps E n (.mk 5 ea [] 0 [.mk ek ea es en eks eas, (atom E n p).1] []) (atom E n p).2 by simp [apps, ha]]
      obtain ⟨fr', σ', l1, l2, l3, l4, l5, l6, l7⟩ := lp48_1 T E q Z n (fun m hm => hE m (by omega)) (atom E n p).2 (.mk 5 ea [] 0 [.mk ek ea es en eks eas, (atom E n p).1] []) σ1 (by omega) p1
      generalize (atom E n p).1 = a at *
      generalize (atom E n p).2 = pa at *
      refine ⟨fr', σ', Lp.step ⟨k1 + k2, fun N hN => ?_⟩ l1, l2, l3, l4, l5, l6, x1.trans l7⟩
      have hk1 := hk1 N (by omega)
      have hk2 := hk2 N (by omega)
      rw [ha] at hk1
      rw [encE_mk ek, encE_mk 5]
      simp only [encEs_cons, encEs_nil, encAs_nil, encR_tnil, encR_cons, encE_mk ek]
      simp -implicitDefEqProofs [b82_1, hk1, hk2]
structure Beg (T : List Tok) (E q : Nat) (σ : H) (p : PS) (t : Tok) : Prop where
  ho : σ[q]? = some (.arr false 5 [.agg [.sl 4 (encToks T), .int .i64 p.i, .int .i64 E, .bool false, .int .i64 p.at_]])
  h2 : idxN (p.i : Int) T.length = some p.i
  h3 : (encToks T)[p.i]? = some (.agg [.int .i64 t.k, .int .i64 t.at_, .str t.s, .int .i64 t.n])
  h4 : (p.i : Int) < (T.length : Int)
  h5 : ¬ (T.length : Int) ≤ (p.i : Int)
  hw : IntKind.i64.wrap ((p.i : Int) + 1) = (p.i : Int) + 1
  hset : ∀ x, (σ.set q x)[q]? = some x
theorem PO.beg {T : List Tok} {E q : Nat} {σ : H} {p : PS} (h : PO T E q σ p) {t : Tok} {r : List Tok} (hb : p.bad = false) (hr : p.r = t :: r) : Beg T E q σ p t := by
  obtain ⟨h1, h2, h3, h4, h5, h6⟩ := h.next hr
  have ho := h.obj
  unfold objP encP at ho
  rw [hb, h1] at ho
  exact ⟨ho, h2, h3, h4, by omega, by rw [wrap_i64 (by omega)], fun x => List.getElem?_set_self h.lt⟩
def StepE (T : List Tok) (E n : Nat) (p : PS) : Prop := Does T E 82 (encE (expr E n p).1) p (expr E n p).2 ∧ mu (expr E n p).2 ≤ mu p
theorem expr_fail {T : List Tok} {E n : Nat} (p : PS) (h : p.bad = true ∨ p.r = []) : StepE T E (n + 1) p := by
  have e : expr E (n + 1) p = (ex0, p.fail E) := by
    simp only [expr]
    rcases h with h | h
    · rw [h]
    · rw [h]; cases p.bad <;> rfl
  unfold StepE
  rw [e]
  refine ⟨fun q σ hp => ?_, by simp only [mu_fail]; omega⟩
  obtain ⟨k1, hk1⟩ := fail_ans hp
  refine ⟨_, AnsH.of (σ' := σ.set q (objP T E (p.fail E))) fn82_ (by simp) (snapPtr _ _ _) (by simp) ⟨k1, fun N hN => ?_⟩, hp.failed, Ext.set _ _ _⟩
  have hk1 := hk1 N hN
  have ho := hp.obj
  unfold objP encP at ho
  cases hb : p.bad with
  | true =>
    rw [hb] at ho
    simp -implicitDefEqProofs [i82, c82, ho, hk1, encE_mk, ex0]
  | false =>
    have hr : p.r = [] := by
      rcases h with h | h
      · rw [h] at hb; cases hb
      · exact h
    obtain ⟨h1, h2⟩ := hp.end_ hr
    rw [hb] at ho
    simp -implicitDefEqProofs [i82, c82, ho, hk1, encE_mk, ex0, h1]
set_option maxHeartbeats 1000000 in
theorem expr_lam {T : List Tok} {E n : Nat} (hE : ExprOK T E n) (p : PS) (hn : 4 * mu p + 3 ≤ n + 1) (hpk : p.peek 5 sLam = true) : StepE T E (n + 1) p := by
  obtain ⟨hb, t, r, hr, _⟩ := peek_cons hpk
  have mn := mu_peek hpk
  have e : expr E (n + 1) p = (lams t.at_ ((p.next.eat E 1 []).1 :: (p.next.eat E 1 []).2.names.1) (expr E n ((p.next.eat E 1 []).2.names.2.sign E sArr)).1, (expr E n ((p.next.eat E 1 []).2.names.2.sign E sArr)).2) := by
    simp only [expr, hb, hr, hpk, if_true]
  have m1 := mu_eat E p.next 1 []
  have m2 := mu_names (p.next.eat E 1 []).2
  have m3 := mu_sign E (p.next.eat E 1 []).2.names.2 sArr
  obtain ⟨d, m4⟩ := hE ((p.next.eat E 1 []).2.names.2.sign E sArr) (by omega)
  unfold StepE
  rw [e]
  refine ⟨fun q σ h => ?_, by simp only; omega⟩
  obtain ⟨σ0, ⟨k0, hk0⟩, p0, x0⟩ := try_ans h sLam
  have et : p.try_ sLam = (true, p.next) := by unfold PS.try_; rw [hpk]
  rw [et] at hk0 p0
  obtain ⟨σ1, ⟨k1, hk1⟩, p1, x1⟩ := eat_ans (E := E) p0 1 []
  have own0 : Own q σ (σ1 ++ [.arr false 4 [encTok (p.next.eat E 1 []).1]]) σ1.length 4 [encTok (p.next.eat E 1 []).1] :=
    ⟨h.lt, (x0.trans x1).trans (Ext.app _ _ _), fun _ => ⟨by simp, (x0.trans x1).len⟩, by simp⟩
  obtain ⟨σ2, ⟨k2, hk2⟩, p2, x2⟩ := names_ans (p1.app [.arr false 4 [encTok (p.next.eat E 1 []).1]])
  have hlen : (p.next.eat E 1 []).2.names.1.length ≤ 65535 := by
    have h1 := namesF_len (p.next.eat E 1 []).2.r.length (p.next.eat E 1 []).2
    have h2 : (p.next.eat E 1 []).2.r.length ≤ p.next.r.length := by
      unfold PS.eat; split
      · simp [PS.next]
      · unfold PS.fail; split <;> exact Nat.le_refl _
    have h3 : p.next.r.length + 1 = p.r.length := by rw [hr]; simp [PS.next, hr]
    have h4 := h.small
    unfold PS.names; omega
  obtain ⟨σ3, hap, own3, hq3⟩ := (own0.call x2).apps (by simp) ⟨.strct [(0, 3), (1, 3), (2, 9), (3, 3)], 4, 40, .agg [.int .i64 0, .int .i64 0, .str [], .int .i64 0], []⟩ (encToks (p.next.eat E 1 []).2.names.1) rfl (fitAll_toks _ rfl rfl _) (by simp) (by simp; omega) (by simp; omega)
  obtain ⟨σ4, ⟨k4, hk4⟩, p4, x4⟩ := sign_ans (E := E) (p2.ext hq3) sArr
  obtain ⟨σ5, ⟨k5, hk5⟩, p5, x5⟩ := d q σ4 p4
  have own5 := (own3.call x4).call x5
  have bg := h.beg hb hr
  obtain ⟨ho, h2, h3, h4, h5, hw, hset⟩ := bg
  generalize (p.next.eat E 1 []).2.names.1 = L at *
  generalize (p.next.eat E 1 []).1 = c at *
  generalize (expr E n ((p.next.eat E 1 []).2.names.2.sign E sArr)).1 = b at *
  have hrow := (own5.row (by simp)).1
  have hnr5 := own5.nr
  rw [List.singleton_append, ← encToks_cons] at hrow hnr5
  have hlL : (c :: L).length = 1 + L.length := by simp; omega
  have ht : (encToks (c :: L)).take (1 + L.length) = encToks (c :: L) := List.take_of_length_le (by rw [encToks_length, hlL]; omega)
  have hsn : snapL σ5 [.hs σ1.length (1 + L.length) 0 (1 + L.length) 4, .int .i64 t.at_, encE b] = some ([.sl 4 (encToks (c :: L)), .int .i64 t.at_, encE b], [σ1.length]) := by
    have h1 := snapA_hs (n := 199) (m := 1 + L.length) hrow (by rw [encToks_length, hlL]) (Nat.le_refl _) (by rw [ht]; exact hnr5)
    rw [ht] at h1
    simp only [snapL, mapO2, h1, snapA_noRef (a := .int .i64 t.at_) rfl, snapA_noRef (noRef_encE b), List.append_nil]
  have hlay : AnsH ctx 81 [.hs σ1.length (1 + L.length) 0 (1 + L.length) 4, .int .i64 t.at_, encE b] σ5 (encE (lams t.at_ (c :: L) b)) (frzH σ5 [σ1.length]) := by
    have h1 := lams_ans (c :: L) (by rw [hlL]; omega) t.at_ b
    rw [show encR 4 true (encToks (c :: L)) = .sl 4 (encToks (c :: L)) by simp] at h1
    exact AnsH.lay (ns := [σ1.length]) fn81_ (by simp) hsn (by simp [AV.noRefs, AV.noRef]) h1
  obtain ⟨k6, hk6⟩ := hlay
  refine ⟨frzH σ5 [σ1.length], AnsH.of fn82_ (by simp) (snapPtr _ _ _) (by simp) ⟨k0 + k1 + k2 + k4 + k5 + k6, fun N hN => ?_⟩, p5.ext (frz_get _ _ _ ?_), own5.ext.frz ?_⟩
  · have hk0 := hk0 N (by omega)
    have hk1 := hk1 N (by omega)
    have hk2 := hk2 N (by omega)
    have hk4 := hk4 N (by omega)
    have hk5 := hk5 N (by omega)
    have hk6 := hk6 N (by omega)
    have hel : elemsM ⟨.strct [(0, 3), (1, 3), (2, 9), (3, 3)], 4, 40, .agg [.int .i64 0, .int .i64 0, .str [], .int .i64 0], []⟩ (encR 4 true (encToks L)) σ2 = some (encToks L, σ2) := elems_encR _ _ _ _ rfl _
    have e0 : rowV σ1.length 1 4 = .hs σ1.length 1 0 1 4 := rfl
    have e1 : rowV σ1.length (1 + L.length) 4 = .hs σ1.length (1 + L.length) 0 (1 + L.length) 4 := by rw [show 1 + L.length = L.length + 1 by omega]; rfl
    simp only [List.length_singleton, encToks_length, e0, e1] at hap
    simp only [Int.cast_ofNat_Int, sLam, sArr] at hk0 hk1 hk4
    generalize frzH σ5 [σ1.length] = σ6 at *
    simp -implicitDefEqProofs [i82, c82, ho, h2, h3, h4, h5, hk0, hk1, hk2, hel, hap, hk4, hk5, hk6, -appendH, -elemsM]
  · have := h.lt
    have := (x0.trans x1).len
    simp; omega
  · have := (x0.trans x1).len
    simpa using this
end Go.Am.Tryz
