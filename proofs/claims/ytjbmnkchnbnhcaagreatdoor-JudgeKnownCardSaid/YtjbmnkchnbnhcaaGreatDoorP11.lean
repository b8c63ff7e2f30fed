/- Layers 12 to 14: the reference's parser: let, if. -/
import Derived.Test.YtjbmnkchnbnhcaaGreatDoorP10
set_option linter.unusedVariables false
set_option maxRecDepth 100000
set_option linter.unusedSimpArgs false
namespace Go.Am.Tryz
open Go Go.Am.Ps
set_option maxHeartbeats 1000000 in
theorem expr_let {T : List Tok} {E n : Nat} (hE : ExprOK T E n) (p : PS) (hn : 4 * mu p + 3 ≤ n + 1) (hp0 : p.peek 5 sLam = false) (hpk : p.peek 4 sLet = true) : StepE T E (n + 1) p := by
  obtain ⟨hb, t, r, hr, _⟩ := peek_cons hpk
  have mn := mu_peek hpk
  have e : expr E (n + 1) p = (let x := p.next.eat E 1 []; let l := x.2.names; let d := expr E n (l.2.sign E sEq); let b := expr E n (d.2.eat E 4 sIn).2; (.mk 7 t.at_ x.1.s 0 [lams x.1.at_ l.1 d.1, b.1] [], b.2)) := by
    simp only [expr, hb, hr, hp0, hpk, if_true]
    rfl
  simp only at e
  have m1 := mu_eat E p.next 1 []
  have m2 := mu_names (p.next.eat E 1 []).2
  have m3 := mu_sign E (p.next.eat E 1 []).2.names.2 sEq
  obtain ⟨d, m4⟩ := hE ((p.next.eat E 1 []).2.names.2.sign E sEq) (by omega)
  have m5 := mu_eat E (expr E n ((p.next.eat E 1 []).2.names.2.sign E sEq)).2 4 sIn
  obtain ⟨d2, m6⟩ := hE ((expr E n ((p.next.eat E 1 []).2.names.2.sign E sEq)).2.eat E 4 sIn).2 (by omega)
  unfold StepE
  rw [e]
  refine ⟨fun q σ h => ?_, by simp only; omega⟩
  obtain ⟨σ0, ⟨k0, hk0⟩, p0, x0⟩ := try_ans h sLam
  have et : p.try_ sLam = (false, p) := by unfold PS.try_; rw [hp0]
  rw [et] at hk0 p0
  obtain ⟨k9, hk9⟩ := peek_ans p0 4 sLet
  obtain ⟨σ1, ⟨k1, hk1⟩, p1, x1⟩ := eat_ans (E := E) (p0.nexted hr) 1 []
  obtain ⟨σ2, ⟨k2, hk2⟩, p2, x2⟩ := names_ans p1
  have hlen : (p.next.eat E 1 []).2.names.1.length ≤ 65536 := Nat.le_trans (namesF_len _ _) p1.small
  obtain ⟨σ3, ⟨k3, hk3⟩, p3, x3⟩ := sign_ans (E := E) p2 sEq
  obtain ⟨σ4, ⟨k4, hk4⟩, p4, x4⟩ := d q σ3 p3
  obtain ⟨σ5, ⟨k5, hk5⟩, p5, x5⟩ := eat_ans (E := E) p4 4 sIn
  obtain ⟨σ6, ⟨k6, hk6⟩, p6, x6⟩ := d2 q σ5 p5
  obtain ⟨k7, hk7⟩ := lams_ans (p.next.eat E 1 []).2.names.1 hlen (p.next.eat E 1 []).1.at_ (expr E n ((p.next.eat E 1 []).2.names.2.sign E sEq)).1
  obtain ⟨ho, h2, h3, h4, h5, hw, hset⟩ := h.beg hb hr
  obtain ⟨ho0, _, _, _, _, _, hset0⟩ := p0.beg hb hr
  have x : Ext q σ σ6 := ((((((x0.trans (Ext.set q σ0 _)).trans x1).trans x2).trans x3).trans x4).trans x5).trans x6
  rw [objP_next T E hb] at hk1
  have h1 := (h.next hr).1
  rw [h1] at hk1
  generalize (p.next.eat E 1 []).2.names.1 = L at *
  generalize (p.next.eat E 1 []).1 = c at *
  generalize (expr E n ((p.next.eat E 1 []).2.names.2.sign E sEq)).1 = dd at *
  generalize (expr E n ((expr E n ((p.next.eat E 1 []).2.names.2.sign E sEq)).2.eat E 4 sIn).2).1 = b at *
  refine ⟨σ6, AnsH.of fn82_ (by simp) (snapPtr _ _ _) (by simp) ⟨k0 + k1 + k2 + k3 + k4 + k5 + k6 + k7 + k9, fun N hN => ?_⟩, p6, x⟩
  have hk0 := hk0 N (by omega)
  have hk1 := hk1 N (by omega)
  have hk2 := hk2 N (by omega)
  have hk3 := hk3 N (by omega)
  have hk4 := hk4 N (by omega)
  have hk5 := hk5 N (by omega)
  have hk6 := hk6 N (by omega)
  have hk7 := hk7 N (by omega)
  have hk9 := hk9 N (by omega)
  rw [hpk] at hk9
  simp only [Int.cast_ofNat_Int, sLam, sLet, sEq, sIn] at hk0 hk1 hk3 hk5 hk9
  rw [encTok_k] at hk1
  rw [encE_mk 7]
  simp -implicitDefEqProofs [i82, c82, ho, h2, h3, h4, h5, hk0, hk1, hk2, hk3, hk4, hk5, hk6, hk7, hk9, ho0, hset0, hw]
set_option maxHeartbeats 1000000 in
theorem expr_if {T : List Tok} {E n : Nat} (hE : ExprOK T E n) (p : PS) (hn : 4 * mu p + 3 ≤ n + 1) (hp0 : p.peek 5 sLam = false) (hp1 : p.peek 4 sLet = false) (hpk : p.peek 4 sIf = true) : StepE T E (n + 1) p := by
  obtain ⟨hb, t, r, hr, _⟩ := peek_cons hpk
  have mn := mu_peek hpk
  have e : expr E (n + 1) p = (let a := expr E n p.next; let c := expr E n (a.2.eat E 4 sThen).2; let d := expr E n (c.2.eat E 4 sElse).2; (.mk 9 t.at_ [] 0 [a.1, c.1, d.1] [], d.2)) := by
    simp only [expr, hb, hr, hp0, hp1, hpk, if_true]
    rfl
  simp only at e
  obtain ⟨d1, m1⟩ := hE p.next (by omega)
  have m2 := mu_eat E (expr E n p.next).2 4 sThen
  obtain ⟨d2, m3⟩ := hE ((expr E n p.next).2.eat E 4 sThen).2 (by omega)
  have m4 := mu_eat E (expr E n ((expr E n p.next).2.eat E 4 sThen).2).2 4 sElse
  obtain ⟨d3, m5⟩ := hE ((expr E n ((expr E n p.next).2.eat E 4 sThen).2).2.eat E 4 sElse).2 (by omega)
  unfold StepE
  rw [e]
  refine ⟨fun q σ h => ?_, by simp only; omega⟩
  obtain ⟨σ0, ⟨k0, hk0⟩, p0, x0⟩ := try_ans h sLam
  have et : p.try_ sLam = (false, p) := by unfold PS.try_; rw [hp0]
  rw [et] at hk0 p0
  obtain ⟨k8, hk8⟩ := peek_ans p0 4 sLet
  obtain ⟨k9, hk9⟩ := peek_ans p0 4 sIf
  obtain ⟨σ1, ⟨k1, hk1⟩, p1, x1⟩ := d1 q _ (p0.nexted hr)
  obtain ⟨σ2, ⟨k2, hk2⟩, p2, x2⟩ := eat_ans (E := E) p1 4 sThen
  obtain ⟨σ3, ⟨k3, hk3⟩, p3, x3⟩ := d2 q _ p2
  obtain ⟨σ4, ⟨k4, hk4⟩, p4, x4⟩ := eat_ans (E := E) p3 4 sElse
  obtain ⟨σ5, ⟨k5, hk5⟩, p5, x5⟩ := d3 q _ p4
  obtain ⟨ho, h2, h3, h4, h5, hw, hset⟩ := h.beg hb hr
  obtain ⟨ho0, _, _, _, _, _, hset0⟩ := p0.beg hb hr
  have x : Ext q σ σ5 := (((((x0.trans (Ext.set q σ0 _)).trans x1).trans x2).trans x3).trans x4).trans x5
  rw [objP_next T E hb] at hk1
  have h1 := (h.next hr).1
  rw [h1] at hk1
  generalize (expr E n p.next).1 = ea at *
  generalize (expr E n ((expr E n p.next).2.eat E 4 sThen).2).1 = ec at *
  generalize (expr E n ((expr E n ((expr E n p.next).2.eat E 4 sThen).2).2.eat E 4 sElse).2).1 = ed at *
  refine ⟨σ5, AnsH.of fn82_ (by simp) (snapPtr _ _ _) (by simp) ⟨k0 + k1 + k2 + k3 + k4 + k5 + k8 + k9, fun N hN => ?_⟩, p5, x⟩
  have hk0 := hk0 N (by omega)
  have hk1 := hk1 N (by omega)
  have hk2 := hk2 N (by omega)
  have hk3 := hk3 N (by omega)
  have hk4 := hk4 N (by omega)
  have hk5 := hk5 N (by omega)
  have hk8 := hk8 N (by omega)
  have hk9 := hk9 N (by omega)
  rw [hp1] at hk8
  rw [hpk] at hk9
  simp only [Int.cast_ofNat_Int, sLam, sLet, sIf, sThen, sElse] at hk0 hk2 hk4 hk8 hk9
  rw [encE_mk 9]
  simp -implicitDefEqProofs [i82, c82, ho, h2, h3, h4, h5, hk0, hk1, hk2, hk3, hk4, hk5, hk8, hk9, ho0, hset0, hw]
set_option maxHeartbeats 1000000 in
theorem expr_app {T : List Tok} {E n : Nat} (hA : ∀ m, m ≤ n → AtomOK T E m) (p : PS) (hn : 4 * mu p + 3 ≤ n + 1) {t : Tok} {r : List Tok} (hb : p.bad = false) (hr : p.r = t :: r)
    (hp0 : p.peek 5 sLam = false) (hp1 : p.peek 4 sLet = false) (hp2 : p.peek 4 sIf = false) (hp3 : p.peek 4 sCase = false) (hmu : ∀ (m : Nat) (e : Ex) (p : PS), m ≤ n → 4 * mu p + 2 ≤ m → mu (apps E m e p).2 ≤ mu p) : StepE T E (n + 1) p := by
  have e : expr E (n + 1) p = apps E n (atom E n p).1 (atom E n p).2 := by
    simp only [expr, hb, hr, hp0, hp1, hp2, hp3]
    rfl
  obtain ⟨d1, m1, _⟩ := hA n (Nat.le_refl _) p (by omega)
  unfold StepE
  rw [e]
  have m2 := hmu n (atom E n p).1 (atom E n p).2 (Nat.le_refl _) (by omega)
  refine ⟨fun q σ h => ?_, by omega⟩
  obtain ⟨σ0, ⟨k0, hk0⟩, p0, x0⟩ := try_ans h sLam
  have et : p.try_ sLam = (false, p) := by unfold PS.try_; rw [hp0]
  rw [et] at hk0 p0
  obtain ⟨k7, hk7⟩ := peek_ans p0 4 sCase
  obtain ⟨k8, hk8⟩ := peek_ans p0 4 sLet
  obtain ⟨k9, hk9⟩ := peek_ans p0 4 sIf
  obtain ⟨σ1, ⟨k1, hk1⟩, p1, x1⟩ := d1 q _ p0
  obtain ⟨fr', σ2, l1, l2, l3, l4, l5, l6, l7⟩ := lp48_1 T E q (.agg [.int .i64 0, .int .i64 0, .str [], .int .i64 0, .nil, .nil]) n (fun m hm => hA m (by omega)) (atom E n p).2 (atom E n p).1 σ1 (by omega) p1
  obtain ⟨k2, hk2⟩ := l1.den
  unfold Hi at l3
  obtain ⟨ho, h2, h3, h4, h5, hw, hset⟩ := h.beg hb hr
  generalize (apps E n (atom E n p).1 (atom E n p).2).1 = R at *
  generalize (atom E n p).1 = ea at *
  refine ⟨σ2, AnsH.of fn82_ (by simp) (snapPtr _ _ _) (by simp) ⟨k0 + k1 + k2 + k7 + k8 + k9, fun N hN => ?_⟩, l6, (x0.trans x1).trans l7⟩
  have hk0 := hk0 N (by omega)
  have hk1 := hk1 N (by omega)
  have hk2 := hk2 N (by omega)
  have hk7 := hk7 N (by omega)
  have hk8 := hk8 N (by omega)
  have hk9 := hk9 N (by omega)
  rw [hp3] at hk7
  rw [hp1] at hk8
  rw [hp2] at hk9
  simp only [Int.cast_ofNat_Int, sLam, sLet, sIf, sCase] at hk0 hk7 hk8 hk9
  simp -implicitDefEqProofs [i82, c82, ho, h2, h3, h4, h5, hk0, hk1, hk7, hk8, hk9, hk2, l2, l3, l4, l5]
end Go.Am.Tryz
