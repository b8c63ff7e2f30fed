/- G0, G1, as one -/
import Derived.Test.YtdapcelbbejfoaaFA
import Derived.Test.YtdapcelbbejfoaaEA
set_option linter.unusedVariables false
set_option maxRecDepth 100000
set_option linter.unusedSimpArgs false
namespace Go.Am.Try
open Go Go.Am.Ps
theorem ScOK.st {ds : List Da} {bs : List AV} (hP : (PV ds bs).noRef = true) {e : Ex} (h : ScOK ds bs e) (C : List Str) (hC : C ≠ []) (hB : C.length + bdE e ≤ 2 ^ 40) (fz : Bool) :
  AnsH ctx 68 [PV ds bs, encE e, rowV 0 C.length 1] [.arr fz 1 (encSs C)] (wO7 (wrE ds C e)) [.arr true 1 (encSs C)] := by
 cases C with
 | nil => exact absurd rfl hC
 | cons x l =>
  have h1 : ([HObj.arr fz 1 (encSs (x :: l))] : H)[0]? = some (.arr fz 1 (encSs (x :: l))) := rfl
  have ht : (encSs (x :: l)).take (l.length + 1) = encSs (x :: l) := List.take_of_length_le (by simp)
  have h2 := snapA_hs (n := 199) (v := l.length + 1) (m := l.length + 1) h1 (by simp) (Nat.le_refl _) (by rw [ht]; simp)
  rw [ht] at h2
  have hsn : snapL [HObj.arr fz 1 (encSs (x :: l))] [PV ds bs, encE e, .hs 0 (l.length + 1) 0 (l.length + 1) 1] = some ([PV ds bs, encE e, .sl 1 (encSs (x :: l))], [0]) := by
   simp only [snapL, mapO2, h2, snapA_noRef hP, snapA_noRef (a := encE e) (by simp), List.append_nil, List.nil_append]
  have hq := h (x :: l) false hB
  rw [encR_false] at hq
  have hnr : AV.noRefs [PV ds bs, encE e, .sl 1 (encSs (x :: l))] = true := by simp [AV.noRefs, hP]
  have := AnsH.lay (ns := [0]) fn68_ (by simp [AV.noRefs, AV.noRef]) hsn hnr hq
  have hfz : frzH [HObj.arr fz 1 (encSs (x :: l))] [0] = [.arr true 1 (encSs (x :: l))] := by simp [frzH]
  cases hw : wrE ds (x :: l) e with
  | none => rw [hw] at this; rw [← hfz]; exact this
  | some x => rw [hw] at this; rw [← hfz]; exact this
set_option maxHeartbeats 1000000 in
theorem lp37_0 (D : AV) (L : List AV) (hL : L.length < big) : ∀ (r : List Bi) (i : Nat) (C had : List Str), Tail L i (encBs r) → (∀ x, had.any (eqS x) = C.any (eqS x)) → C.length + r.length ≤ 2 ^ 38 →
  ∃ e fr' σ', Lp ctx [46] [] [1, 2, 4, 5] b37_0 ⟨[(1, .bx (.agg [D, encR 8 true L])), (2, .bx zW), (4, .v (rowV 0 C.length 1)), (5, .v (.int .i64 i))], false⟩ (stH 1 (encSs C)) e fr' σ' ∧ fr'.lk = false ∧
   (match twiceB had r with
   | .error x => e = .ret ∧ getS fr'.sl 2 = .bx (wW 7 x)
   | .ok B' => ∃ C', e = .ex 0 ∧ σ' = stH 1 (encSs C') ∧ (∀ x, B'.any (eqS x) = C'.any (eqS x)) ∧ C'.length = C.length + r.length ∧ getS fr'.sl 1 = .bx (.agg [D, encR 8 true L]) ∧ getS fr'.sl 2 = .bx zW ∧ getS fr'.sl 4 = .v (rowV 0 C'.length 1) ∧ Hi2 6 15 fr' ∧ Hi2 20 68 fr')
 | [], i, C, had, h, hm, hb => by
  have h' := h.nil
  refine ⟨.ex 0, ?_, stH 1 (encSs C), Lp.exit ⟨0, fun N _ => ?_⟩ (by simp), ?_⟩
  rotate_left
  ·simp -implicitDefEqProofs [b37_0, h']
   rfl
  ·refine ⟨by simp, C, rfl, rfl, hm, by simp, by simp, by simp, by simp, fun t h1 h2 => ?_, fun t h1 h2 => ?_⟩
   all_goals simp only [getS]
   all_goals repeat rw [if_neg (by omega)]
 | b :: r, i, C, had, h, hm, hb => by
  have hlen := h.len
  simp only [encBs_cons] at h
  obtain ⟨g1, g2, g3, g4, g5⟩ := h.cons
  simp at hlen hb
  have hw := wrap_succ (n := i) (by omega)
  have g6 := g5 8 true
  obtain ⟨s, a, ⟨bk, ba, bs, bn, bks, bas⟩⟩ := b
  simp only [encB, cellsE] at g1
  obtain ⟨k1, hk1⟩ := place_st C (by unfold big; omega) s
  have happ := app_names C (by omega) s
  obtain ⟨C1, hC1⟩ : ∃ C1, C1 = C ++ [s] := ⟨_, rfl⟩
  have hl1 : C1.length = C.length + 1 := by rw [hC1]; simp
  rw [← hC1] at happ
  unfold twiceB
  rw [g6]
  simp only
  rw [hm]
  cases hany : C.any (eqS s) with
  | true =>
   have hp := place_yes hany
   simp only
   refine ⟨.ret, ?_, stH 1 (encSs C), Lp.exit ⟨k1, fun N hN => ?_⟩ (by simp), ?_⟩
   rotate_left
   ·have hk1 := hk1 N hN
    simp -implicitDefEqProofs [b37_0, g1, g2, g3, hk1, hp, zW]
    rfl
   ·simp [wW]
  | false =>
   rw [place_no hany] at hk1
   have hm' : ∀ x, (s :: had).any (eqS x) = C1.any (eqS x) := fun x => by
    rw [hC1, any_snoc, List.any_cons, List.any_cons, hm]
   obtain ⟨e, fr', σ', l1, l2, l3⟩ := lp37_0 D L hL r (i + 1) C1 (s :: had) g4 hm' (by omega)
   rw [g6] at l1 l3
   simp only
   refine ⟨e, fr', σ', Lp.step ⟨k1, fun N hN => ?_⟩ l1, l2, ?_⟩
   ·have hk1 := hk1 N hN
    simp -implicitDefEqProofs [b37_0, g1, g2, g3, hk1, happ, hw, -appendH]
   ·cases hk : twiceB (s :: had) r with
    | error x => rw [hk] at l3; exact l3
    | ok B' =>
     rw [hk] at l3
     obtain ⟨C', a1, a2, a3, a4, a5⟩ := l3
     exact ⟨C', a1, a2, a3, by simp at a4 ⊢; omega, a5⟩
set_option maxHeartbeats 1000000 in
theorem lp37_1 {ds : List Da} (hd : okDs ds) (L : List AV) (hL : L.length < big) (hP : (PV ds L).noRef = true) (C : List Str) (hC : C.length = L.length) (B : List Str) (hB : ∀ x, B.any (eqS x) = C.any (eqS x)) : ∀ (r : List Bi) (i : Nat) (fz : Bool) (σ : H), Tail L i (encBs r) → (C ≠ [] → σ = [.arr fz 1 (encSs C)]) → (∀ b ∈ r, okE b.b ∧ C.length + bdE b.b ≤ 2 ^ 40) →
  ∃ e fr' σ', Lp ctx [46] [] [1, 2, 4, 6] b37_1 ⟨[(1, .bx (PV ds L)), (2, .bx zW), (4, .v (rowV 0 C.length 1)), (6, .v (.int .i64 i))], false⟩ σ e fr' σ' ∧ fr'.lk = false ∧
   (match wrBs ds B r with
   | some x => e = .ret ∧ getS fr'.sl 2 = .bx (wW 7 x)
   | none => e = .ex 2 ∧ getS fr'.sl 2 = .bx zW ∧ getS fr'.sl 67 = .u)
 | [], i, fz, σ, h, _, _ => by
  have h' := h.nil
  refine ⟨.ex 2, ?_, σ, Lp.exit ⟨0, fun N _ => ?_⟩ (by simp), ?_⟩
  rotate_left
  ·unfold PV
   simp -implicitDefEqProofs [b37_1, h']
   rfl
  ·exact ⟨by simp, rfl, by simp, by simp⟩
 | b :: r, i, fz, σ, h, hs, hb => by
  have hlen := h.len
  simp only [encBs_cons] at h
  obtain ⟨g1, g2, g3, g4, g5⟩ := h.cons
  simp at hlen
  have hw := wrap_succ (n := i) (by omega)
  have g6 := g5 8 true
  obtain ⟨hb1, hb2⟩ := hb b (by simp)
  have hCne : C ≠ [] := by rintro rfl; simp at hC; omega
  have hσ := hs hCne
  subst hσ
  obtain ⟨k, hk⟩ := (scoped_ans hd L hP b.b hb1).st hP C hCne hb2 fz
  rw [← wrE_congr ds b.b B C hB] at hk
  obtain ⟨s, a, ⟨bk, ba, bs, bn, bks, bas⟩⟩ := b
  simp only [encB, cellsE] at g1
  simp only at hk
  rw [encE_mk] at hk
  unfold PV zW at *
  rw [g6] at hk ⊢
  unfold wrBs
  simp only
  cases hw' : wrE ds B (.mk bk ba bs bn bks bas) with
  | some x =>
   rw [hw'] at hk
   simp only [wO7, wW] at hk
   refine ⟨.ret, ?_, [.arr true 1 (encSs C)], Lp.exit ⟨k, fun N hN => ?_⟩ (by simp), ?_⟩
   rotate_left
   ·have hk := hk N hN
    simp -implicitDefEqProofs [b37_1, g1, g2, g3, hk]
    rfl
   ·simp [wW]
  | none =>
   rw [hw'] at hk
   simp only [wO7, zW] at hk
   obtain ⟨e, fr', σ', q1, q2, q3⟩ := lp37_1 hd L hL hP C hC B hB r (i + 1) true [.arr true 1 (encSs C)] g4 (fun _ => rfl) (fun x hx => hb x (by simp [hx]))
   unfold PV zW at q1
   unfold zW at q3
   rw [g6] at q1
   refine ⟨e, fr', σ', Lp.step ⟨k, fun N hN => ?_⟩ q1, q2, q3⟩
   have hk := hk N hN
   simp -implicitDefEqProofs [b37_1, g1, g2, g3, hw, hk]
set_option maxHeartbeats 1000000 in
theorem rcheckScope_ans (p : Pg) (hp : okP p) (hx : ∀ d ∈ p.ds, txD d) (hs : sumC p.ds ≤ 2 ^ 38) (hbl : p.bs.length ≤ 2 ^ 38) (hb : ∀ b ∈ p.bs, p.bs.length + bdE b.b ≤ 2 ^ 40) : Ans ctx 37 [.agg [encR 4 true (encDs p.ds), encR 8 true (encBs p.bs)]] (.agg [.int .i64 (scI (checkScope p)).1, .int .i64 (scI (checkScope p)).2]) := by
 have hds := hp.ds
 unfold lim at hds
 have hP : (PV p.ds (encBs p.bs)).noRef = true := by simp [PV, AV.noRef, AV.noRefs]
 obtain ⟨k1, hk1⟩ := rcheckData_ans p.ds true (by unfold big; omega) (fun d h => ⟨hp.d d h, hx d h⟩) hs
 obtain ⟨e1, fr1, σ1, j1, j2, j3⟩ := lp37_0 (encR 4 true (encDs p.ds)) (encBs p.bs) (by simp; unfold big; omega) p.bs 0 [] [] (Tail.all _) (fun x => rfl) (by simpa using hbl)
 obtain ⟨k2, hk2⟩ := j1.den
 have e0 : rowV 0 ([] : List Str).length 1 = .nil := rfl
 have e1' : stH 1 (encSs []) = [] := rfl
 rw [e0, e1'] at hk2
 simp only [Int.cast_ofNat_Int] at hk2
 unfold checkScope
 cases hc : checkData p.ds with
 | some a =>
  rw [hc] at hk1
  simp only [wO, wW] at hk1
  refine Ans.of (σ' := []) fn37_ (by simp) (by simp) ⟨k1, fun N hN => ?_⟩
  have hk1 := hk1 N hN
  simp -implicitDefEqProofs [i37, c37, hk1, scI]
 | none =>
  rw [hc] at hk1
  simp only [wO, zW] at hk1
  unfold zW at hk2 j3
  simp only
  cases ht : twiceB [] p.bs with
  | error a =>
   rw [ht] at j3
   obtain ⟨rfl, j4⟩ := j3
   simp only [wW] at j4
   refine Ans.of (σ' := σ1) fn37_ (by simp) (by simp) ⟨k1 + k2, fun N hN => ?_⟩
   have hk1 := hk1 N (by omega)
   have hk2 := hk2 N (by omega)
   simp -implicitDefEqProofs [i37, c37, hk1, hk2, j2, j4, scI]
  | ok B =>
   rw [ht] at j3
   obtain ⟨C, rfl, rfl, hm, hl, j4, j5, j6, j7, j8⟩ := j3
   unfold Hi2 at j7 j8
   simp only [List.length_nil, Nat.zero_add] at hl
   obtain ⟨e2, fr2, σ2, l1, l2, l3⟩ := lp37_1 ⟨hp.ds, hp.d⟩ (encBs p.bs) (by simp; unfold big; omega) hP C (by simp [hl]) B hm p.bs 0 false (stH 1 (encSs C)) (Tail.all _) (fun hne => by cases C with | nil => exact absurd rfl hne | cons x l => rfl) (fun b h => ⟨hp.b b h, by rw [hl]; exact hb b h⟩)
   obtain ⟨k3, hk3⟩ := l1.den
   simp only [Int.cast_ofNat_Int] at hk3
   unfold PV zW at hk3
   unfold zW at l3
   simp only
   cases hw : wrBs p.ds B p.bs with
   | some a =>
    rw [hw] at l3
    obtain ⟨rfl, l4⟩ := l3
    simp only [wW] at l4
    refine Ans.of (σ' := σ2) fn37_ (by simp) (by simp) ⟨k1 + k2 + k3, fun N hN => ?_⟩
    have hk1 := hk1 N (by omega)
    have hk2 := hk2 N (by omega)
    have hk3 := hk3 N (by omega)
    simp -implicitDefEqProofs [i37, c37, hk1, hk2, hk3, j2, j4, j5, j6, j7, j8, l2, l4, scI]
   | none =>
    rw [hw] at l3
    obtain ⟨rfl, l4, l5⟩ := l3
    refine Ans.of (σ' := σ2) fn37_ (by simp) (by simp) ⟨k1 + k2 + k3, fun N hN => ?_⟩
    have hk1 := hk1 N (by omega)
    have hk2 := hk2 N (by omega)
    have hk3 := hk3 N (by omega)
    simp -implicitDefEqProofs [i37, c37, hk1, hk2, hk3, j2, j4, j5, j6, j7, j8, l2, l4, l5, scI]
theorem bad_fail (E : Nat) (p : PS) : (p.fail E).bad = true := by
 unfold PS.fail
 cases hb : p.bad <;> simp [hb]
theorem bad_next (p : PS) : p.next.bad = p.bad := rfl
theorem bad_eat {E : Nat} {p : PS} {k : Nat} {s : Str} (h : (p.eat E k s).2.bad = false) : p.bad = false := by
 unfold PS.eat at h
 split at h
 ·exact h
 ·rw [bad_fail] at h; cases h
theorem bad_sign {E : Nat} {p : PS} {s : Str} (h : (p.sign E s).bad = false) : p.bad = false := bad_eat h
theorem bad_try (p : PS) (s : Str) : (p.try_ s).2.bad = p.bad := by
 unfold PS.try_
 split <;> rfl
theorem bad_namesF : ∀ n p, (namesF n p).2.bad = p.bad
 | 0, p => rfl
 | n + 1, p => by
  simp only [namesF]
  split
  ·simp only; rw [bad_namesF n p.next]; rfl
  ·rfl
theorem bad_names (p : PS) : p.names.2.bad = p.bad := bad_namesF _ _
theorem mu_typ {E : Nat} {vs : List Str} {n : Nat} {p : PS} (h : 4 * mu p + 3 ≤ n) : mu (typ E vs n p).2 ≤ mu p := ((all_typ [] E vs n).1 n (Nat.le_refl _) p h).2
theorem mu_aty {E : Nat} {vs : List Str} {n : Nat} {p : PS} (h : 4 * mu p + 1 ≤ n) : mu (atype E vs n p).2 ≤ mu p := ((all_typ [] E vs n).2 n (Nat.le_refl _) p h).2.1
theorem mu_aty_lt {E : Nat} {vs : List Str} {n : Nat} {p : PS} (h : 4 * mu p + 1 ≤ n) (ha : p.atypic = true) : mu (atype E vs n p).2 < mu p := ((all_typ [] E vs n).2 n (Nat.le_refl _) p h).2.2 ha
def GT (E : Nat) (vs : List Str) (n : Nat) : Prop := ∀ p, 4 * mu p + 3 ≤ n → (typ E vs n p).2.bad = false → p.bad = false ∧ txT (typ E vs n p).1
def GA (E : Nat) (vs : List Str) (n : Nat) : Prop := ∀ p, 4 * mu p + 1 ≤ n → (atype E vs n p).2.bad = false → p.bad = false ∧ txT (atype E vs n p).1
theorem g_trest (E : Nat) (vs : List Str) : ∀ (n k : Nat) (p : PS), (∀ m, m < n → GT E vs m) → 4 * mu p + 1 ≤ n → (trest E vs n k p).2.bad = false → p.bad = false ∧ ∃ l, (trest E vs n k p).1 = some l ∧ txTs l
 | 0, _, _, _, h, _ => by omega
 | n + 1, k, p, h, hn, hb => by
  simp only [trest] at hb ⊢
  cases hpk : p.peek 5 sCom with
  | false =>
   rw [hpk] at hb
   exact ⟨hb, [], rfl, by simp [txTs]⟩
  | true =>
   rw [hpk] at hb
   have mn := mu_peek hpk
   simp only at hb ⊢
   split at hb
   ·simp only [bad_fail] at hb; cases hb
   ·rename_i hk
    rw [if_neg hk]
    have m1 := mu_typ (E := E) (vs := vs) (n := n) (p := p.next) (by omega)
    have hr := g_trest E vs n (k + 1) (typ E vs n p.next).2 (fun m hm => h m (by omega)) (by omega)
    split at hb
    ·rename_i l p' hx
     rw [hx] at hr
     obtain ⟨h1, l', h2, h3⟩ := hr hb
     obtain ⟨h4, h5⟩ := h n (by omega) p.next (by omega) h1
     simp only at h2
     cases h2
     exact ⟨h4, _, rfl, by unfold txTs; exact ⟨h5, h3⟩⟩
    ·rename_i p' hx
     rw [hx] at hr
     obtain ⟨_, l', h2, _⟩ := hr hb
     cases h2
theorem g_atype {E : Nat} {vs : List Str} {n : Nat} (h : ∀ m, m ≤ n → GT E vs m) : GA E vs (n + 1) := fun p hn hb => by
 cases ha : p.atypic with
 | false =>
  have e : atype E vs (n + 1) p = (ty0, p.fail E) := by simp [atype, ha]
  rw [e] at hb
  rw [bad_fail] at hb; cases hb
 | true =>
  obtain ⟨hpb, t, r, hr, hk⟩ := atypic_cons ha
  have mn := mu_next hpb hr
  refine ⟨hpb, ?_⟩
  rcases hk with hk | hk | hk
  ·simp only [atype, ha, hr, hk]
   split <;> simp [txT, txTs]
  ·have e : (atype E vs (n + 1) p).1 = .mk 2 0 t.s [] := by simp [atype, ha, hr, hk]
   rw [e]
   simp [txT, txTs]
  ·have m1 := mu_typ (E := E) (vs := vs) (n := n) (p := p.next) (by omega)
   have hr1 := g_trest E vs n 1 (typ E vs n p.next).2 (fun m hm => h m (by omega)) (by omega)
   have e : atype E vs (n + 1) p = (match trest E vs n 1 (typ E vs n p.next).2 with
    | (none, p') => (ty0, p')
    | (some [], p') => ((typ E vs n p.next).1, p'.sign E sClose)
    | (some l, p') => (.mk 2 0 sCom ((typ E vs n p.next).1 :: l), p'.sign E sClose)) := by
    simp only [atype, ha, hr, hk]
    rfl
   rw [e] at hb ⊢
   cases hx : trest E vs n 1 (typ E vs n p.next).2 with
   | mk o p' =>
    rw [hx] at hb hr1
    cases o with
    | none =>
     simp only at hb
     obtain ⟨_, l', h2, _⟩ := hr1 hb
     cases h2
    | some l =>
     cases l with
     | nil =>
      simp only at hb ⊢
      obtain ⟨h1, _⟩ := hr1 (bad_sign hb)
      exact (h n (Nat.le_refl _) p.next (by omega) h1).2
     | cons x l =>
      simp only at hb ⊢
      obtain ⟨h1, l', h2, h3⟩ := hr1 (bad_sign hb)
      cases h2
      have h4 := (h n (Nat.le_refl _) p.next (by omega) h1).2
      unfold txT
      refine ⟨.inr rfl, ?_⟩
      unfold txTs
      exact ⟨h4, h3⟩
theorem g_targs (E : Nat) (vs : List Str) : ∀ (n : Nat) (p : PS), (∀ m, m < n → GA E vs m) → 4 * mu p + 2 ≤ n → (targs E vs n p).2.bad = false → p.bad = false ∧ txTs (targs E vs n p).1
 | 0, p, _, h, _ => by omega
 | n + 1, p, h, hn, hb => by
  simp only [targs] at hb ⊢
  cases ha : p.atypic with
  | false => rw [ha] at hb; exact ⟨hb, by simp [txTs]⟩
  | true =>
   rw [ha] at hb
   simp only at hb ⊢
   have m2 := mu_aty_lt (E := E) (vs := vs) (n := n) (p := p) (by omega) ha
   obtain ⟨h1, h2⟩ := g_targs E vs n (atype E vs n p).2 (fun m hm => h m (by omega)) (by omega) hb
   obtain ⟨h3, h4⟩ := h n (by omega) p (by omega) h1
   refine ⟨h3, ?_⟩
   unfold txTs
   exact ⟨h4, h2⟩
theorem g_typ {E : Nat} {vs : List Str} {n : Nat} (hT : ∀ m, m ≤ n → GT E vs m) (hA : ∀ m, m ≤ n → GA E vs m) : GT E vs (n + 1) := fun p hn hb => by
 rw [typ_eq] at hb ⊢
 have hd : (thead E vs n p).2.bad = false → p.bad = false ∧ txT (thead E vs n p).1 := by
  intro hb
  unfold thead at hb ⊢
  cases hpk : p.peek 2 [] with
  | false =>
   rw [hpk] at hb
   exact hA n (Nat.le_refl _) p (by omega) hb
  | true =>
   rw [hpk] at hb
   simp only at hb ⊢
   obtain ⟨hpb, t, r, hr, hk⟩ := peek_cons hpk
   have ha : p.atypic = true := by unfold PS.atypic; rw [hpk]; simp
   have m2 := mu_aty_lt (E := E) (vs := vs) (n := n) (p := p) (by omega) ha
   obtain ⟨h1, h2⟩ := g_targs E vs n (atype E vs n p).2 (fun m hm => hA m (by omega)) (by omega) hb
   obtain ⟨n', rfl⟩ : ∃ n', n = n' + 1 := ⟨n - 1, by omega⟩
   obtain ⟨s, hs⟩ := atype_con (E := E) (vs := vs) (n := n') hpk
   rw [hs]
   refine ⟨hpb, ?_⟩
   simp only [addK, List.nil_append]
   unfold txT
   exact ⟨.inr rfl, h2⟩
 have hmu : mu (thead E vs n p).2 ≤ mu p ∧ ((thead E vs n p).2.peek 5 sArr = true → True) := by
  refine ⟨?_, fun _ => trivial⟩
  unfold thead
  split
  ·rename_i hpk
   have ha : p.atypic = true := by unfold PS.atypic; rw [hpk]; simp
   have m2 := mu_aty_lt (E := E) (vs := vs) (n := n) (p := p) (by omega) ha
   have m3 := mu_targs E vs n (atype E vs n p).2 (fun m hm p hp => ⟨mu_aty hp, mu_aty_lt hp⟩) (by omega)
   simp only; omega
  ·exact mu_aty (by omega)
 cases ht : (thead E vs n p).2.try_ sArr with
 | mk b p' =>
  have hb' := bad_try (thead E vs n p).2 sArr
  rw [ht] at hb hb'
  cases b with
  | false =>
   simp only at hb hb' ⊢
   exact hd (by rw [← hb']; exact hb)
  | true =>
   simp only at hb hb' ⊢
   have mp : mu p' < mu (thead E vs n p).2 := by
    unfold PS.try_ at ht
    split at ht
    ·rename_i hpk
     have := mu_peek hpk
     simp only [Prod.mk.injEq] at ht
     rw [← ht.2]; omega
    ·simp at ht
   obtain ⟨h1, h2⟩ := hT n (Nat.le_refl _) p' (by omega) hb
   obtain ⟨h3, h4⟩ := hd (by rw [← hb']; exact h1)
   refine ⟨h3, ?_⟩
   unfold txT
   refine ⟨.inr rfl, ?_⟩
   unfold txTs txTs txTs
   exact ⟨h4, h2, trivial⟩
theorem g_all (E : Nat) (vs : List Str) : ∀ n, (∀ m, m ≤ n → GT E vs m) ∧ (∀ m, m ≤ n → GA E vs m)
 | 0 => ⟨fun m hm p h => by omega, fun m hm p h => by omega⟩
 | n + 1 => by
  obtain ⟨h1, h3⟩ := g_all E vs n
  have h3' : GA E vs (n + 1) := g_atype h1
  have h1' : GT E vs (n + 1) := g_typ h1 h3
  refine ⟨fun m hm => ?_, fun m hm => ?_⟩
  ·rcases Nat.lt_or_ge n m with h | h
   ·have : m = n + 1 := by omega
    subst this; exact h1'
   ·exact h1 m h
  ·rcases Nat.lt_or_ge n m with h | h
   ·have : m = n + 1 := by omega
    subst this; exact h3'
   ·exact h3 m h
theorem g_con {E : Nat} {vs : List Str} {n : Nat} {p : PS} (hn : 4 * mu p + 2 ≤ n) (hb : (con E vs n p).2.bad = false) : p.bad = false ∧ txTs (con E vs n p).1.as := by
 unfold con at hb ⊢
 simp only at hb ⊢
 have m := mu_eat E p 2 []
 obtain ⟨h1, h2⟩ := g_targs E vs n (p.eat E 2 []).2 (fun m _ => (g_all E vs m).2 m (Nat.le_refl _)) (by omega) hb
 exact ⟨bad_eat h1, h2⟩
theorem g_cons {E : Nat} {vs : List Str} {n : Nat} : ∀ (m : Nat) (p : PS), 4 * mu p + 2 ≤ n → (cons E vs n m p).2.bad = false → p.bad = false ∧ ∀ c ∈ (cons E vs n m p).1, txTs c.as
 | 0, p, _, hb => ⟨hb, by simp [cons]⟩
 | m + 1, p, hn, hb => by
  simp only [cons] at hb ⊢
  cases hpk : p.peek 5 sBar with
  | false => rw [hpk] at hb; exact ⟨hb, by simp⟩
  | true =>
   rw [hpk] at hb
   simp only at hb ⊢
   have mn := mu_peek hpk
   have m1 := mu_con E vs n p.next (by omega)
   obtain ⟨h1, h2⟩ := g_cons m (con E vs n p.next).2 (by omega) hb
   obtain ⟨h3, h4⟩ := g_con (by omega) h1
   refine ⟨h3, fun c hc => ?_⟩
   rcases List.mem_cons.1 hc with rfl | hc
   ·exact h4
   ·exact h2 c hc
theorem cons_len {E : Nat} {vs : List Str} {n : Nat} : ∀ (m : Nat) (p : PS), (cons E vs n m p).1.length ≤ m
 | 0, p => by simp [cons]
 | m + 1, p => by
  simp only [cons]
  split
  ·have := cons_len (E := E) (vs := vs) (n := n) m (con E vs n p.next).2
   simp only [List.length_cons]; omega
  ·simp
theorem sumC_app : ∀ (l : List Da) (d : Da), sumC (l ++ [d]) = sumC l + d.cs.length
 | [], d => by simp [sumC]
 | x :: l, d => by simp [sumC, sumC_app l d]; omega
theorem g_decl {E n : Nat} {out : Pg} {p : PS} (hn : 4 * mu p + 4 ≤ n) (hl : n ≤ 600000) (hr : rl p ≤ 65536) :
  ((decl E n out p).2.bad = false → (∀ d ∈ out.ds, txD d) → ∀ d ∈ (decl E n out p).1.ds, txD d) ∧ sumC (decl E n out p).1.ds ≤ sumC out.ds + 600001 ∧ (decl E n out p).1.bs.length ≤ out.bs.length + 1 ∧
   ((∀ b ∈ out.bs, bdE b.b ≤ 700000000000) → ∀ b ∈ (decl E n out p).1.bs, bdE b.b ≤ 700000000000) := by
 unfold decl
 split
 ·rename_i hpk
  have mn := mu_peek hpk
  have m1 := mu_eat E p.next 2 []
  have m2 := mu_names (p.next.eat E 2 []).2
  have m3 := mu_sign E (p.next.eat E 2 []).2.names.2 sEq
  have m4 := mu_con E ((p.next.eat E 2 []).2.names.1.map (·.s)) n ((p.next.eat E 2 []).2.names.2.sign E sEq) (by omega)
  have hcl := cons_len (E := E) (vs := (p.next.eat E 2 []).2.names.1.map (·.s)) (n := n) n (con E ((p.next.eat E 2 []).2.names.1.map (·.s)) n ((p.next.eat E 2 []).2.names.2.sign E sEq)).2
  refine ⟨fun hb ho d hd => ?_, ?_, by simp, fun h => h⟩
  ·simp only at hb
   obtain ⟨h1, h2⟩ := g_cons n _ (by omega) (bad_sign hb)
   obtain ⟨h3, h4⟩ := g_con (by omega) h1
   simp only [List.mem_append, List.mem_singleton] at hd
   rcases hd with hd | rfl
   ·exact ho d hd
   ·intro c hc
    rcases List.mem_cons.1 hc with rfl | hc
    ·exact h4
    ·exact h2 c hc
  ·simp only [sumC_app, List.length_cons]
   omega
 ·have r0 := Nat.le_trans (rl_eat E p 4 sLet) hr
  have r1 := Nat.le_trans (rl_eat E (p.eat E 4 sLet).2 1 []) r0
  have r3 := Nat.le_trans (rl_names ((p.eat E 4 sLet).2.eat E 1 []).2) r1
  have r4 := Nat.le_trans (rl_sign E ((p.eat E 4 sLet).2.eat E 1 []).2.names.2 sEq) r3
  have l1 := names_le ((p.eat E 4 sLet).2.eat E 1 []).2
  have b1 := (bd_all E n (by omega)).1 _ r4
  refine ⟨fun hb ho d hd => ho d hd, by simp, by simp, fun h b hb => ?_⟩
  simp only [List.mem_append, List.mem_singleton] at hb
  rcases hb with hb | rfl
  ·exact h b hb
  ·simp only [bd_lams]
   unfold KB at b1
   omega
theorem g_decls {E n : Nat} (hl : n ≤ 600000) : ∀ (m : Nat) (out : Pg) (p : PS), 4 * mu p + 4 ≤ n → rl p ≤ 65536 → (∀ d ∈ out.ds, txD d) → (∀ b ∈ out.bs, bdE b.b ≤ 700000000000) → (decls E n m out p).2.bad = false →
  (∀ d ∈ (decls E n m out p).1.ds, txD d) ∧ sumC (decls E n m out p).1.ds ≤ sumC out.ds + m * 600001 ∧ (decls E n m out p).1.bs.length ≤ out.bs.length + m ∧ (∀ b ∈ (decls E n m out p).1.bs, bdE b.b ≤ 700000000000)
 | 0, out, p, _, _, ho, hB, hb => ⟨ho, by simp [decls], by simp [decls], hB⟩
 | m + 1, out, p, hn, hr, ho, hB, hb => by
  simp only [decls] at hb ⊢
  cases hpb : p.bad with
  | true => rw [hpb] at hb; simp only at hb; rw [hpb] at hb; cases hb
  | false =>
   cases hpr : p.r with
   | nil => exact ⟨ho, by simp, by simp, hB⟩
   | cons t r =>
    rw [hpb, hpr] at hb
    simp only at hb ⊢
    obtain ⟨d1, d2, d3, d4⟩ := g_decl (E := E) (out := out) hn hl hr
    have md := mu_decl E n out p (by omega) hpb hpr
    have hr2 : rl (decl E n out p).2 ≤ 65536 := by
     have e : (decl E n out p).2 = (decl E n ⟨[], []⟩ p).2 := by unfold decl; split <;> rfl
     rw [e]
     exact (ok_decl E (n := n) (k := max out.ds.length out.bs.length) (by unfold lim; omega) (out := ⟨[], []⟩) ⟨by simp, by simp, by simp, by simp⟩ p hr).2
    cases hdb : (decl E n out p).2.bad with
    | true =>
     exfalso
     cases m with
     | zero => simp only [decls] at hb; rw [hdb] at hb; cases hb
     | succ m => simp only [decls, hdb] at hb; cases hb
    | false =>
     obtain ⟨i1, i2, i3, i4⟩ := g_decls hl m (decl E n out p).1 (decl E n out p).2 (by omega) hr2 (d1 hdb ho) (d4 hB) hb
     exact ⟨i1, by omega, by omega, i4⟩
theorem parse_okX {s : Str} {p : Pg} (h : parse s = .ok p) : (∀ d ∈ p.ds, txD d) ∧ sumC p.ds ≤ 2 ^ 38 ∧ p.bs.length ≤ 65537 ∧ (∀ b ∈ p.bs, bdE b.b ≤ 700000000000) := by
 unfold parse at h
 cases hl : lex s with
 | bad e a => rw [hl] at h; cases h
 | ok l =>
  rw [hl] at h
  simp only at h
  have hlen := tl_lex s hl
  have h1 := g_decls (E := s.length) (n := 8 * l.length + 40) (by omega) (l.length + 1) ⟨[], []⟩ ⟨0, l, false, 0⟩ (by simp [mu]; omega) hlen (by simp) (by simp)
  generalize decls s.length (8 * l.length + 40) (l.length + 1) ⟨[], []⟩ ⟨0, l, false, 0⟩ = R at *
  obtain ⟨out, q⟩ := R
  simp only at h h1
  split at h
  ·cases h
  ·rename_i hq
   have hq' : q.bad = false := by cases hx : q.bad <;> simp_all
   obtain ⟨a1, a2, a3, a4⟩ := h1 hq'
   split at h
   ·cases h
   ·cases h
    simp only [sumC, List.length_nil] at a2 a3
    exact ⟨a1, by omega, by omega, a4⟩
end Go.Am.Try
