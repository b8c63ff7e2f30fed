/- Layers 12 to 14: the reference's parser: types as a whole. -/
import Derived.Test.YtjbmnkchnbnhcaaGreatDoorP13
set_option linter.unusedVariables false
set_option maxRecDepth 100000
set_option linter.unusedSimpArgs false
namespace Go.Am.Tryz
open Go Go.Am.Ps
theorem mu_trest (E : Nat) (vs : List Str) : ∀ (n k : Nat) (p : PS), (∀ m, m < n → ∀ p, 4 * mu p + 3 ≤ m → mu (typ E vs m p).2 ≤ mu p) → 4 * mu p + 1 ≤ n → mu (trest E vs n k p).2 ≤ mu p
  | 0, _, _, _, _ => by omega
  | n + 1, k, p, h, hn => by
    simp only [trest]
    cases hpk : p.peek 5 sCom with
    | false => exact Nat.le_refl _
    | true =>
      have mn := mu_peek hpk
      simp only
      split
      · simp only [mu_fail]; omega
      · have m1 := h n (by omega) p.next (by omega)
        have m2 := mu_trest E vs n (k + 1) (typ E vs n p.next).2 (fun m hm => h m (by omega)) (by omega)
        split
        · rename_i l p' hx; rw [hx] at m2; simp only at m2 ⊢; omega
        · rename_i p' hx; rw [hx] at m2; simp only at m2 ⊢; omega
theorem atypic_cons {p : PS} (h : p.atypic = true) : p.bad = false ∧ ∃ t r, p.r = t :: r ∧ (t.k = 1 ∨ t.k = 2 ∨ t.k = 5) := by
  unfold PS.atypic at h
  simp only [Bool.or_eq_true] at h
  rcases h with h | h | h <;> obtain ⟨hb, t, r, hr, hk⟩ := peek_cons h <;> exact ⟨hb, t, r, hr, by omega⟩
theorem placeF_cases : ∀ (l : List Str) (i : Nat) (s : Str), (∃ k : Nat, placeF i l s = .ofNat k) ∨ placeF i l s = -1
  | [], _, _ => .inr rfl
  | a :: l, i, s => by
    simp only [placeF]
    split
    · exact .inl ⟨i, rfl⟩
    · exact placeF_cases l (i + 1) s
set_option maxHeartbeats 1000000 in
theorem step_atype {T : List Tok} {E n : Nat} {vs : List Str} (hE : ∀ m, m ≤ n → TypOK T E vs m) : AtyOK T E vs (n + 1) := fun p hn => by
  cases ha : p.atypic with
  | false =>
    have e : atype E vs (n + 1) p = (ty0, p.fail E) := by simp [atype, ha]
    rw [e]
    refine ⟨fun q σ V h hV => ?_, by simp only [mu_fail]; omega, by simp⟩
    obtain ⟨k1, hk1⟩ := atypic_ans h
    obtain ⟨k2, hk2⟩ := fail_ans h
    refine ⟨_, AnsH.of (σ' := σ.set q (objP T E (p.fail E))) fn123_ (by simp) (snapPtr _ _ _) (by simp) ⟨k1 + k2, fun N hN => ?_⟩, h.failed, Ext.set _ _ _⟩
    have hk1 := hk1 N (by omega)
    have hk2 := hk2 N (by omega)
    rw [ha] at hk1
    simp -implicitDefEqProofs [i123, c123, hk1, hk2, encY_mk, ty0]
  | true =>
    obtain ⟨hb, t, r, hr, hk⟩ := atypic_cons ha
    have mn := mu_next hb hr
    have base : ∀ (x : Ps.Ty) (q : Nat) (σ : H) (V : AV) (h : PO T E q σ p) (hrun : ∃ k, ∀ N, k ≤ N → runFn ctx (acall ctx N) N i123 [.ptr q 1 0 0, V] σ = some (encY x, σ.set q (objP T E p.next))),
        ∃ σ', AnsH ctx 123 [.ptr q 1 0 0, V] σ (encY x) σ' ∧ PO T E q σ' p.next ∧ Ext q σ σ' := fun x q σ V h hrun =>
      ⟨_, AnsH.of (σ' := σ.set q (objP T E p.next)) fn123_ (by simp) (snapPtr _ _ _) (by simp) hrun, h.nexted hr, Ext.set _ _ _⟩
    rcases hk with hk | hk | hk
    · have e : atype E vs (n + 1) p = (match place vs t.s with | .ofNat k => .mk 1 k [] [] | _ => .mk 1 (-1) t.s [], p.next) := by
        simp only [atype, ha, hr, hk]
        rfl
      rw [e]
      refine ⟨fun q σ V h hV => base _ q σ V h ?_, by simp only; omega, fun _ => by simp only; omega⟩
      obtain ⟨k1, hk1⟩ := atypic_ans h
      obtain ⟨h1, h2, h3, h4, h5, h6⟩ := h.next hr
      have hVn := hV.ext (Ext.set q σ (objP T E p.next))
      obtain ⟨k2, hk2⟩ := place_at hVn t.s
      have ho := h.obj
      have hw := wrap_succ (n := p.i) (by unfold big; omega)
      have hset : ∀ x, (σ.set q x)[q]? = some x := fun x => List.getElem?_set_self h.lt
      unfold objP encP at ho
      rw [hb, h1] at ho
      rw [objP_next T E hb, h1] at hk2 ⊢
      rw [encTok_k, hk] at h3
      refine ⟨k1 + k2, fun N hN => ?_⟩
      have hk1 := hk1 N (by omega)
      have hk2 := hk2 N (by omega)
      rw [ha] at hk1
      rcases placeF_cases vs 0 t.s with ⟨k, hp⟩ | hp
      · have hp' : place vs t.s = .ofNat k := hp
        rw [hp'] at hk2 ⊢
        have e3 : (0 : Int) ≤ Int.ofNat k := Int.natCast_nonneg k
        simp only
        rw [encY_mk]
        simp only [Int.ofNat_eq_natCast] at hk2 e3
        simp -implicitDefEqProofs [i123, c123, hk1, hk2, ho, h2, h3, h4, hw, hset, e3]
      · have hp' : place vs t.s = -1 := hp
        rw [hp'] at hk2 ⊢
        have e2 : (match (-1 : Int) with | .ofNat k => Ps.Ty.mk 1 k [] [] | _ => .mk 1 (-1) t.s []) = .mk 1 (-1) t.s [] := rfl
        rw [e2, encY_mk]
        simp -implicitDefEqProofs [i123, c123, hk1, hk2, ho, h2, h3, h4, hw, hset]
    · have e : atype E vs (n + 1) p = (.mk 2 0 t.s [], p.next) := by simp [atype, ha, hr, hk]
      rw [e]
      refine ⟨fun q σ V h hV => base _ q σ V h ?_, by simp only; omega, fun _ => by simp only; omega⟩
      obtain ⟨k1, hk1⟩ := atypic_ans h
      obtain ⟨h1, h2, h3, h4, h5, h6⟩ := h.next hr
      have ho := h.obj
      have hw := wrap_succ (n := p.i) (by unfold big; omega)
      have hset : ∀ x, (σ.set q x)[q]? = some x := fun x => List.getElem?_set_self h.lt
      unfold objP encP at ho
      rw [hb, h1] at ho
      rw [objP_next T E hb, h1]
      rw [encTok_k, hk] at h3
      refine ⟨k1, fun N hN => ?_⟩
      have hk1 := hk1 N hN
      rw [ha] at hk1
      simp -implicitDefEqProofs [i123, c123, hk1, ho, h2, h3, h4, hw, hset, encY_mk]
    · have e : atype E vs (n + 1) p = (match trest E vs n 1 (typ E vs n p.next).2 with
          | (none, p') => (ty0, p')
          | (some [], p') => ((typ E vs n p.next).1, p'.sign E sClose)
          | (some l, p') => (.mk 2 0 sCom ((typ E vs n p.next).1 :: l), p'.sign E sClose)) := by
        simp only [atype, ha, hr, hk]
        rfl
      obtain ⟨d, m4⟩ := hE n (Nat.le_refl _) p.next (by omega)
      have mu' : mu (atype E vs (n + 1) p).2 ≤ mu p.next := by
        rw [e]
        have m6 := mu_trest E vs n 1 (typ E vs n p.next).2 (fun m hm p hp => (hE m (by omega) p hp).2) (by omega)
        cases hx : trest E vs n 1 (typ E vs n p.next).2 with
        | mk o p' =>
          rw [hx] at m6
          have m7 := mu_sign E p' sClose
          simp only at m6
          cases o with
          | none => simp only; omega
          | some l => cases l <;> simp only <;> omega
      refine ⟨fun q σ V h hV => ?_, by omega, fun _ => by omega⟩
      obtain ⟨k1, hk1⟩ := atypic_ans h
      obtain ⟨h1, h2, h3, h4, h5, h6⟩ := h.next hr
      have ho := h.obj
      have hw := wrap_succ (n := p.i) (by unfold big; omega)
      have hset : ∀ x, (σ.set q x)[q]? = some x := fun x => List.getElem?_set_self h.lt
      have pn := h.nexted hr
      obtain ⟨σ1, ⟨k2, hk2⟩, p1, x1⟩ := d q _ V pn (hV.ext (Ext.set q σ _))
      have x01 : Ext q σ σ1 := (Ext.set q σ _).trans x1
      have hlt1 : q < σ1.length := p1.lt
      have hown : Own q σ (σ1 ++ [.arr false 4 [encY (typ E vs n p.next).1]]) σ1.length 4 (encYs [(typ E vs n p.next).1]) :=
        ⟨h.lt, x01.trans (Ext.app _ _ _), fun _ => ⟨by simp, x01.len⟩, by simp⟩
      have hl := lp79 T E q σ (.agg [.int .i64 0, .int .i64 0, .str [], .nil]) V vs (fun ti => rfl) n (fun m hm => hE m (by omega)) (typ E vs n p.next).2 [(typ E vs n p.next).1] _ σ1.length (by simp) (by omega) (p1.app [.arr false 4 [encY (typ E vs n p.next).1]]) hV hown
      unfold objP encP at ho
      rw [hb, h1] at ho
      rw [objP_next T E hb, h1] at hk2
      rw [encTok_k, hk] at h3
      rw [e]
      simp only [List.length_singleton, rowV] at hl
      generalize (typ E vs n p.next).1 = a at *
      generalize (typ E vs n p.next).2 = pe at *
      cases hx : trest E vs n 1 pe with
      | mk o p' =>
        rw [hx] at hl
        cases o with
        | none =>
          obtain ⟨fr', σ', l1, l2, l3, l4, l5⟩ := hl
          obtain ⟨k3, hk3⟩ := l1.den
          refine ⟨σ', AnsH.of fn123_ (by simp) (snapPtr _ _ _) (by simp) ⟨k1 + k2 + k3, fun N hN => ?_⟩, l3, l4⟩
          have hk1 := hk1 N (by omega)
          have hk2 := hk2 N (by omega)
          have hk3 := hk3 N (by omega)
          rw [ha] at hk1
          simp -implicitDefEqProofs [i123, c123, hk1, hk2, ho, h2, h3, h4, hw, hset, hk3, l2]
        | some l =>
          obtain ⟨fr', σ', q3, l1, l2, l3, l4, l5, l7, l8, l9, l10, l11⟩ := hl
          obtain ⟨k3, hk3⟩ := l1.den
          unfold Hi at l3
          obtain ⟨σ2, ⟨k4, hk4⟩, p2, x2⟩ := sign_ans (E := E) l8 sClose
          have own2 := l9.call x2
          cases l with
          | nil =>
            refine ⟨σ2, AnsH.of fn123_ (by simp) (snapPtr _ _ _) (by simp) ⟨k1 + k2 + k3 + k4, fun N hN => ?_⟩, p2, own2.ext⟩
            have hk1 := hk1 N (by omega)
            have hk2 := hk2 N (by omega)
            have hk3 := hk3 N (by omega)
            have hk4 := hk4 N (by omega)
            rw [ha] at hk1
            have e7 : getS fr'.sl 7 = .v (.hs q3 1 0 1 4) := l7
            have e8 : σ2[q3]? = some (.arr false 4 [encY a]) := by simpa using (own2.row (by simp)).1
            simp only [sClose] at hk4
            simp -implicitDefEqProofs [i123, c123, hk1, hk2, ho, h2, h3, h4, hw, hset, hk3, l2, l3, l4, l5, e7, e8, hk4]
          | cons b l =>
            obtain ⟨ns, w1, w2, w3⟩ := own2.snap 198
            simp only [List.singleton_append] at w1 l7 l11 own2
            rw [encYs_length] at w1
            have hs : snapA σ2 200 (.agg [.int .i64 2, .int .i64 0, .str sCom, rowV q3 (a :: b :: l).length 4]) = some (encY (.mk 2 0 sCom (a :: b :: l)), ns) := by
              unfold snapA
              split
              · rename_i hnr
                simp [rowV] at hnr
              · simp only [mapO2, w1, snapA_noRef (a := .int .i64 2) rfl, snapA_noRef (a := .str sCom) rfl, snapA_noRef (a := .int .i64 0) rfl, encY_mk, List.append_nil, List.nil_append]
                rfl
            refine ⟨frzH σ2 ns, AnsH.fn fn123_ (by simp) (snapPtr _ _ _) ⟨k1 + k2 + k3 + k4, fun N hN => ?_⟩ hs, p2.ext (frz_get ns σ2 q w3), own2.ext.frz w2⟩
            have hk1 := hk1 N (by omega)
            have hk2 := hk2 N (by omega)
            have hk3 := hk3 N (by omega)
            have hk4 := hk4 N (by omega)
            rw [ha] at hk1
            simp only [sClose] at hk4
            have e9 : ((l.length : Int) + 1 + 1 == 1) = false := by simp; omega
            simp only [List.length_cons, rowV, sCom] at l7 ⊢
            simp -implicitDefEqProofs [i123, c123, hk1, hk2, ho, h2, h3, h4, hw, hset, hk3, l2, l3, l4, l5, l7, hk4, e9]
structure LY (q : Nat) (σ0 σ : H) (TV : AV) (t : Ps.Ty) : Prop where
  sn : ∀ n, ∃ ns, snapA σ (n + 2) TV = some (encY t, ns) ∧ (∀ j ∈ ns, σ0.length ≤ j) ∧ q ∉ ns
  ft : ∀ ti, TV.fits ti = (ti.k.isAgg && 4 == ti.size)
theorem LY.own {q q2 : Nat} {σ0 σ : H} {k : Nat} {n : Int} {s : Str} {ks : List Ps.Ty} (h : Own q σ0 σ q2 4 (encYs ks)) : LY q σ0 σ (.agg [.int .i64 k, .int .i64 n, .str s, rowV q2 ks.length 4]) (.mk k n s ks) := by
  refine ⟨fun m => ?_, fun ti => rfl⟩
  obtain ⟨ns, w1, w2, w3⟩ := h.snap m
  rw [encYs_length] at w1
  refine ⟨ns, ?_, w2, w3⟩
  unfold snapA
  split
  · rename_i hnr
    have : (rowV q2 ks.length 4).noRef = true := by simpa using hnr
    have h9 := (snapA_noRef (σ := σ) (n := m + 1) this).symm.trans w1
    simp only [Option.some.injEq, Prod.mk.injEq] at h9
    rw [← h9.2, h9.1, encY_mk]
  · simp only [mapO2, w1, snapA_noRef (a := .int .i64 k) rfl, snapA_noRef (a := .int .i64 n) rfl, snapA_noRef (a := .str s) rfl, encY_mk, List.append_nil, List.nil_append]
theorem LY.val {q : Nat} {σ0 σ : H} (t : Ps.Ty) : LY q σ0 σ (encY t) t :=
  ⟨fun m => ⟨[], snapA_noRef (noRef_encY t), by simp, by simp⟩, fun ti => encY_fits t ti⟩
theorem lp104_0 (T : List Tok) (E q : Nat) (σ0 : H) (Z V : AV) (vs : List Str) (K : Nat) (M : Int) (S : Str) : ∀ (n : Nat), (∀ m, m < n → AtyOK T E vs m) → ∀ (p : PS) (acc : List Ps.Ty) (σ : H) (q2 : Nat), 4 * mu p + 2 ≤ n → acc.length + mu p ≤ 70000 → PO T E q σ p → VA q σ0 V vs → Own q σ0 σ q2 4 (encYs acc) →
    ∃ fr' σ' q3, Lp ctx [23] [] [0, 1, 4, 5, 6] b145_0 ⟨[(0, .v (.ptr q 1 0 0)), (1, .v V), (4, .bx Z), (5, .v (.bool true)), (6, .bx (.agg [.int .i64 K, .int .i64 M, .str S, rowV q2 acc.length 4]))], false⟩ σ (.ex 0) fr' σ' ∧ fr'.lk = false ∧ Hi 25 fr' ∧ getS fr'.sl 0 = .v (.ptr q 1 0 0) ∧ getS fr'.sl 1 = .v V ∧ getS fr'.sl 4 = .bx Z ∧
      getS fr'.sl 6 = .bx (.agg [.int .i64 K, .int .i64 M, .str S, rowV q3 (acc ++ (targs E vs n p).1).length 4]) ∧ PO T E q σ' (targs E vs n p).2 ∧ Own q σ0 σ' q3 4 (encYs (acc ++ (targs E vs n p).1)) ∧ mu (targs E vs n p).2 ≤ mu p
  | 0, _, _, _, _, _, h, _, _, _, _ => by omega
  | n + 1, hE, p, acc, σ, q2, hn, hl, hp, hV, ho => by
    obtain ⟨k1, hk1⟩ := atypic_ans hp
    cases ha : p.atypic with
    | false =>
      rw [show targs E vs (n + 1) p = ([], p) by simp [targs, ha]]
      simp only [List.append_nil]
      refine ⟨?_, σ, q2, Lp.exit ⟨k1, fun N hN => ?_⟩ (by simp), ?_⟩
      rotate_left
      · have hk1 := hk1 N hN
        rw [ha] at hk1
        simp -implicitDefEqProofs [b145_0, hk1]
        rfl
      · exact ⟨by simp, hi_of (by simp), by simp, by simp, by simp, by simp, hp, ho, Nat.le_refl _⟩
    | true =>
      obtain ⟨d, m1, m2⟩ := hE n (by omega) p (by omega)
      have m2 := m2 ha
      obtain ⟨σ2, ⟨k2, hk2⟩, p2, x2⟩ := d q σ V hp (hV.ext ho.ext)
      rw [show targs E vs (n + 1) p = ((atype E vs n p).1 :: (targs E vs n (atype E vs n p).2).1, (targs E vs n (atype E vs n p).2).2) by simp [targs, ha]]
      obtain ⟨q3, σ3, hap, ho3, hq⟩ := (ho.call x2).app ⟨.strct [(0, 3), (1, 3), (2, 9), (3, 33)], 4, 56, .agg [.int .i64 0, .int .i64 0, .str [], .nil], []⟩ (encY (atype E vs n p).1) rfl (by simp) (by simp) (by simp; omega) (by simp; omega)
      rw [encYs_length] at hap
      have hacc : encYs acc ++ [encY (atype E vs n p).1] = encYs (acc ++ [(atype E vs n p).1]) := by simp
      rw [hacc] at ho3
      obtain ⟨fr', σ', q4, l1, l2, l3, l4, l5, l6, l7, l8, l9, l10⟩ := lp104_0 T E q σ0 Z V vs K M S n (fun m hm => hE m (by omega)) (atype E vs n p).2 (acc ++ [(atype E vs n p).1]) σ3 q3 (by omega) (by simp; omega) (p2.ext hq) hV ho3
      simp only [List.append_assoc, List.singleton_append] at l7 l9
      refine ⟨fr', σ', q4, Lp.step ⟨k1 + k2, fun N hN => ?_⟩ l1, l2, l3, l4, l5, l6, l7, l8, l9, by simp only; omega⟩
      have hk1 := hk1 N (by omega)
      have hk2 := hk2 N (by omega)
      rw [ha] at hk1
      generalize (atype E vs n p).1 = a at *
      simp -implicitDefEqProofs [b145_0, hk1, hk2, hap, -appendH]
theorem mu_targs (E : Nat) (vs : List Str) : ∀ (n : Nat) (p : PS), (∀ m, m < n → ∀ p, 4 * mu p + 1 ≤ m → mu (atype E vs m p).2 ≤ mu p ∧ (p.atypic = true → mu (atype E vs m p).2 < mu p)) → 4 * mu p + 2 ≤ n → mu (targs E vs n p).2 ≤ mu p
  | 0, _, _, h => by omega
  | n + 1, p, h, hn => by
    simp only [targs]
    cases ha : p.atypic with
    | false => exact Nat.le_refl _
    | true =>
      obtain ⟨m1, m2⟩ := h n (by omega) p (by omega)
      have m2 := m2 ha
      have m3 := mu_targs E vs n (atype E vs n p).2 (fun m hm => h m (by omega)) (by omega)
      exact Nat.le_trans m3 m1
def kidsOf : Ps.Ty → List Ps.Ty
  | .mk _ _ _ ks => ks
def addK (t : Ps.Ty) (l : List Ps.Ty) : Ps.Ty := match t with | .mk k m s ks => .mk k m s (ks ++ l)
def thead (E : Nat) (vs : List Str) (n : Nat) (p : PS) : Ps.Ty × PS :=
  match p.peek 2 [] with
  | true => (addK (atype E vs n p).1 (targs E vs n (atype E vs n p).2).1, (targs E vs n (atype E vs n p).2).2)
  | false => ((atype E vs n p).1, (atype E vs n p).2)
theorem addK_nil (t : Ps.Ty) : addK t [] = t := by cases t; simp [addK]
theorem typ_eq (E : Nat) (vs : List Str) (n : Nat) (p : PS) : typ E vs (n + 1) p = (match (thead E vs n p).2.try_ sArr with
    | (true, p') => (.mk 2 0 sArr [(thead E vs n p).1, (typ E vs n p').1], (typ E vs n p').2)
    | (false, p') => ((thead E vs n p).1, p')) := by
  simp only [typ, thead]
  cases h : p.peek 2 [] with
  | true =>
    simp only
    unfold addK
    rfl
  | false =>
    simp only
    cases ht : (atype E vs n p).1 with
    | mk k m s ks => simp; rfl
theorem atype_con {E : Nat} {vs : List Str} {n : Nat} {p : PS} (h : p.peek 2 [] = true) : ∃ s, (atype E vs (n + 1) p).1 = .mk 2 0 s [] := by
  obtain ⟨hb, t, r, hr, hk⟩ := peek_cons h
  have ha : p.atypic = true := by unfold PS.atypic; rw [h]; simp
  exact ⟨t.s, by simp [atype, ha, hr, hk]⟩
theorem typ_loop {T : List Tok} {E n : Nat} {vs : List Str} (hA : ∀ m, m ≤ n → AtyOK T E vs m) {p : PS} (hn : 4 * mu p + 2 ≤ n) {q : Nat} {σ σ1 : H} {V Z : AV} (hsm : mu p ≤ 65536) (hV : VA q σ V vs) (x1 : Ext q σ σ1) (p1 : PO T E q σ1 (atype E vs n p).2) (hlt : q < σ.length) :
    ∃ fr' σ' TV, Lp ctx [23] [] [0, 1, 4, 5, 6] b145_0 ⟨[(0, .v (.ptr q 1 0 0)), (1, .v V), (4, .bx Z), (5, .v (.bool (p.peek 2 []))), (6, .bx (encY (atype E vs n p).1))], false⟩ σ1 (.ex 0) fr' σ' ∧ fr'.lk = false ∧ Hi 25 fr' ∧ getS fr'.sl 0 = .v (.ptr q 1 0 0) ∧ getS fr'.sl 1 = .v V ∧ getS fr'.sl 4 = .bx Z ∧
      getS fr'.sl 6 = .bx TV ∧ PO T E q σ' (thead E vs n p).2 ∧ Ext q σ σ' ∧ (∀ τ, Ext q σ' τ → LY q σ τ TV (thead E vs n p).1) ∧ mu (thead E vs n p).2 ≤ mu p := by
  obtain ⟨m, rfl⟩ : ∃ m, n = m + 1 := ⟨n - 1, by omega⟩
  obtain ⟨_, m1, _⟩ := hA (m + 1) (Nat.le_refl _) p (by omega)
  cases hc : p.peek 2 [] with
  | false =>
    have e : thead E vs (m + 1) p = ((atype E vs (m + 1) p).1, (atype E vs (m + 1) p).2) := by simp [thead, hc]
    rw [e]
    generalize (atype E vs (m + 1) p).1 = a at *
    refine ⟨?_, σ1, encY a, Lp.exit ⟨0, fun N hN => ?_⟩ (by simp), ?_⟩
    rotate_left
    · simp -implicitDefEqProofs [b145_0]
      rfl
    · exact ⟨by simp, hi_of (by simp), by simp, by simp, by simp, by simp, p1, x1, fun _ _ => LY.val a, m1⟩
  | true =>
    obtain ⟨s, hs⟩ := atype_con (E := E) (vs := vs) (n := m) hc
    have e : thead E vs (m + 1) p = (.mk 2 0 s (targs E vs (m + 1) (atype E vs (m + 1) p).2).1, (targs E vs (m + 1) (atype E vs (m + 1) p).2).2) := by
      simp [thead, hc, hs, addK]
    have hat : p.atypic = true := by unfold PS.atypic; rw [hc]; simp
    have ho : Own q σ σ1 0 4 (encYs []) := ⟨hlt, x1, fun h => absurd rfl h, rfl⟩
    obtain ⟨fr', σ', q3, l1, l2, l3, l4, l5, l6, l7, l8, l9, l10⟩ := lp104_0 T E q σ Z V vs 2 0 s (m + 1) (fun m' hm => hA m' (by omega)) (atype E vs (m + 1) p).2 [] σ1 0 (by omega) (by simp; omega) p1 hV ho
    rw [e, hs]
    simp only [List.nil_append] at l7 l9
    refine ⟨fr', σ', _, ?_, l2, l3, l4, l5, l6, l7, l8, l9.ext, fun τ he => LY.own (l9.call he), by simp only; omega⟩
    have e2 : encY (.mk 2 0 s []) = .agg [.int .i64 (2 : Nat), .int .i64 0, .str s, rowV 0 ([] : List Ps.Ty).length 4] := by rw [encY_mk]; rfl
    rw [e2]
    exact l1
set_option maxHeartbeats 1000000 in
theorem step_typ {T : List Tok} {E n : Nat} {vs : List Str} (hE : TypOK T E vs n) (hA : ∀ m, m ≤ n → AtyOK T E vs m) : TypOK T E vs (n + 1) := fun p hn => by
  obtain ⟨d, m1, _⟩ := hA n (Nat.le_refl _) p (by omega)
  have hmu : mu (thead E vs n p).2 ≤ mu p := by
    unfold thead
    split
    · exact Nat.le_trans (mu_targs E vs n _ (fun m hm p' hp' => (hA m (by omega) p' hp').2) (by omega)) m1
    · exact m1
  rw [typ_eq]
  cases hpk : (thead E vs n p).2.peek 5 sArr with
  | false =>
    have et : (thead E vs n p).2.try_ sArr = (false, (thead E vs n p).2) := by unfold PS.try_; rw [hpk]
    rw [et]
    refine ⟨fun q σ V h hV => ?_, hmu⟩
    obtain ⟨k1, hk1⟩ := peek_ans h 2 []
    obtain ⟨σ1, ⟨k2, hk2⟩, p1, x1⟩ := d q σ V h hV
    obtain ⟨fr', σ2, TV, l1, l2, l3, l4, l5, l6, l7, l8, l9, l10, _⟩ := typ_loop (Z := .agg [.int .i64 0, .int .i64 0, .str [], .nil]) hA (p := p) (by omega) (mu_small h) hV x1 p1 h.lt
    obtain ⟨k3, hk3⟩ := l1.den
    unfold Hi at l3
    obtain ⟨σ3, ⟨k4, hk4⟩, p3, x3⟩ := try_ans l8 sArr
    rw [et] at hk4 p3
    obtain ⟨hsn, hft⟩ := l10 σ3 x3
    obtain ⟨ns, w1, w2, w3⟩ := hsn 198
    refine ⟨frzH σ3 ns, AnsH.fn fn145_ (by simp) (snapPtr _ _ _) ⟨k1 + k2 + k3 + k4, fun N hN => ?_⟩ w1, p3.ext (frz_get ns σ3 q w3), (l9.trans x3).frz w2⟩
    have hk1 := hk1 N (by omega)
    have hk2 := hk2 N (by omega)
    have hk3 := hk3 N (by omega)
    have hk4 := hk4 N (by omega)
    simp only [Int.cast_ofNat_Int, sArr] at hk1 hk4
    generalize (atype E vs n p).1 = a at *
    simp -implicitDefEqProofs [i145, c145, hk1, hk2, hk3, hk4, l2, l3, l4, l5, l6, l7, hft]
  | true =>
    have et : (thead E vs n p).2.try_ sArr = (true, (thead E vs n p).2.next) := by unfold PS.try_; rw [hpk]
    have mn := mu_peek hpk
    rw [et]
    simp only
    obtain ⟨d2, m4⟩ := hE (thead E vs n p).2.next (by omega)
    refine ⟨fun q σ V h hV => ?_, by omega⟩
    obtain ⟨k1, hk1⟩ := peek_ans h 2 []
    obtain ⟨σ1, ⟨k2, hk2⟩, p1, x1⟩ := d q σ V h hV
    obtain ⟨fr', σ2, TV, l1, l2, l3, l4, l5, l6, l7, l8, l9, l10, _⟩ := typ_loop (Z := .agg [.int .i64 0, .int .i64 0, .str [], .nil]) hA (p := p) (by omega) (mu_small h) hV x1 p1 h.lt
    obtain ⟨k3, hk3⟩ := l1.den
    unfold Hi at l3
    obtain ⟨σ3, ⟨k4, hk4⟩, p3, x3⟩ := try_ans l8 sArr
    rw [et] at hk4 p3
    obtain ⟨σ4, ⟨k5, hk5⟩, p4, x4⟩ := d2 q σ3 V p3 (hV.ext (l9.trans x3))
    obtain ⟨hsn, hft⟩ := l10 σ4 (x3.trans x4)
    obtain ⟨ns, w1, w2, w3⟩ := hsn 196
    generalize (typ E vs n (thead E vs n p).2.next).1 = u at *
    generalize (thead E vs n p).1 = th at *
    have hs : snapA σ4 200 (.agg [.int .i64 2, .int .i64 0, .str sArr, .sl 4 [TV, encY u]]) = some (encY (.mk 2 0 sArr [th, u]), ns) := by
      have h1 : snapA σ4 199 (.sl 4 [TV, encY u]) = some (.sl 4 [encY th, encY u], ns) := by
        unfold snapA
        split
        · rename_i hnr
          have : TV.noRef = true := by
            simp only [AV.noRef, AV.noRefs, Bool.and_eq_true] at hnr; exact hnr.1
          have h9 := (snapA_noRef (σ := σ4) (n := 198) this).symm.trans w1
          simp only [Option.some.injEq, Prod.mk.injEq] at h9
          rw [← h9.2, h9.1]
        · simp only [mapO2, w1, snapA_noRef (noRef_encY u), List.append_nil]
      unfold snapA
      split
      · rename_i hnr
        have : TV.noRef = true := by simpa [AV.noRef, AV.noRefs] using hnr
        have h9 := (snapA_noRef (σ := σ4) (n := 198) this).symm.trans w1
        simp only [Option.some.injEq, Prod.mk.injEq] at h9
        rw [← h9.2, h9.1, encY_mk]
        simp
      · simp only [mapO2, h1, snapA_noRef (a := .int .i64 2) rfl, snapA_noRef (a := .str sArr) rfl, snapA_noRef (a := .int .i64 0) rfl, encY_mk, List.append_nil, List.nil_append]
        simp
    refine ⟨frzH σ4 ns, AnsH.fn fn145_ (by simp) (snapPtr _ _ _) ⟨k1 + k2 + k3 + k4 + k5, fun N hN => ?_⟩ hs, p4.ext (frz_get ns σ4 q w3), ((l9.trans x3).trans x4).frz w2⟩
    have hk1 := hk1 N (by omega)
    have hk2 := hk2 N (by omega)
    have hk3 := hk3 N (by omega)
    have hk4 := hk4 N (by omega)
    have hk5 := hk5 N (by omega)
    simp only [Int.cast_ofNat_Int, sArr] at hk1 hk4 ⊢
    generalize (atype E vs n p).1 = a at *
    simp -implicitDefEqProofs [i145, c145, hk1, hk2, hk3, hk4, hk5, l2, l3, l4, l5, l6, l7, hft]
theorem all_typ (T : List Tok) (E : Nat) (vs : List Str) : ∀ n, (∀ m, m ≤ n → TypOK T E vs m) ∧ (∀ m, m ≤ n → AtyOK T E vs m)
  | 0 => ⟨fun m hm p h => by omega, fun m hm p h => by omega⟩
  | n + 1 => by
    obtain ⟨h1, h3⟩ := all_typ T E vs n
    have h3' : AtyOK T E vs (n + 1) := step_atype h1
    have h1' : TypOK T E vs (n + 1) := step_typ (h1 n (Nat.le_refl _)) h3
    refine ⟨fun m hm => ?_, fun m hm => ?_⟩
    · rcases Nat.lt_or_ge n m with h | h
      · have : m = n + 1 := by omega
        subst this; exact h1'
      · exact h1 m h
    · rcases Nat.lt_or_ge n m with h | h
      · have : m = n + 1 := by omega
        subst this; exact h3'
      · exact h3 m h
end Go.Am.Tryz
