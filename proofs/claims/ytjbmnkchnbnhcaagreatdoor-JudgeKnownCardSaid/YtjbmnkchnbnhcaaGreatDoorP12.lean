/- Layers 12 to 14: the reference's parser: case; expressions as a whole. -/
import Derived.Test.YtjbmnkchnbnhcaaGreatDoorP11
set_option linter.unusedVariables false
set_option maxRecDepth 100000
set_option linter.unusedSimpArgs false
namespace Go.Am.Tryz
open Go Go.Am.Ps
theorem mu_small {T : List Tok} {E q : Nat} {σ : H} {p : PS} (h : PO T E q σ p) : mu p ≤ 65536 := by
  have := h.small
  unfold mu
  split <;> omega
theorem lp48_0 (T : List Tok) (E q : Nat) (σ0 : H) (Z : AV) (A : Nat) (K : AV) (hKc : K.cells = [K]) : ∀ (n : Nat), (∀ m, m < n → AltOK T E m) → ∀ (p : PS) (acc : List Al) (σ : H) (q2 : Nat), 4 * mu p + 2 ≤ n → acc.length + mu p ≤ 70000 → PO T E q σ p → Own q σ0 σ q2 9 (encAs acc) →
    ∃ fr' σ' q3, Lp ctx [47, 51, 133, 144, 153] [] [0, 2, 10] b82_0 ⟨[(0, .v (.ptr q 1 0 0)), (2, .bx Z), (10, .bx (.agg [.int .i64 10, .int .i64 A, .str [], .int .i64 0, K, rowV q2 acc.length 9]))], false⟩ σ (.ex 1) fr' σ' ∧ fr'.lk = false ∧ Hi 155 fr' ∧ getS fr'.sl 0 = .v (.ptr q 1 0 0) ∧ getS fr'.sl 2 = .bx Z ∧
      getS fr'.sl 10 = .bx (.agg [.int .i64 10, .int .i64 A, .str [], .int .i64 0, K, rowV q3 (acc ++ (alts E n p).1).length 9]) ∧ PO T E q σ' (alts E n p).2 ∧ Own q σ0 σ' q3 9 (encAs (acc ++ (alts E n p).1)) ∧ mu (alts E n p).2 ≤ mu p
  | 0, _, _, _, _, _, h, _, _, _ => by omega
  | n + 1, hE, p, acc, σ, q2, hn, hl, hp, ho => by
    obtain ⟨σ1, ⟨k1, hk1⟩, p1, x1⟩ := try_ans hp sSemi
    cases hpk : p.peek 5 sSemi with
    | false =>
      have et : p.try_ sSemi = (false, p) := by unfold PS.try_; rw [hpk]
      rw [et] at hk1 p1
      rw [show alts E (n + 1) p = ([], p) by simp [alts, hpk]]
      simp only [List.append_nil]
      refine ⟨?_, σ1, q2, Lp.exit ⟨k1, fun N hN => ?_⟩ (by simp), ?_⟩
      rotate_left
      · have hk1 := hk1 N hN
        simp only [sSemi] at hk1
        simp -implicitDefEqProofs [b82_0, hk1]
        rfl
      · exact ⟨by simp, hi_of (by simp), by simp, by simp, by simp, p1, ho.call x1, Nat.le_refl _⟩
    | true =>
      have et : p.try_ sSemi = (true, p.next) := by unfold PS.try_; rw [hpk]
      rw [et] at hk1 p1
      have mn := mu_peek hpk
      obtain ⟨d, m1⟩ := hE n (by omega) p.next (by omega)
      obtain ⟨σ2, ⟨k2, hk2⟩, p2, x2⟩ := d q σ1 p1
      rw [show alts E (n + 1) p = ((alt E n p.next).1 :: (alts E n (alt E n p.next).2).1, (alts E n (alt E n p.next).2).2) by simp [alts, hpk]]
      obtain ⟨q3, σ3, hap, ho3, hq⟩ := ((ho.call x1).call x2).app ⟨.strct [(0, 3), (1, 9), (2, 52), (3, 63)], 9, 136, .agg [.int .i64 0, .str [], .nil, .int .i64 0, .int .i64 0, .str [], .int .i64 0, .nil, .nil], []⟩ (encA (alt E n p.next).1) rfl (by simp) (by simp) (by simp; omega) (by simp; omega)
      rw [encAs_length] at hap
      have hacc : encAs acc ++ [encA (alt E n p.next).1] = encAs (acc ++ [(alt E n p.next).1]) := by simp
      rw [hacc] at ho3
      obtain ⟨fr', σ', q4, l1, l2, l3, l4, l5, l6, l7, l8, l9⟩ := lp48_0 T E q σ0 Z A K hKc n (fun m hm => hE m (by omega)) (alt E n p.next).2 (acc ++ [(alt E n p.next).1]) σ3 q3 (by omega) (by simp; omega) (p2.ext hq) ho3
      simp only [List.append_assoc, List.singleton_append] at l6 l8
      refine ⟨fr', σ', q4, Lp.step ⟨k1 + k2, fun N hN => ?_⟩ l1, l2, l3, l4, l5, l6, l7, l8, by simp only; omega⟩
      have hk1 := hk1 N (by omega)
      have hk2 := hk2 N (by omega)
      simp only [sSemi] at hk1
      generalize (alt E n p.next).1 = a at *
      simp -implicitDefEqProofs [b82_0, hk1, hk2, hap, -appendH]
set_option maxHeartbeats 1000000 in
theorem expr_case {T : List Tok} {E n : Nat} (hE : ExprOK T E n) (hA : ∀ m, m ≤ n → AltOK T E m) (p : PS) (hn : 4 * mu p + 3 ≤ n + 1) (hp0 : p.peek 5 sLam = false) (hp1 : p.peek 4 sLet = false) (hp2 : p.peek 4 sIf = false) (hpk : p.peek 4 sCase = true)
    (hmu : ∀ (m : Nat) (p : PS), m ≤ n → 4 * mu p + 2 ≤ m → mu (alts E m p).2 ≤ mu p) : StepE T E (n + 1) p := by
  obtain ⟨hb, t, r, hr, _⟩ := peek_cons hpk
  have mn := mu_peek hpk
  have e : expr E (n + 1) p = (let a := expr E n p.next; let x := alt E n ((a.2.eat E 4 sOf).2.sign E sBrO); let l := alts E n x.2; (.mk 10 t.at_ [] 0 [a.1] (x.1 :: l.1), l.2.sign E sBrC)) := by
    simp only [expr, hb, hr, hp0, hp1, hp2, hpk, if_true]
    rfl
  simp only at e
  obtain ⟨d1, m1⟩ := hE p.next (by omega)
  have m2 := mu_eat E (expr E n p.next).2 4 sOf
  have m3 := mu_sign E ((expr E n p.next).2.eat E 4 sOf).2 sBrO
  obtain ⟨d2, m4⟩ := hA n (Nat.le_refl _) (((expr E n p.next).2.eat E 4 sOf).2.sign E sBrO) (by omega)
  have m5 := hmu n (alt E n (((expr E n p.next).2.eat E 4 sOf).2.sign E sBrO)).2 (Nat.le_refl _) (by omega)
  have m6 := mu_sign E (alts E n (alt E n (((expr E n p.next).2.eat E 4 sOf).2.sign E sBrO)).2).2 sBrC
  unfold StepE
  rw [e]
  refine ⟨fun q σ h => ?_, by simp only; omega⟩
  obtain ⟨σ0, ⟨k0, hk0⟩, p0, x0⟩ := try_ans h sLam
  have et : p.try_ sLam = (false, p) := by unfold PS.try_; rw [hp0]
  rw [et] at hk0 p0
  obtain ⟨k7, hk7⟩ := peek_ans p0 4 sCase
  obtain ⟨k8, hk8⟩ := peek_ans p0 4 sLet
  obtain ⟨k9, hk9⟩ := peek_ans p0 4 sIf
  obtain ⟨σ1, ⟨k1, hk1⟩, p1, x1⟩ := d1 q _ (p0.nexted hr)
  have x01 : Ext q σ σ1 := (x0.trans (Ext.set q σ0 _)).trans x1
  have p1' := p1.app [.arr false 6 [encE (expr E n p.next).1]]
  obtain ⟨σ2, ⟨k2, hk2⟩, p2, x2⟩ := eat_ans (E := E) p1' 4 sOf
  obtain ⟨σ3, ⟨k3, hk3⟩, p3, x3⟩ := sign_ans (E := E) p2 sBrO
  obtain ⟨σ4, ⟨k4, hk4⟩, p4, x4⟩ := d2 q σ3 p3
  have x14 : Ext q (σ1 ++ [.arr false 6 [encE (expr E n p.next).1]]) σ4 := (x2.trans x3).trans x4
  have ownN : Own q (σ1 ++ [.arr false 6 [encE (expr E n p.next).1]]) σ4 0 9 [] := ⟨p1'.lt, x14, fun h => absurd rfl h, rfl⟩
  obtain ⟨q3, σ5, hap, own5, hq5⟩ := ownN.app ⟨.strct [(0, 3), (1, 9), (2, 52), (3, 63)], 9, 136, .agg [.int .i64 0, .str [], .nil, .int .i64 0, .int .i64 0, .str [], .int .i64 0, .nil, .nil], []⟩ (encA (alt E n (((expr E n p.next).2.eat E 4 sOf).2.sign E sBrO)).1) rfl (by simp) (by simp) (by simp) (by simp)
  have hsm := mu_small h
  have hacc : [] ++ [encA (alt E n (((expr E n p.next).2.eat E 4 sOf).2.sign E sBrO)).1] = encAs [(alt E n (((expr E n p.next).2.eat E 4 sOf).2.sign E sBrO)).1] := by simp
  rw [hacc] at own5
  obtain ⟨fr', σ6, q4, l1, l2, l3, l4, l5, l6, l7, l8, l9⟩ := lp48_0 T E q (σ1 ++ [.arr false 6 [encE (expr E n p.next).1]]) (.agg [.int .i64 0, .int .i64 0, .str [], .int .i64 0, .nil, .nil]) t.at_ (.hs σ1.length 1 0 1 6) rfl n (fun m hm => hA m (by omega)) (alt E n (((expr E n p.next).2.eat E 4 sOf).2.sign E sBrO)).2 [(alt E n (((expr E n p.next).2.eat E 4 sOf).2.sign E sBrO)).1] σ5 q3 (by omega) (by simp; omega) (p4.ext hq5) own5
  obtain ⟨k5, hk5⟩ := l1.den
  unfold Hi at l3
  obtain ⟨σ7, ⟨k6, hk6⟩, p7, x7⟩ := sign_ans (E := E) l7 sBrC
  have own7 := l8.call x7
  obtain ⟨ho, h2, h3, h4, h5, hw, hset⟩ := h.beg hb hr
  obtain ⟨ho0, _, _, _, _, _, hset0⟩ := p0.beg hb hr
  rw [objP_next T E hb] at hk1
  have h1 := (h.next hr).1
  rw [h1] at hk1
  have hkid : σ7[σ1.length]? = some (.arr false 6 [encE (expr E n p.next).1]) := by
    rw [own7.ext.rest σ1.length (by simp) (by have := p1.lt; omega)]
    simp
  obtain ⟨ns, w1, w2, w3⟩ := own7.snap 198
  simp only [List.singleton_append] at l6 w1 own7
  rw [encAs_length] at w1
  generalize (alts E n (alt E n (((expr E n p.next).2.eat E 4 sOf).2.sign E sBrO)).2).1 = al at *
  generalize (alt E n (((expr E n p.next).2.eat E 4 sOf).2.sign E sBrO)).1 = a1 at *
  generalize (expr E n p.next).1 = ea at *
  have hs : snapA σ7 200 (.agg [.int .i64 10, .int .i64 t.at_, .str [], .int .i64 0, .hs σ1.length 1 0 1 6, rowV q4 (a1 :: al).length 9]) = some (encE (.mk 10 t.at_ [] 0 [ea] (a1 :: al)), σ1.length :: ns) := by
    have h1 := snapA_hs (n := 198) (v := 1) (m := 1) hkid rfl (by simp) (by simp)
    unfold snapA
    split
    · rename_i hnr
      simp at hnr
    · simp only [mapO2, w1, h1, snapA_noRef (a := .int .i64 10) rfl, snapA_noRef (a := .int .i64 t.at_) rfl, snapA_noRef (a := .str []) rfl, snapA_noRef (a := .int .i64 0) rfl, encE_mk, List.append_nil, List.nil_append]
      simp
  have hlen1 := x01.len
  refine ⟨frzH σ7 (σ1.length :: ns), AnsH.fn fn82_ (by simp) (snapPtr _ _ _) ⟨k0 + k1 + k2 + k3 + k4 + k5 + k6 + k7 + k8 + k9, fun N hN => ?_⟩ hs, p7.ext (frz_get _ _ _ ?_), ((x01.trans (Ext.app _ _ _)).trans own7.ext).frz ?_⟩
  · have hk0 := hk0 N (by omega)
    have hk1 := hk1 N (by omega)
    have hk2 := hk2 N (by omega)
    have hk3 := hk3 N (by omega)
    have hk4 := hk4 N (by omega)
    have hk5 := hk5 N (by omega)
    have hk6 := hk6 N (by omega)
    have hk7 := hk7 N (by omega)
    have hk8 := hk8 N (by omega)
    have hk9 := hk9 N (by omega)
    rw [hp1] at hk8
    rw [hp2] at hk9
    rw [hpk] at hk7
    simp only [Int.cast_ofNat_Int, sLam, sLet, sIf, sCase, sOf, sBrO, sBrC] at hk0 hk2 hk3 hk6 hk7 hk8 hk9
    have e0 : rowV 0 0 9 = .nil := rfl
    simp only [List.length_nil, e0, Nat.zero_add] at hap
    simp only [List.length_singleton] at hk5
    simp -implicitDefEqProofs [i82, c82, ho, h2, h3, h4, h5, hk0, hk1, hk2, hk3, hk4, hk5, hk6, hk7, hk8, hk9, ho0, hset0, hw, hap, l2, l3, l4, l5, l6, -appendH]
  · simp only [List.mem_cons, not_or]
    exact ⟨by have := p1.lt; omega, w3⟩
  · intro j hj
    rcases List.mem_cons.1 hj with rfl | hj
    · exact hlen1
    · have := w2 j hj
      simp at this
      omega
theorem mu_apps (E : Nat) : ∀ (n : Nat) (e : Ex) (p : PS), (∀ m, m < n → ∀ p, 4 * mu p + 1 ≤ m → mu (atom E m p).2 ≤ mu p ∧ (p.atomic = true → mu (atom E m p).2 < mu p)) → 4 * mu p + 2 ≤ n → mu (apps E n e p).2 ≤ mu p
  | 0, _, _, _, h => by omega
  | n + 1, e, p, h, hn => by
    simp only [apps]
    cases ha : p.atomic with
    | false => exact Nat.le_refl _
    | true =>
      obtain ⟨m1, m2⟩ := h n (by omega) p (by omega)
      have m2 := m2 ha
      have m3 := mu_apps E n (.mk 5 (match e with | .mk _ at_ _ _ _ _ => at_) [] 0 [e, (atom E n p).1] []) (atom E n p).2 (fun m hm => h m (by omega)) (by omega)
      exact Nat.le_trans m3 m1
theorem mu_alts (E : Nat) : ∀ (n : Nat) (p : PS), (∀ m, m < n → ∀ p, 4 * mu p + 4 ≤ m → mu (alt E m p).2 ≤ mu p) → 4 * mu p + 2 ≤ n → mu (alts E n p).2 ≤ mu p
  | 0, _, _, h => by omega
  | n + 1, p, h, hn => by
    simp only [alts]
    cases hpk : p.peek 5 sSemi with
    | false => exact Nat.le_refl _
    | true =>
      have mn := mu_peek hpk
      have m1 := h n (by omega) p.next (by omega)
      have m3 := mu_alts E n (alt E n p.next).2 (fun m hm => h m (by omega)) (by omega)
      simp only
      omega
theorem all_ok (T : List Tok) (E : Nat) : ∀ n, (∀ m, m ≤ n → ExprOK T E m) ∧ (∀ m, m ≤ n → AltOK T E m) ∧ (∀ m, m ≤ n → AtomOK T E m)
  | 0 => ⟨fun m hm p h => by omega, fun m hm p h => by omega, fun m hm p h => by omega⟩
  | n + 1 => by
    obtain ⟨h1, h2, h3⟩ := all_ok T E n
    have h3' : AtomOK T E (n + 1) := step_atom h1
    have h2' : AltOK T E (n + 1) := step_alt (h1 n (Nat.le_refl _))
    have h1' : ExprOK T E (n + 1) := fun p hn => by
      by_cases hf : p.bad = true ∨ p.r = []
      · exact expr_fail p hf
      · have hb : p.bad = false := by
          cases hb : p.bad with
          | false => rfl
          | true => exact absurd (.inl hb) hf
        obtain ⟨t, r, hr⟩ : ∃ t r, p.r = t :: r := by
          cases hr : p.r with
          | nil => exact absurd (.inr hr) hf
          | cons t r => exact ⟨t, r, rfl⟩
        cases hp0 : p.peek 5 sLam with
        | true => exact expr_lam (h1 n (Nat.le_refl _)) p hn hp0
        | false =>
          cases hp1 : p.peek 4 sLet with
          | true => exact expr_let (h1 n (Nat.le_refl _)) p hn hp0 hp1
          | false =>
            cases hp2 : p.peek 4 sIf with
            | true => exact expr_if (h1 n (Nat.le_refl _)) p hn hp0 hp1 hp2
            | false =>
              cases hp3 : p.peek 4 sCase with
              | true => exact expr_case (h1 n (Nat.le_refl _)) h2 p hn hp0 hp1 hp2 hp3 (fun m p hm hp => mu_alts E m p (fun m' hm' p' hp' => (h2 m' (by omega) p' hp').2) hp)
              | false => exact expr_app h3 p hn hb hr hp0 hp1 hp2 hp3 (fun m e p hm hp => mu_apps E m e p (fun m' hm' p' hp' => (h3 m' (by omega) p' hp').2) hp)
    refine ⟨fun m hm => ?_, fun m hm => ?_, fun m hm => ?_⟩
    · rcases Nat.lt_or_ge n m with h | h
      · have : m = n + 1 := by omega
        subst this; exact h1'
      · exact h1 m h
    · rcases Nat.lt_or_ge n m with h | h
      · have : m = n + 1 := by omega
        subst this; exact h2'
      · exact h2 m h
    · rcases Nat.lt_or_ge n m with h | h
      · have : m = n + 1 := by omega
        subst this; exact h3'
      · exact h3 m h
theorem expr_does {T : List Tok} {E n : Nat} {p : PS} (h : 4 * mu p + 3 ≤ n) : Does T E 82 (encE (expr E n p).1) p (expr E n p).2 ∧ mu (expr E n p).2 ≤ mu p := (all_ok T E n).1 n (Nat.le_refl _) p h
end Go.Am.Tryz
