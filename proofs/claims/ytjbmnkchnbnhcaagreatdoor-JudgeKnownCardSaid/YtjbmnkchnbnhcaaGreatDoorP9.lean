/- Layers 12 to 14: the reference's parser: atoms. -/
import Derived.Test.YtjbmnkchnbnhcaaGreatDoorP8
set_option linter.unusedVariables false
set_option maxRecDepth 100000
set_option linter.unusedSimpArgs false
namespace Go.Am.Tryz
open Go Go.Am.Ps
theorem mu_peek_le {p : PS} {k : Nat} {s : Str} (h : p.peek k s = true) : mu p.next < mu p := by have := mu_peek h; omega
theorem objP_next (T : List Tok) (E : Nat) {p : PS} (hb : p.bad = false) : objP T E p.next = .arr false 5 [.agg [encR 4 true (encToks T), .int .i64 ((p.i : Int) + 1), .int .i64 E, .bool false, .int .i64 p.at_]] := by simp [objP, encP, PS.next, hb]
theorem lp81 (T : List Tok) (E q : Nat) (σ0 : H) (Z X3 : AV) (hZ : ∀ ti, Z.fits ti = (ti.k.isAgg && 6 == ti.size)) : ∀ (n : Nat), (∀ m, m < n → ExprOK T E m) → ∀ (p : PS) (acc : List Ex) (σ : H) (q2 : Nat), acc ≠ [] → acc.length ≤ 8 → 4 * mu p + 1 ≤ n → PO T E q σ p → Own q σ0 σ q2 6 (encEs acc) →
    (match rest E n acc.length p with
     | (some l, p') => ∃ fr' σ' q3, Lp ctx [64, 91] [] [0, 2, 3, 5] b125_0 ⟨[(0, .v (.ptr q 1 0 0)), (2, .bx Z), (3, .bx X3), (5, .v (rowV q2 acc.length 6))], false⟩ σ (.ex 1) fr' σ' ∧ fr'.lk = false ∧ Hi 92 fr' ∧
        getS fr'.sl 0 = .v (.ptr q 1 0 0) ∧ getS fr'.sl 2 = .bx Z ∧ getS fr'.sl 3 = .bx X3 ∧ getS fr'.sl 5 = .v (rowV q3 (acc ++ l).length 6) ∧ PO T E q σ' p' ∧ Own q σ0 σ' q3 6 (encEs (acc ++ l)) ∧ mu p' ≤ mu p ∧ (acc ++ l).length ≤ 8
     | (none, p') => ∃ fr' σ', Lp ctx [64, 91] [] [0, 2, 3, 5] b125_0 ⟨[(0, .v (.ptr q 1 0 0)), (2, .bx Z), (3, .bx X3), (5, .v (rowV q2 acc.length 6))], false⟩ σ .ret fr' σ' ∧
        getS fr'.sl 2 = .bx (encE ex0) ∧ PO T E q σ' p' ∧ Ext q σ0 σ' ∧ mu p' ≤ mu p)
  | 0, _, _, _, _, _, _, _, h, _, _ => by omega
  | n + 1, hE, p, acc, σ, q2, hne, h8, hn, hp, ho => by
    obtain ⟨k1, hk1⟩ := peek_ans hp 5 sCom
    have hob := hp.obj
    unfold objP encP at hob
    cases hpk : p.peek 5 sCom with
    | false =>
      have e : rest E (n + 1) acc.length p = (some [], p) := by simp [rest, hpk]
      rw [e]
      simp only [List.append_nil]
      cases hb : p.bad with
      | true =>
        rw [hb] at hob
        refine ⟨?_, σ, q2, Lp.exit ⟨k1, fun N hN => ?_⟩ (by simp), ?_⟩
        rotate_left
        · have hk1 := hk1 N hN
          rw [hpk] at hk1
          simp only [Int.cast_ofNat_Int, sCom] at hk1
          simp -implicitDefEqProofs [b125_0, hk1, hob]
          rfl
        · exact ⟨by simp, hi_of (by simp), by simp, by simp, by simp, by simp, hp, ho, Nat.le_refl _, h8⟩
      | false =>
        rw [hb] at hob
        refine ⟨?_, σ, q2, Lp.exit ⟨k1, fun N hN => ?_⟩ (by simp), ?_⟩
        rotate_left
        · have hk1 := hk1 N hN
          rw [hpk] at hk1
          simp only [Int.cast_ofNat_Int, sCom] at hk1
          simp -implicitDefEqProofs [b125_0, hk1, hob]
          rfl
        · exact ⟨by simp, hi_of (by simp), by simp, by simp, by simp, by simp, hp, ho, Nat.le_refl _, h8⟩
    | true =>
      obtain ⟨hb, t, r, hr, _⟩ := peek_cons hpk
      have mn := mu_peek hpk
      rw [hb] at hob
      have hlt := hp.lt
      have hset : ∀ x, (σ.set q x)[q]? = some x := fun x => List.getElem?_set_self hlt
      obtain ⟨h1, h2, h3, h4, h5, h6⟩ := hp.next hr
      have hw := wrap_succ (n := p.i) (by unfold big; omega)
      cases h8q : Nat.beq acc.length 8 with
      | true =>
        have e : rest E (n + 1) acc.length p = (none, p.fail E) := by simp [rest, hpk, h8q]
        rw [e]
        obtain ⟨k2, hk2⟩ := fail_ans hp
        rw [beq_int] at h8q
        have h8r : ((acc.length : Int) == 8) = true := h8q
        refine ⟨?_, σ.set q (objP T E (p.fail E)), Lp.exit ⟨k1 + k2, fun N hN => ?_⟩ (by simp), ?_⟩
        rotate_left
        · have hk1 := hk1 N (by omega)
          have hk2 := hk2 N (by omega)
          rw [hpk] at hk1
          simp only [Int.cast_ofNat_Int, sCom] at hk1
          simp -implicitDefEqProofs [b125_0, hk1, hk2, hob, h8r, hZ, -beq_iff_eq]
          rfl
        · exact ⟨by simp [encE_mk, ex0], hp.failed, ho.ext.trans (Ext.set _ _ _), by rw [mu_fail]; omega⟩
      | false =>
        have hl8 : acc.length < 8 := by
          rcases Nat.lt_or_ge acc.length 8 with h | h
          · exact h
          · have : acc.length = 8 := by omega
            rw [this] at h8q; cases h8q
        have e : rest E (n + 1) acc.length p = (match rest E n (acc.length + 1) (expr E n p.next).2 with
            | (some l, p') => (some ((expr E n p.next).1 :: l), p')
            | (none, p') => (none, p')) := by
          simp only [rest, hpk, h8q]
          rfl
        rw [e]
        rw [beq_int] at h8q
        have h8r : ((acc.length : Int) == 8) = false := h8q
        obtain ⟨d, m4⟩ := hE n (by omega) p.next (by omega)
        have pn := hp.nexted hr
        obtain ⟨σ1, ⟨k2, hk2⟩, p1, x1⟩ := d q _ pn
        have ho1 := (ho.call (Ext.set q σ (objP T E p.next))).call x1
        obtain ⟨q3, σ2, hap, ho2, hq⟩ := ho1.app ⟨.strct [(0, 3), (1, 3), (2, 9), (3, 3), (4, 60), (5, 61)], 6, 88, .agg [.int .i64 0, .int .i64 0, .str [], .int .i64 0, .nil, .nil], []⟩ (encE (expr E n p.next).1) rfl (by simp) (by simp) (by simp; omega) (by simp; omega)
        rw [encEs_length] at hap
        have hacc : encEs acc ++ [encE (expr E n p.next).1] = encEs (acc ++ [(expr E n p.next).1]) := by simp
        rw [hacc] at ho2
        have hrec := lp81 T E q σ0 Z X3 hZ n (fun m hm => hE m (by omega)) (expr E n p.next).2 (acc ++ [(expr E n p.next).1]) σ2 q3 (by simp) (by simp; omega) (by omega) (p1.ext hq) ho2
        have hal : (acc ++ [(expr E n p.next).1]).length = acc.length + 1 := by simp
        rw [hal] at hrec
        have hstep : ∃ k, ∀ N, k ≤ N → round1 ctx (acall ctx N) [64, 91] [] N [0, 2, 3, 5] b125_0 ⟨[(0, .v (.ptr q 1 0 0)), (2, .bx Z), (3, .bx X3), (5, .v (rowV q2 acc.length 6))], false⟩ σ = some (⟨[(0, .v (.ptr q 1 0 0)), (2, .bx Z), (3, .bx X3), (5, .v (rowV q3 (acc.length + 1) 6))], false⟩, σ2) := by
          refine ⟨k1 + k2, fun N hN => ?_⟩
          have hk1 := hk1 N (by omega)
          have hk2 := hk2 N (by omega)
          rw [hpk] at hk1
          simp only [Int.cast_ofNat_Int, sCom] at hk1
          rw [objP_next T E hb] at hk2
          simp -implicitDefEqProofs [b125_0, hk1, hk2, hob, h8r, hw, hset, hap, -appendH, -beq_iff_eq, -beq_eq_false_iff_ne]
        cases hx : rest E n (acc.length + 1) (expr E n p.next).2 with
        | mk o p' =>
          rw [hx] at hrec
          cases o with
          | some l =>
            obtain ⟨fr', σ', q4, l1, l2⟩ := hrec
            simp only [List.append_assoc, List.singleton_append] at l2
            obtain ⟨a1, a2, a3, a4, a5, a6, a7, a8, a9, a10⟩ := l2
            exact ⟨fr', σ', q4, Lp.step hstep l1, a1, a2, a3, a4, a5, a6, a7, a8, by omega, a10⟩
          | none =>
            obtain ⟨fr', σ', l1, l2, l3, l4, l5⟩ := hrec
            exact ⟨fr', σ', Lp.step hstep l1, l2, l3, l4, by omega⟩
theorem mu_rest (E : Nat) : ∀ (n k : Nat) (p : PS), (∀ m, m < n → ∀ p, 4 * mu p + 3 ≤ m → mu (expr E m p).2 ≤ mu p) → 4 * mu p + 1 ≤ n → mu (rest E n k p).2 ≤ mu p
  | 0, _, _, _, _ => by omega
  | n + 1, k, p, h, hn => by
    simp only [rest]
    cases hpk : p.peek 5 sCom with
    | false => exact Nat.le_refl _
    | true =>
      have mn := mu_peek hpk
      simp only
      split
      · simp only [mu_fail]; omega
      · have m1 := h n (by omega) p.next (by omega)
        have m2 := mu_rest E n (k + 1) (expr E n p.next).2 (fun m hm => h m (by omega)) (by omega)
        split
        · rename_i l p' hx; rw [hx] at m2; simp only at m2 ⊢; omega
        · rename_i p' hx; rw [hx] at m2; simp only at m2 ⊢; omega
theorem encTok_k {t : Tok} : encTok t = .agg [.int .i64 t.k, .int .i64 t.at_, .str t.s, .int .i64 t.n] := rfl
theorem atomic_cons {p : PS} (h : p.atomic = true) : p.bad = false ∧ ∃ t r, p.r = t :: r ∧ (t.k = 1 ∨ t.k = 2 ∨ t.k = 3 ∨ t.k = 4 ∨ t.k = 5) := by
  unfold PS.atomic at h
  simp only [Bool.or_eq_true] at h
  rcases h with h | h | h | h | h | h <;> obtain ⟨hb, t, r, hr, hk⟩ := peek_cons h <;> exact ⟨hb, t, r, hr, by omega⟩
set_option maxHeartbeats 1000000 in
theorem step_atom {T : List Tok} {E n : Nat} (hE : ∀ m, m ≤ n → ExprOK T E m) : AtomOK T E (n + 1) := fun p hn => by
  cases ha : p.atomic with
  | false =>
    have e : atom E (n + 1) p = (ex0, p.fail E) := by simp [atom, ha]
    rw [e]
    refine ⟨fun q σ h => ?_, by simp only [mu_fail]; omega, by simp⟩
    obtain ⟨k1, hk1⟩ := atomic_ans h
    obtain ⟨k2, hk2⟩ := fail_ans h
    refine ⟨_, AnsH.of (σ' := σ.set q (objP T E (p.fail E))) fn125_ (by simp) (snapPtr _ _ _) (by simp) ⟨k1 + k2, fun N hN => ?_⟩, h.failed, Ext.set _ _ _⟩
    have hk1 := hk1 N (by omega)
    have hk2 := hk2 N (by omega)
    rw [ha] at hk1
    simp -implicitDefEqProofs [i125, c125, hk1, hk2, encE_mk, ex0]
  | true =>
    obtain ⟨hb, t, r, hr, hk⟩ := atomic_cons ha
    have mn := mu_next hb hr
    have base : ∀ (x : Ex) (hx : atom E (n + 1) p = (x, p.next)) (q : Nat) (σ : H) (h : PO T E q σ p) (hrun : ∃ k, ∀ N, k ≤ N → runFn ctx (acall ctx N) N i125 [.ptr q 1 0 0] σ = some (encE x, σ.set q (objP T E p.next))),
        ∃ σ', AnsH ctx 125 [.ptr q 1 0 0] σ (encE x) σ' ∧ PO T E q σ' p.next ∧ Ext q σ σ' := fun x hx q σ h hrun =>
      ⟨_, AnsH.of (σ' := σ.set q (objP T E p.next)) fn125_ (by simp) (snapPtr _ _ _) (by simp) hrun, h.nexted hr, Ext.set _ _ _⟩
    rcases hk with hk | hk | hk | hk | hk
    · have e : atom E (n + 1) p = (.mk 1 t.at_ t.s 0 [] [], p.next) := by simp [atom, ha, hr, hk]
      rw [e]
      refine ⟨fun q σ h => base _ e q σ h ?_, by simp only; omega, fun _ => by simp only; omega⟩
      obtain ⟨k1, hk1⟩ := atomic_ans h
      obtain ⟨h1, h2, h3, h4, h5, h6⟩ := h.next hr
      have ho := h.obj
      have hw := wrap_succ (n := p.i) (by unfold big; omega)
      have hset : ∀ x, (σ.set q x)[q]? = some x := fun x => List.getElem?_set_self h.lt
      unfold objP encP at ho
      rw [hb, h1] at ho
      rw [objP_next T E hb, h1]
      rw [encTok_k, hk] at h3
      refine ⟨k1, fun N hN => ?_⟩
      have hk1 := hk1 N hN
      rw [ha] at hk1
      simp -implicitDefEqProofs [i125, c125, hk1, ho, h2, h3, h4, hw, hset, encE_mk]
    · have e : atom E (n + 1) p = (.mk 2 t.at_ t.s 0 [] [], p.next) := by simp [atom, ha, hr, hk]
      rw [e]
      refine ⟨fun q σ h => base _ e q σ h ?_, by simp only; omega, fun _ => by simp only; omega⟩
      obtain ⟨k1, hk1⟩ := atomic_ans h
      obtain ⟨h1, h2, h3, h4, h5, h6⟩ := h.next hr
      have ho := h.obj
      have hw := wrap_succ (n := p.i) (by unfold big; omega)
      have hset : ∀ x, (σ.set q x)[q]? = some x := fun x => List.getElem?_set_self h.lt
      unfold objP encP at ho
      rw [hb, h1] at ho
      rw [objP_next T E hb, h1]
      rw [encTok_k, hk] at h3
      refine ⟨k1, fun N hN => ?_⟩
      have hk1 := hk1 N hN
      rw [ha] at hk1
      simp -implicitDefEqProofs [i125, c125, hk1, ho, h2, h3, h4, hw, hset, encE_mk]
    · have e : atom E (n + 1) p = (.mk 3 t.at_ [] t.n [] [], p.next) := by simp [atom, ha, hr, hk]
      rw [e]
      refine ⟨fun q σ h => base _ e q σ h ?_, by simp only; omega, fun _ => by simp only; omega⟩
      obtain ⟨k1, hk1⟩ := atomic_ans h
      obtain ⟨h1, h2, h3, h4, h5, h6⟩ := h.next hr
      have ho := h.obj
      have hw := wrap_succ (n := p.i) (by unfold big; omega)
      have hset : ∀ x, (σ.set q x)[q]? = some x := fun x => List.getElem?_set_self h.lt
      unfold objP encP at ho
      rw [hb, h1] at ho
      rw [objP_next T E hb, h1]
      rw [encTok_k, hk] at h3
      refine ⟨k1, fun N hN => ?_⟩
      have hk1 := hk1 N hN
      rw [ha] at hk1
      simp -implicitDefEqProofs [i125, c125, hk1, ho, h2, h3, h4, hw, hset, encE_mk]
    · have e : atom E (n + 1) p = (.mk 4 t.at_ [] (cond (eqS t.s sTrue) 1 0) [] [], p.next) := by simp [atom, ha, hr, hk]
      rw [e]
      refine ⟨fun q σ h => base _ e q σ h ?_, by simp only; omega, fun _ => by simp only; omega⟩
      obtain ⟨k1, hk1⟩ := atomic_ans h
      obtain ⟨h1, h2, h3, h4, h5, h6⟩ := h.next hr
      have ho := h.obj
      have hw := wrap_succ (n := p.i) (by unfold big; omega)
      have hset : ∀ x, (σ.set q x)[q]? = some x := fun x => List.getElem?_set_self h.lt
      unfold objP encP at ho
      rw [hb, h1] at ho
      rw [objP_next T E hb, h1]
      rw [encTok_k, hk] at h3
      refine ⟨k1, fun N hN => ?_⟩
      have hk1 := hk1 N hN
      rw [ha] at hk1
      rw [eqS_iff, sTrue]
      cases e2 : t.s == [116, 114, 117, 101] with
      | true => simp -implicitDefEqProofs [i125, c125, hk1, ho, h2, h3, h4, hw, hset, encE_mk, e2]
      | false => simp -implicitDefEqProofs [i125, c125, hk1, ho, h2, h3, h4, hw, hset, encE_mk, e2]
    · have e : atom E (n + 1) p = (match rest E n 1 (expr E n p.next).2 with
          | (none, p') => (ex0, p')
          | (some [], p') => ((expr E n p.next).1, p'.sign E sClose)
          | (some l, p') => (.mk 8 t.at_ [] 0 ((expr E n p.next).1 :: l) [], p'.sign E sClose)) := by
        simp only [atom, ha, hr, hk]
        rfl
      obtain ⟨d, m4⟩ := hE n (Nat.le_refl _) p.next (by omega)
      have key : ∀ q σ, PO T E q σ p → ∃ σ', AnsH ctx 125 [.ptr q 1 0 0] σ (encE (atom E (n + 1) p).1) σ' ∧ PO T E q σ' (atom E (n + 1) p).2 ∧ Ext q σ σ' ∧ mu (atom E (n + 1) p).2 ≤ mu p.next := fun q σ h => by
        obtain ⟨k1, hk1⟩ := atomic_ans h
        obtain ⟨h1, h2, h3, h4, h5, h6⟩ := h.next hr
        have ho := h.obj
        have hw := wrap_succ (n := p.i) (by unfold big; omega)
        have hset : ∀ x, (σ.set q x)[q]? = some x := fun x => List.getElem?_set_self h.lt
        have pn := h.nexted hr
        obtain ⟨σ1, ⟨k2, hk2⟩, p1, x1⟩ := d q _ pn
        have x01 : Ext q σ σ1 := (Ext.set q σ _).trans x1
        have hlt1 : q < σ1.length := p1.lt
        have hown : Own q σ (σ1 ++ [.arr false 6 [encE (expr E n p.next).1]]) σ1.length 6 (encEs [(expr E n p.next).1]) :=
          ⟨h.lt, x01.trans (Ext.app _ _ _), fun _ => ⟨by simp, x01.len⟩, by simp⟩
        have hl := lp81 T E q σ (.agg [.int .i64 0, .int .i64 0, .str [], .int .i64 0, .nil, .nil]) (encTok t) (fun ti => rfl) n (fun m hm => hE m (by omega)) (expr E n p.next).2 [(expr E n p.next).1] _ σ1.length (by simp) (by simp) (by omega) (p1.app [.arr false 6 [encE (expr E n p.next).1]]) hown
        unfold objP encP at ho
        rw [hb, h1] at ho
        rw [objP_next T E hb, h1] at hk2
        rw [encTok_k, hk] at h3 hl
        rw [e]
        simp only [List.length_singleton, rowV] at hl
        generalize (expr E n p.next).1 = a at *
        generalize (expr E n p.next).2 = pe at *
        cases hx : rest E n 1 pe with
        | mk o p' =>
          rw [hx] at hl
          cases o with
          | none =>
            obtain ⟨fr', σ', l1, l2, l3, l4, l5⟩ := hl
            obtain ⟨k3, hk3⟩ := l1.den
            refine ⟨σ', AnsH.of fn125_ (by simp) (snapPtr _ _ _) (by simp) ⟨k1 + k2 + k3, fun N hN => ?_⟩, l3, l4, by simp only; omega⟩
            have hk1 := hk1 N (by omega)
            have hk2 := hk2 N (by omega)
            have hk3 := hk3 N (by omega)
            rw [ha] at hk1
            simp -implicitDefEqProofs [i125, c125, hk1, hk2, ho, h2, h3, h4, hw, hset, hk3, l2]
          | some l =>
            obtain ⟨fr', σ', q3, l1, l2, l3, l4, l5, l6, l7, l8, l9, l10, l11⟩ := hl
            obtain ⟨k3, hk3⟩ := l1.den
            unfold Hi at l3
            obtain ⟨σ2, ⟨k4, hk4⟩, p2, x2⟩ := sign_ans (E := E) l8 sClose
            have own2 := l9.call x2
            have m5 := mu_sign E p' sClose
            cases l with
            | nil =>
              refine ⟨σ2, AnsH.of fn125_ (by simp) (snapPtr _ _ _) (by simp) ⟨k1 + k2 + k3 + k4, fun N hN => ?_⟩, p2, own2.ext, by simp only; omega⟩
              have hk1 := hk1 N (by omega)
              have hk2 := hk2 N (by omega)
              have hk3 := hk3 N (by omega)
              have hk4 := hk4 N (by omega)
              rw [ha] at hk1
              have e7 : getS fr'.sl 5 = .v (.hs q3 1 0 1 6) := l7
              have e8 : σ2[q3]? = some (.arr false 6 [encE a]) := by simpa using (own2.row (by simp)).1
              simp only [sClose] at hk4
              simp -implicitDefEqProofs [i125, c125, hk1, hk2, ho, h2, h3, h4, hw, hset, hk3, l2, l3, l4, l5, l6, e7, e8, hk4]
            | cons b l =>
              obtain ⟨ns, w1, w2, w3⟩ := own2.snap 198
              simp only [List.singleton_append] at w1 l7 l11 own2
              rw [encEs_length] at w1
              have hs : snapA σ2 200 (.agg [.int .i64 8, .int .i64 t.at_, .str [], .int .i64 0, rowV q3 (a :: b :: l).length 6, .nil]) = some (encE (.mk 8 t.at_ [] 0 (a :: b :: l) []), ns) := by
                unfold snapA
                split
                · rename_i hnr
                  simp [rowV] at hnr
                · simp only [mapO2, w1, snapA_noRef (a := .int .i64 8) rfl, snapA_noRef (a := .int .i64 t.at_) rfl, snapA_noRef (a := .str []) rfl, snapA_noRef (a := .int .i64 0) rfl, snapA_noRef (a := .nil) rfl, encE_mk, List.append_nil, List.nil_append]
                  rfl
              refine ⟨frzH σ2 ns, AnsH.fn fn125_ (by simp) (snapPtr _ _ _) ⟨k1 + k2 + k3 + k4, fun N hN => ?_⟩ hs, p2.ext (frz_get ns σ2 q w3), own2.ext.frz w2, by simp only; omega⟩
              have hk1 := hk1 N (by omega)
              have hk2 := hk2 N (by omega)
              have hk3 := hk3 N (by omega)
              have hk4 := hk4 N (by omega)
              rw [ha] at hk1
              simp only [sClose] at hk4
              have e9 : ((l.length : Int) + 1 + 1 == 1) = false := by simp; omega
              simp only [List.length_cons, rowV] at l7 ⊢
              simp -implicitDefEqProofs [i125, c125, hk1, hk2, ho, h2, h3, h4, hw, hset, hk3, l2, l3, l4, l5, l6, l7, hk4, e9]
      have mu' : mu (atom E (n + 1) p).2 ≤ mu p.next := by
        rw [e]
        have m6 := mu_rest E n 1 (expr E n p.next).2 (fun m hm p hp => (hE m (by omega) p hp).2) (by omega)
        cases hx : rest E n 1 (expr E n p.next).2 with
        | mk o p' =>
          rw [hx] at m6
          have m7 := mu_sign E p' sClose
          simp only at m6
          cases o with
          | none => simp only; omega
          | some l => cases l <;> simp only <;> omega
      refine ⟨fun q σ h => ?_, by omega, fun _ => by omega⟩
      obtain ⟨σ', a1, a2, a3, _⟩ := key q σ h
      exact ⟨σ', a1, a2, a3⟩
end Go.Am.Tryz
