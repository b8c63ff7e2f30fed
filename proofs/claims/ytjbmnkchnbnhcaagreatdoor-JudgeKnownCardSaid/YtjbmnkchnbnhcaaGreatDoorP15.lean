/- Layers 12 to 14: what is parsed has rows that fit into memory (plain). -/
import Derived.Test.YtjbmnkchnbnhcaaGreatDoorPDef
set_option linter.unusedVariables false
set_option linter.unusedSimpArgs false
namespace Go.Am.Ps
def lim : Nat := 2 ^ 40
mutual
def okE : Ex → Prop
  | .mk _ _ _ _ ks as => ks.length ≤ lim ∧ as.length ≤ lim ∧ okEs ks ∧ okAs as
def okEs : List Ex → Prop
  | [] => True
  | e :: l => okE e ∧ okEs l
def okA : Al → Prop
  | .mk _ _ ns b => ns.length ≤ lim ∧ okE b
def okAs : List Al → Prop
  | [] => True
  | a :: l => okA a ∧ okAs l
end
mutual
def okT : Ty → Prop
  | .mk _ _ _ ks => ks.length ≤ lim ∧ okTs ks
def okTs : List Ty → Prop
  | [] => True
  | t :: l => okT t ∧ okTs l
end
def rl (p : PS) : Nat := p.r.length
theorem rl_next (p : PS) : rl p.next ≤ rl p := by simp [rl, PS.next]
theorem rl_fail (E : Nat) (p : PS) : rl (p.fail E) = rl p := by unfold PS.fail; split <;> rfl
theorem rl_eat (E : Nat) (p : PS) (k : Nat) (s : Str) : rl (p.eat E k s).2 ≤ rl p := by
  unfold PS.eat
  split
  · exact rl_next p
  · exact Nat.le_of_eq (rl_fail E p)
theorem rl_sign (E : Nat) (p : PS) (s : Str) : rl (p.sign E s) ≤ rl p := rl_eat E p 5 s
theorem rl_try (p : PS) (s : Str) : rl (p.try_ s).2 ≤ rl p := by
  unfold PS.try_
  split
  · exact rl_next p
  · exact Nat.le_refl _
theorem rl_namesF : ∀ n p, rl (namesF n p).2 ≤ rl p
  | 0, p => Nat.le_refl _
  | n + 1, p => by
    simp only [namesF]
    split
    · exact Nat.le_trans (rl_namesF n p.next) (rl_next p)
    · exact Nat.le_refl _
theorem rl_names (p : PS) : rl p.names.2 ≤ rl p := rl_namesF _ _
theorem namesF_le : ∀ n p, (namesF n p).1.length ≤ n
  | 0, p => by simp [namesF]
  | n + 1, p => by
    simp only [namesF]
    split
    · have := namesF_le n p.next
      simp only [List.length_cons]; omega
    · simp
theorem names_le (p : PS) : p.names.1.length ≤ rl p := namesF_le _ _
theorem okE_ex0 : okE ex0 := by simp [okE, ex0, okEs, okAs]
theorem ok_lams (a : Nat) : ∀ (l : List Tok) (b : Ex), okE b → okE (lams a l b)
  | [], b, h => h
  | t :: l, b, h => by
    simp only [lams, okE, okEs, okAs, List.length_singleton, List.length_nil, and_true, true_and]
    exact ⟨by simp [lim], by simp [lim], ok_lams a l b h⟩
theorem rl_all (E : Nat) : ∀ n, (∀ p, rl (expr E n p).2 ≤ rl p) ∧ (∀ p, rl (alt E n p).2 ≤ rl p) ∧ (∀ p, rl (alts E n p).2 ≤ rl p) ∧ (∀ p, rl (atom E n p).2 ≤ rl p) ∧ (∀ k p, rl (rest E n k p).2 ≤ rl p) ∧ (∀ e p, rl (apps E n e p).2 ≤ rl p)
  | 0 => ⟨fun _ => Nat.le_refl _, fun _ => Nat.le_refl _, fun _ => Nat.le_refl _, fun _ => Nat.le_refl _, fun _ _ => Nat.le_refl _, fun _ _ => Nat.le_refl _⟩
  | n + 1 => by
    obtain ⟨h1, h2, h3, h4, h5, h6⟩ := rl_all E n
    refine ⟨fun p => ?_, fun p => ?_, fun p => ?_, fun p => ?_, fun k p => ?_, fun e p => ?_⟩
    · simp only [expr]
      split
      · split
        · exact Nat.le_trans (h1 _) (Nat.le_trans (rl_sign _ _ _) (Nat.le_trans (rl_names _) (Nat.le_trans (rl_eat _ _ _ _) (rl_next _))))
        · split
          · exact Nat.le_trans (h1 _) (Nat.le_trans (rl_eat _ _ _ _) (Nat.le_trans (h1 _) (Nat.le_trans (rl_sign _ _ _) (Nat.le_trans (rl_names _) (Nat.le_trans (rl_eat _ _ _ _) (rl_next _))))))
          · split
            · exact Nat.le_trans (h1 _) (Nat.le_trans (rl_eat _ _ _ _) (Nat.le_trans (h1 _) (Nat.le_trans (rl_eat _ _ _ _) (Nat.le_trans (h1 _) (rl_next _)))))
            · split
              · exact Nat.le_trans (rl_sign _ _ _) (Nat.le_trans (h3 _) (Nat.le_trans (h2 _) (Nat.le_trans (rl_sign _ _ _) (Nat.le_trans (rl_eat _ _ _ _) (Nat.le_trans (h1 _) (rl_next _))))))
              · exact Nat.le_trans (h6 _ _) (h4 _)
      · exact Nat.le_of_eq (rl_fail _ _)
    · simp only [alt]
      exact Nat.le_trans (h1 _) (Nat.le_trans (rl_sign _ _ _) (Nat.le_trans (rl_names _) (rl_eat _ _ _ _)))
    · simp only [alts]
      split
      · exact Nat.le_trans (h3 _) (Nat.le_trans (h2 _) (rl_next _))
      · exact Nat.le_refl _
    · simp only [atom]
      split
      · split
        · exact rl_next _
        · exact rl_next _
        · exact rl_next _
        · exact rl_next _
        · split
          · rename_i h
            have := h5 1 (expr E n p.next).2
            rw [h] at this
            exact Nat.le_trans this (Nat.le_trans (h1 _) (rl_next _))
          · rename_i h
            have := h5 1 (expr E n p.next).2
            rw [h] at this
            exact Nat.le_trans (rl_sign _ _ _) (Nat.le_trans this (Nat.le_trans (h1 _) (rl_next _)))
          · rename_i h
            have := h5 1 (expr E n p.next).2
            rw [h] at this
            exact Nat.le_trans (rl_sign _ _ _) (Nat.le_trans this (Nat.le_trans (h1 _) (rl_next _)))
      · exact Nat.le_of_eq (rl_fail _ _)
    · simp only [rest]
      split
      · split
        · exact Nat.le_of_eq (rl_fail _ _)
        · split
          · rename_i h
            have := h5 (k + 1) (expr E n p.next).2
            rw [h] at this
            exact Nat.le_trans this (Nat.le_trans (h1 _) (rl_next _))
          · rename_i h
            have := h5 (k + 1) (expr E n p.next).2
            rw [h] at this
            exact Nat.le_trans this (Nat.le_trans (h1 _) (rl_next _))
      · exact Nat.le_refl _
    · simp only [apps]
      split
      · exact Nat.le_trans (h6 _ _) (h4 _)
      · exact Nat.le_refl _
theorem len_alts (E : Nat) : ∀ n p, (alts E n p).1.length ≤ n
  | 0, p => by simp [alts]
  | n + 1, p => by
    simp only [alts]
    split
    · have := len_alts E n (alt E n p.next).2
      simp only [List.length_cons]; omega
    · simp
theorem len_rest (E : Nat) : ∀ n k p l, (rest E n k p).1 = some l → l.length ≤ n
  | 0, k, p, l, h => by cases h; simp
  | n + 1, k, p, l, h => by
    simp only [rest] at h
    split at h
    · split at h
      · cases h
      · split at h
        · rename_i l' p' h'
          simp at h
          have := len_rest E n (k + 1) (expr E n p.next).2 l' (by rw [h'])
          rw [← h]; simp only [List.length_cons]; omega
        · cases h
    · cases h; simp
theorem ok_all (E : Nat) : ∀ n, n < lim → (∀ p, rl p ≤ 65536 → okE (expr E n p).1) ∧ (∀ p, rl p ≤ 65536 → okA (alt E n p).1) ∧ (∀ p, rl p ≤ 65536 → okAs (alts E n p).1) ∧ (∀ p, rl p ≤ 65536 → okE (atom E n p).1) ∧ (∀ k p l, rl p ≤ 65536 → (rest E n k p).1 = some l → okEs l) ∧ (∀ e p, rl p ≤ 65536 → okE e → okE (apps E n e p).1)
  | 0, _ => ⟨fun _ _ => okE_ex0, fun _ _ => ⟨by simp [lim], okE_ex0⟩, fun _ _ => by simp [alts, okAs], fun _ _ => okE_ex0, fun k p l _ h => by cases h; trivial, fun e p _ h => h⟩
  | n + 1, hn => by
    obtain ⟨h1, h2, h3, h4, h5, h6⟩ := ok_all E n (by omega)
    obtain ⟨r1, r2, r3, r4, r5, r6⟩ := rl_all E n
    have tw : ∀ (x y : Nat), x ≤ y → y ≤ 65536 → x ≤ 65536 := fun x y a b => Nat.le_trans a b
    refine ⟨fun p hp => ?_, fun p hp => ?_, fun p hp => ?_, fun p hp => ?_, fun k p l hp h => ?_, fun e p hp he => ?_⟩
    · simp only [expr]
      have hnx : rl p.next ≤ 65536 := tw _ _ (rl_next p) hp
      split
      · split
        · exact ok_lams _ _ _ (h1 _ (tw _ _ (rl_sign _ _ _) (tw _ _ (rl_names _) (tw _ _ (rl_eat _ _ _ _) hnx))))
        · split
          · have a1 := tw _ _ (rl_sign E (p.next.eat E 1 []).2.names.2 sEq) (tw _ _ (rl_names _) (tw _ _ (rl_eat _ _ _ _) hnx))
            refine ⟨by simp [lim], by simp [lim], ⟨ok_lams _ _ _ (h1 _ a1), h1 _ (tw _ _ (rl_eat _ _ _ _) (tw _ _ (r1 _) a1)), trivial⟩, trivial⟩
          · split
            · have a1 := tw _ _ (r1 p.next) hnx
              have a2 := tw _ _ (rl_eat E (expr E n p.next).2 4 sThen) a1
              have a3 := tw _ _ (r1 _) a2
              exact ⟨by simp [lim], by simp [lim], ⟨h1 _ hnx, h1 _ a2, h1 _ (tw _ _ (rl_eat _ _ _ _) a3), trivial⟩, trivial⟩
            · split
              · have a1 := tw _ _ (r1 p.next) hnx
                have a2 := tw _ _ (rl_sign E ((expr E n p.next).2.eat E 4 sOf).2 sBrO) (tw _ _ (rl_eat _ _ _ _) a1)
                have a3 := tw _ _ (r2 _) a2
                refine ⟨by simp [lim], ?_, ⟨h1 _ hnx, trivial⟩, h2 _ a2, h3 _ a3⟩
                have := len_alts E n (alt E n (((expr E n p.next).2.eat E 4 sOf).2.sign E sBrO)).2
                simp only [List.length_cons]; omega
              · exact h6 _ _ (tw _ _ (r4 _) hp) (h4 _ hp)
      · exact okE_ex0
    · simp only [alt]
      have a1 := tw _ _ (rl_eat E p 2 []) hp
      refine ⟨?_, h1 _ (tw _ _ (rl_sign _ _ _) (tw _ _ (rl_names _) a1))⟩
      have := names_le (p.eat E 2 []).2
      simp only [List.length_map]
      exact Nat.le_trans this (Nat.le_trans a1 (by simp [lim]))
    · simp only [alts]
      split
      · have hnx : rl p.next ≤ 65536 := tw _ _ (rl_next p) hp
        exact ⟨h2 _ hnx, h3 _ (tw _ _ (r2 _) hnx)⟩
      · simp [okAs]
    · simp only [atom]
      have hnx : rl p.next ≤ 65536 := tw _ _ (rl_next p) hp
      have a1 := tw _ _ (r1 p.next) hnx
      split
      · split
        · simp [okE, okEs, okAs, lim]
        · simp [okE, okEs, okAs, lim]
        · simp [okE, okEs, okAs, lim]
        · simp [okE, okEs, okAs, lim]
        · split
          · exact okE_ex0
          · exact h1 _ hnx
          · rename_i l q _ h
            have hl := len_rest E n 1 (expr E n p.next).2 l (by rw [h])
            refine ⟨by simp only [List.length_cons]; omega, by simp [lim], ⟨h1 _ hnx, h5 1 _ l a1 (by rw [h])⟩, trivial⟩
      · exact okE_ex0
    · simp only [rest] at h
      have hnx : rl p.next ≤ 65536 := tw _ _ (rl_next p) hp
      split at h
      · split at h
        · cases h
        · split at h
          · rename_i l' p' h'
            simp at h
            rw [← h]
            exact ⟨h1 _ hnx, h5 (k + 1) _ l' (tw _ _ (r1 _) hnx) (by rw [h'])⟩
          · cases h
      · cases h; trivial
    · simp only [apps]
      split
      · refine h6 _ _ (tw _ _ (r4 _) hp) ?_
        exact ⟨by simp [lim], by simp [lim], ⟨he, h4 _ hp, trivial⟩, trivial⟩
      · exact he
theorem okT_ty0 : okT ty0 := by simp [okT, ty0, okTs]
theorem rl_typ (E : Nat) (vs : List Str) : ∀ n, (∀ p, rl (typ E vs n p).2 ≤ rl p) ∧ (∀ p, rl (atype E vs n p).2 ≤ rl p) ∧ (∀ k p, rl (trest E vs n k p).2 ≤ rl p) ∧ (∀ p, rl (targs E vs n p).2 ≤ rl p)
  | 0 => ⟨fun _ => Nat.le_refl _, fun _ => Nat.le_refl _, fun _ _ => Nat.le_refl _, fun _ => Nat.le_refl _⟩
  | n + 1 => by
    obtain ⟨h1, h2, h3, h4⟩ := rl_typ E vs n
    refine ⟨fun p => ?_, fun p => ?_, fun k p => ?_, fun p => ?_⟩
    · have key : ∀ (q : PS), rl q ≤ rl p → ∀ t, rl (match q.try_ sArr with | (true, p) => let (u, p) := typ E vs n p; (Ty.mk 2 0 sArr [t, u], p) | (false, p) => (t, p)).2 ≤ rl p := fun q hq t => by
        have h := rl_try q sArr
        split
        · rename_i q' h'; rw [h'] at h; exact Nat.le_trans (h1 _) (Nat.le_trans h hq)
        · rename_i q' h'; rw [h'] at h; exact Nat.le_trans h hq
      simp only [typ]
      cases p.peek 2 [] with
      | true => exact key _ (Nat.le_trans (h4 _) (h2 _)) _
      | false => exact key _ (h2 _) _
    · simp only [atype]
      split
      · split
        · exact rl_next _
        · exact rl_next _
        · split
          · rename_i h
            have := h3 1 (typ E vs n p.next).2
            rw [h] at this
            exact Nat.le_trans this (Nat.le_trans (h1 _) (rl_next _))
          · rename_i h
            have := h3 1 (typ E vs n p.next).2
            rw [h] at this
            exact Nat.le_trans (rl_sign _ _ _) (Nat.le_trans this (Nat.le_trans (h1 _) (rl_next _)))
          · rename_i h
            have := h3 1 (typ E vs n p.next).2
            rw [h] at this
            exact Nat.le_trans (rl_sign _ _ _) (Nat.le_trans this (Nat.le_trans (h1 _) (rl_next _)))
      · exact Nat.le_of_eq (rl_fail _ _)
    · simp only [trest]
      split
      · split
        · exact Nat.le_of_eq (rl_fail _ _)
        · split
          · rename_i h
            have := h3 (k + 1) (typ E vs n p.next).2
            rw [h] at this
            exact Nat.le_trans this (Nat.le_trans (h1 _) (rl_next _))
          · rename_i h
            have := h3 (k + 1) (typ E vs n p.next).2
            rw [h] at this
            exact Nat.le_trans this (Nat.le_trans (h1 _) (rl_next _))
      · exact Nat.le_refl _
    · simp only [targs]
      split
      · exact Nat.le_trans (h4 _) (h2 _)
      · exact Nat.le_refl _
theorem len_targs (E : Nat) (vs : List Str) : ∀ n p, (targs E vs n p).1.length ≤ n
  | 0, p => by simp [targs]
  | n + 1, p => by
    simp only [targs]
    split
    · have := len_targs E vs n (atype E vs n p).2
      simp only [List.length_cons]; omega
    · simp
theorem len_trest (E : Nat) (vs : List Str) : ∀ n k p l, (trest E vs n k p).1 = some l → l.length ≤ n
  | 0, k, p, l, h => by cases h; simp
  | n + 1, k, p, l, h => by
    simp only [trest] at h
    split at h
    · split at h
      · cases h
      · split at h
        · rename_i l' p' h'
          simp at h
          have := len_trest E vs n (k + 1) (typ E vs n p.next).2 l' (by rw [h'])
          rw [← h]; simp only [List.length_cons]; omega
        · cases h
    · cases h; simp
theorem okTs_app : ∀ l m, okTs l → okTs m → okTs (l ++ m)
  | [], m, _, h => h
  | t :: l, m, h1, h2 => ⟨h1.1, okTs_app l m h1.2 h2⟩
theorem peek_tok {p : PS} {k : Nat} {s : Str} (h : p.peek k s = true) : ∃ t r, p.r = t :: r ∧ t.k = k := by
  unfold PS.peek at h
  cases hr : p.r with
  | nil => rw [hr] at h; simp at h
  | cons t r =>
    rw [hr] at h
    simp only [Bool.and_eq_true] at h
    exact ⟨t, r, rfl, Nat.eq_of_beq_eq_true h.2.1⟩
theorem atype_bare {E : Nat} {vs : List Str} {p : PS} (h : p.peek 2 [] = true) : ∀ n, ∃ k m s, (atype E vs n p).1 = .mk k m s []
  | 0 => ⟨_, _, _, rfl⟩
  | n + 1 => by
    obtain ⟨t, r, hr, hk⟩ := peek_tok h
    have ha : p.atypic = true := by unfold PS.atypic; rw [h]; simp
    exact ⟨2, 0, t.s, by simp [atype, ha, hr, hk]⟩
theorem ok_typ (E : Nat) (vs : List Str) : ∀ n, n < lim → (∀ p, okT (typ E vs n p).1) ∧ (∀ p, okT (atype E vs n p).1) ∧ (∀ k p l, (trest E vs n k p).1 = some l → okTs l) ∧ (∀ p, okTs (targs E vs n p).1)
  | 0, _ => ⟨fun _ => okT_ty0, fun _ => okT_ty0, fun k p l h => by cases h; trivial, fun p => trivial⟩
  | n + 1, hn => by
    obtain ⟨h1, h2, h3, h4⟩ := ok_typ E vs n (by omega)
    refine ⟨fun p => ?_, fun p => ?_, fun k p l h => ?_, fun p => ?_⟩
    · have key : ∀ (q : PS) (t : Ty), okT t → okT (match q.try_ sArr with | (true, p) => let (u, p) := typ E vs n p; (Ty.mk 2 0 sArr [t, u], p) | (false, p) => (t, p)).1 := fun q t ht => by
        split
        · exact ⟨by simp [lim], ht, h1 _, trivial⟩
        · exact ht
      simp only [typ]
      cases hc : p.peek 2 [] with
      | true =>
        obtain ⟨k, m, s, hs⟩ := atype_bare (E := E) (vs := vs) hc n
        refine key _ _ ?_
        rw [hs]
        have := len_targs E vs n (atype E vs n p).2
        exact ⟨by simp only [List.nil_append]; omega, by simpa using h4 _⟩
      | false =>
        refine key _ _ ?_
        have := h2 p
        cases ht : (atype E vs n p).1 with
        | mk k m s ks => rw [ht] at this; simpa using this
    · simp only [atype]
      split
      · split
        · split <;> simp [okT, okTs, lim]
        · simp [okT, okTs, lim]
        · split
          · exact okT_ty0
          · exact h1 _
          · rename_i l q _ h
            have hl := len_trest E vs n 1 (typ E vs n p.next).2 l (by rw [h])
            exact ⟨by simp only [List.length_cons]; omega, h1 _, h3 1 _ l (by rw [h])⟩
      · exact okT_ty0
    · simp only [trest] at h
      split at h
      · split at h
        · cases h
        · split at h
          · rename_i l' p' h'
            simp at h
            rw [← h]
            exact ⟨h1 _, h3 (k + 1) _ l' (by rw [h'])⟩
          · cases h
      · cases h; trivial
    · simp only [targs]
      split
      · exact ⟨h2 _, h4 _⟩
      · trivial
end Go.Am.Ps
