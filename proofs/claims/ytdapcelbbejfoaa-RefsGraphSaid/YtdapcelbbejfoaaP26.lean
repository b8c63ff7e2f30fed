/- Layer 14: what is parsed binds few names within one another, has few variables (plain); refs.Free takes it. -/
import Derived.Test.YtdapcelbbejfoaaP25
set_option linter.unusedVariables false
set_option linter.unusedSimpArgs false
namespace Go.Am.Try
open Go Go.Am.Ps
def KN (n : Nat) : Nat := n * 1048576 + 1
theorem KN_succ (n : Nat) : KN (n + 1) = KN n + 1048576 := by unfold KN; omega
theorem mx_lams (a : Nat) : ∀ (l : List Tok) (b : Ex), mxE (lams a l b) = l.length + mxE b
  | [], b => by simp [lams]
  | t :: l, b => by
    simp only [lams, mxE, mxEs, mxAs, mx_lams a l b, List.length_cons]
    omega
def mxA1 : Al → Nat
  | .mk _ _ ns b => ns.length + mxE b
theorem mxAs_cons (a : Al) (l : List Al) : mxAs (a :: l) = max (mxA1 a) (mxAs l) := by cases a; simp [mxAs, mxA1]
theorem mx_ex0 : mxE ex0 = 1 := by simp [ex0, mxE, mxEs, mxAs]
theorem mx_all (E : Nat) : ∀ n, n ≤ 1000000 → (∀ p, rl p ≤ 65536 → mxE (expr E n p).1 ≤ KN n) ∧ (∀ p, rl p ≤ 65536 → mxA1 (alt E n p).1 ≤ KN n) ∧ (∀ p, rl p ≤ 65536 → mxAs (alts E n p).1 ≤ KN n) ∧ (∀ p, rl p ≤ 65536 → mxE (atom E n p).1 ≤ KN n) ∧ (∀ k p l, rl p ≤ 65536 → (rest E n k p).1 = some l → mxEs l ≤ KN n) ∧ (∀ e p, rl p ≤ 65536 → mxE (apps E n e p).1 ≤ max (mxE e) (KN n) + n)
  | 0, _ => ⟨fun _ _ => by simp [expr, mx_ex0, KN], fun _ _ => by simp [alt, mxA1, mx_ex0, KN], fun _ _ => by simp [alts, mxAs], fun _ _ => by simp [atom, mx_ex0, KN], fun k p l _ h => by cases h; simp [mxEs], fun e p _ => by simp [apps]; omega⟩
  | n + 1, hn => by
    obtain ⟨h1, h2, h3, h4, h5, h6⟩ := mx_all E n (by omega)
    obtain ⟨r1, r2, r3, r4, r5, r6⟩ := rl_all E n
    have hK := KN_succ n
    have hK1 : 1 ≤ KN n := by unfold KN; omega
    refine ⟨fun p hp => ?_, fun p hp => ?_, fun p hp => ?_, fun p hp => ?_, fun k p l hp h => ?_, fun e p hp => ?_⟩
    · simp only [expr]
      have hnx := Nat.le_trans (rl_next p) hp
      split
      · split
        · have a0 := Nat.le_trans (rl_eat E p.next 1 []) hnx
          have a1 := names_le (p.next.eat E 1 []).2
          have a2 := Nat.le_trans (rl_sign E (p.next.eat E 1 []).2.names.2 sArr) (Nat.le_trans (rl_names _) a0)
          have := h1 _ a2
          simp only [mx_lams, List.length_cons]
          omega
        · split
          · have a0 := Nat.le_trans (rl_eat E p.next 1 []) hnx
            have a1 := names_le (p.next.eat E 1 []).2
            have a2 := Nat.le_trans (rl_sign E (p.next.eat E 1 []).2.names.2 sEq) (Nat.le_trans (rl_names _) a0)
            have b1 := h1 _ a2
            have b2 := h1 _ (Nat.le_trans (rl_eat E (expr E n ((p.next.eat E 1 []).2.names.2.sign E sEq)).2 4 sIn) (Nat.le_trans (r1 _) a2))
            simp only [mxE, mxEs, mxAs, mx_lams]
            omega
          · split
            · have a1 := Nat.le_trans (r1 p.next) hnx
              have a2 := Nat.le_trans (rl_eat E (expr E n p.next).2 4 sThen) a1
              have a3 := Nat.le_trans (r1 _) a2
              have b1 := h1 _ hnx
              have b2 := h1 _ a2
              have b3 := h1 _ (Nat.le_trans (rl_eat E (expr E n ((expr E n p.next).2.eat E 4 sThen).2).2 4 sElse) a3)
              simp only [mxE, mxEs, mxAs]
              omega
            · split
              · have a1 := Nat.le_trans (r1 p.next) hnx
                have a2 := Nat.le_trans (rl_sign E ((expr E n p.next).2.eat E 4 sOf).2 sBrO) (Nat.le_trans (rl_eat _ _ _ _) a1)
                have a3 := Nat.le_trans (r2 _) a2
                have b1 := h1 _ hnx
                have b2 := h2 _ a2
                have b3 := h3 _ a3
                simp only [mxE, mxEs, mxAs_cons]
                omega
              · have b1 := h4 _ hp
                have b2 := h6 (atom E n p).1 (atom E n p).2 (Nat.le_trans (r4 _) hp)
                skip
                omega
      · rw [mx_ex0]; omega
    · simp only [alt, mxA1]
      have a0 := Nat.le_trans (rl_eat E p 2 []) hp
      have a1 := names_le (p.eat E 2 []).2
      have b1 := h1 _ (Nat.le_trans (rl_sign E (p.eat E 2 []).2.names.2 sArr) (Nat.le_trans (rl_names _) a0))
      simp only [List.length_map]
      omega
    · simp only [alts]
      split
      · have hnx := Nat.le_trans (rl_next p) hp
        have b1 := h2 _ hnx
        have b2 := h3 _ (Nat.le_trans (r2 _) hnx)
        simp only [mxAs_cons]
        omega
      · simp [mxAs]
    · simp only [atom]
      have hnx := Nat.le_trans (rl_next p) hp
      have a1 := Nat.le_trans (r1 p.next) hnx
      split
      · split
        · simp [mxE, mxEs, mxAs]; omega
        · simp [mxE, mxEs, mxAs]; omega
        · simp [mxE, mxEs, mxAs]; omega
        · simp [mxE, mxEs, mxAs]; omega
        · have b1 := h1 _ hnx
          split
          · rw [mx_ex0]; omega
          · simp only; omega
          · rename_i l q _ h
            have b2 := h5 1 _ l a1 (by rw [h])
            simp only [mxE, mxEs, mxAs]
            omega
      · rw [mx_ex0]; omega
    · simp only [rest] at h
      have hnx := Nat.le_trans (rl_next p) hp
      split at h
      · split at h
        · cases h
        · split at h
          · rename_i l' p' h'
            simp at h
            rw [← h]
            have b1 := h1 _ hnx
            have b2 := h5 (k + 1) _ l' (Nat.le_trans (r1 _) hnx) (by rw [h'])
            simp only [mxEs]
            omega
          · cases h
      · cases h; simp [mxEs]
    · obtain ⟨ek, ea, es, en, eks, eas⟩ := e
      simp only [apps]
      split
      · have b1 := h4 _ hp
        have b2 := h6 (.mk 5 ea [] 0 [.mk ek ea es en eks eas, (atom E n p).1] []) (atom E n p).2 (Nat.le_trans (r4 _) hp)
        generalize hM : Ex.mk ek ea es en eks eas = e0 at *
        simp only [mxE, mxEs, mxAs] at b2
        skip
        omega
      · simp only; omega
theorem v_lams (a : Nat) : ∀ (l : List Tok) (b : Ex), vE (lams a l b) = vE b
  | [], b => rfl
  | t :: l, b => by simp [lams, vE, vEs, vAs, v_lams a l b]
def vA1 : Al → Nat
  | .mk _ _ _ b => vE b
theorem vAs_cons (a : Al) (l : List Al) : vAs (a :: l) = vA1 a + vAs l := by cases a; simp [vAs, vA1]
theorem v_ex0 : vE ex0 = 0 := by simp [ex0, vE, vEs, vAs]
theorem v_all (E : Nat) : ∀ n, (∀ p, vE (expr E n p).1 + rl (expr E n p).2 ≤ rl p) ∧ (∀ p, vA1 (alt E n p).1 + rl (alt E n p).2 ≤ rl p) ∧ (∀ p, vAs (alts E n p).1 + rl (alts E n p).2 ≤ rl p) ∧ (∀ p, vE (atom E n p).1 + rl (atom E n p).2 ≤ rl p) ∧ (∀ k p l, (rest E n k p).1 = some l → vEs l + rl (rest E n k p).2 ≤ rl p) ∧ (∀ e p, vE (apps E n e p).1 + rl (apps E n e p).2 ≤ vE e + rl p)
  | 0 => ⟨fun _ => by simp [expr, v_ex0], fun _ => by simp [alt, vA1, v_ex0], fun _ => by simp [alts, vAs], fun _ => by simp [atom, v_ex0], fun k p l h => by cases h; simp [rest, vEs], fun e p => by simp [apps]⟩
  | n + 1 => by
    obtain ⟨h1, h2, h3, h4, h5, h6⟩ := v_all E n
    obtain ⟨r1, r2, r3, r4, r5, r6⟩ := rl_all E n
    refine ⟨fun p => ?_, fun p => ?_, fun p => ?_, fun p => ?_, fun k p l h => ?_, fun e p => ?_⟩
    · simp only [expr]
      have hnx := rl_next p
      split
      · split
        · have a0 := rl_eat E p.next 1 []
          have a1 := rl_names (p.next.eat E 1 []).2
          have a2 := rl_sign E (p.next.eat E 1 []).2.names.2 sArr
          have := h1 ((p.next.eat E 1 []).2.names.2.sign E sArr)
          simp only [v_lams]
          omega
        · split
          · have a0 := rl_eat E p.next 1 []
            have a1 := rl_names (p.next.eat E 1 []).2
            have a2 := rl_sign E (p.next.eat E 1 []).2.names.2 sEq
            have b1 := h1 ((p.next.eat E 1 []).2.names.2.sign E sEq)
            have b2 := rl_eat E (expr E n ((p.next.eat E 1 []).2.names.2.sign E sEq)).2 4 sIn
            have b3 := h1 ((expr E n ((p.next.eat E 1 []).2.names.2.sign E sEq)).2.eat E 4 sIn).2
            simp [vE, vEs, vAs, v_lams]
            omega
          · split
            · have b1 := h1 p.next
              have b2 := rl_eat E (expr E n p.next).2 4 sThen
              have b3 := h1 ((expr E n p.next).2.eat E 4 sThen).2
              have b4 := rl_eat E (expr E n ((expr E n p.next).2.eat E 4 sThen).2).2 4 sElse
              have b5 := h1 ((expr E n ((expr E n p.next).2.eat E 4 sThen).2).2.eat E 4 sElse).2
              simp [vE, vEs, vAs]
              omega
            · split
              · have b1 := h1 p.next
                have b2 := rl_eat E (expr E n p.next).2 4 sOf
                have b3 := rl_sign E ((expr E n p.next).2.eat E 4 sOf).2 sBrO
                have b4 := h2 (((expr E n p.next).2.eat E 4 sOf).2.sign E sBrO)
                have b5 := h3 (alt E n (((expr E n p.next).2.eat E 4 sOf).2.sign E sBrO)).2
                have b6 := rl_sign E (alts E n (alt E n (((expr E n p.next).2.eat E 4 sOf).2.sign E sBrO)).2).2 sBrC
                simp [vE, vEs, vAs_cons]
                omega
              · have b1 := h4 p
                have b2 := h6 (atom E n p).1 (atom E n p).2
                skip
                omega
      · rw [v_ex0, rl_fail]; omega
    · simp only [alt, vA1]
      have a0 := rl_eat E p 2 []
      have a1 := rl_names (p.eat E 2 []).2
      have a2 := rl_sign E (p.eat E 2 []).2.names.2 sArr
      have b1 := h1 ((p.eat E 2 []).2.names.2.sign E sArr)
      omega
    · simp only [alts]
      split
      · have hnx := rl_next p
        have b1 := h2 p.next
        have b2 := h3 (alt E n p.next).2
        simp only [vAs_cons]
        omega
      · simp [vAs]
    · simp only [atom]
      have hnx := rl_next p
      split
      · rename_i t r _ hr
        have hn1 : rl p.next + 1 = rl p := by simp [rl, PS.next, hr]
        split
        · simp [vE, vEs, vAs]; omega
        · simp [vE, vEs, vAs]; omega
        · simp [vE, vEs, vAs]; omega
        · simp [vE, vEs, vAs]; omega
        · have b1 := h1 p.next
          split
          · rename_i q h
            have := r5 1 (expr E n p.next).2
            rw [h] at this
            rw [v_ex0]; simp only at this ⊢; omega
          · rename_i q h
            have := r5 1 (expr E n p.next).2
            rw [h] at this
            have b2 := rl_sign E q sClose
            simp only at this ⊢; omega
          · rename_i l q _ h
            have b2 := h5 1 (expr E n p.next).2 l (by rw [h])
            rw [h] at b2
            have b3 := rl_sign E q sClose
            simp [vE, vEs, vAs] at b2 ⊢
            omega
      · rw [v_ex0, rl_fail]; omega
    · have hnx := rl_next p
      cases hpk : p.peek 5 sCom with
      | false =>
        simp only [rest, hpk] at h ⊢
        cases h; simp [vEs]
      | true =>
        cases h8 : Nat.beq k 8 with
        | true => simp [rest, hpk, h8] at h
        | false =>
          have b1 := h1 p.next
          simp only [rest, hpk, h8] at h ⊢
          cases hx : rest E n (k + 1) (expr E n p.next).2 with
          | mk o p' =>
            rw [hx] at h
            cases o with
            | none => simp at h
            | some l' =>
              simp at h
              rw [← h]
              have b2 := h5 (k + 1) (expr E n p.next).2 l' (by rw [hx])
              rw [hx] at b2
              simp only [vEs] at b2 ⊢
              simp
              omega
    · obtain ⟨ek, ea, es, en, eks, eas⟩ := e
      simp only [apps]
      split
      · have b1 := h4 p
        have b2 := h6 (.mk 5 ea [] 0 [.mk ek ea es en eks eas, (atom E n p).1] []) (atom E n p).2
        simp [vE, vEs, vAs] at b2 ⊢
        omega
      · simp only; omega
structure okV (e : Ex) : Prop where
  mx : mxE e ≤ 2 ^ 50
  v : vE e ≤ 65536
theorem decl_okV (E n : Nat) (hn : n ≤ 1000000) (out : Pg) (p : PS) (hp : rl p ≤ 65536) (h : ∀ b ∈ out.bs, okV b.b) : (∀ b ∈ (decl E n out p).1.bs, okV b.b) ∧ out.bs.length ≤ (decl E n out p).1.bs.length := by
  unfold decl
  split
  · exact ⟨h, Nat.le_refl _⟩
  · have r0 := Nat.le_trans (rl_eat E p 4 sLet) hp
    have r1 := Nat.le_trans (rl_eat E (p.eat E 4 sLet).2 1 []) r0
    have r3 := Nat.le_trans (rl_names ((p.eat E 4 sLet).2.eat E 1 []).2) r1
    have r4 := Nat.le_trans (rl_sign E ((p.eat E 4 sLet).2.eat E 1 []).2.names.2 sEq) r3
    have l1 := names_le ((p.eat E 4 sLet).2.eat E 1 []).2
    have b1 := (mx_all E n hn).1 _ r4
    have b2 := (v_all E n).1 (((p.eat E 4 sLet).2.eat E 1 []).2.names.2.sign E sEq)
    refine ⟨fun b hb => ?_, by simp⟩
    simp only [List.mem_append, List.mem_singleton] at hb
    rcases hb with hb | rfl
    · exact h b hb
    · refine ⟨?_, ?_⟩
      · simp only [mx_lams]
        unfold KN at b1
        omega
      · simp only [v_lams]
        omega
theorem decls_okV (E n : Nat) (hn : n ≤ 1000000) : ∀ (m : Nat) (out : Pg) (p : PS), rl p ≤ 65536 → (∀ b ∈ out.bs, okV b.b) → (∀ b ∈ (decls E n m out p).1.bs, okV b.b) ∧ out.bs.length ≤ (decls E n m out p).1.bs.length
  | 0, out, p, _, h => ⟨h, Nat.le_refl _⟩
  | m + 1, out, p, hp, h => by
    simp only [decls]
    split
    · obtain ⟨h1, h2⟩ := decl_okV E n hn out p hp h
      have hr := (ok_decl E (n := n) (k := max out.ds.length out.bs.length) (by unfold lim; omega) (out := ⟨[], []⟩) ⟨by simp, by simp, by simp, by simp⟩ p hp).2
      have hr2 : rl (decl E n out p).2 ≤ 65536 := by
        have e : (decl E n out p).2 = (decl E n ⟨[], []⟩ p).2 := by unfold decl; split <;> rfl
        rw [e]; exact hr
      obtain ⟨h3, h4⟩ := decls_okV E n hn m _ _ hr2 h1
      exact ⟨h3, Nat.le_trans h2 h4⟩
    · exact ⟨h, Nat.le_refl _⟩
theorem parse_okF {s : Str} {p : Pg} (h : parse s = .ok p) : ∀ b ∈ p.bs, okF b.b := by
  have hp := (parse_ans s).2 p h
  unfold parse at h
  cases hl : lex s with
  | bad e a => rw [hl] at h; cases h
  | ok l =>
    rw [hl] at h
    simp only at h
    have hlen := tl_lex s hl
    obtain ⟨h1, _⟩ := decls_okV s.length (8 * l.length + 40) (by omega) (l.length + 1) ⟨[], []⟩ ⟨0, l, false, 0⟩ hlen (by simp)
    generalize decls s.length (8 * l.length + 40) (l.length + 1) ⟨[], []⟩ ⟨0, l, false, 0⟩ = R at *
    obtain ⟨out, q⟩ := R
    simp only at h h1
    split at h
    · cases h
    · split at h
      · cases h
      · cases h
        exact fun b hb => ⟨hp.b b hb, Nat.le_trans (h1 b hb).mx (by decide), Nat.le_trans (h1 b hb).v (by decide)⟩
theorem parse_let {s : Str} {p : Pg} (h : parse (108 :: 101 :: 116 :: 32 :: s) = .ok p) : ∃ b bs, p.bs = b :: bs := by
  unfold parse at h
  cases hl : lex (108 :: 101 :: 116 :: 32 :: s) with
  | bad e a => rw [hl] at h; cases h
  | ok l =>
    rw [hl] at h
    simp only at h
    have hlen := tl_lex _ hl
    have hfirst : ∃ r, l = ⟨4, 0, [108, 101, 116], 0⟩ :: r := by
      unfold lex at hl
      split at hl
      · have e1 : lexF ((108 :: 101 :: 116 :: 32 :: s : Str).length + 1) 0 (108 :: 101 :: 116 :: 32 :: s) = consT ⟨4, 0, [108, 101, 116], 0⟩ (lexF (108 :: 101 :: 116 :: 32 :: s : Str).length (0 + 3) (32 :: s)) := by
          simp only [lexF]
          have e2 : lex1 0 108 (101 :: 116 :: 32 :: s) = .tok ⟨4, 0, [108, 101, 116], 0⟩ (0 + 3) (32 :: s) := by rfl
          rw [e2]
        rw [e1] at hl
        cases hx : lexF (108 :: 101 :: 116 :: 32 :: s : Str).length (0 + 3) (32 :: s) with
        | bad e a => rw [hx] at hl; cases hl
        | ok r => rw [hx] at hl; simp only [consT, Lexed.ok.injEq] at hl; exact ⟨r, hl.symm⟩
      · cases hl
    obtain ⟨r, rfl⟩ := hfirst
    simp only [List.length_cons] at h hlen
    have hd : ∀ (E n : Nat), (decl E n ⟨[], []⟩ ⟨0, ⟨4, 0, [108, 101, 116], 0⟩ :: r, false, 0⟩).1.bs.length = 1 := by
      intro E n
      have hpk : PS.peek ⟨0, ⟨4, 0, [108, 101, 116], 0⟩ :: r, false, 0⟩ 4 sData = false := rfl
      simp [decl, hpk]
    have hdl : ∀ (E n : Nat), n ≤ 1000000 → 1 ≤ (decls E n (r.length + 1 + 1) ⟨[], []⟩ ⟨0, ⟨4, 0, [108, 101, 116], 0⟩ :: r, false, 0⟩).1.bs.length := by
      intro E n hn
      have e : decls E n (r.length + 1 + 1) ⟨[], []⟩ ⟨0, ⟨4, 0, [108, 101, 116], 0⟩ :: r, false, 0⟩ = decls E n (r.length + 1) (decl E n ⟨[], []⟩ ⟨0, ⟨4, 0, [108, 101, 116], 0⟩ :: r, false, 0⟩).1 (decl E n ⟨[], []⟩ ⟨0, ⟨4, 0, [108, 101, 116], 0⟩ :: r, false, 0⟩).2 := by
        simp [decls]
      rw [e]
      have hr := (ok_decl E (n := n) (k := 0) (by unfold lim; omega) (out := ⟨[], []⟩) ⟨by simp, by simp, by simp, by simp⟩ ⟨0, ⟨4, 0, [108, 101, 116], 0⟩ :: r, false, 0⟩ hlen).2
      obtain ⟨_, h2⟩ := decl_okV E n hn ⟨[], []⟩ ⟨0, ⟨4, 0, [108, 101, 116], 0⟩ :: r, false, 0⟩ hlen (by simp)
      have h3 := (decl_okV E n hn ⟨[], []⟩ ⟨0, ⟨4, 0, [108, 101, 116], 0⟩ :: r, false, 0⟩ hlen (by simp)).1
      have h4 := (decls_okV E n hn (r.length + 1) _ _ hr h3).2
      rw [hd E n] at h4
      exact h4
    have hx := hdl (108 :: 101 :: 116 :: 32 :: s : Str).length (8 * (r.length + 1) + 40) (by omega)
    simp only [List.length_cons] at hx
    generalize decls (s.length + 1 + 1 + 1 + 1) (8 * (r.length + 1) + 40) (r.length + 1 + 1) ⟨[], []⟩ ⟨0, ⟨4, 0, [108, 101, 116], 0⟩ :: r, false, 0⟩ = R at *
    obtain ⟨out, q⟩ := R
    simp only at h hx
    split at h
    · cases h
    · split at h
      · cases h
      · cases h
        cases hb : p.bs with
        | nil => rw [hb] at hx; simp at hx
        | cons b bs => exact ⟨b, bs, rfl⟩
end Go.Am.Try
