/- Layer 13: what is parsed binds few names within one another (plain). -/
import Derived.Test.YtdapcelbbejfoaaP21
set_option linter.unusedVariables false
set_option linter.unusedSimpArgs false
namespace Go.Am.Try
open Go Go.Am.Ps
mutual
def bdE : Ex → Nat
  | .mk _ _ _ _ ks as => 1 + max (bdEs ks) (bdAs as)
def bdEs : List Ex → Nat
  | [] => 0
  | e :: l => max (bdE e) (bdEs l)
def bdAs : List Al → Nat
  | [] => 0
  | .mk _ _ ns b :: l => max (ns.length + bdE b) (bdAs l)
end
def KB (n : Nat) : Nat := n * 1048576 + 1
theorem KB_succ (n : Nat) : KB (n + 1) = KB n + 1048576 := by unfold KB; omega
theorem bd_lams (a : Nat) : ∀ (l : List Tok) (b : Ex), bdE (lams a l b) = l.length + bdE b
  | [], b => by simp [lams]
  | t :: l, b => by
    simp only [lams, bdE, bdEs, bdAs, bd_lams a l b, List.length_cons]
    omega
def bdA1 : Al → Nat
  | .mk _ _ ns b => ns.length + bdE b
theorem bdAs_cons (a : Al) (l : List Al) : bdAs (a :: l) = max (bdA1 a) (bdAs l) := by cases a; simp [bdAs, bdA1]
theorem bd_ex0 : bdE ex0 = 1 := by simp [ex0, bdE, bdEs, bdAs]
theorem bd_all (E : Nat) : ∀ n, n ≤ 1000000 → (∀ p, rl p ≤ 65536 → bdE (expr E n p).1 ≤ KB n) ∧ (∀ p, rl p ≤ 65536 → bdA1 (alt E n p).1 ≤ KB n) ∧ (∀ p, rl p ≤ 65536 → bdAs (alts E n p).1 ≤ KB n) ∧ (∀ p, rl p ≤ 65536 → bdE (atom E n p).1 ≤ KB n) ∧ (∀ k p l, rl p ≤ 65536 → (rest E n k p).1 = some l → bdEs l ≤ KB n) ∧ (∀ e p, rl p ≤ 65536 → bdE (apps E n e p).1 ≤ max (bdE e) (KB n) + n)
  | 0, _ => ⟨fun _ _ => by simp [expr, bd_ex0, KB], fun _ _ => by simp [alt, bdA1, bd_ex0, KB], fun _ _ => by simp [alts, bdAs], fun _ _ => by simp [atom, bd_ex0, KB], fun k p l _ h => by cases h; simp [bdEs], fun e p _ => by simp [apps]; omega⟩
  | n + 1, hn => by
    obtain ⟨h1, h2, h3, h4, h5, h6⟩ := bd_all E n (by omega)
    obtain ⟨r1, r2, r3, r4, r5, r6⟩ := rl_all E n
    have hK := KB_succ n
    have hK1 : 1 ≤ KB n := by unfold KB; omega
    refine ⟨fun p hp => ?_, fun p hp => ?_, fun p hp => ?_, fun p hp => ?_, fun k p l hp h => ?_, fun e p hp => ?_⟩
    · simp only [expr]
      have hnx := Nat.le_trans (rl_next p) hp
      split
      · split
        · have a0 := Nat.le_trans (rl_eat E p.next 1 []) hnx
          have a1 := names_le (p.next.eat E 1 []).2
          have a2 := Nat.le_trans (rl_sign E (p.next.eat E 1 []).2.names.2 sArr) (Nat.le_trans (rl_names _) a0)
          have := h1 _ a2
          simp only [bd_lams, List.length_cons]
          omega
        · split
          · have a0 := Nat.le_trans (rl_eat E p.next 1 []) hnx
            have a1 := names_le (p.next.eat E 1 []).2
            have a2 := Nat.le_trans (rl_sign E (p.next.eat E 1 []).2.names.2 sEq) (Nat.le_trans (rl_names _) a0)
            have b1 := h1 _ a2
            have b2 := h1 _ (Nat.le_trans (rl_eat E (expr E n ((p.next.eat E 1 []).2.names.2.sign E sEq)).2 4 sIn) (Nat.le_trans (r1 _) a2))
            simp only [bdE, bdEs, bdAs, bd_lams]
            omega
          · split
            · have a1 := Nat.le_trans (r1 p.next) hnx
              have a2 := Nat.le_trans (rl_eat E (expr E n p.next).2 4 sThen) a1
              have a3 := Nat.le_trans (r1 _) a2
              have b1 := h1 _ hnx
              have b2 := h1 _ a2
              have b3 := h1 _ (Nat.le_trans (rl_eat E (expr E n ((expr E n p.next).2.eat E 4 sThen).2).2 4 sElse) a3)
              simp only [bdE, bdEs, bdAs]
              omega
            · split
              · have a1 := Nat.le_trans (r1 p.next) hnx
                have a2 := Nat.le_trans (rl_sign E ((expr E n p.next).2.eat E 4 sOf).2 sBrO) (Nat.le_trans (rl_eat _ _ _ _) a1)
                have a3 := Nat.le_trans (r2 _) a2
                have b1 := h1 _ hnx
                have b2 := h2 _ a2
                have b3 := h3 _ a3
                simp only [bdE, bdEs, bdAs_cons]
                omega
              · have b1 := h4 _ hp
                have b2 := h6 (atom E n p).1 (atom E n p).2 (Nat.le_trans (r4 _) hp)
                skip
                omega
      · rw [bd_ex0]; omega
    · simp only [alt, bdA1]
      have a0 := Nat.le_trans (rl_eat E p 2 []) hp
      have a1 := names_le (p.eat E 2 []).2
      have b1 := h1 _ (Nat.le_trans (rl_sign E (p.eat E 2 []).2.names.2 sArr) (Nat.le_trans (rl_names _) a0))
      simp only [List.length_map]
      omega
    · simp only [alts]
      split
      · have hnx := Nat.le_trans (rl_next p) hp
        have b1 := h2 _ hnx
        have b2 := h3 _ (Nat.le_trans (r2 _) hnx)
        simp only [bdAs_cons]
        omega
      · simp [bdAs]
    · simp only [atom]
      have hnx := Nat.le_trans (rl_next p) hp
      have a1 := Nat.le_trans (r1 p.next) hnx
      split
      · split
        · simp [bdE, bdEs, bdAs]; omega
        · simp [bdE, bdEs, bdAs]; omega
        · simp [bdE, bdEs, bdAs]; omega
        · simp [bdE, bdEs, bdAs]; omega
        · have b1 := h1 _ hnx
          split
          · rw [bd_ex0]; omega
          · simp only; omega
          · rename_i l q _ h
            have b2 := h5 1 _ l a1 (by rw [h])
            simp only [bdE, bdEs, bdAs]
            omega
      · rw [bd_ex0]; omega
    · simp only [rest] at h
      have hnx := Nat.le_trans (rl_next p) hp
      split at h
      · split at h
        · cases h
        · split at h
          · rename_i l' p' h'
            simp at h
            rw [← h]
            have b1 := h1 _ hnx
            have b2 := h5 (k + 1) _ l' (Nat.le_trans (r1 _) hnx) (by rw [h'])
            simp only [bdEs]
            omega
          · cases h
      · cases h; simp [bdEs]
    · obtain ⟨ek, ea, es, en, eks, eas⟩ := e
      simp only [apps]
      split
      · have b1 := h4 _ hp
        have b2 := h6 (.mk 5 ea [] 0 [.mk ek ea es en eks eas, (atom E n p).1] []) (atom E n p).2 (Nat.le_trans (r4 _) hp)
        generalize hM : Ex.mk ek ea es en eks eas = e0 at *
        simp only [bdE, bdEs, bdAs] at b2
        skip
        omega
      · simp only; omega
theorem decl_okB (E n : Nat) (hn : n ≤ 1000000) (out : Pg) (p : PS) (hp : rl p ≤ 65536) (h : ∀ b ∈ out.bs, bdE b.b ≤ 2 ^ 50) : (∀ b ∈ (decl E n out p).1.bs, bdE b.b ≤ 2 ^ 50) := by
  unfold decl
  split
  · exact h
  · have r0 := Nat.le_trans (rl_eat E p 4 sLet) hp
    have r1 := Nat.le_trans (rl_eat E (p.eat E 4 sLet).2 1 []) r0
    have r3 := Nat.le_trans (rl_names ((p.eat E 4 sLet).2.eat E 1 []).2) r1
    have r4 := Nat.le_trans (rl_sign E ((p.eat E 4 sLet).2.eat E 1 []).2.names.2 sEq) r3
    have l1 := names_le ((p.eat E 4 sLet).2.eat E 1 []).2
    have b1 := (bd_all E n hn).1 _ r4
    intro b hb
    simp only [List.mem_append, List.mem_singleton] at hb
    rcases hb with hb | rfl
    · exact h b hb
    · simp only [bd_lams]
      unfold KB at b1
      omega
theorem decls_okB (E n : Nat) (hn : n ≤ 1000000) : ∀ (m : Nat) (out : Pg) (p : PS), rl p ≤ 65536 → (∀ b ∈ out.bs, bdE b.b ≤ 2 ^ 50) → (∀ b ∈ (decls E n m out p).1.bs, bdE b.b ≤ 2 ^ 50)
  | 0, out, p, _, h => h
  | m + 1, out, p, hp, h => by
    simp only [decls]
    split
    · have h1 := decl_okB E n hn out p hp h
      have hr := (ok_decl E (n := n) (k := max out.ds.length out.bs.length) (by unfold lim; omega) (out := ⟨[], []⟩) ⟨by simp, by simp, by simp, by simp⟩ p hp).2
      have hr2 : rl (decl E n out p).2 ≤ 65536 := by
        have e : (decl E n out p).2 = (decl E n ⟨[], []⟩ p).2 := by unfold decl; split <;> rfl
        rw [e]; exact hr
      exact decls_okB E n hn m _ _ hr2 h1
    · exact h
theorem parse_okB {s : Str} {p : Pg} (h : parse s = .ok p) : ∀ b ∈ p.bs, bdE b.b ≤ 2 ^ 50 := by
  unfold parse at h
  cases hl : lex s with
  | bad e a => rw [hl] at h; cases h
  | ok l =>
    rw [hl] at h
    simp only at h
    have hlen := tl_lex s hl
    have h1 := decls_okB s.length (8 * l.length + 40) (by omega) (l.length + 1) ⟨[], []⟩ ⟨0, l, false, 0⟩ hlen (by simp)
    generalize decls s.length (8 * l.length + 40) (l.length + 1) ⟨[], []⟩ ⟨0, l, false, 0⟩ = R at *
    obtain ⟨out, q⟩ := R
    simp only at h h1
    split at h
    · cases h
    · split at h
      · cases h
      · cases h
        exact h1
end Go.Am.Try
