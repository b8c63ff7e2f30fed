/- Tarjan's groups: each turn keeps what is known. -/
import Derived.Test.YtflhndopabnipaaT1
set_option linter.unusedVariables false
namespace Go.Am.Sc
theorem getD_set {α : Type} (l : List α) (i j : Nat) (v d : α) (hi : i < l.length) : (l.set i v).getD j d = if i = j then v else l.getD j d := by
  simp only [List.getD_eq_getElem?_getD, List.getElem?_set]
  split
  · rename_i h; subst h; simp [hi]
  · rfl
variable {out : List (List Nat)} {S : List (Nat × Nat)} {t : T}
theorem Inv.nm_enter (h : Inv out S t) {y : Nat} (hy : y < out.length) (z : Nat) : (t.enter y).nm z = if y = z then t.cnt + 1 else t.nm z := by
  unfold T.enter T.nm; rw [getD_set _ _ _ _ _ (by rw [h.ln]; exact hy)]
theorem Inv.lo_enter (h : Inv out S t) {y : Nat} (hy : y < out.length) (z : Nat) : (t.enter y).lo z = if y = z then t.cnt + 1 else t.lo z := by
  unfold T.enter T.lo; rw [getD_set _ _ _ _ _ (by rw [h.ll]; exact hy)]
theorem Inv.is_enter (h : Inv out S t) {y : Nat} (hy : y < out.length) (z : Nat) : (t.enter y).is.getD z false = if y = z then true else t.is.getD z false := by
  unfold T.enter; rw [getD_set _ _ _ _ _ (by rw [h.li]; exact hy)]
theorem Inv.enter (h : Inv out S t) {y : Nat} (hy : y < out.length) (h0 : t.nm y = 0) (hS : (S = [] ∧ t.opn = []) ∨ ∃ p S', S = p :: S' ∧ Rch (Ed out) p.1 y) : Inv out ((y, 0) :: S) (t.enter y) := by
  have hyo : y ∉ t.opn := fun k => by have := h.pos y k; omega
  have nm := h.nm_enter hy
  have lo := h.lo_enter hy
  have ho : (t.enter y).opn = t.opn ++ [y] := rfl
  have ne : ∀ x ∈ t.opn, y ≠ x := fun x hx e => hyo (e ▸ hx)
  have nmo : ∀ x ∈ t.opn, (t.enter y).nm x = t.nm x := fun x hx => by rw [nm, if_neg (ne x hx)]
  have loo : ∀ x ∈ t.opn, (t.enter y).lo x = t.lo x := fun x hx => by rw [lo, if_neg (ne x hx)]
  have nmy : (t.enter y).nm y = t.cnt + 1 := by rw [nm, if_pos rfl]
  have loy : (t.enter y).lo y = t.cnt + 1 := by rw [lo, if_pos rfl]
  have hst : ∀ p ∈ S, p.1 ∈ t.opn := fun p hp => (h.stk p hp).1
  have vis : ∀ z, t.nm z ≠ 0 → (t.enter y).nm z ≠ 0 := fun z hz => by rw [nm]; split <;> omega
  have mo : ∀ z, z ∈ (t.enter y).opn ↔ z ∈ t.opn ∨ z = y := fun z => by rw [ho]; simp
  refine ⟨by simp [T.enter, h.ln], by simp [T.enter, h.ll], by simp [T.enter, h.li], h.ok, ?_, ?_, ?_, ?_, ?_, ?_, ?_, ?_, ?_, ?_, ?_, ?_, ?_, ?_, h.gDis⟩
  · intro x hx
    rcases (mo x).1 hx with hx | rfl
    · exact h.inO x hx
    · exact hy
  · intro x hx
    rw [h.is_enter hy, mo]
    split
    · rename_i e; subst e; simp
    · rename_i e
      rw [h.isO x hx]
      exact ⟨.inl, fun k => k.resolve_right fun k => e k.symm⟩
  · intro x hx
    rcases (mo x).1 hx with hx | rfl
    · rw [nmo x hx]; exact h.pos x hx
    · rw [nmy]; omega
  · intro x
    show _ ≤ t.cnt + 1
    rw [nm]
    split
    · omega
    · have := h.cnt x; omega
  · rw [ho, List.pairwise_append]
    refine ⟨h.inc.imp_of_mem fun ha hb k => by rw [nmo _ ha, nmo _ hb]; exact k, by simp, fun a ha b hb => ?_⟩
    rw [List.mem_singleton] at hb
    subst hb
    rw [nmo a ha, nmy]
    have := h.cnt a; omega
  · intro p hp
    rcases List.mem_cons.1 hp with rfl | hp
    · exact ⟨(mo _).2 (.inr rfl), Nat.zero_le _⟩
    · exact ⟨(mo _).2 (.inl (hst p hp)), (h.stk p hp).2⟩
  · rw [List.pairwise_cons]
    refine ⟨fun p hp => ?_, h.dec.imp_of_mem fun {p q} hp hq k => by rw [nmo _ (hst p hp), nmo _ (hst q hq)]; exact k⟩
    refine ⟨?_, ?_⟩
    · rw [nmo _ (hst p hp)]
      show _ < (t.enter y).nm y
      rw [nmy]
      have := h.cnt p.1; omega
    · rcases hS with ⟨hS, _⟩ | ⟨q, S', hS, hq⟩
      · rw [hS] at hp; cases hp
      · subst hS
        rcases List.mem_cons.1 hp with rfl | hp'
        · exact hq
        · exact ((List.pairwise_cons.1 h.dec).1 p hp').2.trans hq
  · intro x hx hxo z hz
    have hxy : y ≠ x := fun e => hxo ((mo x).2 (.inr e.symm))
    rw [nm, if_neg hxy] at hx
    have := h.clo x hx (fun k => hxo ((mo x).2 (.inl k))) z hz
    have hzy : z ≠ y := fun e => this.1 (e ▸ h0)
    refine ⟨vis z this.1, fun k => ?_⟩
    rcases (mo z).1 k with k | k
    · exact this.2 k
    · exact hzy k
  · intro x hx
    rcases (mo x).1 hx with hx | rfl
    · obtain ⟨h1, z, h2, h3, h4⟩ := h.lowO x hx
      rw [nmo x hx, loo x hx]
      exact ⟨h1, z, (mo z).2 (.inl h2), by rw [nmo z h2]; exact h3, h4⟩
    · rw [nmy, loy]
      exact ⟨Nat.le_refl _, x, (mo x).2 (.inr rfl), nmy, .refl _⟩
  · intro x hx hn
    have hxy : x ≠ y := fun e => hn (y, 0) (by simp) e.symm
    have hx := ((mo x).1 hx).resolve_right hxy
    obtain ⟨h1, h2⟩ := h.finE x hx fun p hp => hn p (by simp [hp])
    rw [nmo x hx, loo x hx]
    refine ⟨h1, fun z hz => ⟨vis z (h2 z hz).1, fun hzo => ?_⟩⟩
    have hzy : z ≠ y := fun e => (h2 z hz).1 (e ▸ h0)
    have hzo := ((mo z).1 hzo).resolve_right hzy
    rw [nmo z hzo]
    exact (h2 z hz).2 hzo
  · intro p hp z hz
    rcases List.mem_cons.1 hp with rfl | hp
    · simp at hz
    · have h2 := h.stkE p hp z hz
      refine ⟨vis z h2.1, fun hzo => ?_⟩
      have hzy : z ≠ y := fun e => h2.1 (e ▸ h0)
      have hzo := ((mo z).1 hzo).resolve_right hzy
      rw [nmo z hzo, loo _ (hst p hp)]
      exact h2.2 hzo
  · intro z hz
    rcases (mo z).1 hz with hz | rfl
    · obtain ⟨p, hp, h1, h2, h3, h4⟩ := h.tree z hz
      refine ⟨p, by simp [hp], ?_, ?_, h3, ?_⟩
      · rw [nmo _ (hst p hp), nmo z hz]; exact h1
      · intro q hq k
        rw [nmo z hz] at k
        rcases List.mem_cons.1 hq with rfl | hq
        · have k : (t.enter y).nm y ≤ _ := k
          rw [nmy] at k
          have := h.cnt z; omega
        · rw [nmo _ (hst q hq)] at k ⊢
          rw [nmo _ (hst p hp)]
          exact h2 q hq k
      · rw [loo _ (hst p hp), loo z hz]; exact h4
    · exact ⟨(z, 0), by simp, Nat.le_refl _, fun q hq k => k, .refl _, Nat.le_refl _⟩
  · intro l hl
    obtain ⟨h1, h2, h3⟩ := h.gIn l hl
    refine ⟨h1, h2, fun x hx => ?_⟩
    obtain ⟨⟨h4, h5⟩, h6⟩ := h3 x hx
    exact ⟨⟨vis x h4, fun k => by
      rcases (mo x).1 k with k | k
      · exact h5 k
      · exact h4 (k ▸ h0)⟩, h6⟩
  · intro x hx hxo
    have hxy : y ≠ x := fun e => hxo ((mo x).2 (.inr e.symm))
    rw [nm, if_neg hxy] at hx
    exact h.gAll x hx fun k => hxo ((mo x).2 (.inl k))
end Go.Am.Sc
