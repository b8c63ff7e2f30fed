/- Levels (plain): what they are, and that there is but one such. -/
import Derived.Test.YtflhndopabnipaaT6
set_option linter.unusedVariables false
namespace Go.Am.Sc
structure Lev (k : Nat) (D : Nat → Nat → Prop) (lev : Nat → Nat) : Prop where
  up : ∀ i j, i < k → D i j → lev j < lev i
  at' : ∀ i, i < k → lev i = 0 ∨ ∃ j, D i j ∧ lev i = lev j + 1
theorem Lev.le {k : Nat} {D D' : Nat → Nat → Prop} {lev lev' : Nat → Nat} (h : Lev k D lev) (h' : Lev k D' lev') (hD : ∀ i j, i < k → D i j → D' i j) (hk : ∀ i j, i < k → D i j → j < k) : ∀ (n i : Nat), i < k → lev i ≤ n → lev i ≤ lev' i
  | 0, i, hi, hn => by omega
  | n + 1, i, hi, hn => by
    rcases h.at' i hi with h0 | ⟨j, h1, h2⟩
    · omega
    · have := Lev.le h h' hD hk n j (hk i j hi h1) (by omega)
      have := h'.up i j hi (hD i j hi h1)
      omega
theorem Lev.one {k : Nat} {D : Nat → Nat → Prop} {lev lev' : Nat → Nat} (h : Lev k D lev) (h' : Lev k D lev') (hk : ∀ i j, i < k → D i j → j < k) (i : Nat) (hi : i < k) : lev i = lev' i :=
  Nat.le_antisymm (h.le h' (fun _ _ _ h => h) hk _ i hi (Nat.le_refl _)) (h'.le h (fun _ _ _ h => h) hk _ i hi (Nat.le_refl _))
theorem Lev.all {k : Nat} {D : Nat → Nat → Prop} {lev : Nat → Nat} (h : Lev k D lev) (hk : ∀ i j, i < k → D i j → j < k) : ∀ (n i v : Nat), i < k → lev i ≤ n → v ≤ lev i → ∃ j, j < k ∧ lev j = v
  | 0, i, v, hi, hn, hv => ⟨i, hi, by omega⟩
  | n + 1, i, v, hi, hn, hv => by
    by_cases e : v = lev i
    · exact ⟨i, hi, e.symm⟩
    · rcases h.at' i hi with h0 | ⟨j, h1, h2⟩
      · omega
      · exact h.all hk n j v (hk i j hi h1) (by omega) (by omega)
theorem pigeonL : ∀ (n : Nat) (f : Nat → Nat) (m : Nat), (∀ a, a < n → f a < m) → (∀ a b, a < n → b < n → f a = f b → a = b) → n ≤ m
  | 0, _, _, _, _ => Nat.zero_le _
  | n + 1, f, 0, h, _ => by have := h 0 (by omega); omega
  | n + 1, f, m + 1, h, hi => by
    have := pigeonL n (fun a => if f a = m then f n else f a) m (fun a ha => by
      have h1 := h a (by omega)
      have h2 := h n (by omega)
      have h3 : f a = f n → a = n := hi a n (by omega) (by omega)
      show (if f a = m then f n else f a) < m
      split
      · have : f n ≠ f a := fun e => by have := h3 e.symm; omega
        omega
      · omega) (fun a b ha hb e => by
      have e : (if f a = m then f n else f a) = (if f b = m then f n else f b) := e
      have h3 : f a = f n → a = n := hi a n (by omega) (by omega)
      have h4 : f b = f n → b = n := hi b n (by omega) (by omega)
      split at e <;> split at e
      · exact hi a b (by omega) (by omega) (by omega)
      · have := h4 e.symm; omega
      · have := h3 e; omega
      · exact hi a b (by omega) (by omega) e)
    omega
theorem Lev.lt {k : Nat} {D : Nat → Nat → Prop} {lev : Nat → Nat} (h : Lev k D lev) (hk : ∀ i j, i < k → D i j → j < k) (i : Nat) (hi : i < k) : lev i < k := by
  have hc : ∀ v, ∃ j, v ≤ lev i → j < k ∧ lev j = v := fun v => by
    by_cases hv : v ≤ lev i
    · obtain ⟨j, h1⟩ := h.all hk _ i v hi (Nat.le_refl _) hv
      exact ⟨j, fun _ => h1⟩
    · exact ⟨0, fun k => absurd k hv⟩
  obtain ⟨f, hf⟩ := Classical.axiomOfChoice hc
  exact pigeonL (lev i + 1) f k (fun a ha => (hf a (by omega)).1) (fun a b ha hb e => by
    have h1 := (hf a (by omega)).2
    have h2 := (hf b (by omega)).2
    rw [e] at h1; omega)
theorem nodup_le {l : List Nat} (h : l.Nodup) {m : Nat} (hm : ∀ x ∈ l, x < m) : l.length ≤ m := by
  refine pigeonL l.length (fun a => l.getD a 0) m (fun a ha => ?_) (fun a b ha hb e => ?_)
  · have e : l.getD a 0 = l[a] := by rw [List.getD_eq_getElem?_getD, List.getElem?_eq_getElem ha]; rfl
    show l.getD a 0 < m
    rw [e]; exact hm _ (List.getElem_mem ha)
  · have e1 : l.getD a 0 = l[a] := by rw [List.getD_eq_getElem?_getD, List.getElem?_eq_getElem ha]; rfl
    have e2 : l.getD b 0 = l[b] := by rw [List.getD_eq_getElem?_getD, List.getElem?_eq_getElem hb]; rfl
    have e : l.getD a 0 = l.getD b 0 := e
    rw [e1, e2] at e
    exact (List.getElem_inj h).1 e
theorem dis_le {L : List (List Nat)} {m : Nat} (h : L.Pairwise fun l k => ∀ x ∈ l, x ∉ k) (hn : ∀ l ∈ L, l ≠ [] ∧ ∀ x ∈ l, x < m) : L.length ≤ m := by
  have h1 : (L.map hd).Nodup := by
    rw [List.nodup_iff_pairwise_ne, List.pairwise_map]
    refine h.imp_of_mem fun {a b} ha hb k e => ?_
    exact k (hd a) (hd_mem (hn a ha).1) (by rw [e]; exact hd_mem (hn b hb).1)
  have h2 := nodup_le h1 (m := m) (fun x hx => by
    obtain ⟨l, hl, rfl⟩ := List.mem_map.1 hx
    exact (hn l hl).2 _ (hd_mem (hn l hl).1))
  simpa using h2
variable {out : List (List Nat)} {S : List (Nat × Nat)} {t : T}
theorem Inv.opn_nodup (h : Inv out S t) : t.opn.Nodup := nodup_of_lt h.inc
theorem Inv.opn_le (h : Inv out S t) : t.opn.length ≤ out.length := nodup_le h.opn_nodup h.inO
theorem Inv.stk_le (h : Inv out S t) : S.length ≤ out.length := by
  have h1 : (S.map Prod.fst).Nodup := by
    rw [List.nodup_iff_pairwise_ne, List.pairwise_map]
    exact h.dec.imp fun k e => by have := k.1; rw [e] at this; omega
  have h2 := nodup_le h1 (m := out.length) (fun x hx => by
    obtain ⟨p, hp, rfl⟩ := List.mem_map.1 hx
    exact h.inO _ (h.stk p hp).1)
  simpa using h2
theorem nm_lt (h : Inv out S t) {x : Nat} (hx : t.nm x ≠ 0) : x < out.length := by
  by_cases hl : x < t.num.length
  · rw [← h.ln]; exact hl
  · exact absurd (by unfold T.nm; rw [List.getD_eq_getElem?_getD, List.getElem?_eq_none (by omega)]; rfl) hx
theorem Inv.grp_le (h : Inv out S t) : t.grp.length ≤ out.length := dis_le h.gDis fun l hl => ⟨(h.gIn l hl).1, fun x hx => nm_lt h ((h.gIn l hl).2.2 x hx).1.1⟩
theorem zeros_enter (h : Inv out S t) {y : Nat} (hy : y < out.length) (h0 : t.nm y = 0) : (t.enter y).cnt + zeros (t.enter y).num = t.cnt + zeros t.num := by
  have := zeros_set t.num y (t.cnt + 1) (by
    unfold T.nm at h0
    rw [List.getD_eq_getElem?_getD, List.getElem?_eq_getElem (by rw [h.ln]; exact hy)] at h0 ⊢
    exact h0) (by omega)
  show t.cnt + 1 + zeros (t.num.set y (t.cnt + 1)) = _
  omega
end Go.Am.Sc
