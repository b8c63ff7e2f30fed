/- The reference's groups (plain). -/
import Derived.Test.YtflhndopabnipaaT5
set_option linter.unusedVariables false
namespace Go.Am.Sc
def ons (ins : List Bool) : List Nat → List Bool
  | [] => ins
  | y :: l => ons (ins.set y true) l
theorem ons_len : ∀ (l : List Nat) (is : List Bool), (ons is l).length = is.length
  | [], _ => rfl
  | y :: l, is => by rw [ons, ons_len l]; simp
theorem ons_get : ∀ (l : List Nat) (is : List Bool) (z : Nat), (∀ y ∈ l, y < is.length) → (ons is l).getD z false = if z ∈ l then true else is.getD z false
  | [], _, _, _ => by simp [ons]
  | y :: l, is, z, h => by
    rw [ons, ons_get l _ z (fun w hw => by simpa using h w (by simp [hw])), getD_set _ _ _ _ _ (h y (by simp))]
    by_cases e : y = z
    · subst e; simp
    · have e' : z ≠ y := fun k => e k.symm
      simp [e, e']
def at2 (m : List (List Bool)) (i k : Nat) : Bool := (m.getD i []).getD k false
def mates (m : List (List Bool)) (i : Nat) : Nat → Nat → List Nat
  | 0, _ => []
  | f + 1, k => if at2 m i k = true ∧ at2 m k i = true then k :: mates m i f (k + 1) else mates m i f (k + 1)
def grps (m : List (List Bool)) : Nat → Nat → List Bool → List (List Nat)
  | 0, _, _ => []
  | f + 1, i, ins => if ins.getD i false = true then grps m f (i + 1) ins else mates m i (f + 1) i :: grps m f (i + 1) (ons ins (mates m i (f + 1) i))
theorem mates_mem (m : List (List Bool)) (i : Nat) : ∀ (f k x : Nat), x ∈ mates m i f k ↔ (k ≤ x ∧ x < k + f) ∧ at2 m i x = true ∧ at2 m x i = true
  | 0, k, x => by simp [mates]; omega
  | f + 1, k, x => by
    unfold mates
    split
    · rename_i h
      rw [List.mem_cons, mates_mem m i f (k + 1) x]
      constructor
      · rintro (rfl | ⟨h1, h2⟩)
        · exact ⟨by omega, h⟩
        · exact ⟨by omega, h2⟩
      · rintro ⟨h1, h2⟩
        by_cases e : x = k
        · exact .inl e
        · exact .inr ⟨by omega, h2⟩
    · rename_i h
      rw [mates_mem m i f (k + 1) x]
      constructor
      · rintro ⟨h1, h2⟩
        exact ⟨by omega, h2⟩
      · rintro ⟨h1, h2⟩
        by_cases e : x = k
        · subst e; exact absurd h2 h
        · exact ⟨by omega, h2⟩
theorem mates_lt (m : List (List Bool)) (i : Nat) : ∀ (f k : Nat), (mates m i f k).Pairwise (· < ·)
  | 0, k => by simp [mates]
  | f + 1, k => by
    unfold mates
    split
    · rw [List.pairwise_cons]
      exact ⟨fun y hy => by have := ((mates_mem m i f (k + 1) y).1 hy).1; omega, mates_lt m i f (k + 1)⟩
    · exact mates_lt m i f (k + 1)
variable {n : Nat} {E : Nat → Nat → Prop} {m : List (List Bool)}
def Mut (E : Nat → Nat → Prop) (a b : Nat) : Prop := Rch E a b ∧ Rch E b a
theorem Mut.trans {a b c : Nat} (h : Mut E a b) (k : Mut E b c) : Mut E a c := ⟨h.1.trans k.1, k.2.trans h.2⟩
theorem Mut.symm {a b : Nat} (h : Mut E a b) : Mut E b a := ⟨h.2, h.1⟩
theorem grps_spec (hm : ∀ a b, a < n → b < n → (at2 m a b = true ↔ Rch E a b)) (hlt : ∀ a b, a < n → Rch E a b → b < n) : ∀ (f i : Nat) (ins : List Bool), i + f = n → ins.length = n → (∀ k, k < n → (ins.getD k false = true ↔ ∃ j, j < i ∧ Mut E j k)) →
    (∀ l ∈ grps m f i ins, l ≠ [] ∧ l.Pairwise (· < ·) ∧ (∀ x ∈ l, x < n) ∧ i ≤ hd l ∧ ∀ x ∈ l, ∀ y, y ∈ l ↔ Mut E x y) ∧ (∀ x, i ≤ x → x < n → ins.getD x false = false → ∃ l ∈ grps m f i ins, x ∈ l) ∧ (grps m f i ins).Pairwise fun l l' => hd l < hd l'
  | 0, i, ins, hi, hl, hins => by
    refine ⟨by simp [grps], fun x h1 h2 _ => by omega, by simp [grps]⟩
  | f + 1, i, ins, hi, hl, hins => by
    have hin : i < n := by omega
    unfold grps
    by_cases hb : ins.getD i false = true
    · rw [if_pos hb]
      have hins' : ∀ k, k < n → (ins.getD k false = true ↔ ∃ j, j < i + 1 ∧ Mut E j k) := fun k hk => by
        rw [hins k hk]
        constructor
        · rintro ⟨j, h1, h2⟩; exact ⟨j, by omega, h2⟩
        · rintro ⟨j, h1, h2⟩
          by_cases e : j = i
          · subst e
            obtain ⟨j', k1, k2⟩ := (hins j hin).1 hb
            exact ⟨j', k1, k2.trans h2⟩
          · exact ⟨j, by omega, h2⟩
      obtain ⟨h1, h2, h3⟩ := grps_spec hm hlt f (i + 1) ins (by omega) hl hins'
      refine ⟨fun l hl => ?_, fun x k1 k2 k3 => ?_, h3⟩
      · obtain ⟨a, b, c, d, e⟩ := h1 l hl
        exact ⟨a, b, c, by omega, e⟩
      · by_cases e : x = i
        · subst e; rw [hb] at k3; cases k3
        · exact h2 x (by omega) k2 k3
    · rw [if_neg hb]
      have hno : ∀ j, j < i → ¬ Mut E j i := fun j hj h => hb ((hins i hin).2 ⟨j, hj, h⟩)
      have hmem : ∀ x, x ∈ mates m i (f + 1) i ↔ Mut E i x := fun x => by
        rw [mates_mem]
        constructor
        · rintro ⟨h1, h2, h3⟩
          exact ⟨(hm i x hin (by omega)).1 h2, (hm x i (by omega) hin).1 h3⟩
        · intro h
          have hx := hlt i x hin h.1
          refine ⟨⟨?_, by omega⟩, (hm i x hin hx).2 h.1, (hm x i hx hin).2 h.2⟩
          exact Nat.le_of_not_lt fun k => hno x k h.symm
      have hltm : ∀ x ∈ mates m i (f + 1) i, x < n := fun x hx => by have := ((mates_mem m i (f + 1) i x).1 hx).1; omega
      have hii : i ∈ mates m i (f + 1) i := (hmem i).2 ⟨.refl _, .refl _⟩
      have hhd : hd (mates m i (f + 1) i) = i := by
        have h1 := hd_le (mates_lt m i (f + 1) i) hii
        have h2 := ((mates_mem m i (f + 1) i _).1 (hd_mem (fun e => by rw [e] at hii; cases hii))).1.1
        omega
      have hins' : ∀ k, k < n → ((ons ins (mates m i (f + 1) i)).getD k false = true ↔ ∃ j, j < i + 1 ∧ Mut E j k) := fun k hk => by
        rw [ons_get _ _ _ (fun y hy => by rw [hl]; exact hltm y hy)]
        constructor
        · intro h
          split at h
          · rename_i hk'
            exact ⟨i, by omega, (hmem k).1 hk'⟩
          · obtain ⟨j, k1, k2⟩ := (hins k hk).1 h
            exact ⟨j, by omega, k2⟩
        · rintro ⟨j, k1, k2⟩
          split
          · rfl
          · rename_i hk'
            refine (hins k hk).2 ⟨j, ?_, k2⟩
            have : j ≠ i := fun e => hk' ((hmem k).2 (e ▸ k2))
            omega
      obtain ⟨h1, h2, h3⟩ := grps_spec hm hlt f (i + 1) _ (by omega) (by rw [ons_len]; exact hl) hins'
      refine ⟨fun l hl' => ?_, fun x k1 k2 k3 => ?_, ?_⟩
      · rcases List.mem_cons.1 hl' with rfl | hl'
        · refine ⟨fun e => (by rw [e] at hii; cases hii), mates_lt m i (f + 1) i, hltm, by omega, fun x hx y => ?_⟩
          rw [hmem]
          have hx := (hmem x).1 hx
          exact ⟨fun h => hx.symm.trans h, fun h => hx.trans h⟩
        · obtain ⟨a, b, c, d, e⟩ := h1 l hl'
          exact ⟨a, b, c, by omega, e⟩
      · by_cases hx : x ∈ mates m i (f + 1) i
        · exact ⟨_, by simp, hx⟩
        · have e : x ≠ i := fun e => hx (e ▸ hii)
          obtain ⟨l, q1, q2⟩ := h2 x (by omega) k2 (by rw [ons_get _ _ _ (fun y hy => by rw [hl]; exact hltm y hy), if_neg hx]; exact k3)
          exact ⟨l, by simp [q1], q2⟩
      · rw [List.pairwise_cons]
        refine ⟨fun l hl' => ?_, h3⟩
        obtain ⟨a, b, c, d, e⟩ := h1 l hl'
        omega
theorem grps_grp (hm : ∀ a b, a < n → b < n → (at2 m a b = true ↔ Rch E a b)) (hlt : ∀ a b, a < n → Rch E a b → b < n) : Grp n (Rch E) (grps m n 0 (List.replicate n false)) ∧ (grps m n 0 (List.replicate n false)).Pairwise fun l l' => hd l < hd l' := by
  obtain ⟨h1, h2, h3⟩ := grps_spec hm hlt n 0 (List.replicate n false) (by omega) (by simp) (fun k hk => by
    rw [getD_rep]
    constructor
    · intro h; cases h
    · rintro ⟨j, h1, _⟩; omega)
  exact ⟨⟨fun l hl => ⟨(h1 l hl).1, (h1 l hl).2.1⟩, fun l hl => (h1 l hl).2.2.1, fun l hl => (h1 l hl).2.2.2.2, fun x hx => h2 x (Nat.zero_le _) hx (getD_rep _ _ _)⟩, h3⟩
end Go.Am.Sc
