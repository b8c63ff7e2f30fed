/- What one node reaches (plain): a row of those to go on from. -/
import Derived.Test.YtflhndopabnipaaT4
set_option linter.unusedVariables false
namespace Go.Am.Sc
def cl (n : Nat) : List Int → List Nat
  | [] => []
  | y :: l => if 0 ≤ y ∧ y < n then y.toNat :: cl n l else cl n l
theorem cl_mem {n y : Nat} : ∀ {l : List Int}, y ∈ cl n l ↔ y < n ∧ (y : Int) ∈ l
  | [] => by simp [cl]
  | z :: l => by
    unfold cl
    split
    · rename_i h
      simp only [List.mem_cons, cl_mem (l := l)]
      constructor
      · rintro (h1 | h1)
        · exact ⟨by omega, .inl (by omega)⟩
        · exact ⟨h1.1, .inr h1.2⟩
      · rintro ⟨h1, h2 | h2⟩
        · exact .inl (by omega)
        · exact .inr ⟨h1, h2⟩
    · rename_i h
      simp only [List.mem_cons, cl_mem (l := l)]
      constructor
      · exact fun h1 => ⟨h1.1, .inr h1.2⟩
      · rintro ⟨h1, h2 | h2⟩
        · exact absurd ⟨by omega, by omega⟩ h
        · exact ⟨h1, h2⟩
def mark : List Bool → List Nat → List Nat → List Bool × List Nat
  | had, l, [] => (had, l)
  | had, l, y :: ys => if had.getD y false = true then mark had l ys else mark (had.set y true) (y :: l) ys
inductive Spr (out : List (List Nat)) : List Bool → List Nat → List Bool → Prop
  | done {had : List Bool} : Spr out had [] had
  | step {had had' : List Bool} {x : Nat} {l : List Nat} : Spr out (mark had l (outs out x)).1 (mark had l (outs out x)).2 had' → Spr out had (x :: l) had'
variable {out : List (List Nat)}
def hs (had : List Bool) (x : Nat) : Prop := had.getD x false = true
def falses : List Bool → Nat
  | [] => 0
  | b :: l => (if b = true then 0 else 1) + falses l
theorem falses_set : ∀ (l : List Bool) (i : Nat), l.getD i false = false → i < l.length → falses (l.set i true) + 1 = falses l
  | [], i, h, hv => by simp at hv
  | x :: l, 0, h, hv => by
    simp at h
    subst h
    simp [falses]; omega
  | x :: l, i + 1, h, hv => by
    simp only [List.set_cons_succ, falses]
    have := falses_set l i (by simpa using h) (by simpa using hv)
    omega
theorem mark_spec : ∀ (ys : List Nat) (had : List Bool) (l : List Nat), (∀ y ∈ ys, y < had.length) →
    (mark had l ys).1.length = had.length ∧ (∀ x, hs (mark had l ys).1 x ↔ hs had x ∨ x ∈ ys) ∧ (∀ x, x ∈ (mark had l ys).2 ↔ x ∈ l ∨ (x ∈ ys ∧ ¬ hs had x)) ∧ falses (mark had l ys).1 + (mark had l ys).2.length = falses had + l.length
  | [], had, l, _ => by simp [mark]
  | y :: ys, had, l, h => by
    have hy := h y (by simp)
    have h' : ∀ z ∈ ys, z < had.length := fun z hz => h z (by simp [hz])
    unfold mark
    by_cases hh : had.getD y false = true
    · rw [if_pos hh]
      obtain ⟨h1, h2, h3, h4⟩ := mark_spec ys had l h'
      refine ⟨h1, fun x => ?_, fun x => ?_, h4⟩
      · rw [h2, List.mem_cons]
        constructor
        · rintro (k | k)
          · exact .inl k
          · exact .inr (.inr k)
        · rintro (k | rfl | k)
          · exact .inl k
          · exact .inl hh
          · exact .inr k
      · rw [h3, List.mem_cons]
        constructor
        · rintro (k | k)
          · exact .inl k
          · exact .inr ⟨.inr k.1, k.2⟩
        · rintro (k | ⟨rfl | k, k2⟩)
          · exact .inl k
          · exact absurd hh k2
          · exact .inr ⟨k, k2⟩
    · rw [if_neg hh]
      obtain ⟨h1, h2, h3, h4⟩ := mark_spec ys (had.set y true) (y :: l) (fun z hz => by simpa using h' z hz)
      have hset : ∀ x, hs (had.set y true) x ↔ hs had x ∨ x = y := fun x => by
        unfold hs
        rw [getD_set _ _ _ _ _ hy]
        by_cases e : y = x
        · subst e; simp
        · rw [if_neg e]
          exact ⟨.inl, fun k => k.resolve_right fun k => e k.symm⟩
      refine ⟨by simpa using h1, fun x => ?_, fun x => ?_, ?_⟩
      · rw [h2, hset, List.mem_cons, or_assoc]
      · rw [h3, hset, List.mem_cons, List.mem_cons]
        constructor
        · rintro ((rfl | k) | ⟨k, k2⟩)
          · exact .inr ⟨.inl rfl, hh⟩
          · exact .inl k
          · exact .inr ⟨.inr k, fun k' => k2 (.inl k')⟩
        · rintro (k | ⟨rfl | k, k2⟩)
          · exact .inl (.inr k)
          · exact .inl (.inl rfl)
          · by_cases e : x = y
            · exact .inl (.inl e)
            · exact .inr ⟨k, fun k' => k'.elim k2 e⟩
      · have := falses_set had y (by simpa using hh) hy
        simp only [List.length_cons] at h4
        omega
structure Sinv (out : List (List Nat)) (a : Nat) (had : List Bool) (l : List Nat) : Prop where
  len : had.length = out.length
  ok : ∀ a b, Ed out a b → b < out.length
  rch : ∀ x, hs had x → Rch (Ed out) a x
  mem : ∀ x ∈ l, hs had x
  fst : hs had a
  clo : ∀ x, hs had x → x ∉ l → ∀ y, Ed out x y → hs had y
theorem Sinv.step {a x : Nat} {had : List Bool} {l : List Nat} (h : Sinv out a had (x :: l)) : Sinv out a (mark had l (outs out x)).1 (mark had l (outs out x)).2 ∧ falses (mark had l (outs out x)).1 + (mark had l (outs out x)).2.length < falses had + (x :: l).length := by
  obtain ⟨h1, h2, h3, h4⟩ := mark_spec (outs out x) had l (fun y hy => by rw [h.len]; exact h.ok x y hy)
  refine ⟨⟨h1.trans h.len, h.ok, fun y hy => ?_, fun y hy => ?_, (h2 a).2 (.inl h.fst), fun y hy hn z hz => ?_⟩, by simp only [List.length_cons]; omega⟩
  · rcases (h2 y).1 hy with k | k
    · exact h.rch y k
    · exact .step (h.rch x (h.mem x (by simp))) k
  · rw [h2]
    rcases (h3 y).1 hy with k | k
    · exact .inl (h.mem y (by simp [k]))
    · exact .inr k.1
  · rw [h2]
    have hn' : y ∉ l ∧ ¬ (y ∈ outs out x ∧ ¬ hs had y) := ⟨fun k => hn ((h3 y).2 (.inl k)), fun k => hn ((h3 y).2 (.inr k))⟩
    by_cases e : y = x
    · subst e; exact .inr hz
    · rcases (h2 y).1 hy with k | k
      · exact .inl (h.clo y k (by simp [e, hn'.1]) z hz)
      · by_cases k' : hs had y
        · exact .inl (h.clo y k' (by simp [e, hn'.1]) z hz)
        · exact absurd ⟨k, k'⟩ hn'.2
theorem Sinv.ends : ∀ (n : Nat) {a : Nat} {had : List Bool} {l : List Nat}, Sinv out a had l → falses had + l.length ≤ n → ∃ had', Spr out had l had' ∧ Sinv out a had' []
  | 0, a, had, [], h, hn => ⟨had, .done, h⟩
  | 0, a, had, x :: l, h, hn => by simp at hn
  | n + 1, a, had, [], h, hn => ⟨had, .done, h⟩
  | n + 1, a, had, x :: l, h, hn => by
    obtain ⟨h1, h2⟩ := h.step
    obtain ⟨had', k1, k2⟩ := Sinv.ends n h1 (by omega)
    exact ⟨had', .step k1, k2⟩
theorem spread (ok : ∀ a b, Ed out a b → b < out.length) {a : Nat} (ha : a < out.length) : ∃ had', Spr out ((List.replicate out.length false).set a true) [a] had' ∧ had'.length = out.length ∧ ∀ x, had'.getD x false = true ↔ Rch (Ed out) a x := by
  have hset : ∀ x, hs ((List.replicate out.length false).set a true) x ↔ x = a := fun x => by
    unfold hs
    rw [getD_set _ _ _ _ _ (by simpa using ha), getD_rep]
    by_cases e : a = x
    · subst e; simp
    · rw [if_neg e]; simp; exact fun k => e k.symm
  have h0 : Sinv out a ((List.replicate out.length false).set a true) [a] := by
    refine ⟨by simp, ok, fun x hx => ?_, fun x hx => ?_, (hset a).2 rfl, fun x hx hn => ?_⟩
    · rw [(hset x).1 hx]; exact .refl _
    · rw [List.mem_singleton] at hx; exact (hset x).2 hx
    · exact absurd (by rw [(hset x).1 hx]; simp) hn
  obtain ⟨had', k1, k2⟩ := Sinv.ends _ h0 (Nat.le_refl _)
  exact ⟨had', k1, k2.len, fun x => ⟨k2.rch x, fun hx => hx.inv (p := hs had') (fun a b h e => k2.clo a h (by simp) b e) k2.fst⟩⟩
theorem Spr.det {had had1 had2 : List Bool} {l : List Nat} (h1 : Spr out had l had1) (h2 : Spr out had l had2) : had1 = had2 := by
  induction h1 with
  | done => cases h2; rfl
  | step _ ih => cases h2 with | step h => exact ih h
end Go.Am.Sc
