/- SccChain: rows of nodes, and rings, in plain Lean. -/
import Derived.Test.YtflhndopabnipaaS13
set_option linter.unusedVariables false
set_option linter.unusedSimpArgs false
namespace Go.Am.Try
open Go Go.Am.Sc
def chG (k : Nat) (last : List Int) : List (Bool × List Int) := (List.range k).map fun i => if i + 1 < k then (false, [((i + 1 : Nat) : Int)]) else (true, last)
theorem chG_length (k : Nat) (last : List Int) : (chG k last).length = k := by simp [chG]
theorem chG_get (k : Nat) (last : List Int) (i : Nat) (h : i < k) : (chG k last)[i]? = some (if i + 1 < k then (false, [((i + 1 : Nat) : Int)]) else (true, last)) := by
  unfold chG
  rw [List.getElem?_map, List.getElem?_range h]; rfl
theorem chG_ed (k : Nat) (last : List Int) (x y : Nat) (hx : x < k) : Ed (outG (chG k last)) x y ↔ y < k ∧ ((x + 1 < k ∧ y = x + 1) ∨ (x + 1 = k ∧ (y : Int) ∈ last)) := by
  unfold Ed
  rw [outs_at (chG_get k last x hx), chG_length, cl_mem]
  by_cases h : x + 1 < k
  · rw [if_pos h]
    simp only [List.mem_singleton]
    constructor
    · rintro ⟨h1, h2⟩
      exact ⟨h1, .inl ⟨h, by omega⟩⟩
    · rintro ⟨h1, h2⟩
      exact ⟨h1, by omega⟩
  · rw [if_neg h]
    constructor
    · rintro ⟨h1, h2⟩
      exact ⟨h1, .inr ⟨by omega, h2⟩⟩
    · rintro ⟨h1, h2⟩
      refine ⟨h1, ?_⟩
      rcases h2 with h2 | h2
      · omega
      · exact h2.2
theorem chG_up (k : Nat) (last : List Int) : ∀ (d x : Nat), x + d < k → Rch (Ed (outG (chG k last))) x (x + d)
  | 0, x, h => .refl _
  | d + 1, x, h => .step (chG_up k last d x (by omega)) ((chG_ed k last (x + d) (x + (d + 1)) (by omega)).2 ⟨h, .inl ⟨by omega, by omega⟩⟩)
theorem chG_rch (k : Nat) (x y : Nat) (hx : x < k) : Rch (Ed (outG (chG k []))) x y ↔ x ≤ y ∧ y < k := by
  constructor
  · intro h
    have := h.inv (p := fun z => x ≤ z ∧ z < k) (fun a b ha e => by
      have := (chG_ed k [] a b ha.2).1 e
      simp at this
      omega) ⟨Nat.le_refl _, hx⟩
    exact this
  · rintro ⟨h1, h2⟩
    have := chG_up k [] (y - x) x (by omega)
    rw [show x + (y - x) = y by omega] at this
    exact this
theorem ring_rch (k b : Nat) (hb : b < k) (x y : Nat) (hx : x < k) : Rch (Ed (outG (chG k [(b : Int)]))) x y ↔ (x ≤ y ∨ b ≤ y) ∧ y < k := by
  constructor
  · intro h
    have := h.inv (p := fun z => (x ≤ z ∨ b ≤ z) ∧ z < k) (fun a c ha e => by
      have := (chG_ed k [(b : Int)] a c ha.2).1 e
      simp at this
      omega) ⟨.inl (Nat.le_refl _), hx⟩
    exact this
  · rintro ⟨h1, h2⟩
    have up : ∀ u v, u ≤ v → v < k → Rch (Ed (outG (chG k [(b : Int)]))) u v := fun u v h3 h4 => by
      have := chG_up k [(b : Int)] (v - u) u (by omega)
      rw [show u + (v - u) = v by omega] at this
      exact this
    by_cases h3 : x ≤ y
    · exact up x y h3 h2
    · have h4 : b ≤ y := h1.resolve_left h3
      exact ((up x (k - 1) (by omega) (by omega)).step ((chG_ed k [(b : Int)] (k - 1) b (by omega)).2 ⟨hb, .inr ⟨by omega, by simp⟩⟩)).trans (up b y h4 h2)
def ones (k : Nat) : List (List Nat) := (List.range k).map fun i => [i]
def ringL (k b : Nat) : List (List Nat) := ones b ++ [(List.range' b (k - b))]
theorem ones_mem {k : Nat} {l : List Nat} : l ∈ ones k ↔ ∃ i, i < k ∧ l = [i] := by
  unfold ones
  rw [List.mem_map]
  constructor
  · rintro ⟨i, h1, rfl⟩
    exact ⟨i, List.mem_range.1 h1, rfl⟩
  · rintro ⟨i, h1, rfl⟩
    exact ⟨i, List.mem_range.2 h1, rfl⟩
theorem ones_rise (k : Nat) : (ones k).Pairwise fun l m => hd l < hd m := by
  unfold ones
  rw [List.pairwise_map]
  exact List.pairwise_lt_range.imp fun h => h
theorem ones_grp (k : Nat) : Grp k (Rch (Ed (outG (chG k [])))) (ones k) := by
  refine ⟨fun l hl => ?_, fun l hl x hx => ?_, fun l hl x hx y => ?_, fun x hx => ⟨[x], ones_mem.2 ⟨x, hx, rfl⟩, by simp⟩⟩
  · obtain ⟨i, h1, rfl⟩ := ones_mem.1 hl
    simp
  · obtain ⟨i, h1, rfl⟩ := ones_mem.1 hl
    simp at hx
    omega
  · obtain ⟨i, h1, rfl⟩ := ones_mem.1 hl
    simp at hx
    subst hx
    constructor
    · intro hy
      simp at hy
      subst hy
      exact ⟨.refl _, .refl _⟩
    · rintro ⟨h2, h3⟩
      have h4 := (chG_rch k x y h1).1 h2
      have h5 := (chG_rch k y x h4.2).1 h3
      simp
      omega
theorem ringL_rise (k b : Nat) (hb : b < k) : (ringL k b).Pairwise fun l m => hd l < hd m := by
  unfold ringL
  rw [List.pairwise_append]
  refine ⟨ones_rise b, by simp, fun l hl m hm => ?_⟩
  obtain ⟨i, h1, rfl⟩ := ones_mem.1 hl
  simp at hm
  subst hm
  obtain ⟨d, hd'⟩ : ∃ d, k - b = d + 1 := ⟨k - b - 1, by omega⟩
  rw [hd', List.range'_succ]
  exact h1
theorem ringL_mem {k b : Nat} {l : List Nat} : l ∈ ringL k b ↔ (∃ i, i < b ∧ l = [i]) ∨ l = List.range' b (k - b) := by
  unfold ringL
  rw [List.mem_append, ones_mem, List.mem_singleton]
theorem range'_memN {b n x : Nat} : x ∈ List.range' b n ↔ b ≤ x ∧ x < b + n := by
  rw [List.mem_range'_1]
theorem ringL_grp (k b : Nat) (hb : b < k) : Grp k (Rch (Ed (outG (chG k [(b : Int)])))) (ringL k b) := by
  refine ⟨fun l hl => ?_, fun l hl x hx => ?_, fun l hl x hx y => ?_, fun x hx => ?_⟩
  · rcases ringL_mem.1 hl with ⟨i, h1, rfl⟩ | rfl
    · simp
    · refine ⟨fun e => ?_, List.pairwise_lt_range'⟩
      have := congrArg List.length e
      simp at this
      omega
  · rcases ringL_mem.1 hl with ⟨i, h1, rfl⟩ | rfl
    · simp at hx
      omega
    · have := range'_memN.1 hx
      omega
  · rcases ringL_mem.1 hl with ⟨i, h1, rfl⟩ | rfl
    · simp at hx
      subst hx
      constructor
      · intro hy
        simp at hy
        subst hy
        exact ⟨.refl _, .refl _⟩
      · rintro ⟨h2, h3⟩
        have h4 := (ring_rch k b hb x y (by omega)).1 h2
        have h5 := (ring_rch k b hb y x h4.2).1 h3
        simp
        omega
    · have hx' := range'_memN.1 hx
      rw [range'_memN]
      constructor
      · intro hy
        exact ⟨(ring_rch k b hb x y (by omega)).2 ⟨.inr (by omega), by omega⟩, (ring_rch k b hb y x (by omega)).2 ⟨.inr (by omega), by omega⟩⟩
      · rintro ⟨h2, h3⟩
        have h4 := (ring_rch k b hb x y (by omega)).1 h2
        omega
  · by_cases h : x < b
    · exact ⟨[x], ringL_mem.2 (.inl ⟨x, h, rfl⟩), by simp⟩
    · exact ⟨_, ringL_mem.2 (.inr rfl), range'_memN.2 ⟨by omega, by omega⟩⟩
end Go.Am.Try
