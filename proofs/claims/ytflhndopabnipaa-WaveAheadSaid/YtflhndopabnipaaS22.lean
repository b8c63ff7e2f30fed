/- SccAll. -/
import Derived.Test.YtflhndopabnipaaS13
set_option linter.unusedVariables false
set_option linter.unusedSimpArgs false
set_option maxRecDepth 100000
namespace Go.Am.Try
open Go Go.Am.Sc
def lens (g : List (Bool × List Int)) (i : Nat) : Nat := ((g.take i).map fun q => q.2.length).sum
theorem lens_succ {g : List (Bool × List Int)} {i : Nat} {q : Bool × List Int} (h : g[i]? = some q) : lens g (i + 1) = lens g i + q.2.length := by
  obtain ⟨h1, e⟩ := List.getElem?_eq_some_iff.1 h
  unfold lens
  rw [List.take_succ_eq_append_getElem h1, e]
  simp
theorem lens_le {g : List (Bool × List Int)} (b : Nat) (hr : ∀ q ∈ g, q.2.length ≤ b) : ∀ i, lens g i ≤ i * b
  | 0 => by simp [lens]
  | i + 1 => by
    have ih := lens_le b hr i
    cases h : g[i]? with
    | none =>
      have : lens g (i + 1) = lens g i := by
        unfold lens
        have := List.getElem?_eq_none_iff.1 h
        rw [List.take_of_length_le (by omega), List.take_of_length_le (by omega)]
      rw [this, Nat.add_mul]; omega
    | some q =>
      have := hr q (List.mem_of_getElem? h)
      rw [lens_succ h, Nat.add_mul]; omega
def greatB (g : List (Bool × List Int)) : Bool := decide (40 < g.length) || decide (300 < lens g (min 60 g.length))
theorem lp18 (g : List (Bool × List Int)) (ng : Bool) (hg : g.length < big) (hr : ∀ q ∈ g, q.2.length ≤ 2 ^ 48) : ∀ (f i : Nat), i + f = min 60 g.length →
    ∃ fr', Lp ctx [] [] [0, 3, 4] b18_0 ⟨[(0, .v (encR 1 ng (encG g))), (3, .v (.int .i64 (lens g i : Nat))), (4, .v (.int .i64 i))], false⟩ [] (.ex 0) fr' [] ∧ fr'.lk = false ∧ getS fr'.sl 0 = .v (encR 1 ng (encG g)) ∧ getS fr'.sl 3 = .v (.int .i64 (lens g (min 60 g.length) : Nat)) ∧ Hi 22 fr' ∧ getS fr'.sl 2 = .u
  | 0, i, hi => by
    have e : min 60 g.length = i := by omega
    rw [e]
    by_cases h : (i : Int) < (g.length : Int)
    · have h60 : ¬ (i : Int) < 60 := by omega
      refine ⟨?_, Lp.exit ⟨0, fun N _ => ?_⟩ (by simp), ?_⟩
      rotate_left
      · simp -implicitDefEqProofs [b18_0, h, h60]
        rfl
      · exact ⟨by simp, by simp, by simp, hi_of (by simp), by simp⟩
    · refine ⟨?_, Lp.exit ⟨0, fun N _ => ?_⟩ (by simp), ?_⟩
      rotate_left
      · simp -implicitDefEqProofs [b18_0, h]
        rfl
      · exact ⟨by simp, by simp, by simp, hi_of (by simp), by simp⟩
  | f + 1, i, hi => by
    obtain ⟨fr', l1, l2⟩ := lp18 g ng hg hr f (i + 1) (by omega)
    have hil : i < g.length := by omega
    have hlt : (i : Int) < (g.length : Int) := by omega
    have h60 : (i : Int) < 60 := by omega
    obtain ⟨q, hq⟩ : ∃ q, g[i]? = some q := ⟨_, List.getElem?_eq_getElem hil⟩
    have hgi : (encG g)[i]? = some (rowI q) := by unfold encG; rw [List.getElem?_map, hq]; rfl
    have hne : encG g ≠ [] := fun e => by
      have := congrArg List.length e
      simp at this
      rw [this] at hil; simp at hil
    have hix := idx_at hil
    have hw := wrap_succ (n := i) (by unfold big; omega)
    have hll := lens_le _ hr i
    have hql := hr q (List.mem_of_getElem? hq)
    have hb60 : i * 2 ^ 48 ≤ 60 * 2 ^ 48 := Nat.mul_le_mul_right _ (by omega)
    have hsum : IntKind.i64.wrap ((lens g i : Nat) + (q.2.length : Nat) : Int) = ((lens g (i + 1) : Nat) : Int) := by
      rw [wrap_i64 (by omega), lens_succ hq]; omega
    rw [encR_ne hne] at l1 l2 ⊢
    have hlr : lenM (rowI q) = pureM (.int .i64 q.2.length) := by simp [rowI]
    have hlo : lenOk (.slice 3) (rowI q) = true := by simp [rowI]
    refine ⟨fr', Lp.step ⟨0, fun N hN => ?_⟩ l1, l2⟩
    clear l1 l2
    simp -implicitDefEqProofs [b18_0, hil, h60, ↓hgi, hix, hw, hsum, hlr, hlo, -encR_lenM]
theorem great_ans (g : List (Bool × List Int)) (ng : Bool) (hg : g.length < big) (hr : ∀ q ∈ g, q.2.length ≤ 2 ^ 48) : Ans ctx 18 [encR 1 ng (encG g)] (.bool (greatB g)) := by
  obtain ⟨fr', l1, l2, l3, l4, l5, l6⟩ := lp18 g ng hg hr (min 60 g.length) 0 (by omega)
  obtain ⟨k, hk⟩ := l1.den
  refine Ans.of (σ' := []) fn18_ (by simp [AV.noRefs]) (by simp) ⟨k, fun N hN => ?_⟩
  have hk := hk N hN
  have e0 : lens g 0 = 0 := by simp [lens]
  rw [e0] at hk
  simp only [Int.cast_ofNat_Int] at hk
  have j22 := l5 22 (by omega)
  have j23 := l5 23 (by omega)
  have j24 := l5 24 (by omega)
  have j25 := l5 25 (by omega)
  have j26 := l5 26 (by omega)
  have j27 := l5 27 (by omega)
  have j28 := l5 28 (by omega)
  obtain ⟨M, hM⟩ : ∃ M, M = lens g (min 60 g.length) := ⟨_, rfl⟩
  unfold greatB
  rw [← hM] at l4 ⊢
  by_cases h1 : 40 < g.length
  · have h1' : (g.length : Int) > 40 := by omega
    simp -implicitDefEqProofs [i18, c18, hk, l2, l3, l4, l6, j22, j23, j24, j25, j26, j27, j28, h1, h1']
  · have h1' : ¬ (g.length : Int) > 40 := by omega
    simp -implicitDefEqProofs [i18, c18, hk, l2, l3, l4, l6, j22, j23, j24, j25, j26, j27, j28, h1, h1']
    omega
set_option maxHeartbeats 2000000 in
theorem sccAll_ans (g : List (Bool × List Int)) (hg : g.length < big) (hr : ∀ q ∈ g, q.2.length ≤ 2 ^ 48) (a b : Int) (ng : Bool) : Ans ctx 4 [encR 1 ng (encG g), .int .i64 a, .int .i64 b] (.bool true) := by
  obtain ⟨k0, h0⟩ := great_ans g ng hg hr
  cases hgr : greatB g with
  | true =>
    rw [hgr] at h0
    refine Ans.of (σ' := []) fn4_ (by simp [AV.noRefs, AV.noRef]) (by simp) ⟨k0, fun N hN => ?_⟩
    have h0 := h0 N (by omega)
    simp -implicitDefEqProofs [i4, c4, h0]
  | false =>
    rw [hgr] at h0
    unfold greatB at hgr
    simp only [Bool.or_eq_false_iff, decide_eq_false_iff_not] at hgr
    obtain ⟨hl, hs⟩ := hgr
    have e60 : min 60 g.length = g.length := by omega
    rw [e60] at hs
    have hq : ∀ q ∈ g, q.2.length ≤ 300 := fun q hq => by
      obtain ⟨i, hi⟩ := List.getElem?_of_mem hq
      have h1 := lens_succ hi
      have h2 : lens g (i + 1) ≤ lens g g.length := by
        unfold lens
        have hil := (List.getElem?_eq_some_iff.1 hi).1
        have : g.take g.length = g.take (i + 1) ++ (g.drop (i + 1)) := by rw [List.take_length, List.take_append_drop]
        rw [this, List.map_append, List.sum_append]
        omega
      omega
    obtain ⟨G, g1, g2, k1, h1⟩ := of_ans g ng (by omega) (fun q hq' => by have := hq q hq'; omega)
    obtain ⟨G', m1, m2, k2, h2⟩ := groups_ans g ng (by omega) (fun q hq' => by have := hq q hq'; unfold big; omega)
    have e : G' = G := Grp.only m1 g1 m2 g2
    subst e
    have hGl := Grp.len_le g1 g2
    obtain ⟨k3, h3⟩ := same_U G' G' true true (by unfold big; omega) (fun l hl' => by have := hGl.2 l hl'; unfold big; omega)
    obtain ⟨k4, h4⟩ := reach_ans g ng (by omega) (fun q hq' => by have := hq q hq'; omega) a b
    obtain ⟨k5, h5⟩ := rreach_ans g ng (by omega) (fun q hq' => by have := hq q hq'; unfold big; omega) a b
    obtain ⟨k6, h6⟩ := awake14_ans
    refine Ans.of (σ' := []) fn4_ (by simp [AV.noRefs, AV.noRef]) (by simp) ⟨k0 + k1 + k2 + k3 + k4 + k5 + k6, fun N hN => ?_⟩
    have h0 := h0 N (by omega)
    have h1 := h1 N (by omega)
    have h2 := h2 N (by omega)
    have h3' : ∀ σ, acall ctx N 16 [encR 1 true (encU G'), encR 1 true (encU G')] σ = some (.bool true, σ) := fun σ => by rw [h3 N (by omega) σ]; simp
    have h4 := h4 N (by omega)
    have h5 := h5 N (by omega)
    have h6 := h6 N (by omega)
    clear h3 g1 g2 m1 m2
    simp -implicitDefEqProofs [i4, c4, h0, h1, h2, h3', h4, h5, h6]
end Go.Am.Try
