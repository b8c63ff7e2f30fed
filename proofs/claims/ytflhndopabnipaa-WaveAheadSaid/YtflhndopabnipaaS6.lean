/- The reference: Groups. -/
import Derived.Test.YtflhndopabnipaaS5
set_option linter.unusedVariables false
set_option linter.unusedSimpArgs false
set_option maxRecDepth 100000
namespace Go.Am.Try
open Go Go.Am.Sc
def encM (m : List (List Bool)) : List AV := m.map fun l => .sl 1 (encBo l)
@[simp] theorem encM_length (m : List (List Bool)) : (encM m).length = m.length := by simp [encM]
theorem encM_at {m : List (List Bool)} {i : Nat} (h : i < m.length) : (encM m)[i]? = some (.sl 1 (encBo (m.getD i []))) := by
  unfold encM
  rw [List.getElem?_map, List.getD_eq_getElem?_getD, List.getElem?_eq_getElem h]; rfl
def tiR : TI := ⟨.slice 3, 1, 24, .nil, []⟩
def tiB : TI := ⟨.slice 4, 1, 24, .nil, []⟩
theorem lp19_0 (g : List (Bool × List Int)) (ng : Bool) (hg : g.length ≤ 2 ^ 30) (hr : ∀ q ∈ g, q.2.length < big) : ∀ (f i : Nat) (m : List (List Bool)) (q : Nat) (σ : H), i + f = g.length → m.length = i → RowAt σ q 1 (encM m) → (∀ x, x < i → (m.getD x []).length = g.length ∧ ∀ y, (m.getD x []).getD y false = true ↔ Rch (Ed (outG g)) x y) →
    ∃ fr' q' m' σ', Lp ctx [21, 24, 61, 68] [] [0, 3, 4] b19_0 ⟨[(0, .v (encR 1 ng (encG g))), (3, .v (rowV q m.length 1)), (4, .v (.int .i64 i))], false⟩ σ (.ex 0) fr' σ' ∧
      m'.length = g.length ∧ RowAt σ' q' 1 (encM m') ∧ (∀ x, x < g.length → (m'.getD x []).length = g.length ∧ ∀ y, (m'.getD x []).getD y false = true ↔ Rch (Ed (outG g)) x y) ∧
      fr'.lk = false ∧ getS fr'.sl 0 = .v (encR 1 ng (encG g)) ∧ getS fr'.sl 3 = .v (rowV q' g.length 1) ∧ getS fr'.sl 2 = .u ∧ HiR 5 10 fr' ∧ HiR 22 70 fr'
  | 0, i, m, q, σ, hi, hm, hR, hs => by
    simp only [Nat.add_zero] at hi
    subst hi
    refine ⟨?_, q, m, σ, Lp.exit ⟨0, fun N _ => ?_⟩ (by simp), ?_⟩
    rotate_left
    · simp -implicitDefEqProofs [b19_0]
      rfl
    · refine ⟨hm, hR, hs, by simp, by simp, by simp [hm], by simp, fun t h1 h2 => ?_, fun t h1 h2 => ?_⟩
      · simp only [getS]
        repeat rw [if_neg (by omega)]
      · simp only [getS]
        repeat rw [if_neg (by omega)]
  | f + 1, i, m, q, σ, hi, hm, hR, hs => by
    have hil : i < g.length := by omega
    obtain ⟨had, h1, h2, k, hk⟩ := reached_ans g ng hg hr i hil
    obtain ⟨q2, σ2, p1, p2, p3, p4, p5⟩ := app_raw2 tiB (y := .sl 1 (encBo had)) hR rfl (by simp [tiB]; omega) (by simp; omega)
    simp only [encM_length] at p1
    unfold tiB at p1 p2
    have heM : encM m ++ [AV.sl 1 (encBo had)] = encM (m ++ [had]) := by simp [encM]
    rw [heM] at p2
    obtain ⟨fr', q', m', σ', l1, l2⟩ := lp19_0 g ng hg hr f (i + 1) (m ++ [had]) q2 σ2 (by omega) (by simp [hm]) (fun _ => p2) (fun x hx => by
      by_cases e : x = i
      · subst e
        have : (m ++ [had]).getD x [] = had := by
          rw [List.getD_eq_getElem?_getD, List.getElem?_append_right (by omega), hm]; simp
        rw [this]
        exact ⟨h1, h2⟩
      · have : (m ++ [had]).getD x [] = m.getD x [] := by
          rw [List.getD_eq_getElem?_getD, List.getElem?_append_left (by omega), ← List.getD_eq_getElem?_getD]
        rw [this]
        exact hs x (by omega))
    refine ⟨fr', q', m', σ', Lp.step ⟨k, fun N hN => ?_⟩ l1, l2⟩
    have hk := hk N hN
    have hw := wrap_succ (n := i) (by unfold big; omega)
    have hlt : (i : Int) < (g.length : Int) := by omega
    simp only [List.length_append, List.length_singleton]
    clear l1 l2
    simp -implicitDefEqProofs [b19_0, hk, hw, hlt, p1, -appendH]
set_option maxHeartbeats 2000000 in
theorem lp19_1 (g : List (Bool × List Int)) (ng : Bool) (hg : g.length ≤ 2 ^ 30) (m : List (List Bool)) (hm : m.length = g.length) (hml : ∀ x, x < g.length → (m.getD x []).length = g.length) (q0 p : Nat) (hq0 : q0 < p) (X5 : AV) (i : Nat) (hi : i < g.length) (B : Nat) (hB : p < B) : ∀ (f k : Nat) (acc : List Nat) (ql : Nat) (ins : List Bool) (σ : H), k + f = g.length → acc.length ≤ k → ins.length = g.length → σ[q0]? = some (.arr false 1 (encM m)) → σ[p]? = some (.arr false 1 (encBo ins)) → RowAt σ ql 1 (encNs acc) → (acc ≠ [] → B ≤ ql) → B ≤ σ.length →
    ∃ fr' ql' σ', Lp ctx [21, 24, 61, 68] [] [0, 3, 5, 6, 7, 8, 9] b19_1 ⟨[(0, .v (encR 1 ng (encG g))), (3, .v (.hs q0 g.length 0 g.length 1)), (5, .v X5), (6, .v (.hs p g.length 0 g.length 1)), (7, .v (.int .i64 i)), (8, .v (rowV ql acc.length 1)), (9, .v (.int .i64 k))], false⟩ σ (.ex 4) fr' σ' ∧
      σ'[q0]? = some (.arr false 1 (encM m)) ∧ σ'[p]? = some (.arr false 1 (encBo (ons ins (mates m i f k)))) ∧ RowAt σ' ql' 1 (encNs (acc ++ mates m i f k)) ∧ (acc ++ mates m i f k ≠ [] → B ≤ ql') ∧ (∀ j, j < B → j ≠ p → σ'[j]? = σ[j]?) ∧ σ.length ≤ σ'.length ∧
      fr'.lk = false ∧ getS fr'.sl 0 = .v (encR 1 ng (encG g)) ∧ getS fr'.sl 3 = .v (.hs q0 g.length 0 g.length 1) ∧ getS fr'.sl 5 = .v X5 ∧ getS fr'.sl 6 = .v (.hs p g.length 0 g.length 1) ∧ getS fr'.sl 7 = .v (.int .i64 i) ∧ getS fr'.sl 8 = .v (rowV ql' (acc ++ mates m i f k).length 1) ∧ getS fr'.sl 29 = .u ∧ getS fr'.sl 30 = .u ∧ HiR 65 70 fr'
  | 0, k, acc, ql, ins, σ, hk, ha, hins, h0, hp, hR, hq, hBl => by
    simp only [Nat.add_zero] at hk
    subst hk
    refine ⟨?_, ql, σ, Lp.exit ⟨0, fun N _ => ?_⟩ (by simp), ?_⟩
    rotate_left
    · simp -implicitDefEqProofs [b19_1]
      rfl
    · simp only [mates, ons, List.append_nil]
      refine ⟨h0, hp, hR, hq, fun _ _ _ => trivial, Nat.le_refl _, by simp, by simp, by simp, by simp, by simp, by simp, by simp, by simp, by simp, fun t h1 h2 => ?_⟩
      simp only [getS]
      repeat rw [if_neg (by omega)]
  | f + 1, k, acc, ql, ins, σ, hk, ha, hins, h0, hp, hR, hq, hBl => by
    have hkl : k < g.length := by omega
    have hlt : (k : Int) < (g.length : Int) := by omega
    have hw := wrap_succ (n := k) (by unfold big; omega)
    have ik := idx_at hkl
    have ii := idx_at hi
    have e1 := encM_at (m := m) (i := i) (by omega)
    have e2 := encM_at (m := m) (i := k) (by omega)
    have l1' := hml i hi
    have l2' := hml k hkl
    have e3 := encBo_get (l := m.getD i []) (i := k) (by omega)
    have e4 := encBo_get (l := m.getD k []) (i := i) (by omega)
    have e5 := encBo_get (l := ins) (i := k) (by omega)
    have ed1 : (m.getD i []).getD k false = at2 m i k := rfl
    have ed2 : (m.getD k []).getD i false = at2 m k i := rfl
    rw [ed1] at e3
    rw [ed2] at e4
    have hmm : (encM m).length = g.length := by simp [hm]
    generalize m.getD i [] = R1 at *
    generalize m.getD k [] = R2 at *
    by_cases hboth : at2 m i k = true ∧ at2 m k i = true
    · obtain ⟨t1, t2⟩ := hboth
      have em : mates m i (f + 1) k = k :: mates m i f (k + 1) := by rw [mates, if_pos ⟨t1, t2⟩]
      rw [t1] at e3
      rw [t2] at e4
      obtain ⟨q2, σ2, p1, p2, p3, p4, p5⟩ := app_raw2 tiI (y := .int .i64 (k : Int)) hR (by simp [tiI]) (by simp [tiI]; omega) (by simp; omega)
      simp only [encNs_length] at p1
      unfold tiI at p1 p2
      have keep : ∀ j, j < B → σ2[j]? = σ[j]? := fun j hj => by
        have hjl : j < σ.length := by omega
        have := List.getElem?_eq_getElem hjl
        rw [this]
        exact p4 j _ this (fun hx e => by
          have : B ≤ ql := hq (fun e => hx (by rw [e]; rfl))
          omega)
      have hq2 : B ≤ q2 := by
        by_cases hx : acc = []
        · subst hx
          refine Nat.le_of_not_lt fun hlt => p5 q2 (by omega) (fun h => absurd rfl h) rfl
        · refine Nat.le_of_not_lt fun hlt => p5 q2 (by omega) (fun _ e => ?_) rfl
          have := hq hx; omega
      have heN : encNs acc ++ [AV.int .i64 (k : Int)] = encNs (acc ++ [k]) := by rw [encNs_app]; rfl
      rw [heN] at p2
      have hp2 : σ2[p]? = some (.arr false 1 (encBo ins)) := by rw [keep p hB]; exact hp
      have hpl : p < σ2.length := (List.getElem?_eq_some_iff.1 hp2).1
      have hset := encBo_set ins k true
      have hinb : (encBo ins).length = g.length := by simp [hins]
      obtain ⟨fr', ql', σ', l1, l2, l3, l4, l5, l6, l7, l8⟩ := lp19_1 g ng hg m hm hml q0 p hq0 X5 i hi B hB f (k + 1) (acc ++ [k]) q2 (ins.set k true) (σ2.set p (.arr false 1 (encBo (ins.set k true)))) (by omega) (by simp; omega) (by simpa using hins) (by
        rw [List.getElem?_set_ne (by omega), keep q0 (by omega)]; exact h0) (by simp [hpl]) (fun _ => by
        rw [List.getElem?_set_ne (by omega)]; exact p2) (fun _ => hq2) (by simp; omega)
      rw [em]
      have ea : acc ++ k :: mates m i f (k + 1) = acc ++ [k] ++ mates m i f (k + 1) := by simp
      have eo : ons ins (k :: mates m i f (k + 1)) = ons (ins.set k true) (mates m i f (k + 1)) := rfl
      rw [ea, eo]
      refine ⟨fr', ql', σ', Lp.step ⟨0, fun N hN => ?_⟩ l1, l2, l3, l4, l5, fun j hj hjp => ?_, by simp at l7; omega, l8⟩
      · simp only [List.length_append, List.length_singleton]
        clear l1 l2 l3 l4 l5 l6 l7 l8
        simp -implicitDefEqProofs [b19_1, hlt, hw, ik, ii, h0, e1, e2, e3, e4, e5, l1', l2', hmm, p1, hp2, hset, hinb, -appendH]
      · rw [l6 j hj hjp, List.getElem?_set_ne (Ne.symm hjp), keep j hj]
    · have em : mates m i (f + 1) k = mates m i f (k + 1) := by rw [mates, if_neg hboth]
      rw [em]
      obtain ⟨fr', ql', σ', l1, l2⟩ := lp19_1 g ng hg m hm hml q0 p hq0 X5 i hi B hB f (k + 1) acc ql ins σ (by omega) (by omega) hins h0 hp hR hq hBl
      refine ⟨fr', ql', σ', Lp.step ⟨0, fun N hN => ?_⟩ l1, l2⟩
      clear l1 l2
      cases t1 : at2 m i k with
      | false =>
        rw [t1] at e3
        simp -implicitDefEqProofs [b19_1, hlt, hw, ik, ii, h0, e1, e2, e3, e4, l1', l2', hmm]
      | true =>
        have t2 : at2 m k i = false := by
          cases h : at2 m k i with
          | false => rfl
          | true => exact absurd ⟨t1, h⟩ hboth
        rw [t1] at e3
        rw [t2] at e4
        simp -implicitDefEqProofs [b19_1, hlt, hw, ik, ii, h0, e1, e2, e3, e4, l1', l2', hmm]
end Go.Am.Try
