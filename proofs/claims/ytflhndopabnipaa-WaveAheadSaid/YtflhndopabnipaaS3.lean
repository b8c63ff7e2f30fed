/- The reference: reached, Reach. -/
import Derived.Test.YtflhndopabnipaaS2
set_option linter.unusedVariables false
set_option linter.unusedSimpArgs false
set_option maxRecDepth 100000
namespace Go.Am.Try
open Go Go.Am.Sc
theorem outG_len (g : List (Bool × List Int)) : (outG g).length = g.length := by simp [outG]
theorem bounds_pred {n : Nat} : bounds none (some (n : Int)) (n + 1) = some (0, n) := by
  unfold bounds
  simp only [Option.getD_some, Option.getD_none]
  rw [if_pos (by omega)]
  simp
theorem ed_ok (g : List (Bool × List Int)) : ∀ a b, Ed (outG g) a b → b < (outG g).length := fun a b h => by
  rw [outG_len]
  unfold Ed outs outG at h
  rw [List.getD_eq_getElem?_getD, List.getElem?_map] at h
  cases hg : g[a]? with
  | none => rw [hg] at h; cases h
  | some q => rw [hg] at h; exact (cl_mem.1 h).1
theorem lp32_1 (g : List (Bool × List Int)) (ng : Bool) (M : Nat) (hg : g.length ≤ 2 ^ 30) (hM : M ≤ 2 ^ 40) (hr : ∀ q ∈ g, q.2.length < big) {had had' : List Bool} {l : List Nat} (h : Spr (outG g) had l had') : ∀ (zs : List AV), had.length = g.length → falses had + l.length ≤ M → (∀ x ∈ l, x < g.length) → zs.take l.length = encNs l.reverse → l.length ≤ zs.length →
    ∃ fr' zs', Lp ctx [12, 26, 78] [] [0, 5, 6] b32_1 ⟨[(0, .v (encR 1 ng (encG g))), (5, .v (.hs 0 g.length 0 g.length 1)), (6, .v (.hs 1 zs.length 0 l.length 1))], false⟩ [.arr false 1 (encBo had), .arr false 1 zs]
      (.ex 0) fr' [.arr false 1 (encBo had'), .arr false 1 zs'] ∧ fr'.lk = false ∧ getS fr'.sl 5 = .v (.hs 0 g.length 0 g.length 1) ∧ getS fr'.sl 4 = .u ∧ getS fr'.sl 79 = .u := by
  induction h with
  | done =>
    intro zs hh hf hx hz hl
    refine ⟨?_, zs, Lp.exit ⟨0, fun N _ => ?_⟩ (by simp), ?_⟩
    rotate_left
    · simp -implicitDefEqProofs [b32_1]
      rfl
    · exact ⟨by simp, by simp, by simp, by simp⟩
  | @step had had' x l hs ih =>
    intro zs hh hf hx hz hl
    have hxl := hx x (by simp)
    obtain ⟨q, hq⟩ : ∃ q, g[x]? = some q := ⟨_, List.getElem?_eq_getElem hxl⟩
    have hql := hr q (List.mem_of_getElem? hq)
    obtain ⟨t1, t2⟩ := top_of hz
    simp only [List.length_cons] at hf hl
    obtain ⟨m1, m2, m3, m4⟩ := mark_spec (cl g.length q.2) had l (fun y hy => by rw [hh]; exact (cl_mem.1 hy).1)
    rw [outs_at hq] at ih hs
    obtain ⟨fr1, zs1, a1, a2, a3, a4, a5, a6, a7⟩ := lp32_0 g ng M hg hM x q hq hql q.2 0 had l zs (Tail.all _) hh (by omega) t2 (by omega)
    obtain ⟨k1, hk1⟩ := a1.den
    obtain ⟨fr', zs', b1, b2⟩ := ih zs1 (m1.trans hh) (by omega) (fun y hy => by
      rcases (m3 y).1 hy with k | k
      · exact hx y (by simp [k])
      · exact (cl_mem.1 k.1).1) a3 a4
    refine ⟨fr', zs', Lp.step ⟨k1, fun N hN => ?_⟩ b1, b2⟩
    have hk1 := hk1 N hN
    simp only [Int.cast_ofNat_Int] at hk1
    have hw : IntKind.i64.wrap ((l.length : Int)) = (l.length : Int) := wrap_i64 (by omega)
    have hw2 : ((l.length + 1 : Nat) : Int) - 1 = (l.length : Int) := by omega
    have hgt : ((l.length : Int) + 1) > 0 := by omega
    have hix : idxN (l.length : Int) (l.length + 1) = some l.length := idx_pred
    have hbd := bounds_pred (n := l.length)
    have hle : l.length < zs.length := by omega
    clear b1 b2 a1 hs ih
    simp -implicitDefEqProofs [b32_1, hk1, a2, a5, a6, a7, hw, hw2, hgt, hix, hbd, t1]
theorem reached_ans (g : List (Bool × List Int)) (ng : Bool) (hg : g.length ≤ 2 ^ 30) (hr : ∀ q ∈ g, q.2.length < big) (a : Nat) (ha : a < g.length) : ∃ had' : List Bool, had'.length = g.length ∧ (∀ x, had'.getD x false = true ↔ Rch (Ed (outG g)) a x) ∧ Ans ctx 32 [encR 1 ng (encG g), .int .i64 a] (.sl 1 (encBo had')) := by
  obtain ⟨had', h1, h2, h3⟩ := spread (ed_ok g) (a := a) (by rw [outG_len]; exact ha)
  rw [outG_len] at h1 h2
  refine ⟨had', h2, h3, ?_⟩
  have hfl : falses ((List.replicate g.length false).set a true) ≤ g.length := by
    have := falses_set (List.replicate g.length false) a (getD_rep _ _ _) (by simpa using ha)
    have : ∀ n, falses (List.replicate n false) = n := fun n => by
      induction n with
      | zero => rfl
      | succ n ih => rw [List.replicate_succ]; simp only [falses, ih]; simp; omega
    have := this g.length
    omega
  obtain ⟨fr', zs', b1, b2, b3, b4, b5⟩ := lp32_1 g ng (g.length + 1) hg (by omega) hr h1 [.int .i64 (a : Int)] (by simp) (by simp only [List.length_singleton]; omega) (by simpa using ha) (by simp [encNs]) (by simp)
  obtain ⟨k, hk⟩ := b1.den
  have hsn : snapA [.arr false 1 (encBo had'), .arr false 1 zs'] 200 (.hs 0 g.length 0 g.length 1) = some (.sl 1 (encBo had'), [0]) := by
    have := snapA_hs (σ := [.arr false 1 (encBo had'), .arr false 1 zs']) (n := 199) (q := 0) (v := g.length) (m := g.length) (sz := 1) (fz := false) (xs := encBo had') rfl (by simpa using h2) (Nat.le_refl _) (by rw [List.take_of_length_le (by simp [h2])]; simp)
    rw [List.take_of_length_le (by simp [h2])] at this
    exact this
  refine Ans.fn (rs := []) (σ' := [.arr false 1 (encBo had'), .arr false 1 zs']) fn32_ (by simp [AV.noRefs]) ⟨k, fun N hN => ?_⟩ hsn
  have hk := hk N hN
  have hix := idx_at ha
  have hset := encBo_set (List.replicate g.length false) a true
  have hrep : encBo (List.replicate g.length false) = List.replicate g.length (.bool false) := by simp [encBo]
  rw [hrep] at hset
  have hlt : (a : Int) < (g.length : Int) := by omega
  have hbg : g.length ≤ 35184372088832 := by omega
  have hn0 : ¬ (a : Int) < 0 := by omega
  have hn1 : ¬ g.length ≤ a := by omega
  have hfit := fitAll_replicate ⟨.bool, 1, 1, .bool false, [.bool]⟩ (.bool false) rfl g.length
  simp only [List.length_singleton] at hk
  simp -implicitDefEqProofs [i32, c32, hk, b2, b3, b4, b5, hix, hset, hlt, ha, hbg, hfit, hn0, hn1]
theorem reached_none (g : List (Bool × List Int)) (ng : Bool) (hg : g.length ≤ 2 ^ 30) (a : Int) (ha : ¬ (0 ≤ a ∧ a < g.length)) : Ans ctx 32 [encR 1 ng (encG g), .int .i64 a] (.sl 1 (encBo (List.replicate g.length false))) := by
  have hrep : encBo (List.replicate g.length false) = List.replicate g.length (.bool false) := by simp [encBo]
  have hbg : g.length ≤ 35184372088832 := by omega
  have hfit := fitAll_replicate ⟨.bool, 1, 1, .bool false, [.bool]⟩ (.bool false) rfl g.length
  have hsn : snapA [.arr false 1 (List.replicate g.length (.bool false))] 200 (.hs 0 g.length 0 g.length 1) = some (.sl 1 (encBo (List.replicate g.length false)), [0]) := by
    have := snapA_hs (σ := [.arr false 1 (encBo (List.replicate g.length false))]) (n := 199) (q := 0) (v := g.length) (m := g.length) (sz := 1) (fz := false) (xs := encBo (List.replicate g.length false)) rfl (by simp) (Nat.le_refl _) (by rw [List.take_of_length_le (by simp)]; simp)
    rw [List.take_of_length_le (by simp)] at this
    rw [← hrep]
    exact this
  refine Ans.fn (rs := []) (σ' := [.arr false 1 (List.replicate g.length (.bool false))]) fn32_ (by simp [AV.noRefs]) ⟨0, fun N hN => ?_⟩ hsn
  by_cases h0 : a < 0
  · simp -implicitDefEqProofs [i32, c32, h0, hbg, hfit]
  · have h1 : (g.length : Int) ≤ a := by omega
    simp -implicitDefEqProofs [i32, c32, h0, h1, hbg, hfit]
open Classical in
noncomputable def rchB (g : List (Bool × List Int)) (a b : Int) : Bool := decide (0 ≤ a ∧ a < g.length ∧ 0 ≤ b ∧ b < g.length ∧ Rch (Ed (outG g)) a.toNat b.toNat)
open Classical in
theorem rchB_iff {g : List (Bool × List Int)} {a b : Int} : rchB g a b = true ↔ (0 ≤ a ∧ a < g.length ∧ 0 ≤ b ∧ b < g.length ∧ Rch (Ed (outG g)) a.toNat b.toNat) := by
  unfold rchB
  exact decide_eq_true_iff
theorem rchB_no {g : List (Bool × List Int)} {a b : Int} (h : ¬ (0 ≤ a ∧ a < g.length ∧ 0 ≤ b ∧ b < g.length)) : rchB g a b = false := by
  cases hb : rchB g a b with
  | false => rfl
  | true =>
    have := rchB_iff.1 hb
    exact absurd ⟨this.1, this.2.1, this.2.2.1, this.2.2.2.1⟩ h
theorem rreach_ans (g : List (Bool × List Int)) (ng : Bool) (hg : g.length ≤ 2 ^ 30) (hr : ∀ q ∈ g, q.2.length < big) (a b : Int) : Ans ctx 21 [encR 1 ng (encG g), .int .i64 a, .int .i64 b] (.bool (rchB g a b)) := by
  by_cases hb : 0 ≤ b ∧ b < g.length
  · obtain ⟨B, rfl⟩ : ∃ B : Nat, b = (B : Int) := ⟨b.toNat, by omega⟩
    have hB : B < g.length := by omega
    have hi := idx_at hB
    have hB0 : (0 : Int) ≤ (B : Int) := by omega
    by_cases ha : 0 ≤ a ∧ a < g.length
    · obtain ⟨A, rfl⟩ : ∃ A : Nat, a = (A : Int) := ⟨a.toNat, by omega⟩
      obtain ⟨had, h1, h2, k, hk⟩ := reached_ans g ng hg hr A (by omega)
      have hgB := encBo_get (l := had) (i := B) (by omega)
      have e : rchB g A B = had.getD B false := by
        rw [Bool.eq_iff_iff, rchB_iff, h2]
        simp only [Int.toNat_natCast]
        exact ⟨fun h => h.2.2.2.2, fun h => ⟨ha.1, ha.2, hb.1, hb.2, h⟩⟩
      rw [e]
      generalize had.getD B false = z at *
      refine Ans.of (σ' := []) fn21_ (by simp [AV.noRefs]) (by simp) ⟨k, fun N hN => ?_⟩
      have hk := hk N hN
      simp -implicitDefEqProofs [i21, c21, hk, hi, ↓hgB, hB, hB0, h1]
    · obtain ⟨k, hk⟩ := reached_none g ng hg a ha
      have hgB := encBo_get (l := List.replicate g.length false) (i := B) (by simpa using hB)
      rw [getD_rep] at hgB
      have e : rchB g a B = false := rchB_no fun h => ha ⟨h.1, h.2.1⟩
      rw [e]
      refine Ans.of (σ' := []) fn21_ (by simp [AV.noRefs]) (by simp) ⟨k, fun N hN => ?_⟩
      have hk := hk N hN
      simp -implicitDefEqProofs [i21, c21, hk, hi, ↓hgB, hB, hB0]
  · have e : rchB g a b = false := rchB_no fun h => hb ⟨h.2.2.1, h.2.2.2⟩
    rw [e]
    refine Ans.of (σ' := []) fn21_ (by simp [AV.noRefs]) (by simp) ⟨0, fun N hN => ?_⟩
    by_cases h0 : 0 ≤ b
    · have h1 : ¬ b < (g.length : Int) := by omega
      simp -implicitDefEqProofs [i21, c21, h0, h1]
    · simp -implicitDefEqProofs [i21, c21, h0]
end Go.Am.Try
