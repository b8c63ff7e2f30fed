/- Rows of nodes: their levels; the document's example; WaveAll. -/
import Derived.Test.YtflhndopabnipaaWA
import Derived.Test.YtflhndopabnipaaS22
import Derived.Test.YtflhndopabnipaaS17
set_option linter.unusedVariables false
set_option linter.unusedSimpArgs false
set_option maxRecDepth 100000
namespace Go.Am.Try
open Go Go.Am.Sc
def upto (k n : Nat) : List Nat := (List.range n).map fun i => if i < k then i else 0
theorem ones_len (k : Nat) : (ones k).length = k := by simp [ones]
theorem ones_of (n : Nat) : IsOf (ones n) id := fun x i l hi hx => by
  unfold ones at hi
  rw [List.getElem?_map] at hi
  by_cases h : i < n
  · rw [List.getElem?_range h] at hi
    simp at hi
    subst hi
    simpa using hx
  · rw [List.getElem?_eq_none (by simp; omega)] at hi
    cases hi
theorem chain_grp {n k : Nat} {E : Nat → Nat → Prop} (h1 : ∀ a b, E a b → 0 < a ∧ a < k ∧ (b + 1 = a ∨ b = a)) : Grp n (Rch E) (ones n) := by
  have down : ∀ a b, Rch E a b → b ≤ a := fun a b h => by
    have := h.inv (p := fun z => z ≤ a) (fun x y hx e => by
      have := h1 x y e
      omega) (Nat.le_refl _)
    exact this
  refine ⟨fun l hl => ?_, fun l hl x hx => ?_, fun l hl x hx y => ?_, fun x hx => ⟨[x], ones_mem.2 ⟨x, hx, rfl⟩, by simp⟩⟩
  · obtain ⟨i, _, rfl⟩ := ones_mem.1 hl
    simp
  · obtain ⟨i, hi, rfl⟩ := ones_mem.1 hl
    simp at hx
    omega
  · obtain ⟨i, hi, rfl⟩ := ones_mem.1 hl
    simp at hx
    subst hx
    simp only [List.mem_singleton]
    constructor
    · rintro rfl
      exact ⟨.refl _, .refl _⟩
    · rintro ⟨h2, h3⟩
      have := down _ _ h2
      have := down _ _ h3
      omega
theorem chain_lv {n k : Nat} (hk : k ≤ n) {E : Nat → Nat → Prop} (h1 : ∀ a b, E a b → 0 < a ∧ a < k ∧ (b + 1 = a ∨ b = a)) (h2 : ∀ a, 0 < a → a < k → E a (a - 1)) : lvL n E (ones n) = upto k n := by
  have hG := chain_grp (n := n) h1
  have hlev := lvO_lev hG (ones_of n)
  have hmy : Lev (ones n).length (Dn n E id) (fun i => if i < k then i else 0) := by
    refine ⟨fun i j hi hd => ?_, fun i hi => ?_⟩
    · obtain ⟨hne, x, y, hx, hy, he, e1, e2⟩ := hd
      simp only [id] at e1 e2
      subst e1
      subst e2
      have := h1 x y he
      show (if y < k then y else 0) < (if x < k then x else 0)
      rw [if_pos this.2.1, if_pos (by omega)]
      omega
    · rw [ones_len] at hi
      show (if i < k then i else 0) = 0 ∨ ∃ j, Dn n E id i j ∧ (if i < k then i else 0) = (if j < k then j else 0) + 1
      by_cases h : 0 < i ∧ i < k
      · right
        refine ⟨i - 1, ⟨by omega, i, i - 1, hi, by omega, h2 i h.1 h.2, rfl, rfl⟩, ?_⟩
        rw [if_pos h.2, if_pos (by omega)]
        omega
      · left
        split
        · omega
        · rfl
  unfold lvL upto
  rw [ones_len]
  refine List.map_congr_left fun i hi => ?_
  exact hlev.one hmy (fun i j _ hd => Dn.lt hG (ones_of n) hd) i (by rw [ones_len]; exact List.mem_range.1 hi)
theorem ones_rise2 (k : Nat) : (ones k).Pairwise fun l m => hd l < hd m := ones_rise k
def g10 : List (Bool × List Int) := [(false, []), (false, [0])]
theorem ed10 (a b : Nat) : Ed (outG g10) a b ↔ a = 1 ∧ b = 0 := by
  have e : outG g10 = [[], [0]] := by rfl
  rw [e]
  unfold Ed outs
  rcases a with _ | _ | a
  · simp
  · simp
  · simp
theorem awake23_ans : Ans ctx 23 [] (.bool true) := by
  have hG : Grp 2 (Rch (Ed (outG g10))) (ones 2) := chain_grp (k := 2) fun a b h => by have := (ed10 a b).1 h; omega
  have hL : lvL 2 (Ed (outG g10)) (ones 2) = upto 2 2 := chain_lv (Nat.le_refl _) (fun a b h => by have := (ed10 a b).1 h; omega) (fun a h1 h2 => (ed10 a (a - 1)).2 (by omega))
  have h := levels_ans g10 false (by simp [g10]) (fun q hq => by simp [g10] at hq; rcases hq with rfl | rfl <;> simp) hG (ones_rise 2)
  have e2 : g10.length = 2 := rfl
  rw [e2, hL] at h
  obtain ⟨k1, h1⟩ := h
  obtain ⟨k2, h2⟩ := ints_ans [0, 1] [0, 1] false false (by simp [big])
  refine Ans.of (σ' := []) fn23_ (by simp [AV.noRefs]) (by simp) ⟨k1 + k2, fun N hN => ?_⟩
  have h1 := h1 N (by omega)
  have h2 := h2 N (by omega)
  have ea : encR 1 false (encG g10) = .sl 1 [.sl 1 [], .sl 1 [.int .i64 0]] := rfl
  have eb : encNs (upto 2 2) = [.int .i64 0, .int .i64 1] := rfl
  have ec : encR 1 false (encIs [0, 1]) = .sl 1 [.int .i64 0, .int .i64 1] := rfl
  rw [ea, eb] at h1
  rw [ec] at h2
  simp -implicitDefEqProofs [i23, c23, h1, h2]
theorem ints_U (l m : List Nat) (hl : l.length < big) : Ans ctx 17 [.sl 1 (encNs l), .sl 1 (encNs m)] (.bool (decide (l = m))) := by
  have := ints_ans (l.map fun (n : Nat) => (n : Int)) (m.map fun (n : Nat) => (n : Int)) false false (by simpa using hl)
  rw [encR_false, encR_false, ← encNs_Is, ← encNs_Is] at this
  have e : decide ((l.map fun (n : Nat) => (n : Int)) = m.map fun (n : Nat) => (n : Int)) = decide (l = m) := by
    rw [decide_eq_decide]
    exact ⟨fun h => (List.map_inj_right (fun x y e => by have e : (x : Int) = (y : Int) := e; omega)).1 h, fun h => by rw [h]⟩
  rw [e] at this
  exact this
theorem lvL_lt {n : Nat} {E : Nat → Nat → Prop} {G : List (List Nat)} (hG : Grp n (Rch E) G) (hr : G.Pairwise fun l m => hd l < hd m) (b : Nat) (hb : G.length ≤ b) (h0 : 0 < b) : ∀ v ∈ lvL n E G, v < b := fun v hv => by
  obtain ⟨i, hi, rfl⟩ := List.mem_map.1 hv
  have hO : ∃ o, IsOf G o := by
    have : ∀ x : Nat, ∃ i : Nat, ∀ (j : Nat) (l : List Nat), G[j]? = some l → x ∈ l → i = j := fun x => by
      by_cases h : ∃ (j : Nat) (l : List Nat), G[j]? = some l ∧ x ∈ l
      · obtain ⟨j, l, h1, h2⟩ := h
        refine ⟨j, fun j' l' h3 h4 => ?_⟩
        rcases Nat.lt_trichotomy j j' with h5 | h5 | h5
        · exact absurd h4 (Grp.dis hG hr h5 h1 h3 h2)
        · exact h5
        · exact absurd h2 (Grp.dis hG hr h5 h3 h1 h4)
      · exact ⟨0, fun j l h1 h2 => absurd ⟨j, l, h1, h2⟩ h⟩
    obtain ⟨o, ho⟩ := Classical.axiomOfChoice this
    exact ⟨o, fun x i l h1 h2 => ho x i l h1 h2⟩
  obtain ⟨o, ho⟩ := hO
  rcases lvO_lt hG ho i with h | h <;> omega
theorem wave_all (g : List (Bool × List Int)) (ng : Bool) (hg : g.length ≤ 2 ^ 18) (hr : ∀ q ∈ g, q.2.length ≤ 2 ^ 30) {G : List (List Nat)} (hG : Grp g.length (Rch (Ed (outG g))) G) (hrise : G.Pairwise fun l m => hd l < hd m) :
    Ans ctx 22 [encR 1 ng (encG g)] (.sl 1 (encNs (lvL g.length (Ed (outG g)) G))) ∧ Ans ctx 24 [encR 1 ng (encG g)] (.sl 1 (encNs (lvL g.length (Ed (outG g)) G))) ∧
    Ans ctx 25 [encR 1 ng (encG g)] (encR 1 true (encU (wav (lvL g.length (Ed (outG g)) G)))) ∧ Ans ctx 26 [encR 1 ng (encG g)] (encR 1 true (encU (wav (lvL g.length (Ed (outG g)) G)))) := by
  have hGl := Grp.len_le hG hrise
  have h1 := levels_ans g ng hg hr hG hrise
  have h2 := rlevels_ans g ng (by omega) hr hG hrise
  have hl : (lvL g.length (Ed (outG g)) G).length ≤ 2 ^ 29 := by rw [lvL_len]; omega
  have hb : ∀ v ∈ lvL g.length (Ed (outG g)) G, v < 2 ^ 29 := lvL_lt hG hrise _ (by omega) (by omega)
  exact ⟨h1, h2, waves_of (by simp [AV.noRefs]) h1 hl hb, rwaves_of (by simp [AV.noRefs]) h2 hl hb⟩
theorem wav_small {lv : List Nat} {b : Nat} (hl : lv.length ≤ b) (hv : ∀ v ∈ lv, v < b) : (wav lv).length ≤ b ∧ ∀ l ∈ wav lv, l.length ≤ b := by
  constructor
  · unfold wav
    rw [wvs_len]
    unfold mxl
    rcases mx_mem (lv.map (· + 1)) with e | e
    · omega
    · obtain ⟨a, h1, h2⟩ := List.mem_map.1 e
      have := hv a h1
      omega
  · intro l hl'
    unfold wav wvs at hl'
    obtain ⟨v, _, rfl⟩ := List.mem_map.1 hl'
    have := List.length_filter_le (fun x => lv.getD x 0 == v) (List.range lv.length)
    simp only [List.length_range] at this
    omega
set_option maxHeartbeats 2000000 in
theorem waveAll_ans (g : List (Bool × List Int)) (hg : g.length < big) (hr : ∀ q ∈ g, q.2.length ≤ 2 ^ 48) (ng : Bool) : Ans ctx 10 [encR 1 ng (encG g)] (.bool true) := by
  obtain ⟨k0, h0⟩ := great_ans g ng hg hr
  cases hgr : greatB g with
  | true =>
    rw [hgr] at h0
    refine Ans.of (σ' := []) fn10_ (by simp [AV.noRefs, AV.noRef]) (by simp) ⟨k0, fun N hN => ?_⟩
    have h0 := h0 N (by omega)
    simp -implicitDefEqProofs [i10, c10, h0]
  | false =>
    rw [hgr] at h0
    unfold greatB at hgr
    simp only [Bool.or_eq_false_iff, decide_eq_false_iff_not] at hgr
    obtain ⟨hl, hs⟩ := hgr
    have e60 : min 60 g.length = g.length := by omega
    rw [e60] at hs
    have hq : ∀ q ∈ g, q.2.length ≤ 300 := fun q hq => by
      obtain ⟨i, hi⟩ := List.getElem?_of_mem hq
      have h1 := lens_succ hi
      have h2 : Try.lens g (i + 1) ≤ Try.lens g g.length := by
        unfold Try.lens
        have hil := (List.getElem?_eq_some_iff.1 hi).1
        have : g.take g.length = g.take (i + 1) ++ (g.drop (i + 1)) := by rw [List.take_length, List.take_append_drop]
        rw [this, List.map_append, List.sum_append]
        omega
      omega
    obtain ⟨G, g1, g2, _⟩ := of_ans g ng (by omega) (fun q hq' => by have := hq q hq'; omega)
    have hGl := Grp.len_le g1 g2
    obtain ⟨⟨k1, h1⟩, ⟨k2, h2⟩, ⟨k3, h3⟩, ⟨k4, h4⟩⟩ := wave_all g ng (by omega) (fun q hq' => by have := hq q hq'; omega) g1 g2
    have hll := lvL_len g.length (Ed (outG g)) G
    have hlt := lvL_lt g1 g2 41 (by omega) (by omega)
    obtain ⟨LV, hLV⟩ : ∃ z, z = lvL g.length (Ed (outG g)) G := ⟨_, rfl⟩
    rw [← hLV] at h1 h2 h3 h4 hll hlt
    have hws := wav_small (b := 41) (by omega) hlt
    obtain ⟨k5, h5⟩ := ints_U LV LV (by unfold big; omega)
    obtain ⟨k6, h6⟩ := same_U (wav LV) (wav LV) true true (by unfold big; omega) (fun l hl' => by have := hws.2 l hl'; unfold big; omega)
    obtain ⟨k7, h7⟩ := awake23_ans
    refine Ans.of (σ' := []) fn10_ (by simp [AV.noRefs, AV.noRef]) (by simp) ⟨k0 + k1 + k2 + k3 + k4 + k5 + k6 + k7, fun N hN => ?_⟩
    have h0 := h0 N (by omega)
    have h1 := h1 N (by omega)
    have h2 := h2 N (by omega)
    have h3 := h3 N (by omega)
    have h4 := h4 N (by omega)
    have h5' : ∀ σ, acall ctx N 17 [.sl 1 (encNs LV), .sl 1 (encNs LV)] σ = some (.bool true, σ) := fun σ => by rw [h5 N (by omega) σ]; simp
    have h6' : ∀ σ, acall ctx N 16 [encR 1 true (encU (wav LV)), encR 1 true (encU (wav LV))] σ = some (.bool true, σ) := fun σ => by rw [h6 N (by omega) σ]; simp
    have h7 := h7 N (by omega)
    clear h5 h6 g1 g2
    simp -implicitDefEqProofs [i10, c10, h0, h1, h2, h3, h4, h5', h6', h7]
end Go.Am.Try
