/- scc.Reach. -/
import Derived.Test.YtflhndopabnipaaS4
set_option linter.unusedVariables false
set_option linter.unusedSimpArgs false
set_option maxRecDepth 100000
namespace Go.Am.Try
open Go Go.Am.Sc
@[simp] theorem noRefs_encU : ∀ L, AV.noRefs (encU L) = true
  | [] => rfl
  | l :: L => by
    have := noRefs_encU L
    have h : (encR 1 true (encNs l)).noRef = true := by
      cases l with
      | nil => rfl
      | cons x l => simp [encNs_cons, AV.noRef, AV.noRefs]
    simp only [encU, List.map_cons, AV.noRefs, h, Bool.true_and]
    exact this
theorem encU_at {L : List (List Nat)} {x : Nat} {l : List Nat} (h : L[x]? = some l) : (encU L)[x]? = some (encR 1 true (encNs l)) := by
  unfold encU
  rw [List.getElem?_map, h]; rfl
set_option maxHeartbeats 1000000 in
theorem lp20_0 (n : Nat) (X2 X7 : AV) (M : Nat) (hn : n ≤ 2 ^ 30) (hM : M ≤ 2 ^ 40) (row : List Nat) (hrl : row.length ≤ 2 ^ 30) (hrn : ∀ y ∈ row, y < n) : ∀ (r : List Nat) (j : Nat) (had : List Bool) (l : List Nat) (zs : List AV), Tail (encNs row) j (encNs r) → (∀ y ∈ r, y < n) → had.length = n → falses had + l.length ≤ M → zs.take l.length = encNs l.reverse → l.length ≤ zs.length →
    ∃ fr' zs', Lp ctx [29, 34, 69] [] [2, 7, 8, 9, 52, 53, 54] b20_0 ⟨[(2, .v X2), (7, .v X7), (8, .v (.hs 0 n 0 n 1)), (9, .v (.hs 1 zs.length 0 l.length 1)), (52, .v (encR 1 true (encNs row))), (53, .v (.int .i64 row.length)), (54, .v (.int .i64 j))], false⟩ [.arr false 1 (encBo had), .arr false 1 zs]
      (.ex 2) fr' [.arr false 1 (encBo (Sc.mark had l r).1), .arr false 1 zs'] ∧ fr'.lk = false ∧ zs'.take (Sc.mark had l r).2.length = encNs (Sc.mark had l r).2.reverse ∧ (Sc.mark had l r).2.length ≤ zs'.length ∧
      getS fr'.sl 2 = .v X2 ∧ getS fr'.sl 7 = .v X7 ∧ getS fr'.sl 8 = .v (.hs 0 n 0 n 1) ∧ getS fr'.sl 9 = .v (.hs 1 zs'.length 0 (Sc.mark had l r).2.length 1)
  | [], j, had, l, zs, ht, hrr, hh, hf, hz, hl => by
    have hlen := ht.nil
    simp only [encNs_length] at hlen
    refine ⟨?_, zs, Lp.exit ⟨0, fun N _ => ?_⟩ (by simp), ?_⟩
    rotate_left
    · simp -implicitDefEqProofs [b20_0, hlen, Sc.mark]
      rfl
    · exact ⟨by simp, by simpa [Sc.mark] using hz, by simpa [Sc.mark] using hl, by simp, by simp, by simp, by simp [Sc.mark]⟩
  | Y :: r, j, had, l, zs, ht, hrr, hh, hf, hz, hl => by
    rw [encNs_cons] at ht
    obtain ⟨a1, a2, a3, a4, a5⟩ := ht.cons
    simp only [encNs_length] at a2 a3
    have hw := wrap_succ (n := j) (by have := ht.len; simp at this; unfold big; omega)
    have hrow := a5 1 true
    have hY : Y < n := hrr Y (by simp)
    have hYh : Y < had.length := by omega
    have hiY := idx_at hY
    have hgY := encBo_get hYh
    rw [hrow]
    cases hb : had.getD Y false with
    | true =>
      rw [hb] at hgY
      have ih := lp20_0 n X2 X7 M hn hM row hrl hrn r (j + 1) had l zs a4 (fun y hy => hrr y (by simp [hy])) hh hf hz hl
      have em : Sc.mark had l (Y :: r) = Sc.mark had l r := by rw [Sc.mark, if_pos hb]
      rw [hrow] at ih
      rw [em]
      obtain ⟨fr', zs', l1, l2⟩ := ih
      refine ⟨fr', zs', Lp.step ⟨0, fun N hN => ?_⟩ l1, l2⟩
      clear l1 l2
      simp -implicitDefEqProofs [b20_0, a1, a2, a3, hw, hiY, hgY, hh]
    | false =>
      rw [hb] at hgY
      have hfs := falses_set had Y hb hYh
      have em : Sc.mark had l (Y :: r) = Sc.mark (had.set Y true) (Y :: l) r := by rw [Sc.mark, if_neg (by rw [hb]; simp)]
      rw [em]
      have hll : (encNs l.reverse).length = l.length := by simp
      obtain ⟨zs1, p1, p2, p3⟩ := push_at tiI [.arr false 1 (encBo (had.set Y true)), .arr false 1 zs] 1 zs (encNs l.reverse) (.int .i64 (Y : Int)) (by simp [tiI]) (by simp [tiI]) (by rw [hll]; exact hz) (by rw [hll]; exact hl) (by rw [hll]; simp [tiI]; omega) (by rw [hll]; omega)
      rw [hll] at p1 p2 p3
      unfold tiI at p1
      simp only [List.set_cons_succ, List.set_cons_zero] at p1
      have ih := lp20_0 n X2 X7 M hn hM row hrl hrn r (j + 1) (had.set Y true) (Y :: l) zs1 a4 (fun y hy => hrr y (by simp [hy])) (by simpa using hh) (by simp only [List.length_cons]; omega) (by
        rw [List.length_cons, List.reverse_cons, encNs_app, p2]; rfl) (by simpa using p3)
      rw [hrow] at ih
      obtain ⟨fr', zs', l1, l2⟩ := ih
      simp only [List.length_cons] at l1
      have hset := encBo_set had Y true
      refine ⟨fr', zs', Lp.step ⟨0, fun N hN => ?_⟩ l1, l2⟩
      clear l1 l2
      simp -implicitDefEqProofs [b20_0, a1, a2, a3, hw, hiY, hgY, hh, hset, p1, -appendH]
theorem lp20_1 (L : List (List Nat)) (X2 : AV) (M : Nat) (hL : L.length ≤ 2 ^ 30) (hM : M ≤ 2 ^ 40) (hr : ∀ l ∈ L, l.length ≤ 2 ^ 30 ∧ ∀ y ∈ l, y < L.length) {had had' : List Bool} {l : List Nat} (h : Spr L had l had') : ∀ (zs : List AV), had.length = L.length → falses had + l.length ≤ M → (∀ x ∈ l, x < L.length) → zs.take l.length = encNs l.reverse → l.length ≤ zs.length →
    ∃ fr' zs', Lp ctx [29, 34, 69] [] [2, 7, 8, 9] b20_1 ⟨[(2, .v X2), (7, .v (.sl 1 (encU L))), (8, .v (.hs 0 L.length 0 L.length 1)), (9, .v (.hs 1 zs.length 0 l.length 1))], false⟩ [.arr false 1 (encBo had), .arr false 1 zs]
      (.ex 0) fr' [.arr false 1 (encBo had'), .arr false 1 zs'] ∧ fr'.lk = false ∧ getS fr'.sl 2 = .v X2 ∧ getS fr'.sl 8 = .v (.hs 0 L.length 0 L.length 1) ∧ getS fr'.sl 6 = .u ∧ HiR 71 75 fr' := by
  induction h with
  | done =>
    intro zs hh hf hx hz hl
    refine ⟨?_, zs, Lp.exit ⟨0, fun N _ => ?_⟩ (by simp), ?_⟩
    rotate_left
    · simp -implicitDefEqProofs [b20_1]
      rfl
    · refine ⟨by simp, by simp, by simp, by simp, fun t h1 h2 => ?_⟩
      simp only [getS]
      repeat rw [if_neg (by omega)]
  | @step had had' x l hs ih =>
    intro zs hh hf hx hz hl
    have hxl := hx x (by simp)
    obtain ⟨q, hq⟩ : ∃ q, L[x]? = some q := ⟨_, List.getElem?_eq_getElem hxl⟩
    obtain ⟨hql, hqn⟩ := hr q (List.mem_of_getElem? hq)
    have ho : outs L x = q := by unfold outs; rw [List.getD_eq_getElem?_getD, hq]; rfl
    obtain ⟨t1, t2⟩ := top_of hz
    simp only [List.length_cons] at hf hl
    rw [ho] at ih hs
    obtain ⟨m1, m2, m3, m4⟩ := mark_spec q had l (fun y hy => by rw [hh]; exact hqn y hy)
    obtain ⟨fr1, zs1, a1, a2, a3, a4, a5, a6, a7, a8⟩ := lp20_0 L.length X2 (.sl 1 (encU L)) M hL hM q hql hqn q 0 had l zs (Tail.all _) hqn hh (by omega) t2 (by omega)
    obtain ⟨k1, hk1⟩ := a1.den
    obtain ⟨fr', zs', b1, b2⟩ := ih zs1 (m1.trans hh) (by omega) (fun y hy => by
      rcases (m3 y).1 hy with k | k
      · exact hx y (by simp [k])
      · exact hqn y k.1) a3 a4
    refine ⟨fr', zs', Lp.step ⟨k1, fun N hN => ?_⟩ b1, b2⟩
    have hk1 := hk1 N hN
    simp only [Int.cast_ofNat_Int] at hk1
    have hw : IntKind.i64.wrap ((l.length : Int)) = (l.length : Int) := wrap_i64 (by omega)
    have hgt : ((l.length : Int) + 1) > 0 := by omega
    have hix : idxN (l.length : Int) (l.length + 1) = some l.length := idx_pred
    have hbd := bounds_pred (n := l.length)
    have hle : l.length < zs.length := by omega
    have hgx := encU_at hq
    have hixx := idx_at hxl
    have hqn' : lenM (encR 1 true (encNs q)) = pureM (.int .i64 q.length) := by simp
    clear b1 b2 a1 hs ih
    simp -implicitDefEqProofs [b20_1, hk1, a2, a5, a6, a7, a8, hw, hgt, hix, hbd, t1, hgx, hixx]
theorem falses_rep (n : Nat) : falses (List.replicate n false) = n := by
  induction n with
  | zero => rfl
  | succ n ih => rw [List.replicate_succ]; simp only [falses, ih]; simp; omega
theorem rowU_ok (g : List (Bool × List Int)) (hr : ∀ q ∈ g, q.2.length ≤ 2 ^ 30) : ∀ l ∈ g.map (rowU g.length), l.length ≤ 2 ^ 30 ∧ ∀ y ∈ l, y < g.length := fun l hl => by
  obtain ⟨q, hq, rfl⟩ := List.mem_map.1 hl
  constructor
  · have h1 := uqs_len (cl g.length q.2) []
    have h2 := cl_len g.length q.2
    have h3 := hr q hq
    unfold rowU
    simp at h1
    omega
  · intro y hy
    unfold rowU at hy
    rw [uqs_mem] at hy
    rcases hy with hy | hy
    · cases hy
    · exact (cl_mem.1 hy).1
theorem rch_iff {E F : Nat → Nat → Prop} (h : ∀ a b, E a b ↔ F a b) (a b : Nat) : Rch E a b ↔ Rch F a b :=
  ⟨fun k => k.mono fun x y => (h x y).1, fun k => k.mono fun x y => (h x y).2⟩
set_option maxHeartbeats 1000000 in
theorem reach_ans (g : List (Bool × List Int)) (ng : Bool) (hg : g.length ≤ 2 ^ 30) (hr : ∀ q ∈ g, q.2.length ≤ 2 ^ 30) (a b : Int) : Ans ctx 20 [encR 1 ng (encG g), .int .i64 a, .int .i64 b] (.bool (rchB g a b)) := by
  by_cases hab : 0 ≤ a ∧ a < g.length ∧ 0 ≤ b ∧ b < g.length
  · obtain ⟨A, rfl⟩ : ∃ A : Nat, a = (A : Int) := ⟨a.toNat, by omega⟩
    obtain ⟨B, rfl⟩ : ∃ B : Nat, b = (B : Int) := ⟨b.toNat, by omega⟩
    have hA : A < g.length := by omega
    have hB : B < g.length := by omega
    obtain ⟨k1, hk1⟩ := edges_ans g ng hg hr
    have hlen : (g.map (rowU g.length)).length = g.length := by simp
    have hok : ∀ x y, Ed (g.map (rowU g.length)) x y → y < (g.map (rowU g.length)).length := fun x y h => by
      rw [hlen, ← outG_len]; exact ed_ok g x y ((rowU_ed g x y).1 h)
    obtain ⟨had', h1, h2, h3⟩ := spread hok (a := A) (by rw [hlen]; exact hA)
    rw [hlen] at h1 h2
    have hfl : falses ((List.replicate g.length false).set A true) + 1 ≤ g.length + 1 := by
      have := falses_set (List.replicate g.length false) A (getD_rep _ _ _) (by simpa using hA)
      rw [falses_rep] at this
      omega
    obtain ⟨fr', zs', b1, b2, b3, b4, b5, b6⟩ := lp20_1 (g.map (rowU g.length)) (.int .i64 (B : Int)) (g.length + 1) (by rw [hlen]; exact hg) (by omega) (fun l hl => by rw [hlen]; exact rowU_ok g hr l hl) h1 [.int .i64 (A : Int)] (by simp) (by simp only [List.length_singleton]; omega) (by simpa using hA) (by simp [encNs]) (by simp)
    obtain ⟨k, hk⟩ := b1.den
    have e : rchB g A B = had'.getD B false := by
      rw [Bool.eq_iff_iff, rchB_iff, h3, rch_iff (rowU_ed g)]
      simp only [Int.toNat_natCast]
      exact ⟨fun h => h.2.2.2.2, fun h => ⟨hab.1, hab.2.1, hab.2.2.1, hab.2.2.2, h⟩⟩
    rw [e]
    have hgB := encBo_get (l := had') (i := B) (by omega)
    generalize had'.getD B false = z at *
    refine Ans.of (σ' := [.arr false 1 (encBo had'), .arr false 1 zs']) fn20_ (by simp [AV.noRefs]) (by simp) ⟨k + k1, fun N hN => ?_⟩
    have hk := hk N (by omega)
    have hk1 := hk1 N (by omega)
    have hix := idx_at hA
    have hixB := idx_at hB
    have hset := encBo_set (List.replicate g.length false) A true
    have hrep : encBo (List.replicate g.length false) = List.replicate g.length (.bool false) := by simp [encBo]
    rw [hrep] at hset
    have hbg : g.length ≤ 35184372088832 := by omega
    have hfit := fitAll_replicate ⟨.bool, 1, 1, .bool false, [.bool]⟩ (.bool false) rfl g.length
    have hmin : ∃ m : Int, mmA .lss (.int .i64 (A : Int)) (.int .i64 (B : Int)) = some (.int .i64 m) ∧ ¬ m < 0 := by
      by_cases h : (B : Int) < (A : Int)
      · exact ⟨B, by simp only [mmA, if_true]; rw [if_pos h], by omega⟩
      · exact ⟨A, by simp only [mmA, if_true]; rw [if_neg h], by omega⟩
    have hmax : ∃ m : Int, mmA .gtr (.int .i64 (A : Int)) (.int .i64 (B : Int)) = some (.int .i64 m) ∧ ¬ (g.length : Int) ≤ m := by
      by_cases h : (B : Int) > (A : Int)
      · exact ⟨B, by simp only [mmA, if_true]; rw [if_pos h], by omega⟩
      · exact ⟨A, by simp only [mmA, if_true]; rw [if_neg h], by omega⟩
    obtain ⟨m1, hm1, hm1'⟩ := hmin
    obtain ⟨m2, hm2, hm2'⟩ := hmax
    have hra : (List.replicate g.length (AV.bool false))[A]? = some (.bool false) := by rw [List.getElem?_replicate, if_pos hA]
    have j71 := b6 71 (by omega) (by omega)
    have j72 := b6 72 (by omega) (by omega)
    have j73 := b6 73 (by omega) (by omega)
    have j74 := b6 74 (by omega) (by omega)
    simp only [List.length_singleton, hlen] at hk b4
    clear b1 h1 h3
    simp -implicitDefEqProofs [i20, c20, hk, hk1, b2, b3, b4, b5, j71, j72, j73, j74, hix, hixB, hset, ↓hgB, ↓hra, h2, hbg, hfit, hm1, hm1', hm2, hm2', -mmA]
  · rw [rchB_no hab]
    have key : (∃ m : Int, mmA .lss (.int .i64 a) (.int .i64 b) = some (.int .i64 m) ∧ m < 0) ∨ ((∃ m : Int, mmA .lss (.int .i64 a) (.int .i64 b) = some (.int .i64 m) ∧ ¬ m < 0) ∧ ∃ m : Int, mmA .gtr (.int .i64 a) (.int .i64 b) = some (.int .i64 m) ∧ (g.length : Int) ≤ m) := by
      by_cases h : b < a
      · by_cases h0 : b < 0
        · exact .inl ⟨b, by simp only [mmA, if_true]; rw [if_pos h], h0⟩
        · exact .inr ⟨⟨b, by simp only [mmA, if_true]; rw [if_pos h], h0⟩, a, by simp only [mmA, if_true]; rw [if_neg (by omega)], by omega⟩
      · by_cases h0 : a < 0
        · exact .inl ⟨a, by simp only [mmA, if_true]; rw [if_neg h], h0⟩
        · by_cases h1 : b > a
          · exact .inr ⟨⟨a, by simp only [mmA, if_true]; rw [if_neg h], h0⟩, b, by simp only [mmA, if_true]; rw [if_pos h1], by omega⟩
          · exact .inr ⟨⟨a, by simp only [mmA, if_true]; rw [if_neg h], h0⟩, a, by simp only [mmA, if_true]; rw [if_neg h1], by omega⟩
    refine Ans.of (σ' := []) fn20_ (by simp [AV.noRefs]) (by simp) ⟨0, fun N hN => ?_⟩
    rcases key with ⟨m, hm, h⟩ | ⟨⟨m, hm, h⟩, m2, hm2, h2⟩
    · simp -implicitDefEqProofs [i20, c20, hm, h, -mmA]
    · simp -implicitDefEqProofs [i20, c20, hm, h, hm2, h2, -mmA]
end Go.Am.Try
