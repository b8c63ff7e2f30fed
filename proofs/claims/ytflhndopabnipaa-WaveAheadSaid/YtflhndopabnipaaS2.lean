/- The reference: what a node reaches. -/
import Derived.Test.YtflhndopabnipaaS1
import Derived.Test.YtflhndopabnipaaTA
set_option linter.unusedVariables false
set_option linter.unusedSimpArgs false
set_option maxRecDepth 100000
namespace Go.Am.Try
open Go Go.Am.Sc
def encBo (l : List Bool) : List AV := l.map AV.bool
@[simp] theorem encBo_length (l : List Bool) : (encBo l).length = l.length := by simp [encBo]
@[simp] theorem noRefs_encBo : ∀ l, AV.noRefs (encBo l) = true
  | [] => rfl
  | x :: l => by
    have := noRefs_encBo l
    simp only [encBo, List.map_cons, AV.noRefs, AV.noRef, Bool.true_and]
    exact this
theorem encBo_get {l : List Bool} {i : Nat} (h : i < l.length) : (encBo l)[i]? = some (.bool (l.getD i false)) := by
  unfold encBo
  rw [List.getElem?_map, List.getD_eq_getElem?_getD, List.getElem?_eq_getElem h]; rfl
theorem encBo_set (l : List Bool) (i : Nat) (b : Bool) : (encBo l).set i (.bool b) = encBo (l.set i b) := by simp [encBo, List.map_set]
def encNs (l : List Nat) : List AV := l.map fun (n : Nat) => AV.int .i64 (n : Int)
@[simp] theorem encNs_length (l : List Nat) : (encNs l).length = l.length := by simp [encNs]
@[simp] theorem encNs_nil : encNs [] = [] := rfl
theorem encNs_cons (x : Nat) (l : List Nat) : encNs (x :: l) = .int .i64 x :: encNs l := rfl
theorem encNs_app (l m : List Nat) : encNs (l ++ m) = encNs l ++ encNs m := by simp [encNs]
@[simp] theorem noRefs_encNs : ∀ l, AV.noRefs (encNs l) = true
  | [] => rfl
  | x :: l => by
    have := noRefs_encNs l
    simp only [encNs_cons, AV.noRefs, AV.noRef, Bool.true_and]
    exact this
theorem encNs_get {l : List Nat} {i : Nat} (h : i < l.length) : (encNs l)[i]? = some (.int .i64 (l.getD i 0 : Nat)) := by
  unfold encNs
  rw [List.getElem?_map, List.getD_eq_getElem?_getD, List.getElem?_eq_getElem h]; rfl
theorem encNs_set (l : List Nat) (i n : Nat) : (encNs l).set i (.int .i64 (n : Int)) = encNs (l.set i n) := by simp [encNs, List.map_set]
theorem encNs_Is (l : List Nat) : encNs l = encIs (l.map fun (n : Nat) => (n : Int)) := by simp [encNs, encIs]
def tiI : TI := ⟨.int .i64, 1, 8, .int .i64 0, [.int .i64]⟩
theorem push_at (te : TI) (σ : H) (q : Nat) (zs xs : List AV) (y : AV) (h : σ[q]? = some (.arr false te.size zs)) (hy : y.fits te = true) (ht : zs.take xs.length = xs) (hl : xs.length ≤ zs.length) (hb : (xs.length + 1) * te.bytes ≤ 2 ^ 45) (hb2 : xs.length + 1 ≤ 2 ^ 45) :
    ∃ zs', appendH te (.hs q zs.length 0 xs.length te.size) [y] σ = some (.hs q zs'.length 0 (xs.length + 1) te.size, σ.set q (.arr false te.size zs')) ∧ zs'.take (xs.length + 1) = xs ++ [y] ∧ xs.length + 1 ≤ zs'.length := by
  have hc : True ∧ True ∧ 0 + xs.length ≤ zs.length ∧ (xs.length + [y].length) * te.bytes ≤ 2 ^ 45 ∧ xs.length + [y].length ≤ 2 ^ 45 ∧ fitAll te [y] = true := ⟨trivial, trivial, by omega, hb, hb2, by simp [fitAll, hy]⟩
  by_cases hlt : xs.length < zs.length
  · refine ⟨zs.set xs.length y, ?_, ?_, by simp; omega⟩
    · unfold appendH
      simp only [arrAt, h, if_true]
      rw [if_pos hc, if_pos (by simp; omega)]
      simp [setCells]
    · rw [List.take_succ_eq_append_getElem (by simpa using hlt)]
      rw [List.take_set_of_le (Nat.le_refl _), ht]
      simp
  · have e : xs.length = zs.length := by omega
    have e2 : xs = zs := by rw [← ht, e, List.take_length]
    refine ⟨zs ++ [y], ?_, ?_, by simp; omega⟩
    · unfold appendH
      simp only [arrAt, h, if_true]
      rw [if_pos hc, if_neg (by simp; omega)]
      simp [ht, e2]
    · rw [e2]; simp [List.take_of_length_le]
theorem top_of {zs : List AV} {l : List Nat} {x : Nat} (h : zs.take (x :: l).length = encNs (x :: l).reverse) : zs[l.length]? = some (.int .i64 (x : Int)) ∧ zs.take l.length = encNs l.reverse := by
  simp only [List.length_cons, List.reverse_cons, encNs_app] at h
  constructor
  · have := congrArg (fun z => z[l.length]?) h
    simp only [List.getElem?_take_of_lt (Nat.lt_succ_self _)] at this
    rw [this, List.getElem?_append_right (by simp)]
    simp [encNs]
  · have := congrArg (fun z => z.take l.length) h
    simp only [List.take_take] at this
    rw [Nat.min_eq_left (by omega)] at this
    rw [this, List.take_append_of_le_length (by simp)]
    simp [encNs, List.take_of_length_le]
theorem idx_pred {n : Nat} : idxN (n : Int) (n + 1) = some n := idx_at (by omega)
def outG (g : List (Bool × List Int)) : List (List Nat) := g.map fun q => cl g.length q.2
theorem outs_at {g : List (Bool × List Int)} {x : Nat} {q : Bool × List Int} (h : g[x]? = some q) : outs (outG g) x = cl g.length q.2 := by
  unfold outs outG
  rw [List.getD_eq_getElem?_getD, List.getElem?_map, h]; rfl
set_option maxHeartbeats 1000000 in
theorem lp32_0 (g : List (Bool × List Int)) (ng : Bool) (M : Nat) (hg : g.length ≤ 2 ^ 30) (hM : M ≤ 2 ^ 40) (x : Nat) (q : Bool × List Int) (hq : g[x]? = some q) (hql : q.2.length < big) : ∀ (r : List Int) (j : Nat) (had : List Bool) (l : List Nat) (zs : List AV), Tail (encIs q.2) j (encIs r) → had.length = g.length → falses had + l.length ≤ M → zs.take l.length = encNs l.reverse → l.length ≤ zs.length →
    ∃ fr' zs', Lp ctx [12, 26, 78] [] [0, 5, 6, 7, 8] b32_0 ⟨[(0, .v (encR 1 ng (encG g))), (5, .v (.hs 0 g.length 0 g.length 1)), (6, .v (.hs 1 zs.length 0 l.length 1)), (7, .v (.int .i64 x)), (8, .v (.int .i64 j))], false⟩ [.arr false 1 (encBo had), .arr false 1 zs]
      (.ex 2) fr' [.arr false 1 (encBo (Sc.mark had l (cl g.length r)).1), .arr false 1 zs'] ∧ fr'.lk = false ∧ zs'.take (Sc.mark had l (cl g.length r)).2.length = encNs (Sc.mark had l (cl g.length r)).2.reverse ∧ (Sc.mark had l (cl g.length r)).2.length ≤ zs'.length ∧
      getS fr'.sl 0 = .v (encR 1 ng (encG g)) ∧ getS fr'.sl 5 = .v (.hs 0 g.length 0 g.length 1) ∧ getS fr'.sl 6 = .v (.hs 1 zs'.length 0 (Sc.mark had l (cl g.length r)).2.length 1)
  | [], j, had, l, zs, ht, hh, hf, hz, hl => by
    have hlen := ht.nil
    simp only [encIs_length] at hlen
    have hxl := (List.getElem?_eq_some_iff.1 hq).1
    have hgx : (encG g)[x]? = some (rowI q) := by unfold encG; rw [List.getElem?_map, hq]; rfl
    have hix := idx_at hxl
    have hne : encG g ≠ [] := fun e => by
      have := congrArg List.length e
      simp at this
      rw [this] at hxl; simp at hxl
    rw [encR_ne hne]
    refine ⟨?_, zs, Lp.exit ⟨0, fun N _ => ?_⟩ (by simp), ?_⟩
    rotate_left
    · simp -implicitDefEqProofs [b32_0, hgx, hix, rowI, hlen, cl, Sc.mark]
      rfl
    · exact ⟨by simp, by simpa [cl, Sc.mark] using hz, by simpa [cl, Sc.mark] using hl, by simp, by simp, by simp [cl, Sc.mark]⟩
  | y :: r, j, had, l, zs, ht, hh, hf, hz, hl => by
    obtain ⟨a1, a2, a3, a4, a5⟩ := ht.cons
    simp only [encIs_length] at a2 a3
    have hxl := (List.getElem?_eq_some_iff.1 hq).1
    have hgx : (encG g)[x]? = some (rowI q) := by unfold encG; rw [List.getElem?_map, hq]; rfl
    have hix := idx_at hxl
    have hne : encG g ≠ [] := fun e => by
      have := congrArg List.length e
      simp at this
      rw [this] at hxl; simp at hxl
    have hw := wrap_succ (n := j) (by have := ht.len; simp at this; omega)
    have hrow : rowI q = .sl 1 (encIs q.2) := a5 1 q.1
    rw [hrow] at hgx
    rw [encR_ne hne]
    by_cases h0 : 0 ≤ y
    rotate_left
    · have ih := lp32_0 g ng M hg hM x q hq hql r (j + 1) had l zs a4 hh hf hz hl
      have e : cl g.length (y :: r) = cl g.length r := by rw [cl, if_neg (by omega)]
      rw [encR_ne hne] at ih
      rw [e]
      obtain ⟨fr', zs', l1, l2⟩ := ih
      refine ⟨fr', zs', Lp.step ⟨0, fun N hN => ?_⟩ l1, l2⟩
      simp -implicitDefEqProofs [b32_0, hgx, hix, a1, a2, a3, hw, h0]
    by_cases h1 : y < (g.length : Int)
    rotate_left
    · have ih := lp32_0 g ng M hg hM x q hq hql r (j + 1) had l zs a4 hh hf hz hl
      have e : cl g.length (y :: r) = cl g.length r := by rw [cl, if_neg (by omega)]
      rw [encR_ne hne] at ih
      rw [e]
      obtain ⟨fr', zs', l1, l2⟩ := ih
      refine ⟨fr', zs', Lp.step ⟨0, fun N hN => ?_⟩ l1, l2⟩
      simp -implicitDefEqProofs [b32_0, hgx, hix, a1, a2, a3, hw, h0, h1]
    obtain ⟨Y, rfl⟩ : ∃ Y : Nat, y = (Y : Int) := ⟨y.toNat, by omega⟩
    have hY : Y < g.length := by omega
    have hYh : Y < had.length := by omega
    have hiY := idx_at hY
    have hgY := encBo_get hYh
    have e : cl g.length ((Y : Int) :: r) = Y :: cl g.length r := by rw [cl, if_pos ⟨h0, h1⟩]; simp
    rw [e]
    cases hb : had.getD Y false with
    | true =>
      rw [hb] at hgY
      have ih := lp32_0 g ng M hg hM x q hq hql r (j + 1) had l zs a4 hh hf hz hl
      have em : Sc.mark had l (Y :: cl g.length r) = Sc.mark had l (cl g.length r) := by rw [Sc.mark, if_pos hb]
      rw [encR_ne hne] at ih
      rw [em]
      obtain ⟨fr', zs', l1, l2⟩ := ih
      refine ⟨fr', zs', Lp.step ⟨0, fun N hN => ?_⟩ l1, l2⟩
      simp -implicitDefEqProofs [b32_0, hgx, hix, a1, a2, a3, hw, h0, h1, hiY, hgY, hh]
    | false =>
      rw [hb] at hgY
      have hfs := falses_set had Y hb hYh
      have em : Sc.mark had l (Y :: cl g.length r) = Sc.mark (had.set Y true) (Y :: l) (cl g.length r) := by rw [Sc.mark, if_neg (by rw [hb]; simp)]
      rw [em]
      have hll : (encNs l.reverse).length = l.length := by simp
      obtain ⟨zs1, p1, p2, p3⟩ := push_at tiI [.arr false 1 (encBo (had.set Y true)), .arr false 1 zs] 1 zs (encNs l.reverse) (.int .i64 (Y : Int)) (by simp [tiI]) (by simp [tiI]) (by rw [hll]; exact hz) (by rw [hll]; exact hl) (by rw [hll]; simp [tiI]; omega) (by rw [hll]; omega)
      rw [hll] at p1 p2 p3
      unfold tiI at p1
      simp only [List.set_cons_succ, List.set_cons_zero] at p1
      have ih := lp32_0 g ng M hg hM x q hq hql r (j + 1) (had.set Y true) (Y :: l) zs1 a4 (by simpa using hh) (by simp only [List.length_cons]; omega) (by
        rw [List.length_cons, List.reverse_cons, encNs_app, p2]; rfl) (by simpa using p3)
      rw [encR_ne hne] at ih
      obtain ⟨fr', zs', l1, l2⟩ := ih
      simp only [List.length_cons] at l1
      have hset := encBo_set had Y true
      refine ⟨fr', zs', Lp.step ⟨0, fun N hN => ?_⟩ l1, l2⟩
      clear l1 l2
      simp -implicitDefEqProofs [b32_0, hgx, hix, a1, a2, a3, hw, h0, h1, hiY, hgY, hh, hset, p1, -appendH]
end Go.Am.Try
