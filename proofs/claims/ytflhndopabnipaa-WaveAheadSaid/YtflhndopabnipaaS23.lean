/- wave.below: the groups to which each group leads. -/
import Derived.Test.YtflhndopabnipaaS16
import Derived.Test.YtflhndopabnipaaUA
set_option linter.unusedVariables false
set_option linter.unusedSimpArgs false
set_option maxRecDepth 100000
namespace Go.Am.Try
open Go Go.Am.Sc
set_option maxHeartbeats 2000000 in
theorem lp33_0 (X0 : AV) (n : Nat) (hn : n ≤ 2 ^ 30) (G : List (List Nat)) (i : Nat) (l : List Nat) (hi : G[i]? = some l) (hll : l.length ≤ 2 ^ 30) (hlt : ∀ y ∈ l, y < n) : ∀ (r : List Nat) (k : Nat) (o : List Nat), Tail (encNs l) k (encNs r) → o.length = n →
    ∃ fr', Lp ctx [20, 43, 98] [] [0, 3, 4, 5, 21, 22, 23, 28, 29, 30] b33_0 ⟨[(0, .v X0), (3, .v (encR 1 true (encU G))), (4, .v (.hs 0 n 0 n 1)), (5, .v (.int .i64 i)), (21, .v (encR 1 true (encU G))), (22, .v (.int .i64 G.length)), (23, .v (.int .i64 i)), (28, .v (encR 1 true (encNs l))), (29, .v (.int .i64 l.length)), (30, .v (.int .i64 k))], false⟩ [.arr false 1 (encNs o)] (.ex 2) fr' [.arr false 1 (encNs (fills i o r))] ∧ fr'.lk = false ∧ getS fr'.sl 0 = .v X0 ∧ getS fr'.sl 3 = .v (encR 1 true (encU G)) ∧ getS fr'.sl 4 = .v (.hs 0 n 0 n 1) ∧ getS fr'.sl 21 = .v (encR 1 true (encU G)) ∧ getS fr'.sl 22 = .v (.int .i64 G.length) ∧ getS fr'.sl 23 = .v (.int .i64 i) ∧ getS fr'.sl 39 = .u
  | [], k, o, ht, hl => by
    have hlen := ht.nil
    simp only [encNs_length] at hlen
    have hkl : ¬ (k : Int) < (l.length : Int) := by omega
    have e0 : fills i o [] = o := rfl
    rw [e0]
    refine ⟨?_, Lp.exit ⟨0, fun N _ => ?_⟩ (by simp), ?_⟩
    rotate_left
    · simp -implicitDefEqProofs [b33_0, hkl]
      rfl
    · simp
  | y :: r, k, o, ht, hl => by
    have hlk := tail_get ht
    rw [encNs_cons] at ht
    obtain ⟨a1, a2, a3, a4, a5⟩ := ht.cons
    simp only [encNs_length] at a2 a3
    have hkn : k < l.length := (List.getElem?_eq_some_iff.1 hlk).1
    have hw := wrap_succ (n := k) (by unfold big; omega)
    have hy : y < n := hlt y (List.mem_of_getElem? hlk)
    have hiy := idx_at hy
    have hset := encNs_set o y i
    have hinl : (encNs o).length = n := by simpa using hl
    have hgy := encNs_get (l := o) (i := y) (by omega)
    have hrow := a5 1 true
    obtain ⟨fr', l1, l2⟩ := lp33_0 X0 n hn G i l hi hll hlt r (k + 1) (o.set y i) a4 (by simpa using hl)
    have ee : fills i o (y :: r) = fills i (o.set y i) r := rfl
    rw [ee]
    refine ⟨fr', Lp.step ⟨0, fun N hN => ?_⟩ l1, l2⟩
    clear l1 l2
    simp -implicitDefEqProofs [b33_0, hrow, hkn, ↓a1, a3, hw, hiy, hset, hinl, ↓hgy]
set_option maxHeartbeats 2000000 in
theorem lp33_1 (X0 : AV) (n : Nat) (hn : n ≤ 2 ^ 30) (G : List (List Nat)) (P : Nat → Nat → Prop) (hG : Grp n P G) (ho : G.Pairwise fun l m => hd l < hd m) : ∀ (f i : Nat) (o : List Nat), i + f = G.length → o.length = n → (∀ x j m, j < i → G[j]? = some m → x ∈ m → o.getD x 0 = j) →
    ∃ fr' o', Lp ctx [20, 43, 98] [] [0, 3, 4, 21, 22, 23] b33_1 ⟨[(0, .v X0), (3, .v (encR 1 true (encU G))), (4, .v (.hs 0 n 0 n 1)), (21, .v (encR 1 true (encU G))), (22, .v (.int .i64 G.length)), (23, .v (.int .i64 i))], false⟩ [.arr false 1 (encNs o)] (.ex 0) fr' [.arr false 1 (encNs o')] ∧ o'.length = n ∧ (∀ x j m, G[j]? = some m → x ∈ m → o'.getD x 0 = j) ∧ fr'.lk = false ∧ getS fr'.sl 0 = .v X0 ∧ getS fr'.sl 3 = .v (encR 1 true (encU G)) ∧ getS fr'.sl 4 = .v (.hs 0 n 0 n 1) ∧ Hi 40 fr' ∧ getS fr'.sl 9 = .u ∧ getS fr'.sl 10 = .u ∧ getS fr'.sl 2 = .u := by
  intro f
  induction f with
  | zero =>
    intro i o hi hl hin
    have e : i = G.length := by omega
    subst e
    refine ⟨?_, o, Lp.exit ⟨0, fun N _ => ?_⟩ (by simp), ?_⟩
    rotate_left
    · simp -implicitDefEqProofs [b33_1]
      rfl
    · exact ⟨hl, fun x j m hj hx => hin x j m (List.getElem?_eq_some_iff.1 hj).1 hj hx, by simp, by simp, by simp, by simp, hi_of (by simp), by simp, by simp, by simp⟩
  | succ f ih =>
    intro i o hi hl hin
    obtain ⟨l, hgl⟩ : ∃ l, G[i]? = some l := ⟨_, List.getElem?_eq_getElem (by omega)⟩
    have hmem := List.mem_of_getElem? hgl
    have hGl := Grp.len_le hG ho
    have hll := hGl.2 l hmem
    have hlt := hG.lt l hmem
    have hUne : encU G ≠ [] := fun e => by
      have := congrArg List.length e
      simp at this
      rw [this] at hgl; simp at hgl
    obtain ⟨fr1, a1, b2, b3, b4, b5, b6, b7, b8, b9⟩ := lp33_0 X0 n hn G i l hgl (by omega) hlt l 0 o (Tail.all _) hl
    obtain ⟨kk, hk⟩ := a1.den
    obtain ⟨fr', o', l1, l2⟩ := ih (i + 1) (fills i o l) (by omega) (by rw [fills_len]; exact hl) (fun x j m hj hm hx => by
      rw [fills_get i l o x (fun y hy => by rw [hl]; exact hlt y hy)]
      by_cases hji : j = i
      · subst hji
        rw [hm] at hgl
        rw [if_pos (by rw [← Option.some.inj hgl]; exact hx)]
      · rw [if_neg (fun hxl => Grp.dis hG ho (show j < i by omega) hm hgl hx hxl)]
        exact hin x j m (by omega) hm hx)
    have hgi := encU_at hgl
    rw [encR_ne hUne] at l1 l2 hk b4 b6 ⊢
    refine ⟨fr', o', Lp.step ⟨kk, fun N hN => ?_⟩ l1, l2⟩
    have hk := hk N hN
    simp only [Int.cast_ofNat_Int] at hk
    clear l1 l2 ih a1
    have hil : i < G.length := by omega
    have hix := idx_at hil
    have hw := wrap_succ (n := i) (by unfold big; omega)
    simp -implicitDefEqProofs [b33_1, hil, hix, ↓hgi, hw, hk, b2, b3, b4, b5, b6, b7, b8, b9]
def T62 : Tab ctx 62 (Nat × Nat) Bool where
  tk := ⟨.arr 2 3, 2, 16, .agg [.int .i64 0, .int .i64 0], [.int .i64, .int .i64]⟩
  te := ⟨.bool, 1, 1, .bool false, [.bool]⟩
  ek := fun k => .agg [.int .i64 (k.1 : Int), .int .i64 (k.2 : Int)]
  ev := .bool
  z := false
  map := by rfl
  key := fun k => rfl
  kfit := fun k => rfl
  eq := fun k x => eqPair k x
  vfit := fun v => rfl
  zero := rfl
def EP (L : List (List Nat)) (σ : H) : Prop := ∃ l, σ[1]? = some (.map (T62.enc l)) ∧ ∀ a b, (getT l (a, b)).getD false = decide (b ∈ outs L a)
theorem EP.look {L : List (List Nat)} {σ : H} (h : EP L σ) (a b : Nat) : lookupA ctx 62 (.map 1) (.agg [.int .i64 (a : Int), .int .i64 (b : Int)]) false σ = some (.bool (decide (b ∈ outs L a)), σ) := by
  obtain ⟨l, h1, h2⟩ := h
  have := T62.look h1 (a, b)
  have e : T62.z = false := rfl
  rw [e, h2] at this
  exact this
theorem EP.up {L : List (List Nat)} {σ : H} (h : EP L σ) {a : Nat} (b : Nat) (ha : a < L.length) : ∃ σ', updateA ctx 62 (.map 1) (.agg [.int .i64 (a : Int), .int .i64 (b : Int)]) (.bool true) σ = some ((), σ') ∧ EP (L.set a (outs L a ++ [b])) σ' ∧ σ'.length = σ.length ∧ ∀ j, j ≠ 1 → σ'[j]? = σ[j]? := by
  obtain ⟨l, h1, h2⟩ := h
  refine ⟨_, T62.up h1 (a, b) true, ⟨putT (a, b) true l, ?_, fun x y => ?_⟩, by simp, fun j hj => List.getElem?_set_ne (Ne.symm hj)⟩
  · have := (List.getElem?_eq_some_iff.1 h1).1
    simp [this]
  · rw [getT_put, outs_set ha]
    by_cases hx : a = x
    · subst hx
      rw [if_pos rfl]
      by_cases hy : y = b
      · subst hy; simp
      · have : ¬ ((a, y) = (a, b)) := by simp [hy]
        rw [if_neg this, h2]
        simp [hy]
    · have : ¬ ((x, y) = (a, b)) := by simp; intro e; exact absurd e.symm hx
      rw [if_neg this, h2, if_neg hx]
theorem EP.keep {L : List (List Nat)} {σ σ' : H} (h : EP L σ) (hk : σ'[1]? = σ[1]?) : EP L σ' := by
  obtain ⟨l, h1, h2⟩ := h
  exact ⟨l, by rw [hk]; exact h1, h2⟩
structure BI (K : Nat) (o : List Nat) (L : List (List Nat)) (cells : List AV) (σ : H) : Prop where
  nd : NdL K L
  o : σ[0]? = some (.arr false 1 (encNs o))
  ep : EP L σ
  tb : Tb σ 2 cells L
  n0 : ¬ Tb.Owns 2 cells L 0
  n1 : ¬ Tb.Owns 2 cells L 1
theorem outs_at' {L : List (List Nat)} {a : Nat} (h : a < L.length) : L[a]? = some (outs L a) := by
  unfold outs
  rw [List.getD_eq_getElem?_getD, List.getElem?_eq_getElem h]; rfl
theorem BI.push {K : Nat} {o : List Nat} {L : List (List Nat)} {cells : List AV} {σ : H} (h : BI K o L cells σ) (hK : K ≤ 2 ^ 30) {a b : Nat} (ha : a < K) (hb : b < K) (hn : b ∉ outs L a) :
    ∃ q q' σ1 σ2, updateA ctx 62 (.map 1) (.agg [.int .i64 (a : Int), .int .i64 (b : Int)]) (.bool true) σ = some ((), σ1) ∧ σ1[0]? = some (.arr false 1 (encNs o)) ∧ σ1[2]? = some (.arr false 1 cells) ∧ cells[a]? = some (rowV q (outs L a).length 1) ∧
      appendH tiI (rowV q (outs L a).length 1) [.int .i64 (b : Int)] σ1 = some (rowV q' ((outs L a).length + 1) 1, σ2) ∧ σ2[2]? = some (.arr false 1 cells) ∧ BI K o (L.set a (outs L a ++ [b])) (cells.set a (rowV q' ((outs L a).length + 1) 1)) (σ2.set 2 (.arr false 1 (cells.set a (rowV q' ((outs L a).length + 1) 1)))) := by
  obtain ⟨nd, ho, ep, tb, n0, n1⟩ := h
  have haL : a < L.length := by rw [nd.1]; exact ha
  obtain ⟨σ1, u1, u2, u3, u4⟩ := ep.up b haL
  have tb1 : Tb σ1 2 cells L := tb.keep (fun j hj hO => u4 j (fun e => n1 (by rw [← e]; exact hO))) (by omega)
  have hal := outs_at' haL
  have hle := nd.le a
  obtain ⟨q, q', σ2, c', p1, p2, p3, p4, p5, p6, p7⟩ := tb1.push hal b (by omega)
  subst p3
  have l0 : 0 < σ1.length := by rw [u3]; exact (List.getElem?_eq_some_iff.1 ho).1
  have l1 : 1 < σ1.length := by
    obtain ⟨l, h1, _⟩ := u2
    exact (List.getElem?_eq_some_iff.1 h1).1
  obtain ⟨k1, k2⟩ := p6 0 l0 n0
  obtain ⟨k3, k4⟩ := p6 1 l1 n1
  refine ⟨q, q', σ1, σ2, u1, by rw [u4 0 (by omega)]; exact ho, tb1.tab, p1, p2, p4, ⟨nd.push ha hb hn, ?_, u2.keep ?_, p5, k2, k4⟩⟩
  · rw [List.getElem?_set_ne (by omega), k1, u4 0 (by omega)]; exact ho
  · rw [List.getElem?_set_ne (by omega), k3]
set_option maxHeartbeats 4000000 in
theorem lp33_2 (g : List (Bool × List Int)) (ng : Bool) (hg : g.length ≤ 2 ^ 30) (K : Nat) (hK : K ≤ 2 ^ 30) (o : List Nat) (ho : o.length = g.length) (hoK : ∀ x, x < g.length → o.getD x 0 < K) (x : Nat) (hx : x < g.length) (q : Bool × List Int) (hql : q.2.length ≤ 2 ^ 30) : ∀ (r : List Int) (j : Nat) (L : List (List Nat)) (cells : List AV) (σ : H), Tail (encIs q.2) j (encIs r) → BI K o L cells σ →
    ∃ fr' cells' σ', Lp ctx [20, 43, 98] [] [0, 4, 9, 10, 11, 44, 45, 46, 51, 52, 53] b33_2 ⟨[(0, .v (encR 1 ng (encG g))), (4, .v (.hs 0 g.length 0 g.length 1)), (9, .v (.map 1)), (10, .v (.hs 2 K 0 K 1)), (11, .v (.int .i64 x)), (44, .v (encR 1 ng (encG g))), (45, .v (.int .i64 g.length)), (46, .v (.int .i64 x)), (51, .v (rowI q)), (52, .v (.int .i64 q.2.length)), (53, .v (.int .i64 j))], false⟩ σ
      (.ex 6) fr' σ' ∧ BI K o (blw (fun x => o.getD x 0) L ((cl g.length r).map fun y => (x, y))) cells' σ' ∧
      fr'.lk = false ∧ getS fr'.sl 0 = .v (encR 1 ng (encG g)) ∧ getS fr'.sl 4 = .v (.hs 0 g.length 0 g.length 1) ∧ getS fr'.sl 9 = .v (.map 1) ∧ getS fr'.sl 10 = .v (.hs 2 K 0 K 1) ∧ getS fr'.sl 44 = .v (encR 1 ng (encG g)) ∧ getS fr'.sl 45 = .v (.int .i64 g.length) ∧ getS fr'.sl 46 = .v (.int .i64 x) ∧ getS fr'.sl 101 = .u
  | [], j, L, cells, σ, ht, hI => by
    have hlen := ht.nil
    simp only [encIs_length] at hlen
    refine ⟨?_, cells, σ, Lp.exit ⟨0, fun N _ => ?_⟩ (by simp), ?_⟩
    rotate_left
    · simp -implicitDefEqProofs [b33_2, hlen]
      rfl
    · exact ⟨hI, by simp, by simp, by simp, by simp, by simp, by simp, by simp, by simp, by simp⟩
  | y :: r, j, L, cells, σ, ht, hI => by
    obtain ⟨a1, a2, a3, a4, a5⟩ := ht.cons
    simp only [encIs_length] at a2 a3
    have hw := wrap_succ (n := j) (by have := ht.len; simp at this; unfold big; omega)
    have hrow : rowI q = .sl 1 (encIs q.2) := a5 1 q.1
    by_cases h0 : 0 ≤ y
    rotate_left
    · have ih := lp33_2 g ng hg K hK o ho hoK x hx q hql r (j + 1) L cells σ a4 hI
      have e : cl g.length (y :: r) = cl g.length r := by rw [cl, if_neg (by omega)]
      have hn : y < 0 := by omega
      rw [hrow] at ih ⊢
      rw [e]
      obtain ⟨fr', cells', σ', l1, l2⟩ := ih
      refine ⟨fr', cells', σ', Lp.step ⟨0, fun N hN => ?_⟩ l1, l2⟩
      clear l1 l2
      simp -implicitDefEqProofs [b33_2, a1, a2, a3, hw, hn]
    have hn : ¬ y < 0 := by omega
    by_cases h1 : y < (g.length : Int)
    rotate_left
    · have ih := lp33_2 g ng hg K hK o ho hoK x hx q hql r (j + 1) L cells σ a4 hI
      have e : cl g.length (y :: r) = cl g.length r := by rw [cl, if_neg (by omega)]
      have h1' : (g.length : Int) ≤ y := by omega
      rw [hrow] at ih ⊢
      rw [e]
      obtain ⟨fr', cells', σ', l1, l2⟩ := ih
      refine ⟨fr', cells', σ', Lp.step ⟨0, fun N hN => ?_⟩ l1, l2⟩
      clear l1 l2
      simp -implicitDefEqProofs [b33_2, a1, a2, a3, hw, hn, h1']
    have h1' : ¬ (g.length : Int) ≤ y := by omega
    obtain ⟨Y, rfl⟩ : ∃ Y : Nat, y = (Y : Int) := ⟨y.toNat, by omega⟩
    have hY : Y < g.length := by omega
    have e : cl g.length ((Y : Int) :: r) = Y :: cl g.length r := by rw [cl, if_pos ⟨h0, h1⟩]; simp
    rw [e, List.map_cons, blw]
    obtain ⟨A, hA⟩ : ∃ A, A = o.getD x 0 := ⟨_, rfl⟩
    obtain ⟨B, hB⟩ : ∃ B, B = o.getD Y 0 := ⟨_, rfl⟩
    have hAK : A < K := by rw [hA]; exact hoK x hx
    have hBK : B < K := by rw [hB]; exact hoK Y hY
    have hox : (encNs o)[x]? = some (.int .i64 (A : Int)) := by rw [hA]; exact encNs_get (by omega)
    have hoy : (encNs o)[Y]? = some (.int .i64 (B : Int)) := by rw [hB]; exact encNs_get (by omega)
    have hol : (encNs o).length = g.length := by simpa using ho
    have hix := idx_at hx
    have hiy := idx_at hY
    have g0 := hI.o
    have hgY : ¬ g.length ≤ Y := by omega
    have hY0 : ¬ (Y : Int) < 0 := by omega
    simp only [← hA, ← hB]
    by_cases hAB : A = B
    · rw [if_neg (by intro h; exact h.1 hAB)]
      have ih := lp33_2 g ng hg K hK o ho hoK x hx q hql r (j + 1) L cells σ a4 hI
      have hbn : ((A : Int) != (B : Int)) = false := by rw [hAB]; simp
      rw [hrow] at ih ⊢
      obtain ⟨fr', cells', σ', l1, l2⟩ := ih
      refine ⟨fr', cells', σ', Lp.step ⟨0, fun N hN => ?_⟩ l1, l2⟩
      clear l1 l2
      simp -implicitDefEqProofs [b33_2, a1, a2, a3, hw, hY0, hgY, g0, ↓hox, ↓hoy, hol, hix, hiy, hbn, -bne_iff_ne]
    have hbn : ((A : Int) != (B : Int)) = true := by
      rw [bne_iff_ne]; omega
    have hlk := hI.ep.look A B
    by_cases hm : B ∈ outs L A
    · rw [if_neg (by intro h; exact h.2 hm)]
      have ih := lp33_2 g ng hg K hK o ho hoK x hx q hql r (j + 1) L cells σ a4 hI
      simp only [hm, decide_true] at hlk
      rw [hrow] at ih ⊢
      obtain ⟨fr', cells', σ', l1, l2⟩ := ih
      refine ⟨fr', cells', σ', Lp.step ⟨0, fun N hN => ?_⟩ l1, l2⟩
      clear l1 l2
      simp -implicitDefEqProofs [b33_2, a1, a2, a3, hw, hY0, hgY, g0, ↓hox, ↓hoy, hol, hix, hiy, hbn, hlk, -bne_iff_ne]
    · rw [if_pos ⟨hAB, hm⟩]
      simp only [hm, decide_false] at hlk
      obtain ⟨qa, qb, σ1, σ2, u1, u2, u3, u4, u5, u6, u7⟩ := hI.push hK hAK hBK hm
      unfold tiI at u5
      have ih := lp33_2 g ng hg K hK o ho hoK x hx q hql r (j + 1) _ _ _ a4 u7
      rw [hrow] at ih ⊢
      obtain ⟨fr', cells', σ', l1, l2⟩ := ih
      refine ⟨fr', cells', σ', Lp.step ⟨0, fun N hN => ?_⟩ l1, l2⟩
      have hcl : cells.length = K := by rw [hI.tb.len, hI.nd.1]
      have hia := idx_at hAK
      obtain ⟨ML, hML⟩ : ∃ z, z = (outs L A).length := ⟨_, rfl⟩
      have hcf : ∀ q m, (rowV q m 1).fits ⟨.slice 3, 1, 24, .nil, []⟩ = true := fun q m => by cases m <;> rfl
      rw [← hML] at u4 u5
      clear l1 l2
      simp -implicitDefEqProofs [b33_2, d33_2, a1, a2, a3, hw, hY0, hgY, g0, ↓hox, ↓hoy, hol, hix, hiy, hbn, hlk, u1, u2, u3, u4, u5, u6, hcl, hia, hcf, ← hML, -appendH, -bne_iff_ne]
set_option maxHeartbeats 2000000 in
theorem lp33_3 (g : List (Bool × List Int)) (ng : Bool) (hg : g.length ≤ 2 ^ 30) (hr : ∀ q ∈ g, q.2.length ≤ 2 ^ 30) (K : Nat) (hK : K ≤ 2 ^ 30) (o : List Nat) (ho : o.length = g.length) (hoK : ∀ x, x < g.length → o.getD x 0 < K) : ∀ (r : List (Bool × List Int)) (i : Nat) (L : List (List Nat)) (cells : List AV) (σ : H), Tail (encG g) i (encG r) → (∀ q ∈ r, q.2.length ≤ 2 ^ 30) → BI K o L cells σ →
    ∃ fr' cells' σ', Lp ctx [20, 43, 98] [] [0, 4, 9, 10, 44, 45, 46] b33_3 ⟨[(0, .v (encR 1 ng (encG g))), (4, .v (.hs 0 g.length 0 g.length 1)), (9, .v (.map 1)), (10, .v (.hs 2 K 0 K 1)), (44, .v (encR 1 ng (encG g))), (45, .v (.int .i64 g.length)), (46, .v (.int .i64 i))], false⟩ σ
      (.ex 4) fr' σ' ∧ BI K o (blw (fun x => o.getD x 0) L (prs (r.map fun q => cl g.length q.2) i)) cells' σ' ∧ fr'.lk = false ∧ getS fr'.sl 10 = .v (.hs 2 K 0 K 1) ∧ getS fr'.sl 2 = .u ∧ getS fr'.sl 102 = .u
  | [], i, L, cells, σ, ht, hs, hI => by
    have hlen := ht.nil
    simp only [encG_length] at hlen
    refine ⟨?_, cells, σ, Lp.exit ⟨0, fun N _ => ?_⟩ (by simp), ?_⟩
    rotate_left
    · simp -implicitDefEqProofs [b33_3, hlen]
      rfl
    · exact ⟨hI, by simp, by simp, by simp, by simp⟩
  | q :: r, i, L, cells, σ, ht, hs, hI => by
    obtain ⟨a1, a2, a3, a4, a5⟩ := ht.cons
    simp only [encG_length] at a2 a3
    have hi : i < g.length := by omega
    have hw := wrap_succ (n := i) (by unfold big; omega)
    have hG := a5 1 ng
    obtain ⟨fr1, cells1, σ1, b1, b2, b3, b4, b5, b6, b7, b8, b9, b10, b11⟩ := lp33_2 g ng hg K hK o ho hoK i hi q (hs q (by simp)) q.2 0 L cells σ (Tail.all _) hI
    obtain ⟨k1, hk1⟩ := b1.den
    obtain ⟨fr', cells', σ', l1, l2⟩ := lp33_3 g ng hg hr K hK o ho hoK r (i + 1) _ cells1 σ1 a4 (fun z hz => hs z (by simp [hz])) b2
    rw [hG] at l1 hk1 b4 b8 ⊢
    rw [List.map_cons, prs, blw_app]
    refine ⟨fr', cells', σ', Lp.step ⟨k1, fun N hN => ?_⟩ l1, l2⟩
    have hk1 := hk1 N hN
    simp only [Int.cast_ofNat_Int] at hk1
    have hqn : lenM (rowI q) = pureM (.int .i64 q.2.length) := by unfold rowI; simp
    have hqo : ∀ e, lenOk (.slice e) (rowI q) = true := fun e => by unfold rowI; simp
    clear l1 l2 b1 b2
    simp -implicitDefEqProofs [b33_3, a1, a2, a3, hw, hk1, b3, b4, b5, b6, b7, b8, b9, b10, b11, hqn, hqo]
theorem outG_map (g : List (Bool × List Int)) : outG g = g.map fun q => cl g.length q.2 := rfl
theorem isOf_row {n : Nat} {P : Nat → Nat → Prop} {G : List (List Nat)} (o : List Nat) (h : ∀ x j m, G[j]? = some m → x ∈ m → o.getD x 0 = j) : IsOf G fun x => o.getD x 0 := fun x i l hi hx => h x i l hi hx
set_option maxHeartbeats 2000000 in
theorem below_ans (g : List (Bool × List Int)) (ng : Bool) (hg : g.length ≤ 2 ^ 30) (hr : ∀ q ∈ g, q.2.length ≤ 2 ^ 30) : ∃ G L o, Grp g.length (Rch (Ed (outG g))) G ∧ (G.Pairwise fun l m => hd l < hd m) ∧ IsOf G o ∧ L = blw o (List.replicate G.length []) (prs (outG g) 0) ∧ Ans ctx 33 [encR 1 ng (encG g)] (.sl 1 (encU L)) := by
  obtain ⟨G, g1, g2, ko, hof⟩ := of_ans g ng hg hr
  have hGl := Grp.len_le g1 g2
  obtain ⟨fr1, o, a1, a2, a3, a4, a5, a6, a7, a8, a9, a10, a11⟩ := lp33_1 (encR 1 ng (encG g)) g.length hg G _ g1 g2 G.length 0 (List.replicate g.length 0) (by omega) (by simp) (fun x j m hj => by omega)
  obtain ⟨k1, hk1⟩ := a1.den
  have hO : IsOf G fun x => o.getD x 0 := fun x i l hi hx => a3 x i l hi hx
  have hT : Tb [.arr false 1 (encNs o), .map [], .arr false 1 (List.replicate G.length .nil)] 2 (List.replicate G.length .nil) (List.replicate G.length []) := Tb.make [.arr false 1 (encNs o), .map []] G.length
  have hno : ∀ j, j ≠ 2 → ¬ Tb.Owns 2 (List.replicate G.length .nil) (List.replicate G.length []) j := fun j hj h => by
    rcases h with h | ⟨i, l, h1, h2, _⟩
    · exact hj h
    · rw [List.getElem?_replicate] at h1
      split at h1
      · simp at h1; exact h2 h1
      · cases h1
  have e0 : ∀ a, outs (List.replicate G.length []) a = [] := fun a => by
    unfold outs
    rw [List.getD_eq_getElem?_getD, List.getElem?_replicate]
    split <;> rfl
  have hI : BI G.length o (List.replicate G.length []) (List.replicate G.length .nil) [.arr false 1 (encNs o), .map [], .arr false 1 (List.replicate G.length .nil)] :=
    ⟨⟨by simp, fun a => by rw [e0]; simp⟩, rfl, ⟨[], rfl, fun a b => by rw [e0]; simp [getT, findT]⟩, hT, hno 0 (by omega), hno 1 (by omega)⟩
  obtain ⟨fr', cells', σ', l1, l2, l3, l4, l5, l6⟩ := lp33_3 g ng hg hr G.length (by omega) o a2 (fun x hx => hO.lt g1 hx) g 0 _ _ _ (Tail.all _) hr hI
  rw [← outG_map] at l2
  obtain ⟨k2, hk2⟩ := l1.den
  refine ⟨G, _, fun x => o.getD x 0, g1, g2, hO, rfl, ?_⟩
  obtain ⟨ns, hsn⟩ := l2.tb.snap (n := G.length) l2.nd.1 198
  refine Ans.fn (rs := []) (σ' := σ') fn33_ (by simp [AV.noRefs]) ⟨ko + k1 + k2, fun N hN => ?_⟩ hsn
  have hof := hof N (by omega)
  have hk1 := hk1 N (by omega)
  have hk2 := hk2 N (by omega)
  simp only [Int.cast_ofNat_Int] at hk1 hk2
  have hz : encNs (List.replicate g.length 0) = List.replicate g.length (.int .i64 0) := by simp [encNs]
  rw [hz] at hk1
  have hbg : g.length * 8 ≤ 35184372088832 ∧ g.length ≤ 35184372088832 := by omega
  have hbg2 : G.length * 24 ≤ 35184372088832 ∧ G.length ≤ 35184372088832 := by omega
  have hf1 := fitAll_replicate ⟨.int .i64, 1, 8, .int .i64 0, [.int .i64]⟩ (.int .i64 0) rfl g.length
  have hf2 := fitAll_replicate ⟨.slice 3, 1, 24, .nil, []⟩ .nil rfl G.length
  have j40 := a8 40 (by omega)
  have j41 := a8 41 (by omega)
  have j42 := a8 42 (by omega)
  have j43 := a8 43 (by omega)
  have j44 := a8 44 (by omega)
  have j45 := a8 45 (by omega)
  have j46 := a8 46 (by omega)
  clear a1 l1 l2 hI hT hsn
  simp -implicitDefEqProofs [i33, c33, hof, hk1, hk2, hbg, hbg2, hf1, hf2, a4, a5, a6, a7, a9, a10, a11, j40, j41, j42, j43, j44, j45, j46, l3, l4, l5, l6]
end Go.Am.Try
