/- WaveAhead. -/
import Derived.Test.YtflhndopabnipaaS29
set_option linter.unusedVariables false
set_option linter.unusedSimpArgs false
set_option maxRecDepth 100000
namespace Go.Am.Try
open Go Go.Am.Sc
theorem cl_self {n : Nat} : ∀ {l : List Nat}, (∀ y ∈ l, y < n) → cl n (l.map fun (n : Nat) => (n : Int)) = l
  | [], _ => rfl
  | y :: l, h => by
    have hy := h y (by simp)
    rw [List.map_cons, cl, if_pos ⟨by omega, by omega⟩, cl_self fun z hz => h z (by simp [hz])]
    simp
theorem outG_toI {k b : Nat} {Gr : List (List Nat)} (h : OkT k b Gr) : outG (toI Gr) = Gr := by
  unfold outG
  rw [toI_length]
  unfold toI
  rw [List.map_map]
  have : ∀ l ∈ Gr, ((fun q : Bool × List Int => cl Gr.length q.2) ∘ fun l : List Nat => (true, l.map fun (n : Nat) => (n : Int))) l = l := fun l hl => by
    simp only [Function.comp]
    exact cl_self fun y hy => by rw [h.1]; exact (h.2 l hl).2 y hy
  exact (List.map_congr_left this).trans (by simp)
set_option maxHeartbeats 2000000 in
theorem lp8_0 (X5 X7 : AV) (n : Nat) (hn : n ≤ 2 ^ 30) (G : List (List Nat)) (i : Nat) (l : List Nat) (hi : G[i]? = some l) (hll : l.length ≤ 2 ^ 30) (hlt : ∀ y ∈ l, y < n) : ∀ (r : List Nat) (k : Nat) (o : List Nat), Tail (encNs l) k (encNs r) → o.length = n →
    ∃ fr', Lp ctx [30] [] [5, 6, 7, 8, 9, 10] b8_0 ⟨[(5, .v X5), (6, .v (.sl 1 (encU G))), (7, .v X7), (8, .v (.hs 0 n 0 n 1)), (9, .v (.int .i64 i)), (10, .v (.int .i64 k))], false⟩ [.arr false 1 (encNs o)] (.ex 2) fr' [.arr false 1 (encNs (fills i o r))] ∧ fr'.lk = false ∧ getS fr'.sl 5 = .v X5 ∧ getS fr'.sl 6 = .v (.sl 1 (encU G)) ∧ getS fr'.sl 7 = .v X7 ∧ getS fr'.sl 8 = .v (.hs 0 n 0 n 1) ∧ getS fr'.sl 9 = .v (.int .i64 i) ∧ getS fr'.sl 35 = .u ∧ getS fr'.sl 36 = .u
  | [], k, o, ht, hl => by
    have hlen := ht.nil
    simp only [encNs_length] at hlen
    have hgi := encU_at hi
    have hix := idx_at (List.getElem?_eq_some_iff.1 hi).1
    have hkl : ¬ (k : Int) < (l.length : Int) := by omega
    have e0 : fills i o [] = o := rfl
    rw [e0]
    refine ⟨?_, Lp.exit ⟨0, fun N _ => ?_⟩ (by simp), ?_⟩
    rotate_left
    · simp -implicitDefEqProofs [b8_0, hgi, hix, hkl]
      rfl
    · simp
  | y :: r, k, o, ht, hl => by
    have hlk := tail_get ht
    rw [encNs_cons] at ht
    obtain ⟨a1, a2, a3, a4, a5⟩ := ht.cons
    simp only [encNs_length] at a2 a3
    have hkn : k < l.length := (List.getElem?_eq_some_iff.1 hlk).1
    have hw := wrap_succ (n := k) (by unfold big; omega)
    have hy : y < n := hlt y (List.mem_of_getElem? hlk)
    have hgi := encU_at hi
    have hrow : encR 1 true (encNs l) = .sl 1 (encNs l) := a5 1 true
    rw [hrow] at hgi
    have hix := idx_at (List.getElem?_eq_some_iff.1 hi).1
    have hiy := idx_at hy
    have hset := encNs_set o y i
    have hinl : (encNs o).length = n := by simpa using hl
    have hgy := encNs_get (l := o) (i := y) (by omega)
    obtain ⟨fr', l1, l2⟩ := lp8_0 X5 X7 n hn G i l hi hll hlt r (k + 1) (o.set y i) a4 (by simpa using hl)
    have ee : fills i o (y :: r) = fills i (o.set y i) r := rfl
    rw [ee]
    refine ⟨fr', Lp.step ⟨0, fun N hN => ?_⟩ l1, l2⟩
    clear l1 l2
    simp -implicitDefEqProofs [b8_0, ↓hgi, hix, hkn, ↓a1, a3, hw, hiy, hset, hinl, ↓hgy]
set_option maxHeartbeats 2000000 in
theorem lp8_1 (X5 X7 : AV) (n : Nat) (hn : n ≤ 2 ^ 30) (G : List (List Nat)) (P : Nat → Nat → Prop) (hG : Grp n P G) (ho : G.Pairwise fun l m => hd l < hd m) : ∀ (f i : Nat) (o : List Nat), i + f = G.length → o.length = n → (∀ x j m, j < i → G[j]? = some m → x ∈ m → o.getD x 0 = j) →
    ∃ fr' o', Lp ctx [30] [] [5, 6, 7, 8, 9] b8_1 ⟨[(5, .v X5), (6, .v (encR 1 true (encU G))), (7, .v X7), (8, .v (.hs 0 n 0 n 1)), (9, .v (.int .i64 i))], false⟩ [.arr false 1 (encNs o)] (.ex 0) fr' [.arr false 1 (encNs o')] ∧ o'.length = n ∧ (∀ x j m, G[j]? = some m → x ∈ m → o'.getD x 0 = j) ∧ fr'.lk = false ∧ getS fr'.sl 5 = .v X5 ∧ getS fr'.sl 6 = .v (encR 1 true (encU G)) ∧ getS fr'.sl 7 = .v X7 ∧ getS fr'.sl 8 = .v (.hs 0 n 0 n 1) ∧ getS fr'.sl 11 = .u ∧ getS fr'.sl 4 = .u := by
  intro f
  induction f with
  | zero =>
    intro i o hi hl hin
    have e : i = G.length := by omega
    subst e
    refine ⟨?_, o, Lp.exit ⟨0, fun N _ => ?_⟩ (by simp), ?_⟩
    rotate_left
    · simp -implicitDefEqProofs [b8_1]
      rfl
    · exact ⟨hl, fun x j m hj hx => hin x j m (List.getElem?_eq_some_iff.1 hj).1 hj hx, by simp, by simp, by simp, by simp, by simp, by simp, by simp⟩
  | succ f ih =>
    intro i o hi hl hin
    obtain ⟨l, hgl⟩ : ∃ l, G[i]? = some l := ⟨_, List.getElem?_eq_getElem (by omega)⟩
    have hmem := List.mem_of_getElem? hgl
    have hGl := Grp.len_le hG ho
    have hll := hGl.2 l hmem
    have hlt := hG.lt l hmem
    have hUne : encU G ≠ [] := fun e => by
      have := congrArg List.length e
      simp at this
      rw [this] at hgl; simp at hgl
    obtain ⟨fr1, a1, b2, b3, b4, b5, b6, b7, b8, b9⟩ := lp8_0 X5 X7 n hn G i l hgl (by omega) hlt l 0 o (Tail.all _) hl
    obtain ⟨kk, hk⟩ := a1.den
    obtain ⟨fr', o', l1, l2⟩ := ih (i + 1) (fills i o l) (by omega) (by rw [fills_len]; exact hl) (fun x j m hj hm hx => by
      rw [fills_get i l o x (fun y hy => by rw [hl]; exact hlt y hy)]
      by_cases hji : j = i
      · subst hji
        rw [hm] at hgl
        rw [if_pos (by rw [← Option.some.inj hgl]; exact hx)]
      · rw [if_neg (fun hxl => Grp.dis hG ho (show j < i by omega) hm hgl hx hxl)]
        exact hin x j m (by omega) hm hx)
    rw [encR_ne hUne] at l1 l2 ⊢
    refine ⟨fr', o', Lp.step ⟨kk, fun N hN => ?_⟩ l1, l2⟩
    have hk := hk N hN
    simp only [Int.cast_ofNat_Int] at hk
    clear l1 l2 ih a1
    have hil : i < G.length := by omega
    have hw := wrap_succ (n := i) (by unfold big; omega)
    simp -implicitDefEqProofs [b8_1, hil, hw, hk, b2, b3, b4, b5, b6, b7, b8, b9]
def blF (o : Nat → Nat) (lv : Nat → Nat) (i : Nat) : List Nat → Bool → Bool
  | [], b => b
  | y :: r, b => if o y = i then blF o lv i r b else blF o lv i r (b || decide (lv (o y) + 1 = lv i))
theorem blF_iff (o : Nat → Nat) (lv : Nat → Nat) (i : Nat) : ∀ (r : List Nat) (b : Bool), blF o lv i r b = true ↔ b = true ∨ ∃ y ∈ r, o y ≠ i ∧ lv (o y) + 1 = lv i
  | [], b => by simp [blF]
  | y :: r, b => by
    unfold blF
    by_cases h : o y = i
    · rw [if_pos h, blF_iff o lv i r b]
      constructor
      · rintro (k | ⟨z, h1, h2⟩)
        · exact .inl k
        · exact .inr ⟨z, by simp [h1], h2⟩
      · rintro (k | ⟨z, h1, h2⟩)
        · exact .inl k
        · rcases List.mem_cons.1 h1 with rfl | h1
          · exact absurd h h2.1
          · exact .inr ⟨z, h1, h2⟩
    · rw [if_neg h, blF_iff o lv i r]
      simp only [Bool.or_eq_true, decide_eq_true_eq]
      constructor
      · rintro ((k | k) | ⟨z, h1, h2⟩)
        · exact .inl k
        · exact .inr ⟨y, by simp, h, k⟩
        · exact .inr ⟨z, by simp [h1], h2⟩
      · rintro (k | ⟨z, h1, h2⟩)
        · exact .inl (.inl k)
        · rcases List.mem_cons.1 h1 with rfl | h1
          · exact .inl (.inr h2.2)
          · exact .inr ⟨z, h1, h2⟩
def bl3 (o : Nat → Nat) (lv : Nat → Nat) (Gr : List (List Nat)) (i : Nat) : List Nat → Bool → Bool
  | [], b => b
  | x :: r, b => bl3 o lv Gr i r (blF o lv i (outs Gr x) b)
theorem bl3_iff (o : Nat → Nat) (lv : Nat → Nat) (Gr : List (List Nat)) (i : Nat) : ∀ (r : List Nat) (b : Bool), bl3 o lv Gr i r b = true ↔ b = true ∨ ∃ x ∈ r, ∃ y ∈ outs Gr x, o y ≠ i ∧ lv (o y) + 1 = lv i
  | [], b => by simp [bl3]
  | x :: r, b => by
    rw [bl3, bl3_iff o lv Gr i r, blF_iff]
    constructor
    · rintro ((k | ⟨y, k⟩) | ⟨z, h1, h2⟩)
      · exact .inl k
      · exact .inr ⟨x, by simp, y, k⟩
      · exact .inr ⟨z, by simp [h1], h2⟩
    · rintro (k | ⟨z, h1, h2⟩)
      · exact .inl (.inl k)
      · rcases List.mem_cons.1 h1 with rfl | h1
        · exact .inl (.inr h2)
        · exact .inr ⟨z, h1, h2⟩
set_option maxHeartbeats 4000000 in
theorem lp8_2 (X5 X6 X13 : AV) (n : Nat) (hn : n ≤ 2 ^ 20) (o : List Nat) (hol : o.length = n) (lv : List Nat) (K : Nat) (hlv : lv.length = K) (hK : K ≤ 2 ^ 20) (hoK : ∀ x, x < n → o.getD x 0 < K) (hb : ∀ a, lv.getD a 0 < 2 ^ 20) (i : Nat) (hi : i < K) (row : List Nat) (hrl : row.length ≤ 2 ^ 20) (hrow : ∀ y ∈ row, y < n) (hdn : ∀ y ∈ row, o.getD y 0 ≠ i → lv.getD (o.getD y 0) 0 < lv.getD i 0) : ∀ (r : List Nat) (j : Nat) (b : Bool), Tail (encNs row) j (encNs r) →
    ∃ fr', Lp ctx [30] [] [5, 6, 7, 8, 11, 12, 13, 14, 15] b8_2 ⟨[(5, .v X5), (6, .v X6), (7, .v (.sl 1 (encNs lv))), (8, .v (.hs 0 n 0 n 1)), (11, .v (.int .i64 i)), (12, .v (.bool b)), (13, .v X13), (14, .v (encR 1 true (encNs row))), (15, .v (.int .i64 j))], false⟩ [.arr false 1 (encNs o)]
      (.ex 8) fr' [.arr false 1 (encNs o)] ∧ fr'.lk = false ∧ getS fr'.sl 5 = .v X5 ∧ getS fr'.sl 6 = .v X6 ∧ getS fr'.sl 7 = .v (.sl 1 (encNs lv)) ∧ getS fr'.sl 8 = .v (.hs 0 n 0 n 1) ∧ getS fr'.sl 11 = .v (.int .i64 i) ∧ getS fr'.sl 12 = .v (.bool (blF (fun x => o.getD x 0) (fun x => lv.getD x 0) i r b)) ∧ getS fr'.sl 13 = .v X13 ∧ getS fr'.sl 74 = .u ∧ getS fr'.sl 75 = .u
  | [], j, b, ht => by
    have hlen := ht.nil
    simp only [encNs_length] at hlen
    have hjl : ¬ (j : Int) < (row.length : Int) := by omega
    refine ⟨?_, Lp.exit ⟨0, fun N _ => ?_⟩ (by simp), ?_⟩
    rotate_left
    · simp -implicitDefEqProofs [b8_2, hjl]
      rfl
    · simp [blF]
  | y :: r, j, b, ht => by
    have hlk := tail_get ht
    rw [encNs_cons] at ht
    obtain ⟨a1, a2, a3, a4, a5⟩ := ht.cons
    simp only [encNs_length] at a2 a3
    have hjn : j < row.length := (List.getElem?_eq_some_iff.1 hlk).1
    have hw := wrap_succ (n := j) (by unfold big; omega)
    have hym := List.mem_of_getElem? hlk
    have hy := hrow y hym
    have hR := a5 1 true
    obtain ⟨B, hB⟩ : ∃ B, B = o.getD y 0 := ⟨_, rfl⟩
    have hBK : B < K := by rw [hB]; exact hoK y hy
    have hoy : (encNs o)[y]? = some (.int .i64 (B : Int)) := by rw [hB]; exact encNs_get (by omega)
    have hoo : (encNs o).length = n := by simpa using hol
    have hll : (encNs lv).length = K := by simpa using hlv
    have hiy := idx_at hy
    have hiB := idx_at hBK
    have hii := idx_at hi
    by_cases hBi : B = i
    · have e : blF (fun x => o.getD x 0) (fun x => lv.getD x 0) i (y :: r) b = blF (fun x => o.getD x 0) (fun x => lv.getD x 0) i r b := by
        rw [blF]; simp only [← hB]; rw [if_pos hBi]
      rw [e]
      obtain ⟨fr', l1, l2⟩ := lp8_2 X5 X6 X13 n hn o hol lv K hlv hK hoK hb i hi row hrl hrow hdn r (j + 1) b a4
      rw [hR] at l1 ⊢
      have hbe : ((B : Int) == (i : Int)) = true := by rw [hBi]; simp
      refine ⟨fr', Lp.step ⟨0, fun N hN => ?_⟩ l1, l2⟩
      clear l1 l2
      simp -implicitDefEqProofs [b8_2, ↓a1, a3, hjn, hw, ↓hoy, hoo, hiy, hbe, -beq_iff_eq]
    · have hlt := hdn y hym (by rw [← hB]; exact hBi)
      obtain ⟨V, hV⟩ : ∃ V, V = lv.getD B 0 := ⟨_, rfl⟩
      obtain ⟨U, hU⟩ : ∃ U, U = lv.getD i 0 := ⟨_, rfl⟩
      have e : blF (fun x => o.getD x 0) (fun x => lv.getD x 0) i (y :: r) b = blF (fun x => o.getD x 0) (fun x => lv.getD x 0) i r (b || decide (V + 1 = U)) := by
        rw [blF]; simp only [← hB, ← hV, ← hU]; rw [if_neg hBi]
      rw [e]
      rw [← hB, ← hV, ← hU] at hlt
      have hUb : U < 2 ^ 20 := by rw [hU]; exact hb i
      have hgB : (encNs lv)[B]? = some (.int .i64 (V : Int)) := by rw [hV]; exact encNs_get (by omega)
      have hgi : (encNs lv)[i]? = some (.int .i64 (U : Int)) := by rw [hU]; exact encNs_get (by omega)
      obtain ⟨fr', l1, l2⟩ := lp8_2 X5 X6 X13 n hn o hol lv K hlv hK hoK hb i hi row hrl hrow hdn r (j + 1) (b || decide (V + 1 = U)) a4
      rw [hR] at l1 ⊢
      have hbe : ((B : Int) == (i : Int)) = false := by rw [beq_eq_false_iff_ne]; omega
      have hge : ¬ U ≤ V := by omega
      have hge' : ¬ (U : Int) ≤ (V : Int) := by omega
      obtain ⟨U1, hU1⟩ : ∃ U1, U = U1 + 1 := ⟨U - 1, by omega⟩
      have hwU : IntKind.i64.wrap ((U : Int) - 1) = (U1 : Int) := by rw [wrap_i64 (by omega)]; omega
      have hVU : ((V : Int) == (U1 : Int)) = decide (V + 1 = U) := by
        rw [Bool.eq_iff_iff]
        simp only [beq_iff_eq, decide_eq_true_eq]
        omega
      obtain ⟨D, hD⟩ : ∃ D, D = decide (V + 1 = U) := ⟨_, rfl⟩
      rw [← hD] at l1 l2 hVU ⊢
      refine ⟨fr', Lp.step ⟨0, fun N hN => ?_⟩ l1, l2⟩
      clear l1 l2
      cases b
      · simp -implicitDefEqProofs [b8_2, d8_2, d8_3, ↓a1, a3, hjn, hw, ↓hoy, hoo, hll, hiy, hiB, hii, hbe, ↓hgB, ↓hgi, hge, hwU, hVU, -beq_iff_eq]
      · simp -implicitDefEqProofs [b8_2, d8_2, d8_3, ↓a1, a3, hjn, hw, ↓hoy, hoo, hll, hiy, hiB, hii, hbe, ↓hgB, ↓hgi, hge, hwU, -beq_iff_eq]
set_option maxHeartbeats 4000000 in
theorem lp8_3 (n : Nat) (hn : n ≤ 2 ^ 20) (Gr : List (List Nat)) (hGr : Gr.length = n) (hGl : ∀ l ∈ Gr, l.length ≤ 2 ^ 20 ∧ ∀ y ∈ l, y < n) (o : List Nat) (hol : o.length = n) (lv : List Nat) (G : List (List Nat)) (hlv : lv.length = G.length) (hK : G.length ≤ 2 ^ 20) (hoK : ∀ x, x < n → o.getD x 0 < G.length) (hb : ∀ a, lv.getD a 0 < 2 ^ 20) (i : Nat) (l : List Nat) (hi : G[i]? = some l) (hll : l.length ≤ 2 ^ 20) (hlt : ∀ x ∈ l, x < n) (hdn : ∀ x ∈ l, ∀ y ∈ outs Gr x, o.getD y 0 ≠ i → lv.getD (o.getD y 0) 0 < lv.getD i 0) : ∀ (r : List Nat) (k : Nat) (b : Bool), Tail (encNs l) k (encNs r) →
    ∃ fr', Lp ctx [30] [] [5, 6, 7, 8, 11, 12, 13] b8_3 ⟨[(5, .v (.sl 1 (encU Gr))), (6, .v (.sl 1 (encU G))), (7, .v (.sl 1 (encNs lv))), (8, .v (.hs 0 n 0 n 1)), (11, .v (.int .i64 i)), (12, .v (.bool b)), (13, .v (.int .i64 k))], false⟩ [.arr false 1 (encNs o)]
      (.ex 6) fr' [.arr false 1 (encNs o)] ∧ fr'.lk = false ∧ getS fr'.sl 5 = .v (.sl 1 (encU Gr)) ∧ getS fr'.sl 6 = .v (.sl 1 (encU G)) ∧ getS fr'.sl 7 = .v (.sl 1 (encNs lv)) ∧ getS fr'.sl 8 = .v (.hs 0 n 0 n 1) ∧ getS fr'.sl 11 = .v (.int .i64 i) ∧ getS fr'.sl 12 = .v (.bool (bl3 (fun x => o.getD x 0) (fun x => lv.getD x 0) Gr i r b)) ∧ Hi 135 fr' ∧ getS fr'.sl 60 = .u ∧ getS fr'.sl 61 = .u
  | [], k, b, ht => by
    have hlen := ht.nil
    simp only [encNs_length] at hlen
    have hgi := encU_at hi
    have hix := idx_at (List.getElem?_eq_some_iff.1 hi).1
    have hkl : ¬ (k : Int) < (l.length : Int) := by omega
    refine ⟨?_, Lp.exit ⟨0, fun N _ => ?_⟩ (by simp), ?_⟩
    rotate_left
    · simp -implicitDefEqProofs [b8_3, hgi, hix, hkl]
      rfl
    · exact ⟨by simp, by simp, by simp, by simp, by simp, by simp, by simp [bl3], hi_of (by simp), by simp, by simp⟩
  | x :: r, k, b, ht => by
    have hlk := tail_get ht
    rw [encNs_cons] at ht
    obtain ⟨a1, a2, a3, a4, a5⟩ := ht.cons
    simp only [encNs_length] at a2 a3
    have hkn : k < l.length := (List.getElem?_eq_some_iff.1 hlk).1
    have hil := (List.getElem?_eq_some_iff.1 hi).1
    have hw := wrap_succ (n := k) (by unfold big; omega)
    have hxm := List.mem_of_getElem? hlk
    have hx := hlt x hxm
    have hgi := encU_at hi
    have hrow : encR 1 true (encNs l) = .sl 1 (encNs l) := a5 1 true
    rw [hrow] at hgi
    have hix := idx_at hil
    have hxG := outs_at' (L := Gr) (a := x) (by omega)
    have hgx := encU_at hxG
    have hixx := idx_at hx
    obtain ⟨h1, h2⟩ := hGl _ (List.mem_of_getElem? hxG)
    obtain ⟨fr1, c1, c2, c3, c4, c5, c6, c7, c8, c9, c10, c11⟩ := lp8_2 (.sl 1 (encU Gr)) (.sl 1 (encU G)) (.int .i64 k) n hn o hol lv G.length hlv hK hoK hb i hil (outs Gr x) h1 h2 (hdn x hxm) (outs Gr x) 0 b (Tail.all _)
    obtain ⟨k1, hk1⟩ := c1.den
    obtain ⟨B1, hB1⟩ : ∃ B1, B1 = blF (fun x => o.getD x 0) (fun x => lv.getD x 0) i (outs Gr x) b := ⟨_, rfl⟩
    rw [← hB1] at c8
    obtain ⟨fr', l1, l2⟩ := lp8_3 n hn Gr hGr hGl o hol lv G hlv hK hoK hb i l hi hll hlt hdn r (k + 1) B1 a4
    rw [bl3, ← hB1]
    refine ⟨fr', Lp.step ⟨k1, fun N hN => ?_⟩ l1, l2⟩
    have hk1 := hk1 N hN
    simp only [Int.cast_ofNat_Int] at hk1
    have hUl : (encU Gr).length = n := by rw [encU_length, hGr]
    clear l1 l2 c1
    simp -implicitDefEqProofs [b8_3, ↓hgi, hix, hkn, ↓a1, a3, hw, ↓hgx, hixx, hUl, hGr, hk1, c2, c3, c4, c5, c6, c7, c8, c9, c10, c11]
set_option maxHeartbeats 4000000 in
theorem lp8_4 (n : Nat) (hn : n ≤ 2 ^ 20) (Gr : List (List Nat)) (hGr : Gr.length = n) (hGl : ∀ l ∈ Gr, l.length ≤ 2 ^ 20 ∧ ∀ y ∈ l, y < n) (o : List Nat) (hol : o.length = n) (lv : List Nat) (G : List (List Nat)) (hlv : lv.length = G.length) (hK : G.length ≤ 2 ^ 20) (hoK : ∀ x, x < n → o.getD x 0 < G.length) (hb : ∀ a, lv.getD a 0 < 2 ^ 20) (hG : ∀ l ∈ G, l.length ≤ 2 ^ 20 ∧ ∀ x ∈ l, x < n) (hdn : ∀ (i : Nat) l, G[i]? = some l → ∀ x ∈ l, ∀ y ∈ outs Gr x, o.getD y 0 ≠ i → lv.getD (o.getD y 0) 0 < lv.getD i 0) (hat : ∀ (i : Nat) l, G[i]? = some l → lv.getD i 0 = 0 ∨ ∃ x ∈ l, ∃ y ∈ outs Gr x, o.getD y 0 ≠ i ∧ lv.getD (o.getD y 0) 0 + 1 = lv.getD i 0) : ∀ (f i : Nat), i + f = G.length →
    ∃ fr', Lp ctx [30] [] [5, 6, 7, 8, 11] b8_4 ⟨[(5, .v (.sl 1 (encU Gr))), (6, .v (encR 1 true (encU G))), (7, .v (.sl 1 (encNs lv))), (8, .v (.hs 0 n 0 n 1)), (11, .v (.int .i64 i))], false⟩ [.arr false 1 (encNs o)]
      (.ex 4) fr' [.arr false 1 (encNs o)] ∧ fr'.lk = false ∧ getS fr'.sl 4 = .u ∧ getS fr'.sl 144 = .u
  | 0, i, hi => by
    have hlt : ¬ (i : Int) < (G.length : Int) := by omega
    have hlt2 : ¬ i < G.length := by omega
    refine ⟨?_, Lp.exit ⟨0, fun N _ => ?_⟩ (by simp), ?_⟩
    rotate_left
    · simp -implicitDefEqProofs [b8_4, hlt, hlt2]
      rfl
    · simp
  | f + 1, i, hi => by
    have hil : i < G.length := by omega
    have hw := wrap_succ (n := i) (by unfold big; omega)
    obtain ⟨l, hgl⟩ : ∃ l, G[i]? = some l := ⟨_, List.getElem?_eq_getElem hil⟩
    obtain ⟨h1, h2⟩ := hG l (List.mem_of_getElem? hgl)
    obtain ⟨V, hV⟩ : ∃ V, V = lv.getD i 0 := ⟨_, rfl⟩
    have hgV : (encNs lv)[i]? = some (.int .i64 (V : Int)) := by rw [hV]; exact encNs_get (by omega)
    have hll : (encNs lv).length = G.length := by simpa using hlv
    have hix := idx_at hil
    have hV0 : ¬ (V : Int) < 0 := by omega
    obtain ⟨b0, hb0⟩ : ∃ b0 : Bool, b0 = ((V : Int) == 0) := ⟨_, rfl⟩
    obtain ⟨fr1, c1, c2, c3, c4, c5, c6, c7, c8, c9, c10, c11⟩ := lp8_3 n hn Gr hGr hGl o hol lv G hlv hK hoK hb i l hgl h1 h2 (hdn i l hgl) l 0 b0 (Tail.all _)
    have hbt : bl3 (fun x => o.getD x 0) (fun x => lv.getD x 0) Gr i l b0 = true := by
      rw [bl3_iff]
      rcases hat i l hgl with h | h
      · left
        rw [hb0, hV, h]; rfl
      · exact .inr h
    rw [hbt] at c8
    obtain ⟨k1, hk1⟩ := c1.den
    obtain ⟨fr', l1, l2⟩ := lp8_4 n hn Gr hGr hGl o hol lv G hlv hK hoK hb hG hdn hat f (i + 1) (by omega)
    have hUne : encU G ≠ [] := fun e => by
      have := congrArg List.length e
      simp at this
      rw [this] at hil; simp at hil
    rw [encR_ne hUne] at l1 ⊢
    refine ⟨fr', Lp.step ⟨k1, fun N hN => ?_⟩ l1, l2⟩
    have hk1 := hk1 N hN
    simp only [Int.cast_ofNat_Int] at hk1
    have hb0' : ((V : Int) == 0) = b0 := hb0.symm
    have j135 := c9 135 (by omega)
    have j136 := c9 136 (by omega)
    have j137 := c9 137 (by omega)
    have j138 := c9 138 (by omega)
    have j139 := c9 139 (by omega)
    have j140 := c9 140 (by omega)
    have j141 := c9 141 (by omega)
    have j142 := c9 142 (by omega)
    have j143 := c9 143 (by omega)
    clear l1 l2 c1
    simp -implicitDefEqProofs [b8_4, hil, hix, hw, ↓hgV, hll, hb0', hk1, hV0, c2, c3, c4, c5, c6, c7, c8, c10, c11, j135, j136, j137, j138, j139, j140, j141, j142, j143, -beq_iff_eq]
set_option maxHeartbeats 4000000 in
theorem waveAhead_ans (bs : List UInt8) (n : UInt8) (nb : Bool) : Ans ctx 8 [encR 1 nb (ofBytes bs), .int .u8 n.toNat] (.bool true) := by
  obtain ⟨Gr, hO, km, hm⟩ := make_ans bs nb n
  obtain ⟨K, hK⟩ : ∃ K, K = n.toNat % 16 := ⟨_, rfl⟩
  rw [← hK] at hO
  have hK16 : K < 16 := by omega
  have hGrl : Gr.length = K := hO.1
  have hgl : (toI Gr).length = K := by rw [toI_length]; exact hO.1
  have hgr : ∀ q ∈ toI Gr, q.2.length ≤ 2 ^ 30 := fun q hq => by
    obtain ⟨l, hl, rfl⟩ := List.mem_map.1 hq
    have := (hO.2 l hl).1
    simp; omega
  obtain ⟨G, g1, g2, kg, hgs⟩ := groups_ans (toI Gr) false (by omega) (fun q hq => by have := hgr q hq; unfold big; omega)
  have hGl := Grp.len_le g1 g2
  obtain ⟨k1, h1⟩ := levels_ans (toI Gr) false (by omega) hgr g1 g2
  have hll := lvL_len (toI Gr).length (Ed (outG (toI Gr))) G
  have hlt := lvL_lt g1 g2 16 (by omega) (by omega)
  have hget := lvL_get (toI Gr).length (Ed (outG (toI Gr))) G
  rw [encR_false, ← encU_toI] at h1 hgs
  rw [hgl] at g1 hget h1 hll hlt
  rw [outG_toI hO] at g1 hget h1 hll hlt
  obtain ⟨LV, hLV⟩ : ∃ z, z = lvL K (Ed Gr) G := ⟨_, rfl⟩
  rw [← hLV] at h1 hll hlt hget
  obtain ⟨k2, h2⟩ := awake23_ans
  obtain ⟨fr1, o, a1, a2, a3, a4, a5, a6, a7, a8, a9, a10⟩ := lp8_1 (.sl 1 (encU Gr)) (.sl 1 (encNs LV)) K (by omega) G _ g1 g2 G.length 0 (List.replicate K 0) (by omega) (by simp) (fun x j m hj => by omega)
  obtain ⟨k3, hk3⟩ := a1.den
  have hOf : IsOf G fun x => o.getD x 0 := fun x i l hi hx => a3 x i l hi hx
  have hlev := lvO_lev g1 hOf
  have hbd : ∀ a, LV.getD a 0 < 2 ^ 20 := fun a => by
    rw [hget]
    rcases lvO_lt g1 hOf a with h | h <;> omega
  obtain ⟨fr2, b1, b2, b3, b4⟩ := lp8_4 K (by omega) Gr hGrl (fun l hl => ⟨by have := (hO.2 l hl).1; omega, (hO.2 l hl).2⟩) o a2 LV G hll (by omega) (fun x hx => hOf.lt g1 hx) hbd (fun l hl => ⟨by have := hGl.2 l hl; omega, g1.lt l hl⟩) (fun i l hi x hx y hy hne => by
    rw [hget, hget]
    have hxK := g1.lt l (List.mem_of_getElem? hi) x hx
    have hyK : y < K := by
      have hxG := outs_at' (L := Gr) (a := x) (by omega)
      exact (hO.2 _ (List.mem_of_getElem? hxG)).2 y hy
    exact hlev.up i _ (List.getElem?_eq_some_iff.1 hi).1 ⟨fun e => hne e.symm, x, y, hxK, hyK, hy, a3 x i l hi hx, rfl⟩) (fun i l hi => by
    rw [hget]
    rcases hlev.at' i (List.getElem?_eq_some_iff.1 hi).1 with h | ⟨j, ⟨hne, x, y, hx, hy, he, e1, e2⟩, e⟩
    · exact .inl h
    · right
      obtain ⟨l', k1, k2⟩ := hOf.at' g1 hx
      have e1 : o.getD x 0 = i := e1
      have e2 : o.getD y 0 = j := e2
      have k1 : G[o.getD x 0]? = some l' := k1
      rw [e1, hi] at k1
      have := Option.some.inj k1
      subst this
      refine ⟨x, k2, y, he, by rw [e2]; exact fun e => hne e.symm, ?_⟩
      rw [hget, e2]; exact e.symm) G.length 0 (by omega)
  obtain ⟨k4, hk4⟩ := b1.den
  have e0 : encNs (List.replicate K 0) = List.replicate K (.int .i64 0) := by simp [encNs]
  rw [e0] at hk3
  refine Ans.of (σ' := [.arr false 1 (encNs o)]) fn8_ (by simp [AV.noRefs, AV.noRef]) (by simp) ⟨km + kg + k1 + k2 + k3 + k4, fun N hN => ?_⟩
  have hm := hm N (by omega)
  have hgs := hgs N (by omega)
  have h1 := h1 N (by omega)
  have h2 := h2 N (by omega)
  have hk3 := hk3 N (by omega)
  have hk4 := hk4 N (by omega)
  simp only [Int.cast_ofNat_Int] at hk3 hk4
  have hUl : (encU Gr).length = K := by rw [encU_length]; exact hGrl
  have hbg : K * 8 ≤ 35184372088832 ∧ K ≤ 35184372088832 := by omega
  have hf1 := fitAll_replicate ⟨.int .i64, 1, 8, .int .i64 0, [.int .i64]⟩ (.int .i64 0) rfl K
  have hne : ((LV.length : Int) != (G.length : Int)) = false := by rw [hll]; simp
  clear a1 b1 g1 g2 hlev
  simp -implicitDefEqProofs [i8, c8, hm, hgs, h1, h2, hk3, hk4, hUl, hGrl, hbg, hf1, hne, hll, a4, a5, a6, a7, a8, a9, a10, b2, b3, b4]
end Go.Am.Try
