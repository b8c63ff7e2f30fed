/- Layer 14: RefsGraph. -/
import Derived.Test.YtdapcelbbejfoaaV9
import Derived.Test.YtdapcelbbejfoaaP24d
set_option linter.unusedVariables false
set_option maxRecDepth 100000
set_option linter.unusedSimpArgs false
namespace Go.Am.Try
open Go Go.Am.Ps
theorem digS_one {d : Nat} (h : d < 10) : digS d = [UInt8.ofNat (48 + d)] := by
  have : ∀ d : Fin 10, digS d.1 = [UInt8.ofNat (48 + d.1)] := by decide
  exact this ⟨d, h⟩
theorem byte_get (l : List UInt8) (i : Nat) (h : i < l.length) : (ofBytes l)[i]? = some (.int .u8 (l[i]).toNat) := by
  unfold ofBytes
  rw [List.getElem?_map, List.getElem?_eq_getElem h]; rfl
theorem nr_bytes : ∀ l : List UInt8, AV.noRefs (ofBytes l) = true
  | [] => rfl
  | b :: l => by
    have := nr_bytes l
    unfold ofBytes at this ⊢
    simp only [List.map_cons, AV.noRefs, AV.noRef, Bool.true_and]
    exact this
theorem min10 (n : Nat) : mmA .lss (.int .i64 (n : Int)) (.int .i64 10) = some (.int .i64 ((min n 10 : Nat) : Int)) := by
  unfold mmA
  by_cases h : 10 < (n : Int)
  · have : min n 10 = 10 := by omega
    simp [h, this]
  · have : min n 10 = n := by omega
    simp [h, this]
def toA (l : List UInt8) (n i : Nat) : Nat := (l.getD i 0).toNat % n
def toB (l : List UInt8) (n i : Nat) : Nat := (l.getD i 0).toNat / n % n
def lineS (l : List UInt8) (n i : Nat) : Str := strP (triP i (toA l n i) (toB l n i))
theorem line_len (l : List UInt8) (n i : Nat) : (lineS l n i).length = 29 := by
  unfold lineS
  rw [tri_str]
  simp [vN]
theorem lines_succ (l : List UInt8) (n i : Nat) : ((List.range (i + 1)).map (lineS l n)).flatten = ((List.range i).map (lineS l n)).flatten ++ lineS l n i := by
  rw [List.range_succ]; simp
theorem lines_len (l : List UInt8) (n : Nat) : ∀ i, ((List.range i).map (lineS l n)).flatten.length = 29 * i
  | 0 => rfl
  | i + 1 => by rw [lines_succ, List.length_append, lines_len l n i, line_len]; omega
set_option maxHeartbeats 2000000 in
theorem lp7_0 (l : List UInt8) (nl : Bool) (n : Nat) (hn : n ≤ 10) (hl : n ≤ l.length) : ∀ (m i : Nat), i + m = n →
    ∃ fr', Lp ctx [] [] [0, 3, 4, 5] b7_0 ⟨[(0, .v (encR 1 nl (ofBytes l))), (3, .v (.int .i64 n)), (4, .v (.str ((List.range i).map (lineS l n)).flatten)), (5, .v (.int .i64 i))], false⟩ [] (.ex 0) fr' [] ∧ fr'.lk = false ∧
      getS fr'.sl 0 = .v (encR 1 nl (ofBytes l)) ∧ getS fr'.sl 3 = .v (.int .i64 n) ∧ getS fr'.sl 4 = .v (.str ((List.range n).map (lineS l n)).flatten) ∧ Hi2 6 14 fr' ∧ Hi2 17 100 fr' ∧ getS fr'.sl 2 = .u
  | 0, i, h => by
    simp only [Nat.add_zero] at h
    subst h
    refine ⟨?_, Lp.exit ⟨0, fun N _ => ?_⟩ (by simp), ?_⟩
    rotate_left
    · simp -implicitDefEqProofs [b7_0]
      rfl
    · refine ⟨rfl, by simp, by simp, by simp, fun t h1 h2 => ?_, fun t h1 h2 => ?_, by simp⟩
      all_goals simp only [getS]
      all_goals repeat rw [if_neg (by omega)]
  | m + 1, i, h => by
    have hlt : (i : Int) < (n : Int) := by omega
    have hw := wrap_succ (n := i) (by unfold big; omega)
    have hg := byte_get l i (by omega)
    have hi := idx_in (i := i) (n := (ofBytes l).length) (by simp [ofBytes]; omega)
    have hne : ofBytes l ≠ [] := fun e => by
      have := congrArg List.length e
      simp [ofBytes] at this
      rw [this] at hl
      simp at hl; omega
    have hsl : encR 1 nl (ofBytes l) = .sl 1 (ofBytes l) := by
      cases hq : ofBytes l with
      | nil => exact absurd hq hne
      | cons x r => simp
    obtain ⟨x, hx⟩ : ∃ x, x = (l[i]'(by omega)).toNat := ⟨_, rfl⟩
    have hxl : x < 256 := by rw [hx]; exact (l[i]'(by omega)).toNat_lt
    rw [← hx] at hg
    have hgd : (l.getD i 0).toNat = x := by rw [List.getD_eq_getElem?_getD, List.getElem?_eq_getElem (by omega), hx]; rfl
    have hA : toA l n i = x % n := by unfold toA; rw [hgd]
    have hB : toB l n i = x / n % n := by unfold toB; rw [hgd]
    obtain ⟨A, hAe⟩ : ∃ A, A = x % n := ⟨_, rfl⟩
    obtain ⟨Y, hY⟩ : ∃ Y, Y = x / n := ⟨_, rfl⟩
    have hYl : Y < 256 := by have := Nat.div_le_self x n; omega
    have hdiv : (x : Int) / (n : Int) = (Y : Int) := by rw [hY]; rfl
    have hdiv2 : (x : Int).tdiv (n : Int) = (Y : Int) := by rw [hY]; rfl
    rw [← hY] at hB
    clear hY
    obtain ⟨B, hBe⟩ : ∃ B, B = Y % n := ⟨_, rfl⟩
    have hAl : A < 10 := by have := Nat.mod_lt x (show 0 < n by omega); omega
    have hBl : B < 10 := by have := Nat.mod_lt Y (show 0 < n by omega); omega
    have hn0 : ¬ n = 0 := by omega
    have hw256 : ∀ y : Nat, y < 256 → IntKind.i64.wrap (y : Int) = (y : Int) := fun y hy => wrap_i64 ⟨by clear hdiv hdiv2; omega, by clear hdiv hdiv2; omega⟩
    have hwx := hw256 x hxl
    have hq := hw256 Y hYl
    have hm1 : Int.tmod (x : Int) (n : Int) = (A : Int) := by rw [hAe]; rfl
    have hm2 : Int.tmod (Y : Int) (n : Int) = (B : Int) := by rw [hBe]; rfl
    obtain ⟨ki, hki⟩ := (digits_ans i (by omega)).1
    obtain ⟨ka, hka⟩ := (digits_ans A (by omega)).1
    obtain ⟨kb, hkb⟩ := (digits_ans B (by omega)).1
    rw [digS_one (show i < 10 by omega)] at hki
    rw [digS_one hAl] at hka
    rw [digS_one hBl] at hkb
    obtain ⟨S, hS⟩ : ∃ S, S = ((List.range i).map (lineS l n)).flatten := ⟨_, rfl⟩
    have hSl : S.length = 29 * i := by rw [hS]; exact lines_len l n i
    have hline : lineS l n i = [108, 101, 116, 32, 118] ++ [UInt8.ofNat (48 + i)] ++ [32, 61, 32, 40, 118] ++ [UInt8.ofNat (48 + A)] ++ [44, 32, 92, 118] ++ [UInt8.ofNat (48 + B)] ++ [32, 45, 62, 32, 118] ++ [UInt8.ofNat (48 + B)] ++ [44, 32, 118] ++ [UInt8.ofNat (48 + A)] ++ [41, 59] := by
      unfold lineS
      rw [tri_str, hA, hB, ← hAe, ← hBe]
      simp [vN]
    obtain ⟨T1, d1, n1, t1⟩ := cat13 S [108, 101, 116, 32, 118] (by simp; omega)
    obtain ⟨T2, d2, n2, t2⟩ := cat13 T1 [UInt8.ofNat (48 + i)] (by simp; simp at n1; omega)
    obtain ⟨T3, d3, n3, t3⟩ := cat13 T2 [32, 61, 32, 40, 118] (by simp; simp at n1 n2; omega)
    obtain ⟨T4, d4, n4, t4⟩ := cat13 T3 [UInt8.ofNat (48 + A)] (by simp; simp at n1 n2 n3; omega)
    obtain ⟨T5, d5, n5, t5⟩ := cat13 T4 [44, 32, 92, 118] (by simp; simp at n1 n2 n3 n4; omega)
    obtain ⟨T6, d6, n6, t6⟩ := cat13 T5 [UInt8.ofNat (48 + B)] (by simp; simp at n1 n2 n3 n4 n5; omega)
    obtain ⟨T7, d7, n7, t7⟩ := cat13 T6 [32, 45, 62, 32, 118] (by simp; simp at n1 n2 n3 n4 n5 n6; omega)
    obtain ⟨T8, d8, n8, t8⟩ := cat13 T7 [UInt8.ofNat (48 + B)] (by simp; simp at n1 n2 n3 n4 n5 n6 n7; omega)
    obtain ⟨T9, d9, n9, t9⟩ := cat13 T8 [44, 32, 118] (by simp; simp at n1 n2 n3 n4 n5 n6 n7 n8; omega)
    obtain ⟨T10, d10, n10, t10⟩ := cat13 T9 [UInt8.ofNat (48 + A)] (by simp; simp at n1 n2 n3 n4 n5 n6 n7 n8 n9; omega)
    obtain ⟨T11, d11, n11, t11⟩ := cat13 T10 [41, 59] (by simp; simp at n1 n2 n3 n4 n5 n6 n7 n8 n9 n10; omega)
    have hT : T11 = ((List.range (i + 1)).map (lineS l n)).flatten := by
      rw [lines_succ, hline, ← hS, d11, d10, d9, d8, d7, d6, d5, d4, d3, d2, d1]
      simp
    obtain ⟨fr', l1, l2⟩ := lp7_0 l nl n hn hl m (i + 1) (by omega)
    rw [← hT] at l1
    rw [← hS]
    rw [hsl] at l1 l2 ⊢
    refine ⟨fr', Lp.step ⟨ki + ka + kb, fun N hN => ?_⟩ l1, l2⟩
    have hki := hki N (by omega)
    have hka := hka N (by omega)
    have hkb := hkb N (by omega)
    clear l1 l2 d1 d2 d3 d4 d5 d6 d7 d8 d9 d10 d11 n1 n2 n3 n4 n5 n6 n7 n8 n9 n10 n11 hT hline
    generalize UInt8.ofNat (48 + i) = u1 at *
    generalize UInt8.ofNat (48 + A) = u2 at *
    generalize UInt8.ofNat (48 + B) = u3 at *
    simp -implicitDefEqProofs [b7_0, d7_0, hlt, hw, hg, hi, hn0, hwx, hdiv, hdiv2, hq, hm1, hm2, hki, hka, hkb, t1, t2, t3, t4, t5, t6, t7, t8, t9, t10, t11, -strOp]
def graphN (l : List UInt8) (n : Nat) : List (List Nat) := (List.range n).map fun i => [toA l n i]
set_option maxHeartbeats 2000000 in
theorem lp7_1 (l : List UInt8) (nl : Bool) (n : Nat) (hn : n ≤ 10) (hl : n ≤ l.length) : ∀ (m i : Nat), i + m = n →
    ∃ fr', Lp ctx [] [] [0, 3, 9, 10] b7_1 ⟨[(0, .v (encR 1 nl (ofBytes l))), (3, .v (.int .i64 n)), (9, .v (.sl 1 (encU (graphN l n)))), (10, .v (.int .i64 i))], false⟩ [] (.ex 2) fr' [] ∧ fr'.lk = false ∧ Hi2 11 72 fr' ∧ Hi2 75 100 fr' ∧ getS fr'.sl 2 = .u
  | 0, i, h => by
    simp only [Nat.add_zero] at h
    subst h
    refine ⟨?_, Lp.exit ⟨0, fun N _ => ?_⟩ (by simp), ?_⟩
    rotate_left
    · simp -implicitDefEqProofs [b7_1]
      rfl
    · refine ⟨rfl, fun t h1 h2 => ?_, fun t h1 h2 => ?_, by simp⟩
      all_goals simp only [getS]
      all_goals repeat rw [if_neg (by omega)]
  | m + 1, i, h => by
    have hlt : (i : Int) < (n : Int) := by omega
    have hw := wrap_succ (n := i) (by unfold big; omega)
    have hg := byte_get l i (by omega)
    have hi := idx_in (i := i) (n := (ofBytes l).length) (by simp [ofBytes]; omega)
    have hne : ofBytes l ≠ [] := fun e => by
      have := congrArg List.length e
      simp [ofBytes] at this
      rw [this] at hl
      simp at hl; omega
    have hsl : encR 1 nl (ofBytes l) = .sl 1 (ofBytes l) := by
      cases hq : ofBytes l with
      | nil => exact absurd hq hne
      | cons x r => simp
    obtain ⟨x, hx⟩ : ∃ x, x = (l[i]'(by omega)).toNat := ⟨_, rfl⟩
    have hxl : x < 256 := by rw [hx]; exact (l[i]'(by omega)).toNat_lt
    rw [← hx] at hg
    have hgd : (l.getD i 0).toNat = x := by rw [List.getD_eq_getElem?_getD, List.getElem?_eq_getElem (by omega), hx]; rfl
    have hA : toA l n i = x % n := by unfold toA; rw [hgd]
    obtain ⟨A, hAe⟩ : ∃ A, A = x % n := ⟨_, rfl⟩
    have hn0 : ¬ n = 0 := by omega
    have hwx : IntKind.i64.wrap (x : Int) = (x : Int) := wrap_i64 (by omega)
    have hm1 : Int.tmod (x : Int) (n : Int) = (A : Int) := by rw [hAe]; rfl
    have hgl : (graphN l n).length = n := by simp [graphN]
    have hi2 := idx_in (i := i) (n := n) (by omega)
    have hgi : (encU (graphN l n))[i]? = some (.sl 1 [.int .i64 A]) := by
      unfold encU graphN
      rw [List.getElem?_map, List.getElem?_map, List.getElem?_range (by omega), Option.map_some, Option.map_some, hA, ← hAe]
      rfl
    obtain ⟨fr', l1, l2⟩ := lp7_1 l nl n hn hl m (i + 1) (by omega)
    rw [hsl] at l1 ⊢
    refine ⟨fr', Lp.step ⟨0, fun N hN => ?_⟩ l1, l2⟩
    clear l1 l2
    simp -implicitDefEqProofs [b7_1, d7_2, hlt, hw, hg, hi, hn0, hwx, hm1, hgl, hi2, hgi]
theorem refsGraph_ans (l : List UInt8) (nl : Bool) : Ans ctx 7 [encR 1 nl (ofBytes l)] (.bool true) := by
  obtain ⟨n, hn⟩ : ∃ n, n = min l.length 10 := ⟨_, rfl⟩
  have hn10 : n ≤ 10 := by omega
  have hnl : n ≤ l.length := by omega
  have hmin := min10 l.length
  rw [← hn] at hmin
  have hlen : (ofBytes l).length = l.length := by simp [ofBytes]
  obtain ⟨fr0, p1, p2, p3, p4, p5, p6, p7, p8⟩ := lp7_0 l nl n hn10 hnl n 0 (by omega)
  obtain ⟨k0, hk0⟩ := p1.den
  unfold Hi2 at p6 p7
  obtain ⟨fr1, q1, q2, q3, q4, q5⟩ := lp7_1 l nl n hn10 hnl n 0 (by omega)
  obtain ⟨k3, hk3⟩ := q1.den
  unfold Hi2 at q3 q4
  -- what is parsed
  have hlt : ∀ i, i < n → toA l n i < n ∧ toB l n i < n := fun i hi => ⟨Nat.mod_lt _ (by omega), Nat.mod_lt _ (by omega)⟩
  obtain ⟨bs, hp, hbs⟩ := parse_binds ((List.range n).map fun i => (triP i (toA l n i) (toB l n i), vN i, triX (toA l n i) (toB l n i)))
    (fun q hq => by
      obtain ⟨i, hi, rfl⟩ := List.mem_map.1 hq
      have hi : i < n := by simpa using hi
      obtain ⟨h1, h2⟩ := hlt i hi
      exact tri_PB (by omega) (by omega) (by omega))
    (fun q hq => by
      obtain ⟨i, _, rfl⟩ := List.mem_map.1 hq
      exact tri_deep _ _)
    (by
      rw [List.map_map]
      have := lines_len l n n
      have e : ((fun q : List Pc × Str × Ex => strP q.1) ∘ fun i => (triP i (toA l n i) (toB l n i), vN i, triX (toA l n i) (toB l n i))) = lineS l n := rfl
      rw [e, this]; omega)
  rw [List.map_map] at hp hbs
  have e : ((fun q : List Pc × Str × Ex => strP q.1) ∘ fun i => (triP i (toA l n i) (toB l n i), vN i, triX (toA l n i) (toB l n i))) = lineS l n := rfl
  rw [e] at hp
  have hgr : gphP bs = graphN l n := tri_graph n hn10 (toA l n) (toB l n) (fun i hi => (hlt i hi).1) bs hbs
  obtain ⟨S, hS⟩ : ∃ S, S = ((List.range n).map (lineS l n)).flatten := ⟨_, rfl⟩
  rw [← hS] at hp p5
  obtain ⟨kg, hkg⟩ := graph_ans bs true (by have := parse_lenB hp; simp only at this; omega) (parse_okW hp)
  rw [hgr] at hkg
  obtain ⟨k1, hk1⟩ := (parse_ans S).1
  rw [hp] at hk1
  obtain ⟨k2, hk2⟩ := awake_ans
  have hgl : (graphN l n).length = n := by simp [graphN]
  have e0 : ((List.range 0).map (lineS l n)).flatten = [] := rfl
  refine Ans.of (σ' := []) fn7_ (by simp [AV.noRefs, nr_bytes]) (by simp) ⟨k0 + k1 + k2 + k3 + kg, fun N hN => ?_⟩
  have hk0 := hk0 N (by omega)
  have hk1 := hk1 N (by omega)
  have hk2 := hk2 N (by omega)
  have hk3 := hk3 N (by omega)
  have hkg := hkg N (by omega)
  simp only [encPd] at hk1
  rw [e0] at hk0
  simp only [Int.cast_ofNat_Int] at hk0 hk3
  simp -implicitDefEqProofs [i7, c7, hmin, hlen, hk0, hk1, hk2, hk3, hkg, p2, p3, p4, p5, p6, p7, p8, q2, q3, q4, q5, hgl, -mmA]
end Go.Am.Try
