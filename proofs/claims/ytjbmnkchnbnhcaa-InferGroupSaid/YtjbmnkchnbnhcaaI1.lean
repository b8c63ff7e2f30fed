/- Layer 21: the laws' Binds and one. -/
import Derived.Test.YtjbmnkchnbnhcaaIH
set_option linter.unusedVariables false
set_option maxRecDepth 100000
set_option linter.unusedSimpArgs false
namespace Go.Am.Try
open Go Go.Am.Ps
def headsS : Str := [100, 97, 116, 97, 32, 76, 105, 115, 116, 32, 97, 32, 61, 32, 78, 105, 108, 32, 124, 32, 67, 111, 110, 115, 32, 97, 32, 40, 76, 105, 115, 116, 32, 97, 41, 59, 10, 100, 97, 116, 97, 32, 79, 112, 116, 32, 97, 32, 61, 32, 78, 111, 110, 101, 32, 124, 32, 83, 111, 109, 101, 32, 97, 59, 10, 100, 97, 116, 97, 32, 70, 32, 97, 32, 98, 32, 61, 32, 79, 100, 100, 32, 40, 97, 32, 45, 62, 32, 98, 41, 32, 40, 97, 44, 32, 73, 110, 116, 41, 59, 10]
theorem heads_ans : Ans ctx 27 [] (.str headsS) := by
  refine Ans.of (σ' := []) fn27_ (by simp) (by simp) ⟨0, fun N hN => ?_⟩
  simp -implicitDefEqProofs [i27, c27, headsS]
theorem binds_ans (s : Str) (hs : s.length ≤ 3000) {p : Pg} (hp : parse (headsS ++ s) = .ok p) : Ans ctx 15 [.str s] (encPg p) := by
  obtain ⟨kh, hkh⟩ := heads_ans
  have hlen : headsS.length = 101 := by rfl
  obtain ⟨S, e1, v1, s1⟩ := cat13 headsS s (by omega)
  obtain ⟨kp, hkp⟩ := (parse_ans S).1
  rw [e1, hp] at hkp
  rw [← e1] at hkp
  simp only [encPd] at hkp
  have hn : (encPg p).noRef = true := by simp [encPg]
  refine Ans.of (σ' := []) fn15_ (by simp) hn ⟨kh + kp, fun N hN => ?_⟩
  have hkh := hkh N (by omega)
  have hkp := hkp N (by omega)
  clear e1
  simp only [encPg] at hn ⊢
  generalize encR 4 true (encDs p.ds) = DV at *
  generalize encR 8 true (encBs p.bs) = BV at *
  generalize headsS = HS at *
  simp -implicitDefEqProofs [i15, c15, hkh, hkp, s1, -strOp]
theorem num_ans (n : Int) : Ans ctx 17 [.int .i64 n] (.int .i64 n) := by
  refine Ans.of (σ' := []) fn17_ (by simp) (by simp) ⟨0, fun N hN => ?_⟩
  simp -implicitDefEqProofs [i17, c17]
theorem one_bad (s : Str) (hs : s.length ≤ 3000) {ds : List Da} {bs : List Bi} (hp : parse (headsS ++ s) = .ok ⟨ds, bs⟩) (hg : Ans ctx 16 [.nil, encR 4 true (encDs ds), encR 8 true (encBs bs)] (.tup [.nil, .int .i64 8])) : Ans ctx 10 [.str s] (.str []) := by
  obtain ⟨kb, hkb⟩ := binds_ans s hs hp
  obtain ⟨kg, hkg⟩ := hg
  obtain ⟨kn, hkn⟩ := num_ans 8
  refine Ans.of (σ' := []) fn10_ (by simp) (by simp) ⟨kb + kg + kn, fun N hN => ?_⟩
  have hkb := hkb N (by omega)
  have hkg := hkg N (by omega)
  have hkn := hkn N (by omega)
  simp only [encPg] at hkb
  generalize encR 4 true (encDs ds) = DV at *
  generalize encR 8 true (encBs bs) = BV at *
  simp -implicitDefEqProofs [i10, c10, hkb, hkg, hkn]
theorem one_ok (s : Str) (hs : s.length ≤ 3000) {ds : List Da} {bs : List Bi} (hp : parse (headsS ++ s) = .ok ⟨ds, bs⟩) {l : List AV} (hl : AV.noRefs l = true) {i : Nat} {a b c d e : AV} (hi : l[i]? = some (.agg [a, b, c, d, e])) (hll : l.length = i + 1) (hib : i < 1000)
    (hg : Ans ctx 16 [.nil, encR 4 true (encDs ds), encR 8 true (encBs bs)] (.tup [.sl 5 l, .int .i64 0])) {w : Str} (ht : Ans ctx 18 [.agg [b, c, d, e]] (.str w)) : Ans ctx 10 [.str s] (.str w) := by
  obtain ⟨kb, hkb⟩ := binds_ans s hs hp
  obtain ⟨kg, hkg⟩ := hg
  obtain ⟨kn, hkn⟩ := num_ans 0
  obtain ⟨kt, hkt⟩ := ht
  refine Ans.of (σ' := []) fn10_ (by simp) (by simp) ⟨kb + kg + kn + kt, fun N hN => ?_⟩
  have hkb := hkb N (by omega)
  have hkg := hkg N (by omega)
  have hkn := hkn N (by omega)
  have hkt := hkt N (by omega)
  simp only [encPg] at hkb
  generalize encR 4 true (encDs ds) = DV at *
  generalize encR 8 true (encBs bs) = BV at *
  have hw : IntKind.i64.wrap (i : Int) = (i : Int) := wrap_i64 (by omega)
  have hx : idxN (i : Int) (i + 1) = some i := idx_at (by omega)
  obtain ⟨hlt, hi'⟩ := List.getElem?_eq_some_iff.1 hi
  have hz : ((i : Int) + 1 == 0) = false := by simp; omega
  simp -implicitDefEqProofs [i10, c10, hkb, hkg, hkn, hkt, hll, ↓hi, hi', hw, hx, hl, hz]
end Go.Am.Try
