/- Layer 21: the laws' Binds and one. -/
import Derived.Test.YtjbmnkchnbnhcaaGreatDoorIH
set_option linter.unusedVariables false
set_option maxRecDepth 100000
set_option linter.unusedSimpArgs false
namespace Go.Am.Tryz
open Go Go.Am.Ps
def headsS : Str := [100, 97, 116, 97, 32, 76, 105, 115, 116, 32, 97, 32, 61, 32, 78, 105, 108, 32, 124, 32, 67, 111, 110, 115, 32, 97, 32, 40, 76, 105, 115, 116, 32, 97, 41, 59, 10, 100, 97, 116, 97, 32, 79, 112, 116, 32, 97, 32, 61, 32, 78, 111, 110, 101, 32, 124, 32, 83, 111, 109, 101, 32, 97, 59, 10, 100, 97, 116, 97, 32, 70, 32, 97, 32, 98, 32, 61, 32, 79, 100, 100, 32, 40, 97, 32, 45, 62, 32, 98, 41, 32, 40, 97, 44, 32, 73, 110, 116, 41, 59, 10]
theorem heads_ans : Ans ctx 41 [] (.str headsS) := by
  refine Ans.of (σ' := []) fn41_ (by simp) (by simp) ⟨0, fun N hN => ?_⟩
  simp -implicitDefEqProofs [i41, c41, headsS]
theorem binds_ans (s : Str) (hs : s.length ≤ 3000) {p : Pg} (hp : parse (headsS ++ s) = .ok p) : Ans ctx 19 [.str s] (encPg p) := by
  obtain ⟨kh, hkh⟩ := heads_ans
  have hlen : headsS.length = 101 := by rfl
  obtain ⟨S, e1, v1, s1⟩ := cat13 headsS s (by omega)
  obtain ⟨kp, hkp⟩ := (parse_ans S).1
  rw [e1, hp] at hkp
  rw [← e1] at hkp
  simp only [encPd] at hkp
  have hn : (encPg p).noRef = true := by simp [encPg]
  refine Ans.of (σ' := []) fn19_ (by simp) hn ⟨kh + kp, fun N hN => ?_⟩
  have hkh := hkh N (by omega)
  have hkp := hkp N (by omega)
  clear e1
  simp only [encPg] at hn ⊢
  generalize encR 4 true (encDs p.ds) = DV at *
  generalize encR 8 true (encBs p.bs) = BV at *
  generalize headsS = HS at *
  simp -implicitDefEqProofs [i19, c19, hkh, hkp, s1, -strOp]
theorem num_ans (n : Int) : Ans ctx 20 [.int .i64 n] (.int .i64 n) := by
  refine Ans.of (σ' := []) fn20_ (by simp) (by simp) ⟨0, fun N hN => ?_⟩
  simp -implicitDefEqProofs [i20, c20]
end Go.Am.Tryz
