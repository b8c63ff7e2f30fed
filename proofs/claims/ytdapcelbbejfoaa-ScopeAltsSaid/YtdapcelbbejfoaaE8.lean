/- Layer 13: ScopeAlts. -/
import Derived.Test.YtdapcelbbejfoaaE6
set_option linter.unusedVariables false
set_option maxRecDepth 100000
set_option linter.unusedSimpArgs false
namespace Go.Am.Try
open Go Go.Am.Ps

def alL : List Str := [[79, 116, 104, 101, 114, 32, 45, 62, 32, 49], [78, 105, 108, 32, 120, 32, 45, 62, 32, 49], [67, 111, 110, 115, 32, 120, 32, 45, 62, 32, 49], [67, 111, 110, 115, 32, 120, 32, 120, 32, 45, 62, 32, 49], [78, 105, 108, 32, 45, 62, 32, 49, 59, 32, 78, 105, 108, 32, 45, 62, 32, 50], [78, 105, 108, 32, 45, 62, 32, 49, 59, 32, 67, 111, 110, 115, 32, 97, 32, 98, 32, 99, 32, 45, 62, 32, 50]]
def alFar : List Nat := [0, 0, 0, 0, 10, 10]
def alS : Str := headsS ++ [108, 101, 116, 32, 102, 32, 61, 32, 99, 97, 115, 101, 32, 78, 105, 108, 32, 111, 102, 32, 123]
theorem al_all : (alL.zip alFar).all (fun q => checkS ((alS ++ q.1) ++ [125, 59]) == (7, ((122 + q.2 : Nat) : Int))) = true := by kernel_rfl
theorem al_one : (checkS (alS ++ [78, 105, 108, 32, 45, 62, 32, 49, 59, 32, 67, 111, 110, 115, 32, 97, 32, 98, 32, 45, 62, 32, 50, 59, 32, 78, 111, 110, 101, 32, 45, 62, 32, 51, 125, 59])).1 = 0 := by kernel_rfl

set_option maxHeartbeats 2000000 in
/-- warplaw13.ScopeAlts -/
theorem scopeAlts_ans (which : UInt8) : Ans ctx 15 [.int .u8 which.toNat] (.bool true) := by
  obtain ⟨kw, hkw⟩ := awake13_ans
  obtain ⟨kh, hkh⟩ := heads_ans
  have hr : which.toNat % 6 < 6 := Nat.mod_lt _ (by omega)
  have hrem : ((which.toNat : Int)).tmod 6 = ((which.toNat % 6 : Nat) : Int) := rfl
  have hwr := u8_wrap which
  generalize which.toNat % 6 = k at *
  have g1 := at_str (l := alL) (k := k) hr
  have g3 := at_int (l := alFar) (k := k) hr
  have h2 : (checkS ((alS ++ alL[k]) ++ [125, 59]) == (7, ((122 + alFar[k] : Nat) : Int))) = true := by
    have h := all_at al_all (k := k) hr
    have e : (alL.zip alFar)[k]'hr = (alL[k], alFar[k]) := List.getElem_zip
    rw [e] at h
    exact h
  have hfl : alFar[k] ≤ 100 := of_decide_eq_true (all_at (f := fun n => decide (n ≤ 100)) (l := alFar) (by decide) hr)
  have hl1 : alL[k].length ≤ 100 := of_decide_eq_true (all_at (f := fun n => decide (n.length ≤ 100)) (l := alL) (by decide) hr)
  generalize alL[k] = t at *
  generalize alFar[k] = f at *
  have hlen : headsS.length = 101 := by rfl
  obtain ⟨S0, e0, v0, s0⟩ := cat13 headsS [108, 101, 116, 32, 102, 32, 61, 32, 99, 97, 115, 101, 32, 78, 105, 108, 32, 111, 102, 32, 123] (by simp only [List.length_cons, List.length_nil]; omega)
  simp only [List.length_cons, List.length_nil] at v0
  have e0' : S0 = alS := e0
  obtain ⟨S1, e1, v1, s1⟩ := cat13 S0 t (by omega)
  obtain ⟨S2, e2, v2, s2⟩ := cat13 S1 [125, 59] (by simp only [List.length_cons, List.length_nil]; omega)
  obtain ⟨S3, e3, v3, s3⟩ := cat13 S0 [78, 105, 108, 32, 45, 62, 32, 49, 59, 32, 67, 111, 110, 115, 32, 97, 32, 98, 32, 45, 62, 32, 50, 59, 32, 78, 111, 110, 101, 32, 45, 62, 32, 51, 125, 59] (by simp only [List.length_cons, List.length_nil]; omega)
  obtain ⟨k1, hk1⟩ := lcheck_ans S2
  obtain ⟨k2, hk2⟩ := lcheck_ans S3
  have h2 := eq_of_beq h2
  have h3 := al_one
  rw [← e0', ← e1, ← e2] at h2
  rw [← e0', ← e3] at h3
  rw [h2] at hk1
  rw [h3] at hk2
  simp only [alL, encSs, List.map_cons, List.map_nil] at g1
  simp only [alFar, List.map_cons, List.map_nil, Int.cast_ofNat_Int] at g3
  have hi := idx_at hr
  have hl : (S0.length : Int) = 122 := by omega
  have hwf : IntKind.i64.wrap (122 + (f : Int)) = ((122 + f : Nat) : Int) := by rw [wrap_i64 (by omega)]; omega
  generalize (checkS S3).2 = x1 at *
  refine Ans.of (σ' := []) fn15_ (by simp) (by simp) ⟨k1 + k2 + kw + kh, fun N hN => ?_⟩
  have hk1 := hk1 N (by omega)
  have hk2 := hk2 N (by omega)
  have hkw := hkw N (by omega)
  have hkh := hkh N (by omega)
  simp only [Int.natCast_add, Int.cast_ofNat_Int] at hk1 hwf
  clear e0 e0' e1 e2 e3 hlen
  generalize headsS = HS at *
  simp -implicitDefEqProofs [i15, c15, hwr, hrem, g1, g3, hi, hk1, hk2, hkw, hkh, s0, s1, s2, s3, hl, hwf, -strOp]

end Go.Am.Try
