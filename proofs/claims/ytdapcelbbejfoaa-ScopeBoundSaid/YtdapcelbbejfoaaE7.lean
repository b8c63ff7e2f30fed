/- Layer 13: ScopeBound. -/
import Derived.Test.YtdapcelbbejfoaaE6
set_option linter.unusedVariables false
set_option maxRecDepth 100000
set_option linter.unusedSimpArgs false
namespace Go.Am.Try
open Go Go.Am.Ps

def bdGood : List Str := [[108, 101, 116, 32, 102, 32, 61, 32, 92, 122, 32, 45, 62, 32, 122, 59], [108, 101, 116, 32, 102, 32, 61, 32, 108, 101, 116, 32, 122, 32, 61, 32, 49, 32, 105, 110, 32, 122, 59], [108, 101, 116, 32, 102, 32, 61, 32, 108, 101, 116, 32, 122, 32, 61, 32, 49, 32, 105, 110, 32, 108, 101, 116, 32, 122, 32, 61, 32, 122, 32, 105, 110, 32, 122, 59], [108, 101, 116, 32, 102, 32, 61, 32, 99, 97, 115, 101, 32, 78, 105, 108, 32, 111, 102, 32, 123, 67, 111, 110, 115, 32, 97, 32, 98, 32, 45, 62, 32, 40, 97, 44, 32, 98, 41, 59, 32, 78, 105, 108, 32, 45, 62, 32, 49, 125, 59], [108, 101, 116, 32, 102, 32, 61, 32, 102, 59], [108, 101, 116, 32, 102, 32, 61, 32, 103, 59, 32, 108, 101, 116, 32, 103, 32, 61, 32, 102, 59], [108, 101, 116, 32, 102, 32, 122, 32, 61, 32, 92, 122, 32, 45, 62, 32, 122, 59]]
def bdBad : List Str := [[108, 101, 116, 32, 102, 32, 61, 32, 40, 92, 122, 32, 45, 62, 32, 122, 41, 32, 122, 59], [108, 101, 116, 32, 102, 32, 61, 32, 108, 101, 116, 32, 122, 32, 61, 32, 122, 32, 105, 110, 32, 49, 59], [108, 101, 116, 32, 102, 32, 61, 32, 99, 97, 115, 101, 32, 67, 111, 110, 115, 32, 111, 102, 32, 123, 67, 111, 110, 115, 32, 97, 32, 98, 32, 45, 62, 32, 49, 59, 32, 78, 105, 108, 32, 45, 62, 32, 97, 125, 59], [108, 101, 116, 32, 102, 32, 61, 32, 104, 59], [108, 101, 116, 32, 102, 32, 61, 32, 108, 101, 116, 32, 122, 32, 61, 32, 49, 32, 105, 110, 32, 40, 92, 121, 32, 45, 62, 32, 122, 41, 32, 121, 59], [108, 101, 116, 32, 102, 32, 61, 32, 40, 108, 101, 116, 32, 122, 32, 61, 32, 49, 32, 105, 110, 32, 122, 41, 32, 122, 59], [108, 101, 116, 32, 102, 32, 61, 32, 92, 121, 32, 45, 62, 32, 92, 122, 32, 45, 62, 32, 119, 59]]
def bdFar : List Nat := [18, 16, 44, 8, 31, 25, 20]

theorem bd_good : bdGood.all (fun s => (checkS (headsS ++ s)).1 == 0) = true := by kernel_rfl
theorem bd_bad : (bdBad.zip bdFar).all (fun q => checkS (headsS ++ q.1) == (7, ((101 + q.2 : Nat) : Int))) = true := by kernel_rfl

set_option maxHeartbeats 2000000 in
/-- warplaw13.ScopeBound -/
theorem scopeBound_ans (which : UInt8) : Ans ctx 14 [.int .u8 which.toNat] (.bool true) := by
  obtain ⟨kw, hkw⟩ := awake13_ans
  obtain ⟨kh, hkh⟩ := heads_ans
  have hr : which.toNat % 7 < 7 := Nat.mod_lt _ (by omega)
  have hrem : ((which.toNat : Int)).tmod 7 = ((which.toNat % 7 : Nat) : Int) := rfl
  have hwr := u8_wrap which
  generalize which.toNat % 7 = k at *
  have g1 := at_str (l := bdGood) (k := k) hr
  have g2 := at_str (l := bdBad) (k := k) hr
  have g3 := at_int (l := bdFar) (k := k) hr
  have h1 := all_at bd_good (k := k) hr
  have h2 : (checkS (headsS ++ bdBad[k]) == (7, ((101 + bdFar[k] : Nat) : Int))) = true := by
    have h := all_at bd_bad (k := k) hr
    have e : (bdBad.zip bdFar)[k]'hr = (bdBad[k], bdFar[k]) := List.getElem_zip
    rw [e] at h
    exact h
  have hfl : bdFar[k] ≤ 100 := of_decide_eq_true (all_at (f := fun n => decide (n ≤ 100)) (l := bdFar) (by decide) hr)
  have hl1 : bdGood[k].length ≤ 100 := of_decide_eq_true (all_at (f := fun n => decide (n.length ≤ 100)) (l := bdGood) (by decide) hr)
  have hl2 : bdBad[k].length ≤ 100 := of_decide_eq_true (all_at (f := fun n => decide (n.length ≤ 100)) (l := bdBad) (by decide) hr)
  generalize bdGood[k] = t1 at *
  generalize bdBad[k] = t2 at *
  generalize bdFar[k] = f at *
  have hlen : headsS.length = 101 := by rfl
  obtain ⟨S1, e1, v1, s1⟩ := cat13 headsS t1 (by omega)
  obtain ⟨S2, e2, v2, s2⟩ := cat13 headsS t2 (by omega)
  obtain ⟨k1, hk1⟩ := lcheck_ans S1
  obtain ⟨k2, hk2⟩ := lcheck_ans S2
  rw [← e1] at h1
  rw [← e2] at h2
  have h1 := eq_of_beq h1
  have h2 := eq_of_beq h2
  rw [h1] at hk1
  rw [h2] at hk2
  simp only [bdGood, bdBad, encSs, List.map_cons, List.map_nil] at g1 g2
  simp only [bdFar, List.map_cons, List.map_nil, Int.cast_ofNat_Int] at g3
  have hi := idx_at hr
  have hwf : IntKind.i64.wrap (101 + (f : Int)) = ((101 + f : Nat) : Int) := by rw [wrap_i64 (by omega)]; omega
  generalize (checkS S1).2 = x1 at *
  refine Ans.of (σ' := []) fn14_ (by simp) (by simp) ⟨k1 + k2 + kw + kh, fun N hN => ?_⟩
  have hk1 := hk1 N (by omega)
  have hk2 := hk2 N (by omega)
  have hkw := hkw N (by omega)
  have hkh := hkh N (by omega)
  have hl := congrArg (fun (n : Nat) => (n : Int)) hlen
  simp only [Int.cast_ofNat_Int] at hl
  simp only [Int.natCast_add, Int.cast_ofNat_Int] at hk2 hwf
  clear e1 e2
  generalize headsS = HS at *
  simp -implicitDefEqProofs [i14, c14, hwr, hrem, g1, g2, g3, hi, hk1, hk2, hkw, hkh, s1, s2, hl, hwf, -strOp]

end Go.Am.Try
