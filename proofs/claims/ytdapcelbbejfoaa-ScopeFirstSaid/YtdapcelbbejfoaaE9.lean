/- Layer 13: ScopeFirst. -/
import Derived.Test.YtdapcelbbejfoaaE6
set_option linter.unusedVariables false
set_option maxRecDepth 100000
set_option linter.unusedSimpArgs false
namespace Go.Am.Try
open Go Go.Am.Ps

def fiL : List Str := [[108, 101, 116, 32, 102, 32, 61, 32, 104, 59, 32, 100, 97, 116, 97, 32, 68, 32, 61, 32, 65, 32, 88, 59], [108, 101, 116, 32, 102, 32, 61, 32, 104, 59, 32, 108, 101, 116, 32, 102, 32, 61, 32, 49, 59], [108, 101, 116, 32, 103, 32, 61, 32, 104, 59, 32, 108, 101, 116, 32, 102, 32, 61, 32, 107, 59], [108, 101, 116, 32, 102, 32, 61, 32, 40, 107, 44, 32, 104, 41, 59], [108, 101, 116, 32, 102, 32, 61, 32, 107, 32, 104, 59], [108, 101, 116, 32, 102, 32, 61, 32, 92, 120, 32, 45, 62, 32, 40, 120, 44, 32, 79, 116, 104, 101, 114, 41, 59], [108, 101, 116, 32, 102, 32, 61, 32, 99, 97, 115, 101, 32, 104, 32, 111, 102, 32, 123, 78, 105, 108, 32, 45, 62, 32, 49, 59, 32, 78, 105, 108, 32, 45, 62, 32, 50, 125, 59], [108, 101, 116, 32, 102, 32, 61, 32, 99, 97, 115, 101, 32, 78, 105, 108, 32, 111, 102, 32, 123, 78, 105, 108, 32, 45, 62, 32, 104, 59, 32, 78, 105, 108, 32, 45, 62, 32, 50, 125, 59]]
def fiCode : List Nat := [6, 7, 7, 7, 7, 7, 7, 7]
def fiFar : List Nat := [20, 15, 8, 9, 8, 18, 13, 28]
theorem fi_all : (fiL.zip (fiCode.zip fiFar)).all (fun q => checkS (headsS ++ q.1) == ((q.2.1 : Int), ((101 + q.2.2 : Nat) : Int))) = true := by kernel_rfl

set_option maxHeartbeats 2000000 in
/-- warplaw13.ScopeFirst -/
theorem scopeFirst_ans (which : UInt8) : Ans ctx 16 [.int .u8 which.toNat] (.bool true) := by
  obtain ⟨kw, hkw⟩ := awake13_ans
  obtain ⟨kh, hkh⟩ := heads_ans
  have hr : which.toNat % 8 < 8 := Nat.mod_lt _ (by omega)
  have hrem : ((which.toNat : Int)).tmod 8 = ((which.toNat % 8 : Nat) : Int) := rfl
  have hwr := u8_wrap which
  generalize which.toNat % 8 = k at *
  have g1 := at_str (l := fiL) (k := k) hr
  have g2 := at_int (l := fiCode) (k := k) hr
  have g3 := at_int (l := fiFar) (k := k) hr
  have h2 : (checkS (headsS ++ fiL[k]) == ((fiCode[k] : Int), ((101 + fiFar[k] : Nat) : Int))) = true := by
    have h := all_at fi_all (k := k) hr
    have e : (fiL.zip (fiCode.zip fiFar))[k]'hr = (fiL[k], (fiCode.zip fiFar)[k]'hr) := List.getElem_zip
    have e' : (fiCode.zip fiFar)[k]'hr = (fiCode[k], fiFar[k]) := List.getElem_zip
    rw [e, e'] at h
    exact h
  have hfl : fiFar[k] ≤ 100 := of_decide_eq_true (all_at (f := fun n => decide (n ≤ 100)) (l := fiFar) (by decide) hr)
  have hl1 : fiL[k].length ≤ 100 := of_decide_eq_true (all_at (f := fun n => decide (n.length ≤ 100)) (l := fiL) (by decide) hr)
  generalize fiL[k] = t at *
  generalize fiFar[k] = f at *
  generalize fiCode[k] = cd at *
  have hlen : headsS.length = 101 := by rfl
  obtain ⟨S1, e1, v1, s1⟩ := cat13 headsS t (by omega)
  obtain ⟨k1, hk1⟩ := lcheck_ans S1
  have h2 := eq_of_beq h2
  rw [← e1] at h2
  rw [h2] at hk1
  simp only [fiL, encSs, List.map_cons, List.map_nil] at g1
  simp only [fiFar, fiCode, List.map_cons, List.map_nil, Int.cast_ofNat_Int] at g2 g3
  have hi := idx_at hr
  have hl := congrArg (fun (n : Nat) => (n : Int)) hlen
  simp only [Int.cast_ofNat_Int] at hl
  have hwf : IntKind.i64.wrap (101 + (f : Int)) = ((101 + f : Nat) : Int) := by rw [wrap_i64 (by omega)]; omega
  refine Ans.of (σ' := []) fn16_ (by simp) (by simp) ⟨k1 + kw + kh, fun N hN => ?_⟩
  have hk1 := hk1 N (by omega)
  have hkw := hkw N (by omega)
  have hkh := hkh N (by omega)
  simp only [Int.natCast_add, Int.cast_ofNat_Int] at hk1 hwf
  clear e1 hlen
  generalize headsS = HS at *
  simp -implicitDefEqProofs [i16, c16, hwr, hrem, g1, g2, g3, hi, hk1, hkw, hkh, s1, hl, hwf, -strOp]

end Go.Am.Try
