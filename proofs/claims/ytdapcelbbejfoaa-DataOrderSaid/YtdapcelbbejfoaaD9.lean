/- Layer 12: the laws' awake; DataWrong. -/
import Derived.Test.YtdapcelbbejfoaaDA
set_option linter.unusedVariables false
set_option maxRecDepth 100000
set_option linter.unusedSimpArgs false
namespace Go.Am.Try
open Go Go.Am.Ps
theorem awake12_ans : Ans ctx 31 [] (.bool true) := by
  obtain ⟨k1, hk1⟩ := check_ans [] true (by simp [big]) (by simp)
  obtain ⟨k2, hk2⟩ := check_ans [⟨sInt, 5, [], []⟩] true (by simp [big]) (by simp [okD, lim])
  have e1 : checkData [] = none := by kernel_rfl
  have e2 : checkData [⟨sInt, 5, [], []⟩] = some 5 := by kernel_rfl
  rw [e1] at hk1
  rw [e2] at hk2
  obtain ⟨k3, hk3⟩ := num_ans 0
  obtain ⟨k4, hk4⟩ := num_ans 6
  refine Ans.of (σ' := []) fn31_ (by simp) (by simp) ⟨k1 + k2 + k3 + k4, fun N hN => ?_⟩
  have hk1 := hk1 N (by omega)
  have hk2 := hk2 N (by omega)
  have hk3 := hk3 N (by omega)
  have hk4 := hk4 N (by omega)
  simp only [encDs_nil, encDs_cons, encR_tnil, encR_cons, encD, encSs_nil, encCs_nil, sInt, chkI, Int.cast_ofNat_Int] at hk1 hk2
  simp -implicitDefEqProofs [i31, c31, hk1, hk2, hk3, hk4]
def wrong : List Str := [[100, 97, 116, 97, 32, 73, 110, 116, 32, 61, 32, 65, 59], [100, 97, 116, 97, 32, 68, 32, 61, 32, 65, 59, 32, 100, 97, 116, 97, 32, 68, 32, 61, 32, 66, 59], [100, 97, 116, 97, 32, 68, 32, 97, 32, 97, 32, 61, 32, 65, 59], [100, 97, 116, 97, 32, 68, 32, 61, 32, 65, 59, 32, 100, 97, 116, 97, 32, 69, 32, 61, 32, 65, 59], [100, 97, 116, 97, 32, 68, 32, 61, 32, 65, 32, 124, 32, 65, 59], [100, 97, 116, 97, 32, 68, 32, 97, 32, 61, 32, 65, 32, 98, 59], [100, 97, 116, 97, 32, 68, 32, 61, 32, 65, 32, 88, 59], [100, 97, 116, 97, 32, 68, 32, 97, 32, 61, 32, 65, 32, 68, 59], [100, 97, 116, 97, 32, 68, 32, 61, 32, 65, 32, 40, 73, 110, 116, 32, 73, 110, 116, 41, 59], [100, 97, 116, 97, 32, 68, 32, 97, 32, 61, 32, 65, 32, 40, 97, 32, 45, 62, 32, 40, 68, 44, 32, 73, 110, 116, 41, 41, 59], [100, 97, 116, 97, 32, 66, 111, 111, 108, 32, 61, 32, 66, 59]]
def farW : List Nat := [5, 17, 5, 21, 13, 11, 9, 11, 9, 11, 5]
def goodW : Str := [100, 97, 116, 97, 32, 68, 32, 97, 32, 61, 32, 65, 32, 97, 32, 40, 69, 32, 73, 110, 116, 41, 32, 124, 32, 66, 32, 40, 68, 32, 97, 32, 45, 62, 32, 66, 111, 111, 108, 41, 59, 32, 100, 97, 116, 97, 32, 69, 32, 120, 32, 61, 32, 70, 32, 40, 68, 32, 40, 69, 32, 120, 41, 44, 32, 120, 41, 59]
def chkS (s : Str) : Option (Option Nat) := match parse s with | .ok p => some (checkData p.ds) | .bad _ _ => none
theorem wrong_all : (wrong.zip farW).all (fun q => chkS q.1 == some (some q.2)) = true := by kernel_rfl
theorem good_one : chkS goodW = some none := by kernel_rfl
theorem chkS_ok {s : Str} {o : Option Nat} (h : chkS s = some o) : ∃ p, parse s = .ok p ∧ checkData p.ds = o := by
  unfold chkS at h
  split at h
  · rename_i p hp; exact ⟨p, hp, by simpa using h⟩
  · cases h
theorem parse_check {s : Str} {o : Option Nat} (h : chkS s = some o) : ∃ p : Pg, Ans ctx 18 [.str s] (.agg [encR 4 true (encDs p.ds), encR 8 true (encBs p.bs), .int .i64 0, .int .i64 0]) ∧ Ans ctx 29 [encR 4 true (encDs p.ds)] (.tup [.int .i64 (chkI o).1, .int .i64 (chkI o).2]) := by
  obtain ⟨p, h1, h2⟩ := chkS_ok h
  obtain ⟨a, b⟩ := parse_ans s
  have hp := b p h1
  rw [h1] at a
  refine ⟨p, a, ?_⟩
  have hd := hp.ds
  have := check_ans p.ds true (by unfold lim at hd; unfold big; omega) hp.d
  rw [h2] at this
  exact this
theorem dataWrong_ans (which : UInt8) : Ans ctx 8 [.int .u8 which.toNat] (.bool true) := by
  obtain ⟨kw, hkw⟩ := awake12_ans
  have hr : which.toNat % 11 < 11 := Nat.mod_lt _ (by omega)
  have hrem : ((which.toNat : Int)).tmod 11 = ((which.toNat % 11 : Nat) : Int) := rfl
  have hwr : IntKind.i64.wrap (which.toNat : Int) = (which.toNat : Int) := wrap_i64 (by have := which.toNat_lt; omega)
  generalize which.toNat % 11 = k at *
  have hk1 : k < wrong.length := hr
  have hk2 : k < farW.length := hr
  have hs : chkS wrong[k] = some (some farW[k]) := by
    have h := wrong_all
    rw [List.all_eq_true] at h
    have := h (wrong[k], farW[k]) (by
      rw [List.mem_iff_getElem]
      exact ⟨k, by simp only [List.length_zip]; omega, List.getElem_zip⟩)
    simpa using this
  have g1 : (encSs wrong)[k]? = some (.str wrong[k]) := by
    unfold encSs
    rw [List.getElem?_map, List.getElem?_eq_getElem hk1]; rfl
  have g2 : (farW.map fun (n : Nat) => AV.int .i64 (n : Int))[k]? = some (.int .i64 (farW[k] : Nat)) := by
    rw [List.getElem?_map, List.getElem?_eq_getElem hk2]; rfl
  generalize wrong[k] = t at *
  generalize farW[k] = f at *
  obtain ⟨p, ⟨k1, hk1⟩, k2, hk2⟩ := parse_check hs
  obtain ⟨p', ⟨k3, hk3⟩, k4, hk4⟩ := parse_check good_one
  obtain ⟨k5, hk5⟩ := num_ans 6
  obtain ⟨k6, hk6⟩ := num_ans 0
  simp only [wrong, encSs, List.map_cons, List.map_nil] at g1
  simp only [farW, List.map_cons, List.map_nil, Int.cast_ofNat_Int] at g2
  have hi := idx_at hr
  refine Ans.of (σ' := []) fn8_ (by simp) (by simp) ⟨k1 + k2 + k3 + k4 + k5 + k6 + kw, fun N hN => ?_⟩
  have hk1 := hk1 N (by omega)
  have hk2 := hk2 N (by omega)
  have hk3 := hk3 N (by omega)
  have hk4 := hk4 N (by omega)
  have hk5 := hk5 N (by omega)
  have hk6 := hk6 N (by omega)
  have hkw := hkw N (by omega)
  simp only [goodW, chkI] at hk2 hk3 hk4
  simp -implicitDefEqProofs [i8, c8, hwr, hrem, g1, g2, hi, hk1, hk2, hk3, hk4, hk5, hk6, hkw]
end Go.Am.Try
