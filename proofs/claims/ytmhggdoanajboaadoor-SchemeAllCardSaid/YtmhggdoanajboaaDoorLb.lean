/- Layer 17: types by numbers. -/
import Derived.Test.YtmhggdoanajboaaDoorLa
set_option maxRecDepth 100000
set_option linter.unusedSimpArgs false
namespace Go.Am.Tryd
open Go
def conT (s : List UInt8) (ks : List Ty) : Ty := .mk 2 0 s true ks
def varT (n : Nat) : Ty := .mk 1 n [] true []
theorem var_ans (n : Nat) : Ans ctx 35 [.int .i64 n] (encT (varT n)) :=
  Ans.of (σ' := []) fn35_ (by simp) (by simp) ⟨0, fun N _ => by simp [i35, c35, varT, encT]⟩
def sInt : List UInt8 := [73, 110, 116]
def sBool : List UInt8 := [66, 111, 111, 108]
def sArrow : List UInt8 := [45, 62]
def sComma : List UInt8 := [44]
def sList : List UInt8 := [76, 105, 115, 116]
def mkT (v : Nat) : List UInt8 → Ty
  | [] => conT sInt []
  | b :: l =>
    if b.toNat % 3 = 0 ∨ (l = [] ∧ b.toNat % 3 = 1) then varT (b.toNat / 3 % v)
    else match b.toNat / 3 % 5 with
      | 0 => conT (if b.toNat / 15 % 2 = 0 then sInt else sBool) []
      | 1 => conT sArrow [mkT v l, mkT v (l.drop (l.length / 2))]
      | 2 => conT sArrow [mkT v l, mkT v (l.drop (l.length / 2))]
      | 3 => conT sComma [mkT v (l.drop (l.length / 2)), mkT v l]
      | _ => conT sList [mkT v l]
termination_by l => l.length
def encB (l : List UInt8) : List AV := ofBytes l
@[simp] theorem ofBytes_length (l : List UInt8) : (ofBytes l).length = l.length := by simp [ofBytes]
@[simp] theorem ofBytes_cons (b : UInt8) (l : List UInt8) : ofBytes (b :: l) = .int .u8 b.toNat :: ofBytes l := by simp [ofBytes]
@[simp] theorem ofBytes_nil : ofBytes [] = [] := rfl
theorem ofBytes_drop (l : List UInt8) (n : Nat) : (ofBytes l).drop n = ofBytes (l.drop n) := by simp [ofBytes, List.map_drop]
@[simp] theorem noRefs_ofBytes : ∀ l, AV.noRefs (ofBytes l) = true
  | [] => by simp
  | b :: l => by simp [AV.noRefs, AV.noRef, noRefs_ofBytes l]
theorem bounds_from {k len : Nat} (h : k ≤ len) : bounds (some (k : Int)) none len = some (k, len) := by
  unfold bounds
  simp only [Option.getD_some, Option.getD_none]
  rw [if_pos (by omega)]
  simp
theorem tdiv_lit (a b : Nat) : (a : Int).tdiv (b : Int) = ((a / b : Nat) : Int) := rfl
theorem tmod_lit (a b : Nat) : (a : Int).tmod (b : Int) = ((a % b : Nat) : Int) := rfl
set_option maxHeartbeats 2000000 in
theorem make_ans (v : Nat) (hv : 0 < v) (hv' : v < 1000) : ∀ (n : Nat) (l : List UInt8), l.length ≤ n → l.length < 2 ^ 40 → ∀ nl, Ans ctx 53 [encR 1 nl (ofBytes l), .int .i64 v] (encT (mkT v l))
  | _, [], _, _, nl => by
    refine Ans.of (σ' := []) fn53_ (by simp) (by simp) ⟨0, fun N _ => ?_⟩
    rw [mkT]
    simp [i53, c53, conT, encT, sInt]
  | n + 1, b :: l, hn, hb, nl => by
    simp at hn hb
    have hb256 : b.toNat < 256 := b.toNat_lt
    obtain ⟨k1, hk1⟩ := make_ans v hv hv' n l (by omega) (by omega) false
    obtain ⟨k2, hk2⟩ := make_ans v hv hv' n (l.drop (l.length / 2)) (by simp; omega) (by simp; omega) false
    obtain ⟨k3, hk3⟩ := var_ans (b.toNat / 3 % v)
    rw [encR_false] at hk1 hk2
    rw [mkT]
    obtain ⟨m, hm⟩ : ∃ m, m = b.toNat := ⟨_, rfl⟩
    rw [← hm] at hk3 hb256 ⊢
    obtain ⟨q3, hq3⟩ : ∃ q, q = m / 3 := ⟨_, rfl⟩
    obtain ⟨q15, hq15⟩ : ∃ q, q = m / 15 := ⟨_, rfl⟩
    obtain ⟨h, hh⟩ : ∃ h, h = l.length / 2 := ⟨_, rfl⟩
    have w0 : IntKind.i64.wrap (m : Int) = m := wrap_i64 (by omega)
    have w3 : IntKind.i64.wrap ((m : Int) / 3) = (q3 : Int) := by rw [wrap_i64 (by omega)]; omega
    have w15 : IntKind.i64.wrap ((m : Int) / 15) = (q15 : Int) := by rw [wrap_i64 (by omega)]; omega
    have wl : IntKind.i64.wrap ((l.length : Int) / 2) = (h : Int) := by rw [wrap_i64 (by omega)]; omega
    have v0 : ¬ v = 0 := by omega
    have vp : 0 < v := hv
    have i0 : idxN 0 (l.length + 1) = some 0 := by unfold idxN; rw [if_pos (by omega)]; rfl
    have b1 : bounds (some 1) none (l.length + 1) = some (1, l.length + 1) := bounds_from (k := 1) (by omega)
    have b2 : bounds (some (h : Int)) none l.length = some (h, l.length) := bounds_from (by omega)
    have t1 : (ofBytes l).take l.length = ofBytes l := by rw [← ofBytes_length l, List.take_length]
    have t2 : ((ofBytes l).take l.length).drop h = ofBytes (l.drop h) := by rw [t1, ofBytes_drop]
    rw [← hh] at hk2 ⊢
    rw [← hq3, ← hq15]
    rw [← hq3] at hk3
    have m3 : (m : Int).tmod 3 = ((m % 3 : Nat) : Int) := tmod_lit m 3
    have mv : (q3 : Int).tmod (v : Int) = ((q3 % v : Nat) : Int) := tmod_lit _ _
    have m5 : (q3 : Int).tmod 5 = ((q3 % 5 : Nat) : Int) := tmod_lit _ 5
    have m2 : (q15 : Int).tmod 2 = ((q15 % 2 : Nat) : Int) := tmod_lit _ 2
    have hlt5 : q3 % 5 < 5 := Nat.mod_lt _ (by omega)
    have hlt3 : m % 3 < 3 := Nat.mod_lt _ (by omega)
    have hlt2 : q15 % 2 < 2 := Nat.mod_lt _ (by omega)
    revert hk3 mv
    generalize m % 3 = r3 at *
    generalize q3 % 5 = r5 at *
    generalize q15 % 2 = r2 at *
    generalize q3 % v = rv at *
    intro hk3 mv
    refine Ans.of (σ' := []) fn53_ (by simp) (by simp) ⟨max k1 (max k2 k3), fun N hN => ?_⟩
    have hk1 := hk1 N (by omega)
    have hk2 := hk2 N (by omega)
    have hk3 := hk3 N (by omega)
    have z0 : ((l.length : Int) + 1 == 0) = false := by simp; omega
    by_cases c0 : r3 = 0
    · subst c0
      rw [if_pos (.inl rfl)]
      simp [i53, c53, w0, w3, m3, mv, m5, w15, m2, wl, v0, vp, i0, b1, b2, hk1, hk2, hk3, z0, ← hm, conT, encT]
    · have e0 : ((r3 : Int) == 0) = false := by simp; omega
      by_cases c1 : l = [] ∧ r3 = 1
      · obtain ⟨rfl, rfl⟩ := c1
        rw [if_pos (.inr ⟨rfl, rfl⟩)]
        simp [i53, c53, w0, w3, m3, mv, m5, w15, m2, wl, v0, vp, i0, b1, b2, hk1, hk2, hk3, z0, ← hm, e0, conT, encT]
      · rw [if_neg (by rintro (h | h); exact c0 h; exact c1 h)]
        have e1 : ((l.length : Int) + 1 == 1) = true → ((r3 : Int) == 1) = false := by
          intro h
          simp only [beq_iff_eq] at h
          simp only [beq_eq_false_iff_ne, ne_eq]
          intro h'
          exact c1 ⟨List.length_eq_zero_iff.1 (by omega), by omega⟩
        have cs : r5 = 0 ∨ r5 = 1 ∨ r5 = 2 ∨ r5 = 3 ∨ r5 = 4 := by omega
        cases e2 : ((l.length : Int) + 1 == 1) with
        | true =>
          have e3 := e1 e2
          rcases cs with rfl | rfl | rfl | rfl | rfl
          · have cs : r2 = 0 ∨ r2 = 1 := by omega
            rcases cs with rfl | rfl <;> simp [i53, c53, w0, w3, m3, mv, m5, w15, m2, wl, v0, vp, i0, b1, b2, t1, ofBytes_drop, hk1, hk2, hk3, z0, ← hm, e0, conT, encT, sInt, sBool, sArrow, sComma, sList, e2, e3]
          all_goals simp [i53, c53, w0, w3, m3, mv, m5, w15, m2, wl, v0, vp, i0, b1, b2, t1, ofBytes_drop, hk1, hk2, hk3, z0, ← hm, e0, conT, encT, sInt, sBool, sArrow, sComma, sList, e2, e3]
        | false =>
          rcases cs with rfl | rfl | rfl | rfl | rfl
          · have cs : r2 = 0 ∨ r2 = 1 := by omega
            rcases cs with rfl | rfl <;> simp [i53, c53, w0, w3, m3, mv, m5, w15, m2, wl, v0, vp, i0, b1, b2, t1, ofBytes_drop, hk1, hk2, hk3, z0, ← hm, e0, conT, encT, sInt, sBool, sArrow, sComma, sList, e2]
          all_goals simp [i53, c53, w0, w3, m3, mv, m5, w15, m2, wl, v0, vp, i0, b1, b2, t1, ofBytes_drop, hk1, hk2, hk3, z0, ← hm, e0, conT, encT, sInt, sBool, sArrow, sComma, sList, e2]
end Go.Am.Tryd
