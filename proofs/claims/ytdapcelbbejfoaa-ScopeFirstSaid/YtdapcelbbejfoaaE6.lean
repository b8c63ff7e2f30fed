/- Layer 13: the laws' helpers: Heads, check, awake. -/
import Derived.Test.YtdapcelbbejfoaaE5
import Derived.Test.YtdapcelbbejfoaaD9n
set_option linter.unusedVariables false
set_option maxRecDepth 100000
set_option linter.unusedSimpArgs false
namespace Go.Am.Try
open Go Go.Am.Ps

def headsS : Str := [100, 97, 116, 97, 32, 76, 105, 115, 116, 32, 97, 32, 61, 32, 78, 105, 108, 32, 124, 32, 67, 111, 110, 115, 32, 97, 32, 40, 76, 105, 115, 116, 32, 97, 41, 59, 10, 100, 97, 116, 97, 32, 79, 112, 116, 32, 97, 32, 61, 32, 78, 111, 110, 101, 32, 124, 32, 83, 111, 109, 101, 32, 97, 59, 10, 100, 97, 116, 97, 32, 70, 32, 97, 32, 98, 32, 61, 32, 79, 100, 100, 32, 40, 97, 32, 45, 62, 32, 98, 41, 32, 40, 97, 44, 32, 73, 110, 116, 41, 59, 10]

theorem heads_ans : Ans ctx 38 [] (.str headsS) := by
  refine Ans.of (σ' := []) fn38_ (by simp) (by simp) ⟨0, fun N hN => ?_⟩
  simp -implicitDefEqProofs [i38, c38, headsS]

/-- what a text's program is told to be -/
def checkS (s : Str) : Int × Int := match parse s with
  | .bad _ _ => (-1, 0)
  | .ok p => scI (checkScope p)

theorem parse_neq {s : Str} {e a : Nat} (h : parse s = .bad e a) : e ≠ 0 := by
  unfold parse at h
  cases hl : lex s with
  | bad x y =>
    rw [hl] at h
    have := lex_pos s hl
    simp only [Parsed.bad.injEq] at h
    rw [← h.1]; exact this
  | ok l =>
    rw [hl] at h
    simp only at h
    split at h
    · simp only [Parsed.bad.injEq] at h; omega
    · split at h
      · simp only [Parsed.bad.injEq] at h; omega
      · cases h

/-- warplaw13.check -/
theorem lcheck_ans (s : Str) : Ans ctx 39 [.str s] (.tup [.int .i64 (checkS s).1, .int .i64 (checkS s).2]) := by
  obtain ⟨⟨k1, hk1⟩, hok⟩ := parse_ans s
  unfold checkS
  cases hp : parse s with
  | bad e a =>
    rw [hp] at hk1
    have he := parse_neq hp
    have he' : ((e : Int) != 0) = true := by simp; omega
    refine Ans.of (σ' := []) fn39_ (by simp) (by simp) ⟨k1, fun N hN => ?_⟩
    have hk1 := hk1 N hN
    simp only [encPd] at hk1
    simp -implicitDefEqProofs [i39, c39, hk1, he', -bne_iff_ne]
  | ok p =>
    rw [hp] at hk1
    obtain ⟨k2, hk2⟩ := scheck_ans p (hok p hp) (parse_okB hp)
    obtain ⟨k3, hk3⟩ := num_ans (scI (checkScope p)).1
    refine Ans.of (σ' := []) fn39_ (by simp) (by simp) ⟨k1 + k2 + k3, fun N hN => ?_⟩
    have hk1 := hk1 N (by omega)
    have hk2 := hk2 N (by omega)
    have hk3 := hk3 N (by omega)
    simp only [encPd] at hk1
    simp -implicitDefEqProofs [i39, c39, hk1, hk2, hk3]

def awS13 : Str := [108, 101, 116, 32, 102, 32, 61, 32, 103, 59]

/-- warplaw13.awake -/
theorem awake13_ans : Ans ctx 35 [] (.bool true) := by
  obtain ⟨k1, hk1⟩ := scheck_ans ⟨[], []⟩ ⟨by simp, by simp, by simp, by simp⟩ (by simp)
  obtain ⟨k2, hk2⟩ := lcheck_ans awS13
  have e1 : scI (checkScope ⟨[], []⟩) = (0, 0) := by kernel_rfl
  have e2 : checkS awS13 = (7, 8) := by kernel_rfl
  rw [e1] at hk1
  rw [e2] at hk2
  obtain ⟨k3, hk3⟩ := num_ans 0
  refine Ans.of (σ' := []) fn35_ (by simp) (by simp) ⟨k1 + k2 + k3, fun N hN => ?_⟩
  have hk1 := hk1 N (by omega)
  have hk2 := hk2 N (by omega)
  have hk3 := hk3 N (by omega)
  simp only [encDs_nil, encBs_nil, encR_tnil, awS13] at hk1 hk2
  simp -implicitDefEqProofs [i35, c35, hk1, hk2, hk3]

theorem cat13 (x y : List UInt8) (h : x.length + y.length < 4611686018427387904) : ∃ S, S = x ++ y ∧ S.length = x.length + y.length ∧ strOp .add x y = some (.str S) :=
  ⟨x ++ y, rfl, by simp, by simp [strOp, h]⟩

theorem at_str {l : List Str} {k : Nat} (h : k < l.length) : (encSs l)[k]? = some (.str l[k]) := by
  unfold encSs
  rw [List.getElem?_map, List.getElem?_eq_getElem h]; rfl

theorem at_int {l : List Nat} {k : Nat} (h : k < l.length) : (l.map fun (n : Nat) => AV.int .i64 (n : Int))[k]? = some (.int .i64 (l[k] : Nat)) := by
  rw [List.getElem?_map, List.getElem?_eq_getElem h]; rfl

theorem all_at {α : Type} {l : List α} {f : α → Bool} (h : l.all f = true) {k : Nat} (hk : k < l.length) : f l[k] = true := by
  rw [List.all_eq_true] at h
  exact h _ (List.getElem_mem hk)

theorem u8_mod (w : UInt8) (m : Nat) : ((w.toNat : Int)).tmod m = ((w.toNat % m : Nat) : Int) := rfl
theorem u8_wrap (w : UInt8) : IntKind.i64.wrap (w.toNat : Int) = (w.toNat : Int) := wrap_i64 (by have := w.toNat_lt; omega)

end Go.Am.Try
