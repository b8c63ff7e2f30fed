/- Rows, frames, places: small words. -/
import Derived.Test.YtflhndopabnipaaMFacts
import Derived.Test.YtflhndopabnipaaMKnow
import Derived.Test.YtflhndopabnipaaMTyp
set_option linter.unusedVariables false
set_option linter.unusedSimpArgs false
namespace Go.Am.Try
open Go
@[simp] theorem encR_lenM (sz : Nat) (nl : Bool) (xs : List AV) : lenM (encR sz nl xs) = pureM (.int .i64 xs.length) := by cases nl <;> cases xs <;> rfl
@[simp] theorem encR_lenOk (sz e : Nat) (nl : Bool) (xs : List AV) : lenOk (.slice e) (encR sz nl xs) = true := by cases nl <;> cases xs <;> rfl
@[simp] theorem encR_cells (sz : Nat) (nl : Bool) (xs : List AV) : (encR sz nl xs).cells = [encR sz nl xs] := by cases nl <;> cases xs <;> rfl
@[simp] theorem encR_fits (sz : Nat) (nl : Bool) (xs : List AV) (ti : TI) : (encR sz nl xs).fits ti = (!ti.k.isAgg && ti.size == 1) := by cases nl <;> cases xs <;> rfl
theorem idx_at {i n : Nat} (h : i < n) : idxN (i : Int) n = some i := by unfold idxN; rw [if_pos (by omega)]; simp
def Hi (n : Nat) (fr : Fr) : Prop := ∀ t, n ≤ t → getS fr.sl t = .u
theorem hi_of {n : Nat} : ∀ {l : List (Nat × SV)} {b : Bool}, (l.all fun p => decide (p.1 < n)) = true → Hi n ⟨l, b⟩
  | [], _, _ => fun _ _ => rfl
  | (i, s) :: l, b, h => fun t ht => by
    simp only [List.all_cons, Bool.and_eq_true, decide_eq_true_eq] at h
    simp only [getS]
    rw [if_neg (by omega)]
    exact hi_of (b := b) h.2 t ht
def rowV (q n sz : Nat) : AV := match n with | 0 => .nil | m + 1 => .hs q (m + 1) 0 (m + 1) sz
def stH (sz : Nat) (xs : List AV) : H := match xs with | [] => [] | x :: l => [.arr false sz (x :: l)]
theorem frz_get : ∀ (ns : List Nat) (σ : H) (j : Nat), j ∉ ns → (frzH σ ns)[j]? = σ[j]?
  | [], _, _, _ => rfl
  | n :: ns, σ, j, h => by
    simp only [List.mem_cons, not_or] at h
    simp only [frzH]
    rw [frz_get ns _ j h.2]
    split
    · rw [List.getElem?_set_ne (fun e => h.1 e.symm)]
    · rfl
theorem frz_len : ∀ (ns : List Nat) (σ : H), (frzH σ ns).length = σ.length
  | [], _ => rfl
  | n :: ns, σ => by
    simp only [frzH]
    rw [frz_len ns]
    split <;> simp
def RowAt (σ : H) (q sz : Nat) (xs : List AV) : Prop := xs ≠ [] → σ[q]? = some (.arr false sz xs)
theorem app_raw2 (te : TI) {σ : H} {q2 : Nat} {xs : List AV} {y : AV} (h : RowAt σ q2 te.size xs) (hy : y.fits te = true) (hb : (xs.length + 1) * te.bytes ≤ 2 ^ 45) (hl : xs.length + 1 ≤ 2 ^ 45) :
    ∃ q3 σ', appendH te (rowV q2 xs.length te.size) [y] σ = some (rowV q3 (xs.length + 1) te.size, σ') ∧ σ'[q3]? = some (.arr false te.size (xs ++ [y])) ∧ σ.length ≤ σ'.length ∧ (∀ j o, σ[j]? = some o → (xs ≠ [] → j ≠ q2) → σ'[j]? = some o) ∧ (∀ j, j < σ.length → (xs ≠ [] → j ≠ q2) → j ≠ q3) := by
  cases xs with
  | nil =>
    simp only [List.length_nil, Nat.zero_add, Nat.one_mul] at hb
    refine ⟨σ.length, σ ++ [.arr false te.size [y]], ?_, by simp, by simp, fun j o hj _ => ?_, fun j hj _ => by omega⟩
    · simp [rowV, appendH, hy, fitAll, hb]
    · rw [List.getElem?_append_left (List.getElem?_eq_some_iff.1 hj).1]; exact hj
  | cons x l =>
    have h1 := h (by simp)
    simp at hb hl
    have e1 : l.length + 1 + 1 ≤ 35184372088832 := by omega
    have e3 : ¬ l.length + 1 + 1 ≤ l.length + 1 := by omega
    have e4 : l.length + 1 ≤ 35184372088831 := by omega
    have e5 : l.length ≤ 35184372088830 := by omega
    have hl2 := (List.getElem?_eq_some_iff.1 h1).1
    refine ⟨q2, σ.set q2 (.arr false te.size (x :: l ++ [y])), ?_, List.getElem?_set_self hl2, by simp, fun j o hj hq => ?_, fun j _ hq => hq (by simp)⟩
    · simp [rowV, appendH, hy, fitAll, hb, e1, e3, e4, e5, arrAt, h1]
    · rw [List.getElem?_set_ne (fun e => hq (by simp) e.symm)]; exact hj
def HiR (n m : Nat) (fr : Fr) : Prop := ∀ t, n ≤ t → t < m → getS fr.sl t = .u
theorem encR_ne {sz : Nat} {nl : Bool} {l : List AV} (h : l ≠ []) : encR sz nl l = .sl sz l := by
  cases l with
  | nil => exact absurd rfl h
  | cons x l => simp
theorem rowV_noRef {q n sz : Nat} (h : (rowV q n sz).noRef = true) : n = 0 := by
  cases n with
  | zero => rfl
  | succ n => simp [rowV] at h
theorem encR_zero {sz : Nat} {xs : List AV} (h : xs.length = 0) : encR sz true xs = .nil := by
  rw [List.length_eq_zero_iff.1 h]; rfl
theorem snapA_noRef {σ : H} {n : Nat} {a : AV} (h : a.noRef = true) : snapA σ n a = some (a, []) := by
  cases n <;> simp [snapA, h]
theorem mapO2_noRefs {σ : H} {n : Nat} : ∀ {l : List AV}, AV.noRefs l = true → mapO2 (snapA σ n) l = some (l, [])
  | [], _ => rfl
  | a :: l, h => by
    simp only [AV.noRefs, Bool.and_eq_true] at h
    simp only [mapO2, snapA_noRef h.1, mapO2_noRefs h.2, List.append_nil]
theorem snapA_hs {σ : H} {n q v m sz : Nat} {fz : Bool} {xs : List AV} (h : σ[q]? = some (.arr fz sz xs)) (hv : xs.length = v) (hm : m ≤ v) (hn : AV.noRefs (xs.take m) = true) : snapA σ (n + 1) (.hs q v 0 m sz) = some (.sl sz (xs.take m), [q]) := by
  unfold snapA
  rw [if_neg (by simp)]
  simp [arrAt, h, hv, hm, mapO2_noRefs hn]
theorem snap_rowV (q sz : Nat) (xs : List AV) (σ : H) (n : Nat) (h : xs ≠ [] → ∃ fz, σ[q]? = some (.arr fz sz xs)) (hn : AV.noRefs xs = true) : ∃ ns, snapA σ (n + 1) (rowV q xs.length sz) = some (encR sz true xs, ns) ∧ (ns = [] ∨ ns = [q]) := by
  cases xs with
  | nil => exact ⟨[], by simp only [rowV, List.length_nil]; exact snapA_noRef rfl, .inl rfl⟩
  | cons x l =>
    obtain ⟨fz, h⟩ := h (by simp)
    refine ⟨[q], ?_, .inr rfl⟩
    have h2 : (x :: l).take (l.length + 1) = x :: l := by
      rw [show l.length + 1 = (x :: l).length by simp, List.take_length]
    have := snapA_hs (n := n) (m := l.length + 1) h (by simp) (Nat.le_refl _) (by rw [h2]; exact hn)
    simp only [rowV, List.length_cons]
    rw [this, h2]
    simp
end Go.Am.Try
