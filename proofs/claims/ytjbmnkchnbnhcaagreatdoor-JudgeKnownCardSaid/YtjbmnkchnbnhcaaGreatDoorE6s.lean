/- Small words for the laws: texts, rows of texts and numbers. -/
import Derived.Test.YtjbmnkchnbnhcaaGreatDoorP21
set_option linter.unusedVariables false
set_option maxRecDepth 100000
set_option linter.unusedSimpArgs false
namespace Go.Am.Tryz
open Go Go.Am.Ps
def Hi2 (n m : Nat) (fr : Fr) : Prop := ∀ t, n ≤ t → t < m → getS fr.sl t = .u
theorem idx_at {i n : Nat} (h : i < n) : idxN (i : Int) n = some i := by unfold idxN; rw [if_pos (by omega)]; simp
theorem cat13 (x y : List UInt8) (h : x.length + y.length < 4611686018427387904) : ∃ S, S = x ++ y ∧ S.length = x.length + y.length ∧ strOp .add x y = some (.str S) :=
  ⟨x ++ y, rfl, by simp, by simp [strOp, h]⟩
theorem at_str {l : List Str} {k : Nat} (h : k < l.length) : (encSs l)[k]? = some (.str l[k]) := by
  unfold encSs
  rw [List.getElem?_map, List.getElem?_eq_getElem h]; rfl
theorem at_int {l : List Nat} {k : Nat} (h : k < l.length) : (l.map fun (n : Nat) => AV.int .i64 (n : Int))[k]? = some (.int .i64 (l[k] : Nat)) := by
  rw [List.getElem?_map, List.getElem?_eq_getElem h]; rfl
theorem all_at {α : Type} {l : List α} {f : α → Bool} (h : l.all f = true) {k : Nat} (hk : k < l.length) : f l[k] = true := by
  rw [List.all_eq_true] at h
  exact h _ (List.getElem_mem hk)
theorem u8_mod (w : UInt8) (m : Nat) : ((w.toNat : Int)).tmod m = ((w.toNat % m : Nat) : Int) := rfl
theorem u8_wrap (w : UInt8) : IntKind.i64.wrap (w.toNat : Int) = (w.toNat : Int) := wrap_i64 (by have := w.toNat_lt; omega)
end Go.Am.Tryz
