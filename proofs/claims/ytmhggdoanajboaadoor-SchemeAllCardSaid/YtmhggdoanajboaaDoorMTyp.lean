/- Types of the small language (api.Type) as the abstract machine has them, and facts of rows and numbers. -/
import Derived.Test.YtmhggdoanajboaaDoorMAns
import Derived.IntWalk
set_option linter.unusedVariables false
namespace Go.Am
open Go
inductive Ty where
  | mk (k n : Int) (s : List UInt8) (nl : Bool) (ks : List Ty)
  deriving Inhabited
def encR (sz : Nat) : Bool → List AV → AV
  | true, [] => .nil
  | _, xs => .sl sz xs
mutual
def encT : Ty → AV
  | .mk k n s nl ks => .agg [.int .i64 k, .int .i64 n, .str s, encR 4 nl (encTs ks)]
def encTs : List Ty → List AV
  | [] => []
  | t :: l => encT t :: encTs l
end
theorem encTs_map : ∀ l, encTs l = l.map encT
  | [] => by simp [encTs]
  | t :: l => by simp [encTs, encTs_map l]
@[simp] theorem encTs_length (l : List Ty) : (encTs l).length = l.length := by simp [encTs_map]
theorem encTs_append (l m : List Ty) : encTs (l ++ m) = encTs l ++ encTs m := by simp [encTs_map]
@[simp] theorem encTs_nil : encTs [] = [] := by simp [encTs]
@[simp] theorem encTs_cons (t : Ty) (l : List Ty) : encTs (t :: l) = encT t :: encTs l := by simp [encTs]
@[simp] theorem encR_tnil (sz : Nat) : encR sz true [] = .nil := rfl
@[simp] theorem encR_cons (sz : Nat) (nl : Bool) (x : AV) (l : List AV) : encR sz nl (x :: l) = .sl sz (x :: l) := by cases nl <;> rfl
@[simp] theorem encR_mid (sz : Nat) (nl : Bool) (p : List AV) (x : AV) (l : List AV) : encR sz nl (p ++ x :: l) = .sl sz (p ++ x :: l) := by cases p <;> simp
@[simp] theorem encR_false (sz : Nat) (l : List AV) : encR sz false l = .sl sz l := by cases l <;> rfl
@[simp] theorem lenM_encR (sz : Nat) (nl : Bool) (l : List AV) : lenM (encR sz nl l) = pureM (.int .i64 l.length) := by
  cases nl <;> cases l <;> rfl
@[simp] theorem lenOk_encR (sz e : Nat) (nl : Bool) (l : List AV) : lenOk (.slice e) (encR sz nl l) = true := by
  cases nl <;> cases l <;> rfl
@[simp] theorem fits_encR (sz : Nat) (nl : Bool) (l : List AV) (ti : TI) : (encR sz nl l).fits ti = (!ti.k.isAgg && ti.size == 1) := by
  cases nl <;> cases l <;> rfl
@[simp] theorem cells_encR (sz : Nat) (nl : Bool) (l : List AV) : (encR sz nl l).cells = [encR sz nl l] := by
  cases nl <;> cases l <;> rfl
theorem noRefs_append : ∀ l m, AV.noRefs (l ++ m) = (AV.noRefs l && AV.noRefs m)
  | [], m => by simp [AV.noRefs]
  | x :: l, m => by simp [AV.noRefs, noRefs_append l m, Bool.and_assoc]
@[simp] theorem noRef_encR (sz : Nat) (nl : Bool) (l : List AV) : (encR sz nl l).noRef = AV.noRefs l := by
  cases nl <;> cases l <;> simp [encR, AV.noRef, AV.noRefs]
mutual
@[simp] theorem noRef_encT : ∀ t, (encT t).noRef = true
  | .mk k n s nl ks => by simp [encT, AV.noRef, AV.noRefs, noRefs_encTs ks]
@[simp] theorem noRefs_encTs : ∀ l, AV.noRefs (encTs l) = true
  | [] => by simp [AV.noRefs]
  | t :: l => by simp [AV.noRefs, noRef_encT t, noRefs_encTs l]
end
@[simp] theorem fits_encT (t : Ty) (ti : TI) : (encT t).fits ti = (ti.k.isAgg && 4 == ti.size) := by
  cases t; simp [encT]
/-! ### rows -/
theorem idxN_mid (p : List AV) (x : AV) (l : List AV) : idxN (p.length : Int) (p ++ x :: l).length = some p.length := by
  unfold idxN
  rw [if_pos ⟨by omega, by simp; omega⟩]
  simp
theorem get_mid (p : List AV) (x : AV) (l : List AV) : (p ++ x :: l)[p.length]? = some x := by simp
theorem lt_mid (p : List AV) (x : AV) (l : List AV) : (p.length : Int) < ((p ++ x :: l).length : Int) := by simp; omega
def Tail (xs : List AV) (i : Nat) (r : List AV) : Prop := ∃ p : List AV, p.length = i ∧ xs = p ++ r
theorem Tail.all (xs : List AV) : Tail xs 0 xs := ⟨[], rfl, rfl⟩
theorem Tail.cons {xs r : List AV} {i : Nat} {x : AV} (h : Tail xs i (x :: r)) :
    xs[i]? = some x ∧ (i : Int) < (xs.length : Int) ∧ idxN (i : Int) xs.length = some i ∧ Tail xs (i + 1) r ∧ ∀ sz nl, encR sz nl xs = .sl sz xs := by
  obtain ⟨p, rfl, rfl⟩ := h
  exact ⟨get_mid p x r, lt_mid p x r, idxN_mid p x r, ⟨p ++ [x], by simp, by simp⟩, fun sz nl => encR_mid sz nl p x r⟩
theorem Tail.len {xs r : List AV} {i : Nat} (h : Tail xs i r) : xs.length = i + r.length := by
  obtain ⟨p, rfl, rfl⟩ := h
  simp
theorem Tail.nil {xs : List AV} {i : Nat} (h : Tail xs i []) : xs.length = i := by simpa using h.len
theorem wrap_i64 {n : Int} (h : -9223372036854775808 ≤ n ∧ n ≤ 9223372036854775807) : IntKind.i64.wrap n = n := Go.IntWalk.i64_in n h
def big : Nat := 2 ^ 60
theorem wrap_succ {n : Nat} (h : n < big) : IntKind.i64.wrap ((n : Int) + 1) = ((n + 1 : Nat) : Int) := by
  unfold big at h
  rw [wrap_i64 (by omega)]; omega
mutual
def Ty.ok : Ty → Prop
  | .mk _ _ s _ ks => s.length < big ∧ ks.length < big ∧ Ty.oks ks
def Ty.oks : List Ty → Prop
  | [] => True
  | t :: l => t.ok ∧ Ty.oks l
end
mutual
def Ty.same : Ty → Ty → Bool
  | .mk k n s _ ks, .mk k' n' s' _ ks' => k == k' && (n == n' && (s == s' && Ty.sames ks ks'))
def Ty.sames : List Ty → List Ty → Bool
  | [], [] => true
  | t :: l, u :: m => t.same u && Ty.sames l m
  | _, _ => false
end
theorem Ty.sames_length : ∀ l m, Ty.sames l m = true → l.length = m.length
  | [], [], _ => rfl
  | [], _ :: _, h => by simp [Ty.sames] at h
  | _ :: _, [], h => by simp [Ty.sames] at h
  | t :: l, u :: m, h => by
    simp only [Ty.sames, Bool.and_eq_true] at h
    simp [Ty.sames_length l m h.2]
end Go.Am
