/- Maps of the machine, of keys and values of any kind that is told by lists of pairs. -/
import Derived.Test.YtdapcelbbejfoaaMAns
set_option linter.unusedVariables false
namespace Go.Am
open Go
structure Tab (C : Ctx) (t : Nat) (K V : Type) [DecidableEq K] where
  tk : TI
  te : TI
  ek : K → AV
  ev : V → AV
  z : V
  map : mapOf C t = some (tk, te)
  key : ∀ k, keyOk tk (ek k) = true
  kfit : ∀ k, (ek k).fits tk = true
  eq : ∀ k x, eqA tk.eqk (ek k) (ek x) = some (decide (k = x))
  vfit : ∀ v, (ev v).fits te = true
  zero : te.zero = ev z
section plain
variable {K V : Type} [DecidableEq K]
def findT (k : K) : Nat → List (K × V) → Option (Nat × V)
  | _, [] => none
  | i, (x, v) :: l => if k = x then some (i, v) else findT k (i + 1) l
def getT (l : List (K × V)) (k : K) : Option V := (findT k 0 l).map (·.2)
def putT (k : K) (v : V) : List (K × V) → List (K × V)
  | [] => [(k, v)]
  | (x, w) :: l => if k = x then (x, v) :: l else (x, w) :: putT k v l
theorem findT_shift (k : K) : ∀ (l : List (K × V)) (i : Nat), findT k i l = (findT k 0 l).map fun p => (p.1 + i, p.2)
  | [], i => rfl
  | (x, v) :: l, i => by
    simp only [findT]
    split
    · simp
    · rw [findT_shift k l (i + 1), findT_shift k l (0 + 1)]
      cases findT k 0 l with
      | none => rfl
      | some p => simp; omega
@[simp] theorem getT_nil (k : K) : getT ([] : List (K × V)) k = none := rfl
theorem getT_cons (x k : K) (v : V) (l : List (K × V)) : getT ((x, v) :: l) k = if k = x then some v else getT l k := by
  unfold getT
  simp only [findT]
  split
  · rfl
  · rw [findT_shift]
    cases findT k 0 l <;> rfl
theorem getT_put (k k' : K) (v : V) : ∀ l : List (K × V), getT (putT k v l) k' = if k' = k then some v else getT l k'
  | [] => by simp only [putT, getT_cons, getT_nil]
  | (x, w) :: l => by
    simp only [putT]
    by_cases hk : k = x
    · subst hk
      rw [if_pos rfl, getT_cons, getT_cons]
      split <;> rfl
    · rw [if_neg hk, getT_cons, getT_cons, getT_put k k' v l]
      by_cases hk' : k' = x
      · subst hk'
        rw [if_pos rfl, if_pos rfl, if_neg (fun e => hk e.symm)]
      · rw [if_neg hk', if_neg hk']
theorem getT_app (l : List (K × V)) (k x : K) (v : V) : getT (l ++ [(k, v)]) x = (getT l x).or (if x = k then some v else none) := by
  induction l with
  | nil => simp [getT_cons]
  | cons p l ih =>
    obtain ⟨y, w⟩ := p
    rw [List.cons_append, getT_cons, getT_cons, ih]
    split <;> rfl
theorem putT_none (k : K) (v : V) : ∀ (l : List (K × V)), getT l k = none → putT k v l = l ++ [(k, v)]
  | [], _ => rfl
  | (x, u) :: l, h => by
    rw [getT_cons] at h
    split at h
    · cases h
    · rename_i hk
      simp only [putT, if_neg hk, putT_none k v l h, List.cons_append]
theorem getT_find {l : List (K × V)} {k : K} {i : Nat} {v : V} (h : findT k 0 l = some (i, v)) : getT l k = some v := by simp [getT, h]
theorem getT_find0 {l : List (K × V)} {k : K} (h : findT k 0 l = none) : getT l k = none := by simp [getT, h]
def entT (z : V) (l : List (K × V)) (k : K) : Nat × List (K × V) := match findT k 0 l with | some (j, _) => (j, l) | none => (l.length, l ++ [(k, z)])
theorem findT_app (k : K) (v : V) : ∀ (l : List (K × V)) (i : Nat), findT k i l = none → findT k i (l ++ [(k, v)]) = some (i + l.length, v)
  | [], i, _ => by simp [findT]
  | (x, u) :: l, i, h => by
    simp only [findT] at h
    split at h
    · cases h
    · rename_i hk
      simp only [List.cons_append, findT, if_neg hk, findT_app k v l (i + 1) h, List.length_cons]
      congr 2; omega
end plain
variable {C : Ctx} {t : Nat} {K V : Type} [DecidableEq K] {σ : H} {r : Nat}
namespace Tab
variable (T : Tab C t K V)
def enc (l : List (K × V)) : List (AV × AV) := l.map fun p => (T.ek p.1, T.ev p.2)
@[simp] theorem enc_nil : T.enc [] = [] := rfl
@[simp] theorem enc_cons (k : K) (v : V) (l : List (K × V)) : T.enc ((k, v) :: l) = (T.ek k, T.ev v) :: T.enc l := rfl
@[simp] theorem enc_len (l : List (K × V)) : (T.enc l).length = l.length := by simp [enc]
theorem enc_app (l m : List (K × V)) : T.enc (l ++ m) = T.enc l ++ T.enc m := by simp [enc]
theorem find (k : K) : ∀ (l : List (K × V)) (i : Nat), findIdx T.tk (T.ek k) i (T.enc l) = some ((findT k i l).map fun p => (p.1, T.ev p.2))
  | [], i => rfl
  | (x, v) :: l, i => by
    simp only [enc_cons, findIdx, T.kfit, if_true, T.eq]
    by_cases h : k = x
    · simp [findT, h]
    · simp only [h, decide_false, findT, if_false]
      exact find k l (i + 1)
theorem look {l : List (K × V)} (h : σ[r]? = some (.map (T.enc l))) (k : K) : lookupA C t (.map r) (T.ek k) false σ = some (T.ev ((getT l k).getD T.z), σ) := by
  unfold lookupA
  rw [T.map]
  simp only [T.key, if_true, h, T.find]
  unfold getT
  cases findT k 0 l with
  | none => simp [backA, T.zero]
  | some p => rfl
theorem look2 {l : List (K × V)} (h : σ[r]? = some (.map (T.enc l))) (k : K) : lookupA C t (.map r) (T.ek k) true σ = some (.tup [T.ev ((getT l k).getD T.z), .bool (getT l k).isSome], σ) := by
  unfold lookupA
  rw [T.map]
  simp only [T.key, if_true, h, T.find]
  unfold getT
  cases findT k 0 l with
  | none => simp [backA, T.zero]
  | some p => rfl
theorem find_len (k : K) : ∀ (l : List (K × V)) (i j : Nat) (v : V), findT k i l = some (j, v) → i ≤ j ∧ j < i + l.length ∧ (T.enc l)[j - i]? = some (T.ek k, T.ev v)
  | [], i, j, v, h => by cases h
  | (x, w) :: l, i, j, v, h => by
    simp only [findT] at h
    split at h
    · rename_i hk
      cases h
      subst hk
      exact ⟨Nat.le_refl _, by simp, by simp⟩
    · obtain ⟨h1, h2, h3⟩ := find_len k l (i + 1) j v h
      refine ⟨by omega, by simp; omega, ?_⟩
      rw [show j - i = (j - (i + 1)) + 1 by omega]
      simpa using h3
theorem set_put (k : K) (v : V) : ∀ (l : List (K × V)) (i j : Nat) (w : V), findT k i l = some (j, w) → (T.enc l).set (j - i) (T.ek k, T.ev v) = T.enc (putT k v l)
  | [], i, j, w, h => by cases h
  | (x, u) :: l, i, j, w, h => by
    simp only [findT] at h
    split at h
    · rename_i hk
      cases h
      subst hk
      simp [putT]
    · rename_i hk
      obtain ⟨h1, _, _⟩ := T.find_len k l (i + 1) j w h
      have := set_put k v l (i + 1) j w h
      rw [show j - i = (j - (i + 1)) + 1 by omega]
      simp only [enc_cons, List.set_cons_succ, putT, if_neg hk] at this ⊢
      rw [this]
theorem up {l : List (K × V)} (h : σ[r]? = some (.map (T.enc l))) (k : K) (v : V) : updateA C t (.map r) (T.ek k) (T.ev v) σ = some ((), σ.set r (.map (T.enc (putT k v l)))) := by
  unfold updateA
  rw [T.map]
  simp only [h, T.key, T.vfit, and_self, if_true, T.find]
  cases hk : findT k 0 l with
  | none =>
    simp only [Option.map_none]
    rw [putT_none k v l (getT_find0 hk), T.enc_app]
    rfl
  | some p =>
    obtain ⟨j, w⟩ := p
    simp only [Option.map_some]
    have := T.set_put k v l 0 j w hk
    rw [Nat.sub_zero] at this
    rw [this]
theorem ent {l : List (K × V)} (h : σ[r]? = some (.map (T.enc l))) (k : K) : entryA C t (.map r) (T.ek k) σ = some (.tup [T.ev ((getT l k).getD T.z), .int .i64 (entT T.z l k).1], σ.set r (.map (T.enc (entT T.z l k).2))) := by
  unfold entryA
  rw [T.map]
  simp only [h, T.key, if_true, T.find]
  unfold getT entT
  cases hk : findT k 0 l with
  | none => simp [T.enc_app, T.zero]
  | some p =>
    simp only [Option.map_some, Option.getD_some]
    congr 2
    apply List.ext_getElem?
    intro i
    rw [List.getElem?_set]
    split
    · rename_i hi
      subst hi
      rw [if_pos (List.getElem?_eq_some_iff.1 h).1]
      exact h
    · rfl
theorem store {l : List (K × V)} (k : K) (h : σ[r]? = some (.map (T.enc (entT T.z l k).2))) (v : V) : entryStoreA C t (.map r) (.int .i64 (entT T.z l k).1) (T.ev v) σ = some ((), σ.set r (.map (T.enc (putT k v l)))) := by
  unfold entryStoreA
  rw [T.map]
  simp only [h]
  cases hk : findT k 0 l with
  | none =>
    have e1 : entT T.z l k = (l.length, l ++ [(k, T.z)]) := by simp [entT, hk]
    rw [e1]
    have hi : idxN (l.length : Int) (l.length + 1) = some l.length := by unfold idxN; rw [if_pos (by omega)]; simp
    have hg : (T.enc (l ++ [(k, T.z)]))[l.length]? = some (T.ek k, T.ev T.z) := by simp [T.enc_app]
    have hl : (T.enc (l ++ [(k, T.z)])).length = l.length + 1 := by simp
    rw [hl]
    simp only [hi, hg, T.vfit, if_true]
    rw [putT_none k v l (getT_find0 hk)]
    simp [T.enc_app]
  | some p =>
    obtain ⟨j, w⟩ := p
    have e1 : entT T.z l k = (j, l) := by simp [entT, hk]
    obtain ⟨h1, h2, h3⟩ := T.find_len k l 0 j w hk
    rw [Nat.sub_zero] at h3
    rw [e1]
    have hi : idxN (j : Int) l.length = some j := by unfold idxN; rw [if_pos (by omega)]; simp
    rw [T.enc_len]
    simp only [hi, h3, T.vfit, if_true]
    have := T.set_put k v l 0 j w hk
    rw [Nat.sub_zero] at this
    rw [this]
end Tab
end Go.Am
