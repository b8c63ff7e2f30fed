/- Layer 14: refs.Free: its map, its names. -/
import Derived.Test.YtdapcelbbejfoaaP21
set_option linter.unusedVariables false
set_option maxRecDepth 100000
set_option linter.unusedSimpArgs false
namespace Go.Am.Try
open Go Go.Am.Ps
/-! ### plain: what is free -/
def memS (l : List Str) (s : Str) : Bool := l.any (eqS s)
def addF (k : Nat) (s : Str) (B O : List Str) : List Str := if k = 1 ∧ s ∉ B ∧ s ∉ O then O ++ [s] else O
def bindK (k i : Nat) : Bool := Nat.beq k 6 || (Nat.beq k 7 && Nat.beq i 1)
mutual
def frE (B O : List Str) : Ex → List Str
  | .mk k _ s _ ks as => frA B (frK k s 0 B (addF k s B O) ks) as
def frK (k : Nat) (s : Str) (i : Nat) (B O : List Str) : List Ex → List Str
  | [] => O
  | e :: l => frK k s (i + 1) B (cond (bindK k i) (frE (s :: B) O e) (frE B O e)) l
def frA (B O : List Str) : List Al → List Str
  | [] => O
  | .mk _ _ ns b :: l => frA B (frE (ns ++ B) O b) l
end
/-! ### a map of names -/
abbrev KL := List ((Str × Bool) × Int)
def encKey (k : Str × Bool) : AV := .agg [.str k.1, .bool k.2]
def encKL (l : KL) : List (AV × AV) := l.map fun p => (encKey p.1, .int .i64 p.2)
def findK (k : Str × Bool) : Nat → KL → Option (Nat × Int)
  | _, [] => none
  | i, (x, v) :: l => if k = x then some (i, v) else findK k (i + 1) l
def getK (l : KL) (k : Str × Bool) : Int := match findK k 0 l with | some (_, v) => v | none => 0
def putK (k : Str × Bool) (v : Int) : KL → KL
  | [] => [(k, v)]
  | (x, w) :: l => if k = x then (x, v) :: l else (x, w) :: putK k v l
theorem findK_shift (k : Str × Bool) : ∀ (l : KL) (i : Nat), findK k i l = (findK k 0 l).map fun p => (p.1 + i, p.2)
  | [], i => rfl
  | (x, v) :: l, i => by
    simp only [findK]
    split
    · simp
    · rw [findK_shift k l (i + 1), findK_shift k l (0 + 1)]
      cases findK k 0 l with
      | none => rfl
      | some p => simp; omega
theorem getK_put (k k' : Str × Bool) (v : Int) : ∀ l : KL, getK (putK k v l) k' = if k' = k then v else getK l k'
  | [] => by
    simp only [putK, getK, findK]
    split <;> simp_all
  | (x, w) :: l => by
    have h := getK_put k k' v l
    simp only [getK] at h
    simp only [putK]
    by_cases hk : k = x
    · subst hk
      rw [if_pos rfl]
      simp only [getK, findK]
      by_cases hk' : k' = k
      · simp [hk']
      · simp [hk']
    · rw [if_neg hk]
      simp only [getK, findK]
      by_cases hk' : k' = x
      · subst hk'
        have : ¬ k' = k := fun e => hk e.symm
        simp [this]
      · rw [if_neg hk', if_neg hk', findK_shift k' (putK k v l) (0 + 1), findK_shift k' l (0 + 1)]
        cases h1 : findK k' 0 (putK k v l) <;> cases h2 : findK k' 0 l <;> rw [h1, h2] at h <;> simpa using h
def tkS : TI := ⟨.strct [(0, 9), (1, 4)], 2, 24, .agg [.str [], .bool false], [.str, .bool]⟩
def teI : TI := ⟨.int .i64, 1, 8, .int .i64 0, [.int .i64]⟩
theorem map98 : mapOf ctx 98 = some (tkS, teI) := by rfl
theorem findIdx_enc (k : Str × Bool) : ∀ (l : KL) (i : Nat), findIdx tkS (encKey k) i (encKL l) = some ((findK k i l).map fun p => (p.1, AV.int .i64 p.2))
  | [], i => rfl
  | (x, v) :: l, i => by
    have hf : (encKey x).fits tkS = true := rfl
    have he : eqA [.str, .bool] (encKey k) (encKey x) = some (decide (k = x)) := by
      obtain ⟨k1, k2⟩ := k
      obtain ⟨x1, x2⟩ := x
      simp only [encKey, eqA, AV.cells, eqLeaves, eqLeaf, Prod.mk.injEq, Bool.and_true]
      by_cases h1 : k1 = x1
      · subst h1
        cases k2 <;> cases x2 <;> simp
      · have : (k1 == x1) = false := by simpa using h1
        simp [this, h1]
    have hk : tkS.eqk = [.str, .bool] := rfl
    have ih := findIdx_enc k l (i + 1)
    simp only [encKL, List.map_cons, findIdx, hf, if_true, hk, he] at ih ⊢
    by_cases h : k = x
    · simp [findK, h]
    · simp only [h, decide_false, findK, if_false]
      exact ih
theorem keyOk_enc (k : Str × Bool) : keyOk tkS (encKey k) = true := rfl
theorem look98 {σ : H} {l : KL} (h : σ[0]? = some (.map (encKL l))) (k : Str × Bool) : lookupA ctx 98 (.map 0) (encKey k) false σ = some (.int .i64 (getK l k), σ) := by
  have hm := map98
  unfold lookupA
  rw [hm]
  simp only [keyOk_enc, if_true, h, findIdx_enc]
  unfold getK
  cases findK k 0 l <;> rfl
theorem findK_len (k : Str × Bool) : ∀ (l : KL) (i j : Nat) (v : Int), findK k i l = some (j, v) → i ≤ j ∧ j < i + l.length ∧ (encKL l)[j - i]? = some (encKey k, .int .i64 v)
  | [], i, j, v, h => by cases h
  | (x, w) :: l, i, j, v, h => by
    simp only [findK] at h
    split at h
    · rename_i hk
      cases h
      subst hk
      exact ⟨Nat.le_refl _, by simp, by simp [encKL]⟩
    · obtain ⟨h1, h2, h3⟩ := findK_len k l (i + 1) j v h
      refine ⟨by omega, by simp; omega, ?_⟩
      rw [show j - i = (j - (i + 1)) + 1 by omega]
      simpa [encKL] using h3
theorem set_put (k : Str × Bool) (v : Int) : ∀ (l : KL) (i j : Nat) (w : Int), findK k i l = some (j, w) → (encKL l).set (j - i) (encKey k, .int .i64 v) = encKL (putK k v l)
  | [], i, j, w, h => by cases h
  | (x, u) :: l, i, j, w, h => by
    simp only [findK] at h
    split at h
    · rename_i hk
      cases h
      subst hk
      simp [encKL, putK]
    · rename_i hk
      obtain ⟨h1, _, _⟩ := findK_len k l (i + 1) j w h
      have := set_put k v l (i + 1) j w h
      rw [show j - i = (j - (i + 1)) + 1 by omega]
      simp only [encKL, List.map_cons, List.set_cons_succ, putK, if_neg hk] at this ⊢
      rw [this]
theorem put_none (k : Str × Bool) (v : Int) : ∀ (l : KL) (i : Nat), findK k i l = none → putK k v l = l ++ [(k, v)]
  | [], _, _ => rfl
  | (x, u) :: l, i, h => by
    simp only [findK] at h
    split at h
    · cases h
    · rename_i hk
      simp only [putK, if_neg hk, put_none k v l (i + 1) h, List.cons_append]
theorem up98 {σ : H} {l : KL} (h : σ[0]? = some (.map (encKL l))) (k : Str × Bool) (v : Int) : updateA ctx 98 (.map 0) (encKey k) (.int .i64 v) σ = some ((), σ.set 0 (.map (encKL (putK k v l)))) := by
  have hm := map98
  unfold updateA
  rw [hm]
  have hf : (AV.int .i64 v).fits teI = true := rfl
  simp only [h, keyOk_enc, hf, and_self, if_true, findIdx_enc]
  cases hk : findK k 0 l with
  | none =>
    simp only [Option.map_none]
    rw [put_none k v l 0 hk]
    simp [encKL]
  | some p =>
    obtain ⟨j, w⟩ := p
    simp only [Option.map_some]
    have := set_put k v l 0 j w hk
    rw [Nat.sub_zero] at this
    rw [this]
def entK (l : KL) (k : Str × Bool) : Nat × KL := match findK k 0 l with | some (j, _) => (j, l) | none => (l.length, l ++ [(k, 0)])
theorem findK_app (k : Str × Bool) (v : Int) : ∀ (l : KL) (i : Nat), findK k i l = none → findK k i (l ++ [(k, v)]) = some (i + l.length, v)
  | [], i, _ => by simp [findK]
  | (x, u) :: l, i, h => by
    simp only [findK] at h
    split at h
    · cases h
    · rename_i hk
      simp only [List.cons_append, findK, if_neg hk, findK_app k v l (i + 1) h, List.length_cons]
      congr 2; omega
theorem ent98 {σ : H} {l : KL} (h : σ[0]? = some (.map (encKL l))) (k : Str × Bool) : entryA ctx 98 (.map 0) (encKey k) σ = some (.tup [.int .i64 (getK l k), .int .i64 (entK l k).1], σ.set 0 (.map (encKL (entK l k).2))) := by
  have hm := map98
  have hlt := (List.getElem?_eq_some_iff.1 h).1
  unfold entryA
  rw [hm]
  simp only [h, keyOk_enc, if_true, findIdx_enc]
  unfold getK entK
  cases hk : findK k 0 l with
  | none =>
    simp [encKL, teI]
  | some p =>
    simp only [Option.map_some]
    congr 2
    apply List.ext_getElem?
    intro i
    rw [List.getElem?_set]
    split
    · rename_i hi; subst hi; rw [h]
    · rfl
theorem getK_ent (l : KL) (k : Str × Bool) : getK (entK l k).2 k = getK l k := by
  unfold entK getK
  cases hk : findK k 0 l with
  | none => simp [findK_app k 0 l 0 hk]
  | some p => simp [hk]
theorem store98 {σ : H} {l : KL} (k : Str × Bool) (h : σ[0]? = some (.map (encKL (entK l k).2))) (v : Int) : entryStoreA ctx 98 (.map 0) (.int .i64 (entK l k).1) (.int .i64 v) σ = some ((), σ.set 0 (.map (encKL (putK k v l)))) := by
  have hm := map98
  unfold entryStoreA
  rw [hm]
  simp only [h]
  have hf : (AV.int .i64 v).fits teI = true := rfl
  cases hk : findK k 0 l with
  | none =>
    have e1 : entK l k = (l.length, l ++ [(k, 0)]) := by simp [entK, hk]
    rw [e1]
    have hl : (encKL (l ++ [(k, 0)])).length = l.length + 1 := by simp [encKL]
    have hi : idxN (l.length : Int) (l.length + 1) = some l.length := by unfold idxN; rw [if_pos (by omega)]; simp
    have hg : (encKL (l ++ [(k, 0)]))[l.length]? = some (encKey k, .int .i64 0) := by simp [encKL]
    rw [hl]
    simp only [hi, hg, hf, if_true]
    rw [put_none k v l 0 hk]
    simp [encKL]
  | some p =>
    obtain ⟨j, w⟩ := p
    have e1 : entK l k = (j, l) := by simp [entK, hk]
    obtain ⟨h1, h2, h3⟩ := findK_len k l 0 j w hk
    rw [Nat.sub_zero] at h3
    rw [e1]
    have hl : (encKL l).length = l.length := by simp [encKL]
    have hi : idxN (j : Int) l.length = some j := by unfold idxN; rw [if_pos (by omega)]; simp
    rw [hl]
    simp only [hi, h3, hf, if_true]
    have := set_put k v l 0 j w hk
    rw [Nat.sub_zero] at this
    rw [this]
end Go.Am.Try
