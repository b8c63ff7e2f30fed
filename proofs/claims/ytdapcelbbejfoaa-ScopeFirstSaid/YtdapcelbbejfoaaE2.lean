/- Layer 13: the scope in the heap; its Cons. -/
import Derived.Test.YtdapcelbbejfoaaE1
set_option linter.unusedVariables false
set_option maxRecDepth 100000
set_option linter.unusedSimpArgs false
namespace Go.Am.Try
open Go Go.Am.Ps

theorem eqA_S (k x : Str) : eqA [TK.str] (.agg [.str k]) (.agg [.str x]) = some (decide (k = x)) := by
  simp only [eqA, AV.cells, eqLeaves, eqLeaf, Bool.and_true]
  by_cases h1 : k = x
  · subst h1; simp
  · have : (k == x) = false := by simpa using h1
    simp [this, h1]

/-- how often each name is bound -/
def T124 : Tab ctx 124 Str Int where
  tk := ⟨.strct [(0, 9)], 1, 16, .agg [.str []], [.str]⟩
  te := ⟨.int .i64, 1, 8, .int .i64 0, [.int .i64]⟩
  ek := fun s => .agg [.str s]
  ev := .int .i64
  z := 0
  map := by rfl
  key := fun k => rfl
  kfit := fun k => rfl
  eq := eqA_S
  vfit := fun v => rfl
  zero := rfl

/-- which Cons were had -/
def T169 : Tab ctx 169 Str Bool where
  tk := ⟨.strct [(0, 9)], 1, 16, .agg [.str []], [.str]⟩
  te := ⟨.bool, 1, 1, .bool false, [.bool]⟩
  ek := fun s => .agg [.str s]
  ev := .bool
  z := false
  map := by rfl
  key := fun k => rfl
  kfit := fun k => rfl
  eq := eqA_S
  vfit := fun v => rfl
  zero := rfl

/-- the scope in the heap, so many names being bound -/
structure SS (ds : List Da) (σ : H) (B : List Str) : Prop where
  m : ∃ l, σ[0]? = some (.map (T124.enc l)) ∧ ∀ s, (getT l s).getD 0 = (B.count s : Int)
  o : σ[1]? = some (.arr false 2 [.agg [encR 4 true (encDs ds), .map 0]])

/-- what else lies in the heap stays -/
structure Kp (σ σ' : H) : Prop where
  len : σ.length ≤ σ'.length
  rest : ∀ j, 2 ≤ j → j < σ.length → σ'[j]? = σ[j]?

theorem Kp.refl (σ : H) : Kp σ σ := ⟨Nat.le_refl _, fun _ _ _ => rfl⟩
theorem Kp.trans {a b c : H} (h : Kp a b) (k : Kp b c) : Kp a c := ⟨Nat.le_trans h.len k.len, fun j h1 h2 => (k.rest j h1 (Nat.lt_of_lt_of_le h2 h.len)).trans (h.rest j h1 h2)⟩

theorem SS.perm {ds : List Da} {σ : H} {B B' : List Str} (h : SS ds σ B) (hp : ∀ s, B'.count s = B.count s) : SS ds σ B' := by
  obtain ⟨⟨l, h1, h2⟩, h3⟩ := h
  exact ⟨⟨l, h1, fun s => by rw [hp s]; exact h2 s⟩, h3⟩

theorem SS.look {ds : List Da} {σ : H} {B : List Str} (h : SS ds σ B) (s : Str) : lookupA ctx 124 (.map 0) (.agg [.str s]) false σ = some (.int .i64 (B.count s), σ) := by
  obtain ⟨⟨l, h1, h2⟩, h3⟩ := h
  have := T124.look h1 s
  have e : T124.z = 0 := rfl
  rw [e, h2] at this
  exact this

/-- one more, or less, of a name: what the operations do -/
theorem SS.turn {ds : List Da} {σ : H} {B : List Str} (h : SS ds σ B) (s : Str) (v : Int) (B' : List Str) (hv : v = (B'.count s : Int)) (hB : ∀ x, x ≠ s → B'.count x = B.count x) :
    ∃ (ei : Int) (σa σb : H), entryA ctx 124 (.map 0) (.agg [.str s]) σ = some (.tup [.int .i64 (B.count s), .int .i64 ei], σa) ∧
      lookupA ctx 124 (.map 0) (.agg [.str s]) false σa = some (.int .i64 (B.count s), σa) ∧ entryStoreA ctx 124 (.map 0) (.int .i64 ei) (.int .i64 v) σa = some ((), σb) ∧ SS ds σb B' ∧ Kp σ σb ∧ σb.length = σ.length := by
  obtain ⟨⟨l, h1, h2⟩, h3⟩ := h
  have hlt := (List.getElem?_eq_some_iff.1 h1).1
  have e1 := T124.ent h1 s
  have ez : T124.z = 0 := rfl
  rw [ez, h2] at e1
  generalize hσa : σ.set 0 (.map (T124.enc (entT 0 l s).2)) = σa at e1
  have ha : σa[0]? = some (.map (T124.enc (entT 0 l s).2)) := by rw [← hσa]; exact List.getElem?_set_self hlt
  have hga : (getT (entT 0 l s).2 s).getD 0 = (B.count s : Int) := by
    rw [← h2 s]
    unfold entT
    cases hf : findT s 0 l with
    | none => simp [getT, findT_app s 0 l 0 hf, hf]
    | some p => simp [getT, hf]
  have e2 := T124.look ha s
  rw [ez, hga] at e2
  have e3 := T124.store s ha v
  refine ⟨_, σa, _, e1, e2, e3, ⟨⟨putT s v l, ?_, fun x => ?_⟩, ?_⟩, ⟨?_, fun j h1 h2 => ?_⟩, ?_⟩
  · have hlt' := (List.getElem?_eq_some_iff.1 ha).1
    exact List.getElem?_set_self hlt'
  · rw [getT_put]
    by_cases hx : x = s
    · subst hx; simp [hv]
    · rw [if_neg hx, h2, hB x hx]
  · rw [← hσa, List.set_set, List.getElem?_set_ne (by omega)]; exact h3
  · rw [← hσa]; simp
  · rw [← hσa, List.set_set, List.getElem?_set_ne (by omega)]
  · rw [← hσa]; simp

/-- the declarations that are gone through -/
structure okDs (ds : List Da) : Prop where
  len : ds.length ≤ lim
  d : ∀ d ∈ ds, okD d

def conR : Option Nat → AV
  | some n => .tup [.int .i64 n, .bool true]
  | none => .tup [.int .i64 0, .bool false]

theorem findC_at (s : Str) : ∀ (l : List Cn) (i k : Nat), findC s i l = some k → i ≤ k ∧ ∃ c, l[k - i]? = some c
  | [], i, k, h => by cases h
  | c :: l, i, k, h => by
    simp only [findC] at h
    split at h
    · cases h; exact ⟨Nat.le_refl _, c, by simp⟩
    · obtain ⟨h1, c', h2⟩ := findC_at s l (i + 1) k h
      exact ⟨by omega, c', by rw [show k - i = (k - (i + 1)) + 1 by omega]; simpa using h2⟩

theorem findCon_at (s : Str) : ∀ (l : List Da) (i a b : Nat), findCon s i l = some (a, b) → i ≤ a ∧ ∃ d c, l[a - i]? = some d ∧ d.cs[b]? = some c
  | [], i, a, b, h => by cases h
  | d :: l, i, a, b, h => by
    simp only [findCon] at h
    split at h
    · rename_i k hk
      cases h
      obtain ⟨_, c, h2⟩ := findC_at s d.cs 0 b hk
      exact ⟨Nat.le_refl _, d, c, by simp, by simpa using h2⟩
    · obtain ⟨h1, d', c', h2, h3⟩ := findCon_at s l (i + 1) a b h
      exact ⟨by omega, d', c', by rw [show a - i = (a - (i + 1)) + 1 by omega]; simpa using h2, h3⟩

/-- scope.con -/
theorem scon_ans {ds : List Da} (hd : okDs ds) {σ : H} {B : List Str} (h : SS ds σ B) (s : Str) : AnsH ctx 98 [.ptr 1 1 0 0, .str s] σ (conR (conN ds s)) σ := by
  have hl := hd.len
  obtain ⟨k, hk⟩ := dcon_ans ds true (by unfold lim at hl; unfold big; omega) hd.d s
  have ho := h.o
  unfold conN
  cases hf : findCon s 0 ds with
  | none =>
    rw [hf] at hk
    simp only [conI] at hk
    refine AnsH.of fn98_ (by simp) (snapPtr _ _ _) (by simp [conR]) ⟨k, fun N hN => ?_⟩
    have hk := hk N hN
    simp -implicitDefEqProofs [i98, c98, ho, hk, conR]
  | some p =>
    obtain ⟨i, j⟩ := p
    obtain ⟨_, d, c, h1, h2⟩ := findCon_at s ds 0 i j hf
    rw [Nat.sub_zero] at h1
    rw [hf] at hk
    simp only [conI] at hk
    simp only [h1, h2]
    have g1 : (encDs ds)[i]? = some (encD d) := by simp [encDs, h1]
    have hil : i < ds.length := (List.getElem?_eq_some_iff.1 h1).1
    have hjl : j < d.cs.length := (List.getElem?_eq_some_iff.1 h2).1
    have g2 : idxN (i : Int) ds.length = some i := by unfold idxN; rw [if_pos (by omega)]; simp
    have g3 : idxN (j : Int) d.cs.length = some j := by unfold idxN; rw [if_pos (by omega)]; simp
    have g4 : (encCs d.cs)[j]? = some (encC c) := by simp [encCs, h2]
    have e1 : encR 4 true (encDs ds) = .sl 4 (encDs ds) := by
      cases ds with
      | nil => simp at hil
      | cons a l => simp
    have e2 : encR 3 true (encCs d.cs) = .sl 3 (encCs d.cs) := by
      cases h : d.cs with
      | nil => rw [h] at hjl; simp at hjl
      | cons a l => simp
    unfold encD at g1
    rw [e2] at g1
    unfold encC at g4
    rw [e1] at ho hk
    have h3 : ¬ (i : Int) < 0 := by omega
    refine AnsH.of fn98_ (by simp) (snapPtr _ _ _) (by simp [conR]) ⟨k, fun N hN => ?_⟩
    have hk := hk N hN
    simp -implicitDefEqProofs [i98, c98, ho, hk, g1, g2, g3, g4, h3, conR]

end Go.Am.Try
