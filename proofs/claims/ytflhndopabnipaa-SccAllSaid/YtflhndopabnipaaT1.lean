/- Tarjan's groups, in plain Lean: the state, what is known of it, and the groups. -/
set_option linter.unusedVariables false
namespace Go.Am.Sc
inductive Rch (E : Nat → Nat → Prop) : Nat → Nat → Prop
  | refl (a : Nat) : Rch E a a
  | step {a b c : Nat} : Rch E a b → E b c → Rch E a c
theorem Rch.trans {E : Nat → Nat → Prop} {a b c : Nat} (h : Rch E a b) (k : Rch E b c) : Rch E a c := by
  induction k with
  | refl => exact h
  | step _ e ih => exact .step ih e
theorem Rch.one {E : Nat → Nat → Prop} {a b : Nat} (h : E a b) : Rch E a b := .step (.refl a) h
theorem Rch.inv {E : Nat → Nat → Prop} {p : Nat → Prop} (hp : ∀ a b, p a → E a b → p b) {a b : Nat} (h : Rch E a b) (ha : p a) : p b := by
  induction h with
  | refl => exact ha
  | step _ e ih => exact hp _ _ ih e
theorem Rch.mono {E F : Nat → Nat → Prop} (hp : ∀ a b, E a b → F a b) {a b : Nat} (h : Rch E a b) : Rch F a b := by
  induction h with
  | refl => exact .refl _
  | step _ e ih => exact .step ih (hp _ _ e)
def insN (x : Nat) : List Nat → List Nat
  | [] => [x]
  | y :: l => if x ≤ y then x :: y :: l else y :: insN x l
def sortN : List Nat → List Nat
  | [] => []
  | x :: l => insN x (sortN l)
theorem insN_mem {x y : Nat} : ∀ {l : List Nat}, y ∈ insN x l ↔ y = x ∨ y ∈ l
  | [] => by simp [insN]
  | z :: l => by
    unfold insN
    split
    · simp
    · simp only [List.mem_cons, insN_mem (l := l)]
      constructor
      · rintro (h | h | h)
        · exact .inr (.inl h)
        · exact .inl h
        · exact .inr (.inr h)
      · rintro (h | h | h)
        · exact .inr (.inl h)
        · exact .inl h
        · exact .inr (.inr h)
theorem sortN_mem {y : Nat} : ∀ {l : List Nat}, y ∈ sortN l ↔ y ∈ l
  | [] => by simp [sortN]
  | z :: l => by simp [sortN, insN_mem, sortN_mem (l := l)]
theorem insN_lt {x : Nat} : ∀ {l : List Nat}, l.Pairwise (· < ·) → x ∉ l → (insN x l).Pairwise (· < ·)
  | [], _, _ => by simp [insN]
  | z :: l, h, hx => by
    rw [List.pairwise_cons] at h
    simp only [List.mem_cons, not_or] at hx
    unfold insN
    split
    · rw [List.pairwise_cons, List.pairwise_cons]
      exact ⟨fun y hy => (by
        rcases List.mem_cons.1 hy with h1 | h1
        · omega
        · have := h.1 y h1; omega), h⟩
    · rw [List.pairwise_cons]
      exact ⟨fun y hy => (by
        rcases insN_mem.1 hy with h1 | h1
        · omega
        · exact h.1 y h1), insN_lt h.2 hx.2⟩
theorem sortN_lt : ∀ {l : List Nat}, l.Nodup → (sortN l).Pairwise (· < ·)
  | [], _ => by simp [sortN]
  | x :: l, h => by
    rw [List.nodup_cons] at h
    exact insN_lt (sortN_lt h.2) (by rw [sortN_mem]; exact h.1)
structure T where
  num : List Nat
  low : List Nat
  opn : List Nat
  is : List Bool
  cnt : Nat
  grp : List (List Nat)
def T.nm (t : T) (x : Nat) : Nat := t.num.getD x 0
def T.lo (t : T) (x : Nat) : Nat := t.low.getD x 0
def T.enter (t : T) (x : Nat) : T := { t with cnt := t.cnt + 1, num := t.num.set x (t.cnt + 1), low := t.low.set x (t.cnt + 1), opn := t.opn ++ [x], is := t.is.set x true }
def cutAt (x : Nat) : List Nat → List Nat × List Nat
  | [] => ([], [])
  | y :: l => if y = x then ([], y :: l) else (y :: (cutAt x l).1, (cutAt x l).2)
def offs (is : List Bool) : List Nat → List Bool
  | [] => is
  | y :: l => offs (is.set y false) l
def T.leave (t : T) (x : Nat) : T :=
  if t.lo x < t.nm x then t else { t with opn := (cutAt x t.opn).1, is := offs t.is (cutAt x t.opn).2, grp := t.grp ++ [sortN (cutAt x t.opn).2] }
def T.low1 (t : T) (x y : Nat) : T := { t with low := t.low.set x y }
def outs (out : List (List Nat)) (x : Nat) : List Nat := out.getD x []
def turn (out : List (List Nat)) : List (Nat × Nat) → T → List (Nat × Nat) × T
  | [], t => ([], t)
  | (x, j) :: S, t =>
    match (outs out x)[j]? with
    | some y => if t.nm y = 0 then ((y, 0) :: (x, j + 1) :: S, t.enter y)
      else if t.is.getD y false = true then ((x, j + 1) :: S, t.low1 x (min (t.lo x) (t.nm y)))
      else ((x, j + 1) :: S, t)
    | none => match S with
      | [] => ([], t.leave x)
      | (u, k) :: S => ((u, k) :: S, (t.low1 u (min (t.lo u) (t.lo x))).leave x)
inductive Runs (out : List (List Nat)) : List (Nat × Nat) → T → T → Prop
  | nil (t : T) : Runs out [] t t
  | turn {x j : Nat} {S : List (Nat × Nat)} {t t' : T} : Runs out (turn out ((x, j) :: S) t).1 (turn out ((x, j) :: S) t).2 t' → Runs out ((x, j) :: S) t t'
def Ed (out : List (List Nat)) (a b : Nat) : Prop := b ∈ outs out a
structure Inv (out : List (List Nat)) (S : List (Nat × Nat)) (t : T) : Prop where
  ln : t.num.length = out.length
  ll : t.low.length = out.length
  li : t.is.length = out.length
  ok : ∀ a b, Ed out a b → b < out.length
  inO : ∀ x ∈ t.opn, x < out.length
  isO : ∀ x, x < out.length → (t.is.getD x false = true ↔ x ∈ t.opn)
  pos : ∀ x ∈ t.opn, 0 < t.nm x
  cnt : ∀ x, t.nm x ≤ t.cnt
  inc : t.opn.Pairwise fun a b => t.nm a < t.nm b
  stk : ∀ p ∈ S, p.1 ∈ t.opn ∧ p.2 ≤ (outs out p.1).length
  dec : S.Pairwise fun p q => t.nm q.1 < t.nm p.1 ∧ Rch (Ed out) q.1 p.1
  clo : ∀ x, t.nm x ≠ 0 → x ∉ t.opn → ∀ y, Ed out x y → t.nm y ≠ 0 ∧ y ∉ t.opn
  lowO : ∀ x ∈ t.opn, t.lo x ≤ t.nm x ∧ ∃ z ∈ t.opn, t.nm z = t.lo x ∧ Rch (Ed out) x z
  finE : ∀ x ∈ t.opn, (∀ p ∈ S, p.1 ≠ x) → t.lo x < t.nm x ∧ ∀ z, Ed out x z → t.nm z ≠ 0 ∧ (z ∈ t.opn → t.lo x ≤ t.nm z)
  stkE : ∀ p ∈ S, ∀ z ∈ (outs out p.1).take p.2, t.nm z ≠ 0 ∧ (z ∈ t.opn → t.lo p.1 ≤ t.nm z)
  tree : ∀ y ∈ t.opn, ∃ p ∈ S, t.nm p.1 ≤ t.nm y ∧ (∀ q ∈ S, t.nm q.1 ≤ t.nm y → t.nm q.1 ≤ t.nm p.1) ∧ Rch (Ed out) p.1 y ∧ t.lo p.1 ≤ t.lo y
  gIn : ∀ l ∈ t.grp, l ≠ [] ∧ l.Pairwise (· < ·) ∧ ∀ x ∈ l, (t.nm x ≠ 0 ∧ x ∉ t.opn) ∧ ∀ y, y ∈ l ↔ Rch (Ed out) x y ∧ Rch (Ed out) y x
  gAll : ∀ x, t.nm x ≠ 0 → x ∉ t.opn → ∃ l ∈ t.grp, x ∈ l
  gDis : t.grp.Pairwise fun l m => ∀ x ∈ l, x ∉ m
end Go.Am.Sc
