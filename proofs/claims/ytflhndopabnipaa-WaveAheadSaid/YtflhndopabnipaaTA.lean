/- T1, T2, T3, T4, T5, T6, T7, as one -/
set_option linter.unusedVariables false
namespace Go.Am.Sc
inductive Rch (E : Nat → Nat → Prop) : Nat → Nat → Prop
  | refl (a : Nat) : Rch E a a
  | step {a b c : Nat} : Rch E a b → E b c → Rch E a c
theorem Rch.trans {E : Nat → Nat → Prop} {a b c : Nat} (h : Rch E a b) (k : Rch E b c) : Rch E a c := by
  induction k with
  | refl => exact h
  | step _ e ih => exact .step ih e
theorem Rch.one {E : Nat → Nat → Prop} {a b : Nat} (h : E a b) : Rch E a b := .step (.refl a) h
theorem Rch.inv {E : Nat → Nat → Prop} {p : Nat → Prop} (hp : ∀ a b, p a → E a b → p b) {a b : Nat} (h : Rch E a b) (ha : p a) : p b := by
  induction h with
  | refl => exact ha
  | step _ e ih => exact hp _ _ ih e
theorem Rch.mono {E F : Nat → Nat → Prop} (hp : ∀ a b, E a b → F a b) {a b : Nat} (h : Rch E a b) : Rch F a b := by
  induction h with
  | refl => exact .refl _
  | step _ e ih => exact .step ih (hp _ _ e)
def insN (x : Nat) : List Nat → List Nat
  | [] => [x]
  | y :: l => if x ≤ y then x :: y :: l else y :: insN x l
def sortN : List Nat → List Nat
  | [] => []
  | x :: l => insN x (sortN l)
theorem insN_mem {x y : Nat} : ∀ {l : List Nat}, y ∈ insN x l ↔ y = x ∨ y ∈ l
  | [] => by simp [insN]
  | z :: l => by
    unfold insN
    split
    · simp
    · simp only [List.mem_cons, insN_mem (l := l)]
      constructor
      · rintro (h | h | h)
        · exact .inr (.inl h)
        · exact .inl h
        · exact .inr (.inr h)
      · rintro (h | h | h)
        · exact .inr (.inl h)
        · exact .inl h
        · exact .inr (.inr h)
theorem sortN_mem {y : Nat} : ∀ {l : List Nat}, y ∈ sortN l ↔ y ∈ l
  | [] => by simp [sortN]
  | z :: l => by simp [sortN, insN_mem, sortN_mem (l := l)]
theorem insN_lt {x : Nat} : ∀ {l : List Nat}, l.Pairwise (· < ·) → x ∉ l → (insN x l).Pairwise (· < ·)
  | [], _, _ => by simp [insN]
  | z :: l, h, hx => by
    rw [List.pairwise_cons] at h
    simp only [List.mem_cons, not_or] at hx
    unfold insN
    split
    · rw [List.pairwise_cons, List.pairwise_cons]
      exact ⟨fun y hy => (by
        rcases List.mem_cons.1 hy with h1 | h1
        · omega
        · have := h.1 y h1; omega), h⟩
    · rw [List.pairwise_cons]
      exact ⟨fun y hy => (by
        rcases insN_mem.1 hy with h1 | h1
        · omega
        · exact h.1 y h1), insN_lt h.2 hx.2⟩
theorem sortN_lt : ∀ {l : List Nat}, l.Nodup → (sortN l).Pairwise (· < ·)
  | [], _ => by simp [sortN]
  | x :: l, h => by
    rw [List.nodup_cons] at h
    exact insN_lt (sortN_lt h.2) (by rw [sortN_mem]; exact h.1)
structure T where
  num : List Nat
  low : List Nat
  opn : List Nat
  is : List Bool
  cnt : Nat
  grp : List (List Nat)
def T.nm (t : T) (x : Nat) : Nat := t.num.getD x 0
def T.lo (t : T) (x : Nat) : Nat := t.low.getD x 0
def T.enter (t : T) (x : Nat) : T := { t with cnt := t.cnt + 1, num := t.num.set x (t.cnt + 1), low := t.low.set x (t.cnt + 1), opn := t.opn ++ [x], is := t.is.set x true }
def cutAt (x : Nat) : List Nat → List Nat × List Nat
  | [] => ([], [])
  | y :: l => if y = x then ([], y :: l) else (y :: (cutAt x l).1, (cutAt x l).2)
def offs (is : List Bool) : List Nat → List Bool
  | [] => is
  | y :: l => offs (is.set y false) l
def T.leave (t : T) (x : Nat) : T :=
  if t.lo x < t.nm x then t else { t with opn := (cutAt x t.opn).1, is := offs t.is (cutAt x t.opn).2, grp := t.grp ++ [sortN (cutAt x t.opn).2] }
def T.low1 (t : T) (x y : Nat) : T := { t with low := t.low.set x y }
def outs (out : List (List Nat)) (x : Nat) : List Nat := out.getD x []
def turn (out : List (List Nat)) : List (Nat × Nat) → T → List (Nat × Nat) × T
  | [], t => ([], t)
  | (x, j) :: S, t =>
    match (outs out x)[j]? with
    | some y => if t.nm y = 0 then ((y, 0) :: (x, j + 1) :: S, t.enter y)
      else if t.is.getD y false = true then ((x, j + 1) :: S, t.low1 x (min (t.lo x) (t.nm y)))
      else ((x, j + 1) :: S, t)
    | none => match S with
      | [] => ([], t.leave x)
      | (u, k) :: S => ((u, k) :: S, (t.low1 u (min (t.lo u) (t.lo x))).leave x)
inductive Runs (out : List (List Nat)) : List (Nat × Nat) → T → T → Prop
  | nil (t : T) : Runs out [] t t
  | turn {x j : Nat} {S : List (Nat × Nat)} {t t' : T} : Runs out (turn out ((x, j) :: S) t).1 (turn out ((x, j) :: S) t).2 t' → Runs out ((x, j) :: S) t t'
def Ed (out : List (List Nat)) (a b : Nat) : Prop := b ∈ outs out a
structure Inv (out : List (List Nat)) (S : List (Nat × Nat)) (t : T) : Prop where
  ln : t.num.length = out.length
  ll : t.low.length = out.length
  li : t.is.length = out.length
  ok : ∀ a b, Ed out a b → b < out.length
  inO : ∀ x ∈ t.opn, x < out.length
  isO : ∀ x, x < out.length → (t.is.getD x false = true ↔ x ∈ t.opn)
  pos : ∀ x ∈ t.opn, 0 < t.nm x
  cnt : ∀ x, t.nm x ≤ t.cnt
  inc : t.opn.Pairwise fun a b => t.nm a < t.nm b
  stk : ∀ p ∈ S, p.1 ∈ t.opn ∧ p.2 ≤ (outs out p.1).length
  dec : S.Pairwise fun p q => t.nm q.1 < t.nm p.1 ∧ Rch (Ed out) q.1 p.1
  clo : ∀ x, t.nm x ≠ 0 → x ∉ t.opn → ∀ y, Ed out x y → t.nm y ≠ 0 ∧ y ∉ t.opn
  lowO : ∀ x ∈ t.opn, t.lo x ≤ t.nm x ∧ ∃ z ∈ t.opn, t.nm z = t.lo x ∧ Rch (Ed out) x z
  finE : ∀ x ∈ t.opn, (∀ p ∈ S, p.1 ≠ x) → t.lo x < t.nm x ∧ ∀ z, Ed out x z → t.nm z ≠ 0 ∧ (z ∈ t.opn → t.lo x ≤ t.nm z)
  stkE : ∀ p ∈ S, ∀ z ∈ (outs out p.1).take p.2, t.nm z ≠ 0 ∧ (z ∈ t.opn → t.lo p.1 ≤ t.nm z)
  tree : ∀ y ∈ t.opn, ∃ p ∈ S, t.nm p.1 ≤ t.nm y ∧ (∀ q ∈ S, t.nm q.1 ≤ t.nm y → t.nm q.1 ≤ t.nm p.1) ∧ Rch (Ed out) p.1 y ∧ t.lo p.1 ≤ t.lo y
  gIn : ∀ l ∈ t.grp, l ≠ [] ∧ l.Pairwise (· < ·) ∧ ∀ x ∈ l, (t.nm x ≠ 0 ∧ x ∉ t.opn) ∧ ∀ y, y ∈ l ↔ Rch (Ed out) x y ∧ Rch (Ed out) y x
  gAll : ∀ x, t.nm x ≠ 0 → x ∉ t.opn → ∃ l ∈ t.grp, x ∈ l
  gDis : t.grp.Pairwise fun l m => ∀ x ∈ l, x ∉ m
end Go.Am.Sc
namespace Go.Am.Sc
theorem getD_set {α : Type} (l : List α) (i j : Nat) (v d : α) (hi : i < l.length) : (l.set i v).getD j d = if i = j then v else l.getD j d := by
  simp only [List.getD_eq_getElem?_getD, List.getElem?_set]
  split
  · rename_i h; subst h; simp [hi]
  · rfl
variable {out : List (List Nat)} {S : List (Nat × Nat)} {t : T}
theorem Inv.nm_enter (h : Inv out S t) {y : Nat} (hy : y < out.length) (z : Nat) : (t.enter y).nm z = if y = z then t.cnt + 1 else t.nm z := by
  unfold T.enter T.nm; rw [getD_set _ _ _ _ _ (by rw [h.ln]; exact hy)]
theorem Inv.lo_enter (h : Inv out S t) {y : Nat} (hy : y < out.length) (z : Nat) : (t.enter y).lo z = if y = z then t.cnt + 1 else t.lo z := by
  unfold T.enter T.lo; rw [getD_set _ _ _ _ _ (by rw [h.ll]; exact hy)]
theorem Inv.is_enter (h : Inv out S t) {y : Nat} (hy : y < out.length) (z : Nat) : (t.enter y).is.getD z false = if y = z then true else t.is.getD z false := by
  unfold T.enter; rw [getD_set _ _ _ _ _ (by rw [h.li]; exact hy)]
theorem Inv.enter (h : Inv out S t) {y : Nat} (hy : y < out.length) (h0 : t.nm y = 0) (hS : (S = [] ∧ t.opn = []) ∨ ∃ p S', S = p :: S' ∧ Rch (Ed out) p.1 y) : Inv out ((y, 0) :: S) (t.enter y) := by
  have hyo : y ∉ t.opn := fun k => by have := h.pos y k; omega
  have nm := h.nm_enter hy
  have lo := h.lo_enter hy
  have ho : (t.enter y).opn = t.opn ++ [y] := rfl
  have ne : ∀ x ∈ t.opn, y ≠ x := fun x hx e => hyo (e ▸ hx)
  have nmo : ∀ x ∈ t.opn, (t.enter y).nm x = t.nm x := fun x hx => by rw [nm, if_neg (ne x hx)]
  have loo : ∀ x ∈ t.opn, (t.enter y).lo x = t.lo x := fun x hx => by rw [lo, if_neg (ne x hx)]
  have nmy : (t.enter y).nm y = t.cnt + 1 := by rw [nm, if_pos rfl]
  have loy : (t.enter y).lo y = t.cnt + 1 := by rw [lo, if_pos rfl]
  have hst : ∀ p ∈ S, p.1 ∈ t.opn := fun p hp => (h.stk p hp).1
  have vis : ∀ z, t.nm z ≠ 0 → (t.enter y).nm z ≠ 0 := fun z hz => by rw [nm]; split <;> omega
  have mo : ∀ z, z ∈ (t.enter y).opn ↔ z ∈ t.opn ∨ z = y := fun z => by rw [ho]; simp
  refine ⟨by simp [T.enter, h.ln], by simp [T.enter, h.ll], by simp [T.enter, h.li], h.ok, ?_, ?_, ?_, ?_, ?_, ?_, ?_, ?_, ?_, ?_, ?_, ?_, ?_, ?_, h.gDis⟩
  · intro x hx
    rcases (mo x).1 hx with hx | rfl
    · exact h.inO x hx
    · exact hy
  · intro x hx
    rw [h.is_enter hy, mo]
    split
    · rename_i e; subst e; simp
    · rename_i e
      rw [h.isO x hx]
      exact ⟨.inl, fun k => k.resolve_right fun k => e k.symm⟩
  · intro x hx
    rcases (mo x).1 hx with hx | rfl
    · rw [nmo x hx]; exact h.pos x hx
    · rw [nmy]; omega
  · intro x
    show _ ≤ t.cnt + 1
    rw [nm]
    split
    · omega
    · have := h.cnt x; omega
  · rw [ho, List.pairwise_append]
    refine ⟨h.inc.imp_of_mem fun ha hb k => by rw [nmo _ ha, nmo _ hb]; exact k, by simp, fun a ha b hb => ?_⟩
    rw [List.mem_singleton] at hb
    subst hb
    rw [nmo a ha, nmy]
    have := h.cnt a; omega
  · intro p hp
    rcases List.mem_cons.1 hp with rfl | hp
    · exact ⟨(mo _).2 (.inr rfl), Nat.zero_le _⟩
    · exact ⟨(mo _).2 (.inl (hst p hp)), (h.stk p hp).2⟩
  · rw [List.pairwise_cons]
    refine ⟨fun p hp => ?_, h.dec.imp_of_mem fun {p q} hp hq k => by rw [nmo _ (hst p hp), nmo _ (hst q hq)]; exact k⟩
    refine ⟨?_, ?_⟩
    · rw [nmo _ (hst p hp)]
      show _ < (t.enter y).nm y
      rw [nmy]
      have := h.cnt p.1; omega
    · rcases hS with ⟨hS, _⟩ | ⟨q, S', hS, hq⟩
      · rw [hS] at hp; cases hp
      · subst hS
        rcases List.mem_cons.1 hp with rfl | hp'
        · exact hq
        · exact ((List.pairwise_cons.1 h.dec).1 p hp').2.trans hq
  · intro x hx hxo z hz
    have hxy : y ≠ x := fun e => hxo ((mo x).2 (.inr e.symm))
    rw [nm, if_neg hxy] at hx
    have := h.clo x hx (fun k => hxo ((mo x).2 (.inl k))) z hz
    have hzy : z ≠ y := fun e => this.1 (e ▸ h0)
    refine ⟨vis z this.1, fun k => ?_⟩
    rcases (mo z).1 k with k | k
    · exact this.2 k
    · exact hzy k
  · intro x hx
    rcases (mo x).1 hx with hx | rfl
    · obtain ⟨h1, z, h2, h3, h4⟩ := h.lowO x hx
      rw [nmo x hx, loo x hx]
      exact ⟨h1, z, (mo z).2 (.inl h2), by rw [nmo z h2]; exact h3, h4⟩
    · rw [nmy, loy]
      exact ⟨Nat.le_refl _, x, (mo x).2 (.inr rfl), nmy, .refl _⟩
  · intro x hx hn
    have hxy : x ≠ y := fun e => hn (y, 0) (by simp) e.symm
    have hx := ((mo x).1 hx).resolve_right hxy
    obtain ⟨h1, h2⟩ := h.finE x hx fun p hp => hn p (by simp [hp])
    rw [nmo x hx, loo x hx]
    refine ⟨h1, fun z hz => ⟨vis z (h2 z hz).1, fun hzo => ?_⟩⟩
    have hzy : z ≠ y := fun e => (h2 z hz).1 (e ▸ h0)
    have hzo := ((mo z).1 hzo).resolve_right hzy
    rw [nmo z hzo]
    exact (h2 z hz).2 hzo
  · intro p hp z hz
    rcases List.mem_cons.1 hp with rfl | hp
    · simp at hz
    · have h2 := h.stkE p hp z hz
      refine ⟨vis z h2.1, fun hzo => ?_⟩
      have hzy : z ≠ y := fun e => h2.1 (e ▸ h0)
      have hzo := ((mo z).1 hzo).resolve_right hzy
      rw [nmo z hzo, loo _ (hst p hp)]
      exact h2.2 hzo
  · intro z hz
    rcases (mo z).1 hz with hz | rfl
    · obtain ⟨p, hp, h1, h2, h3, h4⟩ := h.tree z hz
      refine ⟨p, by simp [hp], ?_, ?_, h3, ?_⟩
      · rw [nmo _ (hst p hp), nmo z hz]; exact h1
      · intro q hq k
        rw [nmo z hz] at k
        rcases List.mem_cons.1 hq with rfl | hq
        · have k : (t.enter y).nm y ≤ _ := k
          rw [nmy] at k
          have := h.cnt z; omega
        · rw [nmo _ (hst q hq)] at k ⊢
          rw [nmo _ (hst p hp)]
          exact h2 q hq k
      · rw [loo _ (hst p hp), loo z hz]; exact h4
    · exact ⟨(z, 0), by simp, Nat.le_refl _, fun q hq k => k, .refl _, Nat.le_refl _⟩
  · intro l hl
    obtain ⟨h1, h2, h3⟩ := h.gIn l hl
    refine ⟨h1, h2, fun x hx => ?_⟩
    obtain ⟨⟨h4, h5⟩, h6⟩ := h3 x hx
    exact ⟨⟨vis x h4, fun k => by
      rcases (mo x).1 k with k | k
      · exact h5 k
      · exact h4 (k ▸ h0)⟩, h6⟩
  · intro x hx hxo
    have hxy : y ≠ x := fun e => hxo ((mo x).2 (.inr e.symm))
    rw [nm, if_neg hxy] at hx
    exact h.gAll x hx fun k => hxo ((mo x).2 (.inl k))
end Go.Am.Sc
namespace Go.Am.Sc
variable {out : List (List Nat)} {S : List (Nat × Nat)} {t : T}
theorem pw_inj {α : Type} {f : α → Nat} : ∀ {l : List α}, (l.Pairwise fun a b => f a < f b) → ∀ {a b : α}, a ∈ l → b ∈ l → f a = f b → a = b
  | x :: l, h, a, b, ha, hb, e => by
    rw [List.pairwise_cons] at h
    rcases List.mem_cons.1 ha with ha | ha
    · rcases List.mem_cons.1 hb with hb | hb
      · exact ha.trans hb.symm
      · have := h.1 b hb
        rw [ha] at e; omega
    · rcases List.mem_cons.1 hb with hb | hb
      · have := h.1 a ha
        rw [hb] at e; omega
      · exact pw_inj h.2 ha hb e
theorem Inv.inj (h : Inv out S t) {a b : Nat} (ha : a ∈ t.opn) (hb : b ∈ t.opn) (e : t.nm a = t.nm b) : a = b := pw_inj h.inc ha hb e
theorem take_succ_mem {α : Type} {l : List α} {j : Nat} {y z : α} (h : l[j]? = some y) (hz : z ∈ l.take (j + 1)) : z ∈ l.take j ∨ z = y := by
  rw [List.take_add_one, h] at hz
  simpa using hz
theorem Inv.adv {A B : List (Nat × Nat)} {x j y : Nat} (h : Inv out (A ++ (x, j) :: B) t) (hy : (outs out x)[j]? = some y) (hv : t.nm y ≠ 0) (hl : y ∈ t.opn → t.lo x ≤ t.nm y) : Inv out (A ++ (x, j + 1) :: B) t := by
  have sub : ∀ p ∈ A ++ (x, j + 1) :: B, ∃ q ∈ A ++ (x, j) :: B, q.1 = p.1 ∧ (p = q ∨ p = (x, j + 1)) := by
    intro p hp
    rcases List.mem_append.1 hp with hp | hp
    · exact ⟨p, by simp [hp], rfl, .inl rfl⟩
    · rcases List.mem_cons.1 hp with rfl | hp
      · exact ⟨(x, j), by simp, rfl, .inr rfl⟩
      · exact ⟨p, by simp [hp], rfl, .inl rfl⟩
  have bus : ∀ p ∈ A ++ (x, j) :: B, ∃ q ∈ A ++ (x, j + 1) :: B, q.1 = p.1 := by
    intro p hp
    rcases List.mem_append.1 hp with hp | hp
    · exact ⟨p, by simp [hp], rfl⟩
    · rcases List.mem_cons.1 hp with rfl | hp
      · exact ⟨(x, j + 1), by simp, rfl⟩
      · exact ⟨p, by simp [hp], rfl⟩
  have hx := h.stk (x, j) (by simp)
  refine { h with stk := ?_, dec := ?_, finE := ?_, stkE := ?_, tree := ?_ }
  · intro p hp
    obtain ⟨q, hq, e, rfl | rfl⟩ := sub p hp
    · exact h.stk p hq
    · exact ⟨hx.1, (List.getElem?_eq_some_iff.1 hy).1⟩
  · have hd := h.dec
    rw [List.pairwise_append, List.pairwise_cons] at hd ⊢
    refine ⟨hd.1, ⟨fun p hp => hd.2.1.1 p hp, hd.2.1.2⟩, fun a ha b hb => ?_⟩
    rcases List.mem_cons.1 hb with rfl | hb
    · exact hd.2.2 a ha (x, j) (by simp)
    · exact hd.2.2 a ha b (by simp [hb])
  · intro z hz hn
    exact h.finE z hz fun p hp e => by
      obtain ⟨q, hq, e'⟩ := bus p hp
      exact hn q hq (e'.trans e)
  · intro p hp z hz
    obtain ⟨q, hq, e, rfl | rfl⟩ := sub p hp
    · exact h.stkE p hq z hz
    · rcases take_succ_mem hy hz with hz | rfl
      · exact h.stkE (x, j) (by simp) z hz
      · exact ⟨hv, hl⟩
  · intro y hy
    obtain ⟨p, hp, h1, h2, h3, h4⟩ := h.tree y hy
    obtain ⟨q, hq, e⟩ := bus p hp
    refine ⟨q, hq, by rw [e]; exact h1, fun r hr k => ?_, by rw [e]; exact h3, by rw [e]; exact h4⟩
    obtain ⟨r', hr', e', _⟩ := sub r hr
    rw [e, ← e']
    exact h2 r' hr' (by rw [e']; exact k)
theorem Inv.lo_low1 (h : Inv out S t) {x v : Nat} (hx : x < out.length) (z : Nat) : (t.low1 x v).lo z = if x = z then v else t.lo z := by
  unfold T.low1 T.lo; rw [getD_set _ _ _ _ _ (by rw [h.ll]; exact hx)]
theorem Inv.low1 (h : Inv out S t) {x j v z : Nat} (hx : (x, j) ∈ S) (hz : z ∈ t.opn) (hv : t.nm z = v) (hr : Rch (Ed out) x z) (hl : v ≤ t.lo x) : Inv out S (t.low1 x v) := by
  have hxo := (h.stk _ hx).1
  have lo := h.lo_low1 (v := v) (h.inO x hxo)
  have le : ∀ y, (t.low1 x v).lo y ≤ t.lo y := fun y => by
    rw [lo]
    split
    · rename_i e; subst e; exact hl
    · exact Nat.le_refl _
  have hne : ∀ y, (∀ p ∈ S, p.1 ≠ y) → x ≠ y := fun y hn e => hn _ hx e
  refine { h with ll := by simp [T.low1, h.ll], lowO := ?_, finE := ?_, stkE := ?_, tree := ?_ }
  · intro y hy
    obtain ⟨h1, w, h2, h3, h4⟩ := h.lowO y hy
    refine ⟨Nat.le_trans (le y) h1, ?_⟩
    rw [lo]
    split
    · rename_i e; subst e; exact ⟨z, hz, hv, hr⟩
    · exact ⟨w, h2, h3, h4⟩
  · intro y hy hn
    rw [lo, if_neg (hne y hn)]
    exact h.finE y hy hn
  · intro p hp w hw
    have := h.stkE p hp w hw
    exact ⟨this.1, fun k => Nat.le_trans (le p.1) (this.2 k)⟩
  · intro y hy
    obtain ⟨p, hp, h1, h2, h3, h4⟩ := h.tree y hy
    refine ⟨p, hp, h1, h2, h3, ?_⟩
    by_cases e : x = y
    · subst e
      have : t.nm x ≤ t.nm p.1 := h2 _ hx (Nat.le_refl _)
      have e : p.1 = x := h.inj (h.stk p hp).1 hxo (by
        show t.nm p.1 = t.nm x
        have h1 : t.nm p.1 ≤ t.nm x := h1
        omega)
      rw [e]; exact Nat.le_refl _
    · rw [lo y, if_neg e]
      exact Nat.le_trans (le _) h4
theorem Inv.done {x j u k : Nat} (h : Inv out ((x, j) :: (u, k) :: S) t) (hj : (outs out x)[j]? = none) (hl : t.lo u ≤ t.lo x) (hx : t.lo x < t.nm x) : Inv out ((u, k) :: S) t := by
  have hjl : (outs out x).take j = outs out x := List.take_of_length_le (by simpa using hj)
  have hd := h.dec
  rw [List.pairwise_cons] at hd
  have hxu := hd.1 (u, k) (by simp)
  have hdu := (List.pairwise_cons.1 hd.2).1
  refine { h with stk := fun p hp => h.stk p (by simp [hp]), dec := hd.2, finE := ?_, stkE := fun p hp => h.stkE p (by simp [hp]), tree := ?_ }
  · intro y hy hn
    by_cases e : y = x
    · subst e
      refine ⟨hx, fun z hz => ?_⟩
      have := h.stkE (y, j) (by simp) z (by
        show z ∈ (outs out y).take j
        rw [hjl]; exact hz)
      exact this
    · exact h.finE y hy fun p hp => by
        rcases List.mem_cons.1 hp with rfl | hp
        · exact fun e' => e e'.symm
        · exact hn p hp
  · intro y hy
    obtain ⟨p, hp, h1, h2, h3, h4⟩ := h.tree y hy
    rcases List.mem_cons.1 hp with rfl | hp
    · refine ⟨(u, k), by simp, ?_, ?_, hxu.2.trans h3, Nat.le_trans hl h4⟩
      · have h1 : t.nm x ≤ t.nm y := h1
        have h2 : t.nm u < t.nm x := hxu.1
        show t.nm u ≤ t.nm y
        omega
      · intro q hq _
        rcases List.mem_cons.1 hq with rfl | hq
        · exact Nat.le_refl _
        · have := (hdu q hq).1
          show t.nm q.1 ≤ t.nm u
          exact Nat.le_of_lt this
    · exact ⟨p, hp, h1, fun q hq => h2 q (by simp [hq]), h3, h4⟩
theorem cutAt_app (x : Nat) : ∀ l : List Nat, (cutAt x l).1 ++ (cutAt x l).2 = l
  | [] => rfl
  | y :: l => by
    unfold cutAt
    split
    · rfl
    · simp [cutAt_app x l]
theorem cutAt_mem {x : Nat} : ∀ {l : List Nat}, x ∈ l → ∃ r, (cutAt x l).2 = x :: r
  | y :: l, h => by
    unfold cutAt
    split
    · rename_i e; subst e; exact ⟨l, rfl⟩
    · rename_i e
      exact cutAt_mem ((List.mem_cons.1 h).resolve_left fun k => e k.symm)
theorem offs_len : ∀ (l : List Nat) (is : List Bool), (offs is l).length = is.length
  | [], _ => rfl
  | y :: l, is => by rw [offs, offs_len l]; simp
theorem offs_get : ∀ (l : List Nat) (is : List Bool) (z : Nat), (∀ y ∈ l, y < is.length) → (offs is l).getD z false = if z ∈ l then false else is.getD z false
  | [], _, _, _ => by simp [offs]
  | y :: l, is, z, h => by
    rw [offs, offs_get l _ z (fun w hw => by simpa using h w (by simp [hw])), getD_set _ _ _ _ _ (h y (by simp))]
    by_cases e : y = z
    · subst e; simp
    · have e' : z ≠ y := fun k => e k.symm
      simp [e, e']
theorem nodup_of_lt {α : Type} {f : α → Nat} {l : List α} (h : l.Pairwise fun a b => f a < f b) : l.Nodup :=
  h.imp fun k e => by subst e; omega
theorem Inv.close {x j : Nat} (h : Inv out ((x, j) :: S) t) (hj : (outs out x)[j]? = none) (hx : ¬ t.lo x < t.nm x) : Inv out S (t.leave x) := by
  have hjl : (outs out x).take j = outs out x := List.take_of_length_le (by simpa using hj)
  have hd := h.dec
  rw [List.pairwise_cons] at hd
  have hxo : x ∈ t.opn := (h.stk (x, j) (by simp)).1
  have hlx : t.lo x = t.nm x := by have := (h.lowO x hxo).1; omega
  have hO := cutAt_app x t.opn
  obtain ⟨r, hr⟩ := cutAt_mem hxo
  have hinc := h.inc
  rw [← hO, List.pairwise_append, hr, List.pairwise_cons] at hinc
  obtain ⟨i1, ⟨i2, i3⟩, i4⟩ := hinc
  have hleave : t.leave x = { t with opn := (cutAt x t.opn).1, is := offs t.is (cutAt x t.opn).2, grp := t.grp ++ [sortN (cutAt x t.opn).2] } := by
    unfold T.leave; rw [if_neg hx]
  -- ahead of it, from it on
  have m1 : ∀ z, z ∈ (cutAt x t.opn).1 ↔ z ∈ t.opn ∧ t.nm z < t.nm x := fun z => by
    constructor
    · intro hz
      exact ⟨by rw [← hO]; simp [hz], i4 z hz x (by simp)⟩
    · rintro ⟨h1, h2⟩
      rw [← hO, hr] at h1
      rcases List.mem_append.1 h1 with h1 | h1
      · exact h1
      · rcases List.mem_cons.1 h1 with rfl | h1
        · omega
        · have := i2 z h1; omega
  have m2 : ∀ z, z ∈ (cutAt x t.opn).2 ↔ z ∈ t.opn ∧ t.nm x ≤ t.nm z := fun z => by
    constructor
    · intro hz
      refine ⟨by rw [← hO]; simp [hz], ?_⟩
      rw [hr] at hz
      rcases List.mem_cons.1 hz with rfl | hz
      · exact Nat.le_refl _
      · exact Nat.le_of_lt (i2 z hz)
    · rintro ⟨h1, h2⟩
      rw [← hO] at h1
      rcases List.mem_append.1 h1 with h1 | h1
      · have := i4 z h1 x (by simp)
        omega
      · exact h1
  -- of all from it on the frame is x
  have topd : ∀ q ∈ S, t.nm q.1 < t.nm x := fun q hq => (hd.1 q hq).1
  have tr : ∀ z ∈ (cutAt x t.opn).2, Rch (Ed out) x z ∧ t.nm x ≤ t.lo z := fun z hz => by
    obtain ⟨h1, h2⟩ := (m2 z).1 hz
    obtain ⟨p, hp, k1, k2, k3, k4⟩ := h.tree z h1
    have := k2 (x, j) (by simp) h2
    have this : t.nm x ≤ t.nm p.1 := this
    rcases List.mem_cons.1 hp with rfl | hp
    · exact ⟨k3, by rw [← hlx]; exact k4⟩
    · have := topd p hp; omega
  have fin : ∀ z ∈ (cutAt x t.opn).2, ∀ w, Ed out z w → t.nm w ≠ 0 ∧ (w ∈ t.opn → w ∈ (cutAt x t.opn).2) := fun z hz w hw => by
    obtain ⟨h1, h2⟩ := (m2 z).1 hz
    obtain ⟨_, h3⟩ := tr z hz
    have key : t.nm w ≠ 0 ∧ (w ∈ t.opn → t.lo z ≤ t.nm w) := by
      by_cases e : z = x
      · subst e
        exact h.stkE (z, j) (by simp) w (by
          show w ∈ (outs out z).take j
          rw [hjl]; exact hw)
      · refine (h.finE z h1 fun p hp e' => ?_).2 w hw
        rcases List.mem_cons.1 hp with rfl | hp
        · exact e e'.symm
        · have := topd p hp
          rw [e'] at this; omega
    exact ⟨key.1, fun k => (m2 w).2 ⟨k, by have := key.2 k; omega⟩⟩
  have back : ∀ n z, z ∈ (cutAt x t.opn).2 → t.nm z ≤ n → Rch (Ed out) z x := by
    intro n
    induction n with
    | zero => intro z hz hn; have := h.pos z ((m2 z).1 hz).1; omega
    | succ n ih =>
      intro z hz hn
      obtain ⟨h1, h2⟩ := (m2 z).1 hz
      by_cases e : z = x
      · subst e; exact .refl _
      · have hlz := (h.finE z h1 fun p hp e' => by
          rcases List.mem_cons.1 hp with rfl | hp
          · exact e e'.symm
          · have := topd p hp
            rw [e'] at this; omega).1
        obtain ⟨_, w, w1, w2, w3⟩ := h.lowO z h1
        have := (tr z hz).2
        exact w3.trans (ih w ((m2 w).2 ⟨w1, by omega⟩) (by omega))
  -- nothing else is of the group
  have clo' : ∀ z, (z ∈ (cutAt x t.opn).2 ∨ (t.nm z ≠ 0 ∧ z ∉ t.opn)) → ∀ w, Ed out z w → (w ∈ (cutAt x t.opn).2 ∨ (t.nm w ≠ 0 ∧ w ∉ t.opn)) := by
    intro z hz w hw
    rcases hz with hz | hz
    · obtain ⟨k1, k2⟩ := fin z hz w hw
      by_cases k : w ∈ t.opn
      · exact .inl (k2 k)
      · exact .inr ⟨k1, k⟩
    · exact .inr (h.clo z hz.1 hz.2 w hw)
  have only : ∀ z, Rch (Ed out) x z → Rch (Ed out) z x → z ∈ (cutAt x t.opn).2 := by
    intro z h1 h2
    rcases Rch.inv (p := fun z => z ∈ (cutAt x t.opn).2 ∨ (t.nm z ≠ 0 ∧ z ∉ t.opn)) (fun a b ha hb => clo' a ha b hb) h1 (.inl (by rw [hr]; simp)) with k | k
    · exact k
    · have : t.nm x ≠ 0 ∧ x ∉ t.opn := h2.inv (p := fun z => t.nm z ≠ 0 ∧ z ∉ t.opn) (fun a b ha hb => h.clo a ha.1 ha.2 b hb) k
      exact absurd hxo this.2
  have grp : ∀ a ∈ (cutAt x t.opn).2, ∀ y, y ∈ (cutAt x t.opn).2 ↔ Rch (Ed out) a y ∧ Rch (Ed out) y a := fun a ha y => by
    have a1 := (tr a ha).1
    have a2 := back _ a ha (Nat.le_refl _)
    constructor
    · intro hy
      exact ⟨a2.trans (tr y hy).1, (back _ y hy (Nat.le_refl _)).trans a1⟩
    · rintro ⟨y1, y2⟩
      exact only y (a1.trans y1) (y2.trans a2)
  have nm : ∀ z, (t.leave x).nm z = t.nm z := fun z => by rw [hleave]; rfl
  have lo : ∀ z, (t.leave x).lo z = t.lo z := fun z => by rw [hleave]; rfl
  have ho : (t.leave x).opn = (cutAt x t.opn).1 := by rw [hleave]
  have sub : ∀ z, z ∈ (t.leave x).opn → z ∈ t.opn := fun z hz => ((m1 z).1 (ho ▸ hz)).1
  have cl : ∀ z, t.nm z ≠ 0 ∧ z ∉ (t.leave x).opn → (z ∈ (cutAt x t.opn).2 ∨ (t.nm z ≠ 0 ∧ z ∉ t.opn)) := fun z hz => by
    by_cases k : z ∈ t.opn
    · left
      have : ¬ t.nm z < t.nm x := fun k' => hz.2 (by rw [ho]; exact (m1 z).2 ⟨k, k'⟩)
      exact (m2 z).2 ⟨k, by omega⟩
    · exact .inr ⟨hz.1, k⟩
  have lc : ∀ z, (z ∈ (cutAt x t.opn).2 ∨ (t.nm z ≠ 0 ∧ z ∉ t.opn)) → t.nm z ≠ 0 ∧ z ∉ (t.leave x).opn := fun z hz => by
    rcases hz with hz | hz
    · obtain ⟨k1, k2⟩ := (m2 z).1 hz
      have := h.pos z k1
      exact ⟨by omega, fun k => by have := ((m1 z).1 (ho ▸ k)).2; omega⟩
    · exact ⟨hz.1, fun k => hz.2 (sub z k)⟩
  have inS : ∀ p ∈ S, p.1 ∈ (t.leave x).opn := fun p hp => by
    rw [ho]; exact (m1 _).2 ⟨(h.stk p (by simp [hp])).1, topd p hp⟩
  refine ⟨by rw [hleave]; exact h.ln, by rw [hleave]; exact h.ll, by rw [hleave]; exact (offs_len _ _).trans h.li, h.ok, fun z hz => h.inO z (sub z hz), ?_, fun z hz => by rw [nm]; exact h.pos z (sub z hz), fun z => by rw [nm]; have := h.cnt z; rw [hleave]; exact this, ?_, fun p hp => ⟨inS p hp, (h.stk p (by simp [hp])).2⟩, ?_, ?_, ?_, ?_, ?_, ?_, ?_, ?_, ?_⟩
  · intro z hz
    rw [hleave]
    show (offs t.is (cutAt x t.opn).2).getD z false = true ↔ z ∈ (cutAt x t.opn).1
    rw [offs_get _ _ _ (fun w hw => by rw [h.li]; exact h.inO w ((m2 w).1 hw).1)]
    rw [m1]
    split
    · rename_i k
      have := ((m2 z).1 k).2
      simp
      intro _; omega
    · rename_i k
      rw [h.isO z hz]
      constructor
      · intro k'
        exact ⟨k', Nat.lt_of_not_le fun k2 => k ((m2 z).2 ⟨k', k2⟩)⟩
      · exact fun k' => k'.1
  · rw [ho]
    exact i1.imp fun k => by rw [nm, nm]; exact k
  · exact hd.2.imp fun k => by rw [nm, nm]; exact k
  · intro z h1 h2 w hw
    rw [nm] at h1
    have := lc w (clo' z (cl z ⟨h1, h2⟩) w hw)
    rw [nm]; exact this
  · intro z hz
    obtain ⟨k1, w, k2, k3, k4⟩ := h.lowO z (sub z hz)
    rw [nm, lo]
    refine ⟨k1, w, ?_, by rw [nm]; exact k3, k4⟩
    rw [ho]
    have := ((m1 z).1 (ho ▸ hz)).2
    exact (m1 w).2 ⟨k2, by omega⟩
  · intro z hz hn
    rw [nm, lo]
    have := h.finE z (sub z hz) fun p hp e => by
      rcases List.mem_cons.1 hp with rfl | hp
      · have := ((m1 z).1 (ho ▸ hz)).2
        have e : x = z := e
        rw [e] at this; omega
      · exact hn p hp e
    exact ⟨this.1, fun w hw => by rw [nm]; exact ⟨(this.2 w hw).1, fun k => (this.2 w hw).2 (sub w k)⟩⟩
  · intro p hp w hw
    have := h.stkE p (by simp [hp]) w hw
    rw [nm, lo]
    exact ⟨this.1, fun k => this.2 (sub w k)⟩
  · intro z hz
    obtain ⟨p, hp, k1, k2, k3, k4⟩ := h.tree z (sub z hz)
    have hzx := ((m1 z).1 (ho ▸ hz)).2
    rcases List.mem_cons.1 hp with rfl | hp
    · have k1 : t.nm x ≤ t.nm z := k1
      omega
    · refine ⟨p, hp, by rw [nm, nm]; exact k1, fun q hq k => ?_, k3, by rw [lo, lo]; exact k4⟩
      rw [nm, nm] at *
      exact k2 q (by simp [hq]) k
  · intro l hl
    rw [hleave] at hl
    rcases List.mem_append.1 hl with hl | hl
    · obtain ⟨k1, k2, k3⟩ := h.gIn l hl
      refine ⟨k1, k2, fun z hz => ?_⟩
      rw [nm]
      exact ⟨lc z (.inr (k3 z hz).1), (k3 z hz).2⟩
    · rw [List.mem_singleton] at hl
      subst hl
      refine ⟨fun e => ?_, sortN_lt ?_, fun z hz => ?_⟩
      · have : x ∈ sortN (cutAt x t.opn).2 := sortN_mem.2 (by rw [hr]; simp)
        rw [e] at this; cases this
      · rw [hr]
        exact nodup_of_lt (List.pairwise_cons.2 ⟨i2, i3⟩)
      · rw [sortN_mem] at hz
        rw [nm]
        refine ⟨lc z (.inl hz), fun y => ?_⟩
        rw [sortN_mem]
        exact grp z hz y
  · intro z h1 h2
    rw [nm] at h1
    rcases cl z ⟨h1, h2⟩ with k | k
    · exact ⟨sortN (cutAt x t.opn).2, by rw [hleave]; simp, sortN_mem.2 k⟩
    · obtain ⟨l, k1, k2⟩ := h.gAll z k.1 k.2
      exact ⟨l, by rw [hleave]; simp [k1], k2⟩
  · rw [hleave]
    show (t.grp ++ [sortN (cutAt x t.opn).2]).Pairwise _
    rw [List.pairwise_append]
    refine ⟨h.gDis, by simp, fun l hl m hm z hz hz' => ?_⟩
    rw [List.mem_singleton] at hm
    subst hm
    rw [sortN_mem] at hz'
    exact ((h.gIn l hl).2.2 z hz).1.2 ((m2 z).1 hz').1
end Go.Am.Sc
namespace Go.Am.Sc
variable {out : List (List Nat)} {S : List (Nat × Nat)} {t : T}
def zeros : List Nat → Nat
  | [] => 0
  | x :: l => (if x = 0 then 1 else 0) + zeros l
theorem zeros_set : ∀ (l : List Nat) (i v : Nat), l.getD i 1 = 0 → v ≠ 0 → zeros (l.set i v) + 1 = zeros l
  | [], i, v, h, hv => by simp at h
  | x :: l, 0, v, h, hv => by
    simp at h
    subst h
    simp [zeros, hv]; omega
  | x :: l, i + 1, v, h, hv => by
    simp only [List.set_cons_succ, zeros]
    have := zeros_set l i v (by simpa using h) hv
    omega
def left (out : List (List Nat)) : List (Nat × Nat) → Nat
  | [] => 0
  | p :: S => ((outs out p.1).length - p.2) + 1 + left out S
theorem Inv.low_le (h : Inv out S t) (x v : Nat) (hx : x < out.length) : (t.low1 x v).nm = t.nm := rfl
theorem turn_some {x j y : Nat} (hj : (outs out x)[j]? = some y) : Sc.turn out ((x, j) :: S) t = if t.nm y = 0 then ((y, 0) :: (x, j + 1) :: S, t.enter y)
      else if t.is.getD y false = true then ((x, j + 1) :: S, t.low1 x (min (t.lo x) (t.nm y)))
      else ((x, j + 1) :: S, t) := by simp only [Sc.turn, hj]
theorem turn_last {x j : Nat} (hj : (outs out x)[j]? = none) : Sc.turn out [(x, j)] t = ([], t.leave x) := by simp only [Sc.turn, hj]
theorem turn_pop {x j u k : Nat} (hj : (outs out x)[j]? = none) : Sc.turn out ((x, j) :: (u, k) :: S) t = ((u, k) :: S, (t.low1 u (min (t.lo u) (t.lo x))).leave x) := by simp only [Sc.turn, hj]
theorem leave_nm (t : T) (x : Nat) : (t.leave x).nm = t.nm ∧ (t.leave x).num = t.num := by unfold T.leave; split <;> exact ⟨rfl, rfl⟩
theorem Inv.turn {x j : Nat} (h : Inv out ((x, j) :: S) t) : Inv out (turn out ((x, j) :: S) t).1 (turn out ((x, j) :: S) t).2 ∧
    (∀ z, t.nm z ≠ 0 → (turn out ((x, j) :: S) t).2.nm z ≠ 0) ∧
    ((zeros (turn out ((x, j) :: S) t).2.num < zeros t.num) ∨ ((turn out ((x, j) :: S) t).2.num = t.num ∧ left out (turn out ((x, j) :: S) t).1 < left out ((x, j) :: S))) := by
  have hxo := (h.stk (x, j) (by simp)).1
  have hxl := h.inO x hxo
  cases hj : (outs out x)[j]? with
  | some y =>
    have hjl := (List.getElem?_eq_some_iff.1 hj).1
    have hE : Ed out x y := List.mem_of_getElem? hj
    have hyl := h.ok x y hE
    rw [turn_some hj]
    split
    · rename_i h0
      have h1 := h.enter hyl h0 (.inr ⟨(x, j), S, rfl, .one hE⟩)
      have h2 : t.nm x ≤ t.cnt := h.cnt x
      have hxy : x ≠ y := fun e => by have := h.pos x hxo; rw [e] at this; omega
      have h3 := Inv.adv (A := [(y, 0)]) (B := S) h1 hj (by rw [h.nm_enter hyl, if_pos rfl]; omega) (fun _ => by
        rw [h.nm_enter hyl, if_pos rfl, h.lo_enter hyl, if_neg fun e => hxy e.symm]
        have := (h.lowO x hxo).1; omega)
      refine ⟨h3, fun z hz => ?_, .inl ?_⟩
      · show (t.enter y).nm z ≠ 0
        rw [h.nm_enter hyl]; split <;> omega
      · have := zeros_set t.num y (t.cnt + 1) (by
          have : t.num.getD y 0 = 0 := h0
          rw [List.getD_eq_getElem?_getD, List.getElem?_eq_getElem (by rw [h.ln]; exact hyl)] at this ⊢
          exact this) (by omega)
        show zeros (t.num.set y (t.cnt + 1)) < _
        omega
    · rename_i h0
      split
      · rename_i his
        have hyo := (h.isO y hyl).1 his
        have hle : min (t.lo x) (t.nm y) ≤ t.lo x := Nat.min_le_left _ _
        have h1 : Inv out ((x, j) :: S) (t.low1 x (min (t.lo x) (t.nm y))) := by
          by_cases k : t.lo x ≤ t.nm y
          · rw [Nat.min_eq_left k]
            obtain ⟨_, z, h2, h3, h4⟩ := h.lowO x hxo
            exact h.low1 (List.mem_cons_self ..) h2 h3 h4 (Nat.le_refl _)
          · rw [Nat.min_eq_right (by omega)]
            exact h.low1 (List.mem_cons_self ..) hyo rfl (.one hE) (by omega)
        refine ⟨Inv.adv (A := []) (B := S) h1 hj h0 (fun _ => ?_), fun z hz => hz, .inr ⟨rfl, ?_⟩⟩
        · show _ ≤ t.nm y
          rw [h.lo_low1 hxl, if_pos rfl]
          exact Nat.min_le_right _ _
        · simp only [left]; omega
      · rename_i his
        refine ⟨Inv.adv (A := []) (B := S) h hj h0 (fun k => absurd ((h.isO y hyl).2 k) his), fun z hz => hz, .inr ⟨rfl, ?_⟩⟩
        simp only [left]; omega
  | none =>
    cases S with
    | nil =>
      have hx : ¬ t.lo x < t.nm x := fun k => by
        obtain ⟨_, z, h2, h3, h4⟩ := h.lowO x hxo
        obtain ⟨p, hp, k1, _⟩ := h.tree z h2
        rw [List.mem_singleton] at hp
        subst hp
        have k1 : t.nm x ≤ t.nm z := k1
        omega
      rw [turn_last hj]
      refine ⟨h.close hj hx, fun z hz => ?_, .inr ⟨(leave_nm t x).2, ?_⟩⟩
      · show (t.leave x).nm z ≠ 0
        rw [(leave_nm t x).1]; exact hz
      · simp only [left]; omega
    | cons p S =>
      obtain ⟨u, k⟩ := p
      have huo := (h.stk (u, k) (by simp)).1
      have hul := h.inO u huo
      have hux := (List.pairwise_cons.1 h.dec).1 (u, k) (by simp)
      have hne : u ≠ x := fun e => by have := hux.1; simp only [e] at this; omega
      have h1 : Inv out ((x, j) :: (u, k) :: S) (t.low1 u (min (t.lo u) (t.lo x))) := by
        by_cases k' : t.lo u ≤ t.lo x
        · rw [Nat.min_eq_left k']
          obtain ⟨_, z, h2, h3, h4⟩ := h.lowO u huo
          exact h.low1 (j := k) (by simp) h2 h3 h4 (Nat.le_refl _)
        · rw [Nat.min_eq_right (by omega)]
          obtain ⟨_, z, h2, h3, h4⟩ := h.lowO x hxo
          exact h.low1 (j := k) (by simp) h2 h3 (hux.2.trans h4) (by omega)
      have lu : (t.low1 u (min (t.lo u) (t.lo x))).lo u = min (t.lo u) (t.lo x) := by rw [h.lo_low1 hul, if_pos rfl]
      have lx : (t.low1 u (min (t.lo u) (t.lo x))).lo x = t.lo x := by rw [h.lo_low1 hul, if_neg hne]
      rw [turn_pop hj]
      have nm1 : (t.low1 u (min (t.lo u) (t.lo x))).nm = t.nm ∧ (t.low1 u (min (t.lo u) (t.lo x))).num = t.num := ⟨rfl, rfl⟩
      generalize t.low1 u (min (t.lo u) (t.lo x)) = t1 at *
      refine ⟨?_, fun z hz => ?_, .inr ⟨(leave_nm t1 x).2.trans nm1.2, ?_⟩⟩
      · by_cases hx : t1.lo x < t1.nm x
        · have h2 := h1.done hj (by rw [lu, lx]; exact Nat.min_le_right _ _) hx
          have : t1.leave x = t1 := by unfold T.leave; rw [if_pos hx]
          show Inv out ((u, k) :: S) (t1.leave x)
          rw [this]; exact h2
        · exact h1.close hj hx
      · show (t1.leave x).nm z ≠ 0
        rw [(leave_nm t1 x).1, nm1.1]; exact hz
      · simp only [left]; omega
theorem Inv.runs : ∀ (n : Nat) (m : Nat) (S : List (Nat × Nat)) (t : T), Inv out S t → zeros t.num ≤ n → left out S ≤ m → ∃ t', Runs out S t t' ∧ Inv out [] t' ∧ ∀ z, t.nm z ≠ 0 → t'.nm z ≠ 0 := by
  intro n
  induction n with
  | zero =>
    intro m
    induction m with
    | zero =>
      intro S t h hn hm
      cases S with
      | nil => exact ⟨t, .nil t, h, fun z hz => hz⟩
      | cons p S => simp [left] at hm
    | succ m ih =>
      intro S t h hn hm
      cases S with
      | nil => exact ⟨t, .nil t, h, fun z hz => hz⟩
      | cons p S =>
        obtain ⟨x, j⟩ := p
        obtain ⟨h1, h2, h3⟩ := h.turn
        rcases h3 with h3 | ⟨h3, h4⟩
        · omega
        · obtain ⟨t', k1, k2, k3⟩ := ih _ _ h1 (by rw [h3]; exact hn) (by omega)
          exact ⟨t', .turn k1, k2, fun z hz => k3 z (h2 z hz)⟩
  | succ n ihn =>
    intro m
    induction m with
    | zero =>
      intro S t h hn hm
      cases S with
      | nil => exact ⟨t, .nil t, h, fun z hz => hz⟩
      | cons p S => simp [left] at hm
    | succ m ih =>
      intro S t h hn hm
      cases S with
      | nil => exact ⟨t, .nil t, h, fun z hz => hz⟩
      | cons p S =>
        obtain ⟨x, j⟩ := p
        obtain ⟨h1, h2, h3⟩ := h.turn
        rcases h3 with h3 | ⟨h3, h4⟩
        · obtain ⟨t', k1, k2, k3⟩ := ihn _ _ _ h1 (by omega) (Nat.le_refl _)
          exact ⟨t', .turn k1, k2, fun z hz => k3 z (h2 z hz)⟩
        · obtain ⟨t', k1, k2, k3⟩ := ih _ _ h1 (by rw [h3]; exact hn) (by omega)
          exact ⟨t', .turn k1, k2, fun z hz => k3 z (h2 z hz)⟩
theorem Inv.none_open (h : Inv out [] t) : t.opn = [] := by
  cases ho : t.opn with
  | nil => rfl
  | cons x l =>
    obtain ⟨p, hp, _⟩ := h.tree x (by rw [ho]; simp)
    cases hp
theorem Inv.from (h : Inv out [] t) {x : Nat} (hx : x < out.length) (h0 : t.nm x = 0) : ∃ t', Runs out [(x, 0)] (t.enter x) t' ∧ Inv out [] t' ∧ t'.nm x ≠ 0 ∧ ∀ z, t.nm z ≠ 0 → t'.nm z ≠ 0 := by
  have h1 := h.enter hx h0 (.inl ⟨rfl, h.none_open⟩)
  obtain ⟨t', k1, k2, k3⟩ := Inv.runs _ _ _ _ h1 (Nat.le_refl _) (Nat.le_refl _)
  refine ⟨t', k1, k2, k3 x ?_, fun z hz => k3 z ?_⟩
  · rw [h.nm_enter hx, if_pos rfl]; omega
  · rw [h.nm_enter hx]; split <;> omega
inductive Goes (out : List (List Nat)) : Nat → T → T → Prop
  | done {x : Nat} {t : T} : out.length ≤ x → Goes out x t t
  | old {x : Nat} {t t' : T} : x < out.length → t.nm x ≠ 0 → Goes out (x + 1) t t' → Goes out x t t'
  | new {x : Nat} {t t1 t' : T} : x < out.length → t.nm x = 0 → Runs out [(x, 0)] (t.enter x) t1 → Goes out (x + 1) t1 t' → Goes out x t t'
theorem Inv.goes : ∀ (n x : Nat) (t : T), Inv out [] t → out.length ≤ x + n → (∀ z, z < x → t.nm z ≠ 0) → ∃ t', Goes out x t t' ∧ Inv out [] t' ∧ ∀ z, z < out.length → t'.nm z ≠ 0
  | 0, x, t, h, hn, hz => ⟨t, .done (by omega), h, fun z hz' => hz z (by omega)⟩
  | n + 1, x, t, h, hn, hz => by
    by_cases hx : x < out.length
    · by_cases h0 : t.nm x = 0
      · obtain ⟨t1, k1, k2, k3, k4⟩ := h.from hx h0
        obtain ⟨t', g1, g2, g3⟩ := Inv.goes n (x + 1) t1 k2 (by omega) fun z hz' => by
          by_cases e : z = x
          · subst e; exact k3
          · exact k4 z (hz z (by omega))
        exact ⟨t', .new hx h0 k1 g1, g2, g3⟩
      · obtain ⟨t', g1, g2, g3⟩ := Inv.goes n (x + 1) t h (by omega) fun z hz' => by
          by_cases e : z = x
          · subst e; exact h0
          · exact hz z (by omega)
        exact ⟨t', .old hx h0 g1, g2, g3⟩
    · exact ⟨t, .done (by omega), h, fun z hz' => hz z (by omega)⟩
def T0 (n : Nat) : T := ⟨List.replicate n 0, List.replicate n 0, [], List.replicate n false, 0, []⟩
theorem getD_rep {α : Type} (n x : Nat) (d : α) : (List.replicate n d).getD x d = d := by
  rw [List.getD_eq_getElem?_getD, List.getElem?_replicate]; split <;> rfl
theorem Inv.start (ok : ∀ a b, Ed out a b → b < out.length) : Inv out [] (T0 out.length) := by
  have nm : ∀ x, (T0 out.length).nm x = 0 := fun x => getD_rep _ _ _
  have ho : (T0 out.length).opn = [] := rfl
  have hg : (T0 out.length).grp = [] := rfl
  refine ⟨by simp [T0], by simp [T0], by simp [T0], ok, by simp [ho], fun x hx => ?_, by simp [ho], fun x => by rw [nm]; exact Nat.zero_le _, by simp [ho], by simp, by simp, fun x hx => absurd (nm x) hx, by simp [ho], by simp [ho], by simp, by simp [ho], by simp [hg], fun x hx => absurd (nm x) hx, by simp [hg]⟩
  have : (T0 out.length).is.getD x false = false := getD_rep _ _ _
  rw [this, ho]; simp
structure Grp (n : Nat) (R : Nat → Nat → Prop) (L : List (List Nat)) : Prop where
  rise : ∀ l ∈ L, l ≠ [] ∧ l.Pairwise (· < ·)
  lt : ∀ l ∈ L, ∀ x ∈ l, x < n
  one : ∀ l ∈ L, ∀ x ∈ l, ∀ y, y ∈ l ↔ R x y ∧ R y x
  all : ∀ x, x < n → ∃ l ∈ L, x ∈ l
theorem Grp.same {n : Nat} {R : Nat → Nat → Prop} {L : List (List Nat)} (h : Grp n R L) {l m : List Nat} (hl : l ∈ L) (hm : m ∈ L) {x : Nat} (h1 : x ∈ l) (h2 : x ∈ m) : ∀ y, y ∈ l ↔ y ∈ m := fun y => by
  rw [h.one l hl x h1, h.one m hm x h2]
theorem Inv.grp (h : Inv out [] t) (ha : ∀ x, x < out.length → t.nm x ≠ 0) : Grp out.length (Rch (Ed out)) t.grp ∧ t.grp.Pairwise fun l m => ∀ x ∈ l, x ∉ m := by
  have ho := h.none_open
  refine ⟨⟨fun l hl => ⟨(h.gIn l hl).1, (h.gIn l hl).2.1⟩, fun l hl x hx => ?_, fun l hl x hx y => ((h.gIn l hl).2.2 x hx).2 y, fun x hx => h.gAll x (ha x hx) (by rw [ho]; simp)⟩, h.gDis⟩
  have hv := ((h.gIn l hl).2.2 x hx).1.1
  have hx' : ¬ t.num.length ≤ x := fun k => hv (by
    show t.num.getD x 0 = 0
    rw [List.getD_eq_getElem?_getD, List.getElem?_eq_none k]; rfl)
  have := h.ln
  omega
theorem pw_ext {l m : List Nat} (hl : l.Pairwise (· < ·)) (hm : m.Pairwise (· < ·)) (h : ∀ x, x ∈ l ↔ x ∈ m) : l = m := by
  induction l generalizing m with
  | nil =>
    cases m with
    | nil => rfl
    | cons y m => have := (h y).2 (by simp); cases this
  | cons x l ih =>
    cases m with
    | nil => have := (h x).1 (by simp); cases this
    | cons y m =>
      rw [List.pairwise_cons] at hl hm
      have e : x = y := by
        have h1 := (h x).1 (by simp)
        have h2 := (h y).2 (by simp)
        rcases List.mem_cons.1 h1 with h1 | h1
        · exact h1
        · rcases List.mem_cons.1 h2 with h2 | h2
          · exact h2.symm
          · have := hl.1 y h2; have := hm.1 x h1; omega
      subst e
      congr 1
      refine ih hl.2 hm.2 fun z => ?_
      constructor
      · intro hz
        have := (h z).1 (by simp [hz])
        rcases List.mem_cons.1 this with k | k
        · subst k; have := hl.1 z hz; omega
        · exact k
      · intro hz
        have := (h z).2 (by simp [hz])
        rcases List.mem_cons.1 this with k | k
        · subst k; have := hm.1 z hz; omega
        · exact k
def hd (l : List Nat) : Nat := l.headD 0
theorem hd_mem {l : List Nat} (h : l ≠ []) : hd l ∈ l := by cases l <;> simp_all [hd]
theorem hd_le {l : List Nat} (h : l.Pairwise (· < ·)) {x : Nat} (hx : x ∈ l) : hd l ≤ x := by
  cases l with
  | nil => cases hx
  | cons y l =>
    rw [List.pairwise_cons] at h
    rcases List.mem_cons.1 hx with rfl | hx
    · exact Nat.le_refl _
    · exact Nat.le_of_lt (h.1 x hx)
theorem Grp.only {n : Nat} {R : Nat → Nat → Prop} : ∀ {L M : List (List Nat)}, Grp n R L → Grp n R M → (L.Pairwise fun l m => hd l < hd m) → (M.Pairwise fun l m => hd l < hd m) → L = M := by
  intro L M hL hM oL oM
  have sub : ∀ {L M : List (List Nat)}, Grp n R L → Grp n R M → ∀ l ∈ L, l ∈ M := by
    intro L M hL hM l hl
    obtain ⟨h1, h2⟩ := hL.rise l hl
    have hx := hd_mem h1
    obtain ⟨m, hm, hxm⟩ := hM.all _ (hL.lt l hl _ hx)
    have : l = m := pw_ext h2 (hM.rise m hm).2 fun y => by rw [hL.one l hl _ hx, hM.one m hm _ hxm]
    rw [this]; exact hm
  have key : ∀ {L M : List (List Nat)}, (L.Pairwise fun l m => hd l < hd m) → (M.Pairwise fun l m => hd l < hd m) → (∀ l ∈ L, l ∈ M) → (∀ m ∈ M, m ∈ L) → L = M := by
    intro L
    induction L with
    | nil =>
      intro M _ _ _ h
      cases M with
      | nil => rfl
      | cons m M => have := h m (by simp); cases this
    | cons l L ih =>
      intro M hl hm h1 h2
      cases M with
      | nil => have := h1 l (by simp); cases this
      | cons m M =>
        rw [List.pairwise_cons] at hl hm
        have e : l = m := by
          rcases List.mem_cons.1 (h1 l (by simp)) with k | k
          · exact k
          · rcases List.mem_cons.1 (h2 m (by simp)) with k' | k'
            · exact k'.symm
            · have := hl.1 m k'; have := hm.1 l k; omega
        subst e
        congr 1
        refine ih hl.2 hm.2 (fun z hz => ?_) (fun z hz => ?_)
        · rcases List.mem_cons.1 (h1 z (by simp [hz])) with k | k
          · subst k; have := hl.1 z hz; omega
          · exact k
        · rcases List.mem_cons.1 (h2 z (by simp [hz])) with k | k
          · subst k; have := hm.1 z hz; omega
          · exact k
  exact key oL oM (sub hL hM) (sub hM hL)
theorem Grp.of_mem {n : Nat} {R : Nat → Nat → Prop} {L M : List (List Nat)} (h : Grp n R L) (hm : ∀ l, l ∈ M ↔ l ∈ L) : Grp n R M :=
  ⟨fun l hl => h.rise l ((hm l).1 hl), fun l hl => h.lt l ((hm l).1 hl), fun l hl => h.one l ((hm l).1 hl), fun x hx => by obtain ⟨l, k1, k2⟩ := h.all x hx; exact ⟨l, (hm l).2 k1, k2⟩⟩
theorem Grp.iff {n : Nat} {R R' : Nat → Nat → Prop} {L : List (List Nat)} (h : Grp n R L) (he : ∀ a b, a < n → b < n → (R a b ↔ R' a b)) (hlt : ∀ a b, a < n → R' a b → b < n) : Grp n R' L :=
  ⟨h.rise, h.lt, fun l hl x hx y => by
    have hxn := h.lt l hl x hx
    constructor
    · intro hy
      have hyn := h.lt l hl y hy
      have := (h.one l hl x hx y).1 hy
      exact ⟨(he x y hxn hyn).1 this.1, (he y x hyn hxn).1 this.2⟩
    · rintro ⟨k1, k2⟩
      have hyn := hlt x y hxn k1
      exact (h.one l hl x hx y).2 ⟨(he x y hxn hyn).2 k1, (he y x hyn hxn).2 k2⟩, h.all⟩
end Go.Am.Sc
namespace Go.Am.Sc
def cl (n : Nat) : List Int → List Nat
  | [] => []
  | y :: l => if 0 ≤ y ∧ y < n then y.toNat :: cl n l else cl n l
theorem cl_mem {n y : Nat} : ∀ {l : List Int}, y ∈ cl n l ↔ y < n ∧ (y : Int) ∈ l
  | [] => by simp [cl]
  | z :: l => by
    unfold cl
    split
    · rename_i h
      simp only [List.mem_cons, cl_mem (l := l)]
      constructor
      · rintro (h1 | h1)
        · exact ⟨by omega, .inl (by omega)⟩
        · exact ⟨h1.1, .inr h1.2⟩
      · rintro ⟨h1, h2 | h2⟩
        · exact .inl (by omega)
        · exact .inr ⟨h1, h2⟩
    · rename_i h
      simp only [List.mem_cons, cl_mem (l := l)]
      constructor
      · exact fun h1 => ⟨h1.1, .inr h1.2⟩
      · rintro ⟨h1, h2 | h2⟩
        · exact absurd ⟨by omega, by omega⟩ h
        · exact ⟨h1, h2⟩
def mark : List Bool → List Nat → List Nat → List Bool × List Nat
  | had, l, [] => (had, l)
  | had, l, y :: ys => if had.getD y false = true then mark had l ys else mark (had.set y true) (y :: l) ys
inductive Spr (out : List (List Nat)) : List Bool → List Nat → List Bool → Prop
  | done {had : List Bool} : Spr out had [] had
  | step {had had' : List Bool} {x : Nat} {l : List Nat} : Spr out (mark had l (outs out x)).1 (mark had l (outs out x)).2 had' → Spr out had (x :: l) had'
variable {out : List (List Nat)}
def hs (had : List Bool) (x : Nat) : Prop := had.getD x false = true
def falses : List Bool → Nat
  | [] => 0
  | b :: l => (if b = true then 0 else 1) + falses l
theorem falses_set : ∀ (l : List Bool) (i : Nat), l.getD i false = false → i < l.length → falses (l.set i true) + 1 = falses l
  | [], i, h, hv => by simp at hv
  | x :: l, 0, h, hv => by
    simp at h
    subst h
    simp [falses]; omega
  | x :: l, i + 1, h, hv => by
    simp only [List.set_cons_succ, falses]
    have := falses_set l i (by simpa using h) (by simpa using hv)
    omega
theorem mark_spec : ∀ (ys : List Nat) (had : List Bool) (l : List Nat), (∀ y ∈ ys, y < had.length) →
    (mark had l ys).1.length = had.length ∧ (∀ x, hs (mark had l ys).1 x ↔ hs had x ∨ x ∈ ys) ∧ (∀ x, x ∈ (mark had l ys).2 ↔ x ∈ l ∨ (x ∈ ys ∧ ¬ hs had x)) ∧ falses (mark had l ys).1 + (mark had l ys).2.length = falses had + l.length
  | [], had, l, _ => by simp [mark]
  | y :: ys, had, l, h => by
    have hy := h y (by simp)
    have h' : ∀ z ∈ ys, z < had.length := fun z hz => h z (by simp [hz])
    unfold mark
    by_cases hh : had.getD y false = true
    · rw [if_pos hh]
      obtain ⟨h1, h2, h3, h4⟩ := mark_spec ys had l h'
      refine ⟨h1, fun x => ?_, fun x => ?_, h4⟩
      · rw [h2, List.mem_cons]
        constructor
        · rintro (k | k)
          · exact .inl k
          · exact .inr (.inr k)
        · rintro (k | rfl | k)
          · exact .inl k
          · exact .inl hh
          · exact .inr k
      · rw [h3, List.mem_cons]
        constructor
        · rintro (k | k)
          · exact .inl k
          · exact .inr ⟨.inr k.1, k.2⟩
        · rintro (k | ⟨rfl | k, k2⟩)
          · exact .inl k
          · exact absurd hh k2
          · exact .inr ⟨k, k2⟩
    · rw [if_neg hh]
      obtain ⟨h1, h2, h3, h4⟩ := mark_spec ys (had.set y true) (y :: l) (fun z hz => by simpa using h' z hz)
      have hset : ∀ x, hs (had.set y true) x ↔ hs had x ∨ x = y := fun x => by
        unfold hs
        rw [getD_set _ _ _ _ _ hy]
        by_cases e : y = x
        · subst e; simp
        · rw [if_neg e]
          exact ⟨.inl, fun k => k.resolve_right fun k => e k.symm⟩
      refine ⟨by simpa using h1, fun x => ?_, fun x => ?_, ?_⟩
      · rw [h2, hset, List.mem_cons, or_assoc]
      · rw [h3, hset, List.mem_cons, List.mem_cons]
        constructor
        · rintro ((rfl | k) | ⟨k, k2⟩)
          · exact .inr ⟨.inl rfl, hh⟩
          · exact .inl k
          · exact .inr ⟨.inr k, fun k' => k2 (.inl k')⟩
        · rintro (k | ⟨rfl | k, k2⟩)
          · exact .inl (.inr k)
          · exact .inl (.inl rfl)
          · by_cases e : x = y
            · exact .inl (.inl e)
            · exact .inr ⟨k, fun k' => k'.elim k2 e⟩
      · have := falses_set had y (by simpa using hh) hy
        simp only [List.length_cons] at h4
        omega
structure Sinv (out : List (List Nat)) (a : Nat) (had : List Bool) (l : List Nat) : Prop where
  len : had.length = out.length
  ok : ∀ a b, Ed out a b → b < out.length
  rch : ∀ x, hs had x → Rch (Ed out) a x
  mem : ∀ x ∈ l, hs had x
  fst : hs had a
  clo : ∀ x, hs had x → x ∉ l → ∀ y, Ed out x y → hs had y
theorem Sinv.step {a x : Nat} {had : List Bool} {l : List Nat} (h : Sinv out a had (x :: l)) : Sinv out a (mark had l (outs out x)).1 (mark had l (outs out x)).2 ∧ falses (mark had l (outs out x)).1 + (mark had l (outs out x)).2.length < falses had + (x :: l).length := by
  obtain ⟨h1, h2, h3, h4⟩ := mark_spec (outs out x) had l (fun y hy => by rw [h.len]; exact h.ok x y hy)
  refine ⟨⟨h1.trans h.len, h.ok, fun y hy => ?_, fun y hy => ?_, (h2 a).2 (.inl h.fst), fun y hy hn z hz => ?_⟩, by simp only [List.length_cons]; omega⟩
  · rcases (h2 y).1 hy with k | k
    · exact h.rch y k
    · exact .step (h.rch x (h.mem x (by simp))) k
  · rw [h2]
    rcases (h3 y).1 hy with k | k
    · exact .inl (h.mem y (by simp [k]))
    · exact .inr k.1
  · rw [h2]
    have hn' : y ∉ l ∧ ¬ (y ∈ outs out x ∧ ¬ hs had y) := ⟨fun k => hn ((h3 y).2 (.inl k)), fun k => hn ((h3 y).2 (.inr k))⟩
    by_cases e : y = x
    · subst e; exact .inr hz
    · rcases (h2 y).1 hy with k | k
      · exact .inl (h.clo y k (by simp [e, hn'.1]) z hz)
      · by_cases k' : hs had y
        · exact .inl (h.clo y k' (by simp [e, hn'.1]) z hz)
        · exact absurd ⟨k, k'⟩ hn'.2
theorem Sinv.ends : ∀ (n : Nat) {a : Nat} {had : List Bool} {l : List Nat}, Sinv out a had l → falses had + l.length ≤ n → ∃ had', Spr out had l had' ∧ Sinv out a had' []
  | 0, a, had, [], h, hn => ⟨had, .done, h⟩
  | 0, a, had, x :: l, h, hn => by simp at hn
  | n + 1, a, had, [], h, hn => ⟨had, .done, h⟩
  | n + 1, a, had, x :: l, h, hn => by
    obtain ⟨h1, h2⟩ := h.step
    obtain ⟨had', k1, k2⟩ := Sinv.ends n h1 (by omega)
    exact ⟨had', .step k1, k2⟩
theorem spread (ok : ∀ a b, Ed out a b → b < out.length) {a : Nat} (ha : a < out.length) : ∃ had', Spr out ((List.replicate out.length false).set a true) [a] had' ∧ had'.length = out.length ∧ ∀ x, had'.getD x false = true ↔ Rch (Ed out) a x := by
  have hset : ∀ x, hs ((List.replicate out.length false).set a true) x ↔ x = a := fun x => by
    unfold hs
    rw [getD_set _ _ _ _ _ (by simpa using ha), getD_rep]
    by_cases e : a = x
    · subst e; simp
    · rw [if_neg e]; simp; exact fun k => e k.symm
  have h0 : Sinv out a ((List.replicate out.length false).set a true) [a] := by
    refine ⟨by simp, ok, fun x hx => ?_, fun x hx => ?_, (hset a).2 rfl, fun x hx hn => ?_⟩
    · rw [(hset x).1 hx]; exact .refl _
    · rw [List.mem_singleton] at hx; exact (hset x).2 hx
    · exact absurd (by rw [(hset x).1 hx]; simp) hn
  obtain ⟨had', k1, k2⟩ := Sinv.ends _ h0 (Nat.le_refl _)
  exact ⟨had', k1, k2.len, fun x => ⟨k2.rch x, fun hx => hx.inv (p := hs had') (fun a b h e => k2.clo a h (by simp) b e) k2.fst⟩⟩
theorem Spr.det {had had1 had2 : List Bool} {l : List Nat} (h1 : Spr out had l had1) (h2 : Spr out had l had2) : had1 = had2 := by
  induction h1 with
  | done => cases h2; rfl
  | step _ ih => cases h2 with | step h => exact ih h
end Go.Am.Sc
namespace Go.Am.Sc
def ons (ins : List Bool) : List Nat → List Bool
  | [] => ins
  | y :: l => ons (ins.set y true) l
theorem ons_len : ∀ (l : List Nat) (is : List Bool), (ons is l).length = is.length
  | [], _ => rfl
  | y :: l, is => by rw [ons, ons_len l]; simp
theorem ons_get : ∀ (l : List Nat) (is : List Bool) (z : Nat), (∀ y ∈ l, y < is.length) → (ons is l).getD z false = if z ∈ l then true else is.getD z false
  | [], _, _, _ => by simp [ons]
  | y :: l, is, z, h => by
    rw [ons, ons_get l _ z (fun w hw => by simpa using h w (by simp [hw])), getD_set _ _ _ _ _ (h y (by simp))]
    by_cases e : y = z
    · subst e; simp
    · have e' : z ≠ y := fun k => e k.symm
      simp [e, e']
def at2 (m : List (List Bool)) (i k : Nat) : Bool := (m.getD i []).getD k false
def mates (m : List (List Bool)) (i : Nat) : Nat → Nat → List Nat
  | 0, _ => []
  | f + 1, k => if at2 m i k = true ∧ at2 m k i = true then k :: mates m i f (k + 1) else mates m i f (k + 1)
def grps (m : List (List Bool)) : Nat → Nat → List Bool → List (List Nat)
  | 0, _, _ => []
  | f + 1, i, ins => if ins.getD i false = true then grps m f (i + 1) ins else mates m i (f + 1) i :: grps m f (i + 1) (ons ins (mates m i (f + 1) i))
theorem mates_mem (m : List (List Bool)) (i : Nat) : ∀ (f k x : Nat), x ∈ mates m i f k ↔ (k ≤ x ∧ x < k + f) ∧ at2 m i x = true ∧ at2 m x i = true
  | 0, k, x => by simp [mates]; omega
  | f + 1, k, x => by
    unfold mates
    split
    · rename_i h
      rw [List.mem_cons, mates_mem m i f (k + 1) x]
      constructor
      · rintro (rfl | ⟨h1, h2⟩)
        · exact ⟨by omega, h⟩
        · exact ⟨by omega, h2⟩
      · rintro ⟨h1, h2⟩
        by_cases e : x = k
        · exact .inl e
        · exact .inr ⟨by omega, h2⟩
    · rename_i h
      rw [mates_mem m i f (k + 1) x]
      constructor
      · rintro ⟨h1, h2⟩
        exact ⟨by omega, h2⟩
      · rintro ⟨h1, h2⟩
        by_cases e : x = k
        · subst e; exact absurd h2 h
        · exact ⟨by omega, h2⟩
theorem mates_lt (m : List (List Bool)) (i : Nat) : ∀ (f k : Nat), (mates m i f k).Pairwise (· < ·)
  | 0, k => by simp [mates]
  | f + 1, k => by
    unfold mates
    split
    · rw [List.pairwise_cons]
      exact ⟨fun y hy => by have := ((mates_mem m i f (k + 1) y).1 hy).1; omega, mates_lt m i f (k + 1)⟩
    · exact mates_lt m i f (k + 1)
variable {n : Nat} {E : Nat → Nat → Prop} {m : List (List Bool)}
def Mut (E : Nat → Nat → Prop) (a b : Nat) : Prop := Rch E a b ∧ Rch E b a
theorem Mut.trans {a b c : Nat} (h : Mut E a b) (k : Mut E b c) : Mut E a c := ⟨h.1.trans k.1, k.2.trans h.2⟩
theorem Mut.symm {a b : Nat} (h : Mut E a b) : Mut E b a := ⟨h.2, h.1⟩
theorem grps_spec (hm : ∀ a b, a < n → b < n → (at2 m a b = true ↔ Rch E a b)) (hlt : ∀ a b, a < n → Rch E a b → b < n) : ∀ (f i : Nat) (ins : List Bool), i + f = n → ins.length = n → (∀ k, k < n → (ins.getD k false = true ↔ ∃ j, j < i ∧ Mut E j k)) →
    (∀ l ∈ grps m f i ins, l ≠ [] ∧ l.Pairwise (· < ·) ∧ (∀ x ∈ l, x < n) ∧ i ≤ hd l ∧ ∀ x ∈ l, ∀ y, y ∈ l ↔ Mut E x y) ∧ (∀ x, i ≤ x → x < n → ins.getD x false = false → ∃ l ∈ grps m f i ins, x ∈ l) ∧ (grps m f i ins).Pairwise fun l l' => hd l < hd l'
  | 0, i, ins, hi, hl, hins => by
    refine ⟨by simp [grps], fun x h1 h2 _ => by omega, by simp [grps]⟩
  | f + 1, i, ins, hi, hl, hins => by
    have hin : i < n := by omega
    unfold grps
    by_cases hb : ins.getD i false = true
    · rw [if_pos hb]
      have hins' : ∀ k, k < n → (ins.getD k false = true ↔ ∃ j, j < i + 1 ∧ Mut E j k) := fun k hk => by
        rw [hins k hk]
        constructor
        · rintro ⟨j, h1, h2⟩; exact ⟨j, by omega, h2⟩
        · rintro ⟨j, h1, h2⟩
          by_cases e : j = i
          · subst e
            obtain ⟨j', k1, k2⟩ := (hins j hin).1 hb
            exact ⟨j', k1, k2.trans h2⟩
          · exact ⟨j, by omega, h2⟩
      obtain ⟨h1, h2, h3⟩ := grps_spec hm hlt f (i + 1) ins (by omega) hl hins'
      refine ⟨fun l hl => ?_, fun x k1 k2 k3 => ?_, h3⟩
      · obtain ⟨a, b, c, d, e⟩ := h1 l hl
        exact ⟨a, b, c, by omega, e⟩
      · by_cases e : x = i
        · subst e; rw [hb] at k3; cases k3
        · exact h2 x (by omega) k2 k3
    · rw [if_neg hb]
      have hno : ∀ j, j < i → ¬ Mut E j i := fun j hj h => hb ((hins i hin).2 ⟨j, hj, h⟩)
      have hmem : ∀ x, x ∈ mates m i (f + 1) i ↔ Mut E i x := fun x => by
        rw [mates_mem]
        constructor
        · rintro ⟨h1, h2, h3⟩
          exact ⟨(hm i x hin (by omega)).1 h2, (hm x i (by omega) hin).1 h3⟩
        · intro h
          have hx := hlt i x hin h.1
          refine ⟨⟨?_, by omega⟩, (hm i x hin hx).2 h.1, (hm x i hx hin).2 h.2⟩
          exact Nat.le_of_not_lt fun k => hno x k h.symm
      have hltm : ∀ x ∈ mates m i (f + 1) i, x < n := fun x hx => by have := ((mates_mem m i (f + 1) i x).1 hx).1; omega
      have hii : i ∈ mates m i (f + 1) i := (hmem i).2 ⟨.refl _, .refl _⟩
      have hhd : hd (mates m i (f + 1) i) = i := by
        have h1 := hd_le (mates_lt m i (f + 1) i) hii
        have h2 := ((mates_mem m i (f + 1) i _).1 (hd_mem (fun e => by rw [e] at hii; cases hii))).1.1
        omega
      have hins' : ∀ k, k < n → ((ons ins (mates m i (f + 1) i)).getD k false = true ↔ ∃ j, j < i + 1 ∧ Mut E j k) := fun k hk => by
        rw [ons_get _ _ _ (fun y hy => by rw [hl]; exact hltm y hy)]
        constructor
        · intro h
          split at h
          · rename_i hk'
            exact ⟨i, by omega, (hmem k).1 hk'⟩
          · obtain ⟨j, k1, k2⟩ := (hins k hk).1 h
            exact ⟨j, by omega, k2⟩
        · rintro ⟨j, k1, k2⟩
          split
          · rfl
          · rename_i hk'
            refine (hins k hk).2 ⟨j, ?_, k2⟩
            have : j ≠ i := fun e => hk' ((hmem k).2 (e ▸ k2))
            omega
      obtain ⟨h1, h2, h3⟩ := grps_spec hm hlt f (i + 1) _ (by omega) (by rw [ons_len]; exact hl) hins'
      refine ⟨fun l hl' => ?_, fun x k1 k2 k3 => ?_, ?_⟩
      · rcases List.mem_cons.1 hl' with rfl | hl'
        · refine ⟨fun e => (by rw [e] at hii; cases hii), mates_lt m i (f + 1) i, hltm, by omega, fun x hx y => ?_⟩
          rw [hmem]
          have hx := (hmem x).1 hx
          exact ⟨fun h => hx.symm.trans h, fun h => hx.trans h⟩
        · obtain ⟨a, b, c, d, e⟩ := h1 l hl'
          exact ⟨a, b, c, by omega, e⟩
      · by_cases hx : x ∈ mates m i (f + 1) i
        · exact ⟨_, by simp, hx⟩
        · have e : x ≠ i := fun e => hx (e ▸ hii)
          obtain ⟨l, q1, q2⟩ := h2 x (by omega) k2 (by rw [ons_get _ _ _ (fun y hy => by rw [hl]; exact hltm y hy), if_neg hx]; exact k3)
          exact ⟨l, by simp [q1], q2⟩
      · rw [List.pairwise_cons]
        refine ⟨fun l hl' => ?_, h3⟩
        obtain ⟨a, b, c, d, e⟩ := h1 l hl'
        omega
theorem grps_grp (hm : ∀ a b, a < n → b < n → (at2 m a b = true ↔ Rch E a b)) (hlt : ∀ a b, a < n → Rch E a b → b < n) : Grp n (Rch E) (grps m n 0 (List.replicate n false)) ∧ (grps m n 0 (List.replicate n false)).Pairwise fun l l' => hd l < hd l' := by
  obtain ⟨h1, h2, h3⟩ := grps_spec hm hlt n 0 (List.replicate n false) (by omega) (by simp) (fun k hk => by
    rw [getD_rep]
    constructor
    · intro h; cases h
    · rintro ⟨j, h1, _⟩; omega)
  exact ⟨⟨fun l hl => ⟨(h1 l hl).1, (h1 l hl).2.1⟩, fun l hl => (h1 l hl).2.2.1, fun l hl => (h1 l hl).2.2.2.2, fun x hx => h2 x (Nat.zero_le _) hx (getD_rep _ _ _)⟩, h3⟩
end Go.Am.Sc
namespace Go.Am.Sc
structure Lev (k : Nat) (D : Nat → Nat → Prop) (lev : Nat → Nat) : Prop where
  up : ∀ i j, i < k → D i j → lev j < lev i
  at' : ∀ i, i < k → lev i = 0 ∨ ∃ j, D i j ∧ lev i = lev j + 1
theorem Lev.le {k : Nat} {D D' : Nat → Nat → Prop} {lev lev' : Nat → Nat} (h : Lev k D lev) (h' : Lev k D' lev') (hD : ∀ i j, i < k → D i j → D' i j) (hk : ∀ i j, i < k → D i j → j < k) : ∀ (n i : Nat), i < k → lev i ≤ n → lev i ≤ lev' i
  | 0, i, hi, hn => by omega
  | n + 1, i, hi, hn => by
    rcases h.at' i hi with h0 | ⟨j, h1, h2⟩
    · omega
    · have := Lev.le h h' hD hk n j (hk i j hi h1) (by omega)
      have := h'.up i j hi (hD i j hi h1)
      omega
theorem Lev.one {k : Nat} {D : Nat → Nat → Prop} {lev lev' : Nat → Nat} (h : Lev k D lev) (h' : Lev k D lev') (hk : ∀ i j, i < k → D i j → j < k) (i : Nat) (hi : i < k) : lev i = lev' i :=
  Nat.le_antisymm (h.le h' (fun _ _ _ h => h) hk _ i hi (Nat.le_refl _)) (h'.le h (fun _ _ _ h => h) hk _ i hi (Nat.le_refl _))
theorem Lev.all {k : Nat} {D : Nat → Nat → Prop} {lev : Nat → Nat} (h : Lev k D lev) (hk : ∀ i j, i < k → D i j → j < k) : ∀ (n i v : Nat), i < k → lev i ≤ n → v ≤ lev i → ∃ j, j < k ∧ lev j = v
  | 0, i, v, hi, hn, hv => ⟨i, hi, by omega⟩
  | n + 1, i, v, hi, hn, hv => by
    by_cases e : v = lev i
    · exact ⟨i, hi, e.symm⟩
    · rcases h.at' i hi with h0 | ⟨j, h1, h2⟩
      · omega
      · exact h.all hk n j v (hk i j hi h1) (by omega) (by omega)
theorem pigeonL : ∀ (n : Nat) (f : Nat → Nat) (m : Nat), (∀ a, a < n → f a < m) → (∀ a b, a < n → b < n → f a = f b → a = b) → n ≤ m
  | 0, _, _, _, _ => Nat.zero_le _
  | n + 1, f, 0, h, _ => by have := h 0 (by omega); omega
  | n + 1, f, m + 1, h, hi => by
    have := pigeonL n (fun a => if f a = m then f n else f a) m (fun a ha => by
      have h1 := h a (by omega)
      have h2 := h n (by omega)
      have h3 : f a = f n → a = n := hi a n (by omega) (by omega)
      show (if f a = m then f n else f a) < m
      split
      · have : f n ≠ f a := fun e => by have := h3 e.symm; omega
        omega
      · omega) (fun a b ha hb e => by
      have e : (if f a = m then f n else f a) = (if f b = m then f n else f b) := e
      have h3 : f a = f n → a = n := hi a n (by omega) (by omega)
      have h4 : f b = f n → b = n := hi b n (by omega) (by omega)
      split at e <;> split at e
      · exact hi a b (by omega) (by omega) (by omega)
      · have := h4 e.symm; omega
      · have := h3 e; omega
      · exact hi a b (by omega) (by omega) e)
    omega
theorem Lev.lt {k : Nat} {D : Nat → Nat → Prop} {lev : Nat → Nat} (h : Lev k D lev) (hk : ∀ i j, i < k → D i j → j < k) (i : Nat) (hi : i < k) : lev i < k := by
  have hc : ∀ v, ∃ j, v ≤ lev i → j < k ∧ lev j = v := fun v => by
    by_cases hv : v ≤ lev i
    · obtain ⟨j, h1⟩ := h.all hk _ i v hi (Nat.le_refl _) hv
      exact ⟨j, fun _ => h1⟩
    · exact ⟨0, fun k => absurd k hv⟩
  obtain ⟨f, hf⟩ := Classical.axiomOfChoice hc
  exact pigeonL (lev i + 1) f k (fun a ha => (hf a (by omega)).1) (fun a b ha hb e => by
    have h1 := (hf a (by omega)).2
    have h2 := (hf b (by omega)).2
    rw [e] at h1; omega)
theorem nodup_le {l : List Nat} (h : l.Nodup) {m : Nat} (hm : ∀ x ∈ l, x < m) : l.length ≤ m := by
  refine pigeonL l.length (fun a => l.getD a 0) m (fun a ha => ?_) (fun a b ha hb e => ?_)
  · have e : l.getD a 0 = l[a] := by rw [List.getD_eq_getElem?_getD, List.getElem?_eq_getElem ha]; rfl
    show l.getD a 0 < m
    rw [e]; exact hm _ (List.getElem_mem ha)
  · have e1 : l.getD a 0 = l[a] := by rw [List.getD_eq_getElem?_getD, List.getElem?_eq_getElem ha]; rfl
    have e2 : l.getD b 0 = l[b] := by rw [List.getD_eq_getElem?_getD, List.getElem?_eq_getElem hb]; rfl
    have e : l.getD a 0 = l.getD b 0 := e
    rw [e1, e2] at e
    exact (List.getElem_inj h).1 e
theorem dis_le {L : List (List Nat)} {m : Nat} (h : L.Pairwise fun l k => ∀ x ∈ l, x ∉ k) (hn : ∀ l ∈ L, l ≠ [] ∧ ∀ x ∈ l, x < m) : L.length ≤ m := by
  have h1 : (L.map hd).Nodup := by
    rw [List.nodup_iff_pairwise_ne, List.pairwise_map]
    refine h.imp_of_mem fun {a b} ha hb k e => ?_
    exact k (hd a) (hd_mem (hn a ha).1) (by rw [e]; exact hd_mem (hn b hb).1)
  have h2 := nodup_le h1 (m := m) (fun x hx => by
    obtain ⟨l, hl, rfl⟩ := List.mem_map.1 hx
    exact (hn l hl).2 _ (hd_mem (hn l hl).1))
  simpa using h2
variable {out : List (List Nat)} {S : List (Nat × Nat)} {t : T}
theorem Inv.opn_nodup (h : Inv out S t) : t.opn.Nodup := nodup_of_lt h.inc
theorem Inv.opn_le (h : Inv out S t) : t.opn.length ≤ out.length := nodup_le h.opn_nodup h.inO
theorem Inv.stk_le (h : Inv out S t) : S.length ≤ out.length := by
  have h1 : (S.map Prod.fst).Nodup := by
    rw [List.nodup_iff_pairwise_ne, List.pairwise_map]
    exact h.dec.imp fun k e => by have := k.1; rw [e] at this; omega
  have h2 := nodup_le h1 (m := out.length) (fun x hx => by
    obtain ⟨p, hp, rfl⟩ := List.mem_map.1 hx
    exact h.inO _ (h.stk p hp).1)
  simpa using h2
theorem nm_lt (h : Inv out S t) {x : Nat} (hx : t.nm x ≠ 0) : x < out.length := by
  by_cases hl : x < t.num.length
  · rw [← h.ln]; exact hl
  · exact absurd (by unfold T.nm; rw [List.getD_eq_getElem?_getD, List.getElem?_eq_none (by omega)]; rfl) hx
theorem Inv.grp_le (h : Inv out S t) : t.grp.length ≤ out.length := dis_le h.gDis fun l hl => ⟨(h.gIn l hl).1, fun x hx => nm_lt h ((h.gIn l hl).2.2 x hx).1.1⟩
theorem zeros_enter (h : Inv out S t) {y : Nat} (hy : y < out.length) (h0 : t.nm y = 0) : (t.enter y).cnt + zeros (t.enter y).num = t.cnt + zeros t.num := by
  have := zeros_set t.num y (t.cnt + 1) (by
    unfold T.nm at h0
    rw [List.getD_eq_getElem?_getD, List.getElem?_eq_getElem (by rw [h.ln]; exact hy)] at h0 ⊢
    exact h0) (by omega)
  show t.cnt + 1 + zeros (t.num.set y (t.cnt + 1)) = _
  omega
end Go.Am.Sc
