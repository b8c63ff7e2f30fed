/- U1, U2, U3, U4, U5, U6, as one -/
import Derived.Test.YtflhndopabnipaaTA
set_option linter.unusedVariables false
namespace Go.Am.Sc
open Classical
def mx (l : List Nat) : Nat := l.foldr max 0
theorem mx_le {l : List Nat} {x : Nat} (h : x ∈ l) : x ≤ mx l := by
  induction l with
  | nil => cases h
  | cons y l ih =>
    have e : mx (y :: l) = max y (mx l) := rfl
    rcases List.mem_cons.1 h with rfl | h
    · omega
    · have := ih h; omega
theorem mx_mem : ∀ l : List Nat, mx l = 0 ∨ mx l ∈ l
  | [] => .inl rfl
  | y :: l => by
    have e : mx (y :: l) = max y (mx l) := rfl
    rcases mx_mem l with h | h
    · by_cases hy : y = 0
      · left; omega
      · right
        rw [e, h, Nat.max_eq_left (Nat.zero_le _)]; simp
    · by_cases hy : mx l ≤ y
      · right
        rw [e, Nat.max_eq_left hy]; simp
      · right
        rw [e, Nat.max_eq_right (by omega)]
        exact List.mem_cons_of_mem _ h
noncomputable def lvF (k : Nat) (D : Nat → Nat → Prop) : Nat → Nat → Nat
  | 0, _ => 0
  | f + 1, i => mx (((List.range k).filter fun j => decide (D i j)).map fun j => lvF k D f j + 1)
theorem lvF_same {k : Nat} {D : Nat → Nat → Prop} {rk : Nat → Nat} (hr : ∀ i j, i < k → D i j → rk j < rk i) : ∀ (f f' i : Nat), i < k → rk i < f → rk i < f' → lvF k D f i = lvF k D f' i
  | 0, _, _, _, h, _ => by omega
  | f + 1, 0, _, _, _, h => by omega
  | f + 1, f' + 1, i, hi, h1, h2 => by
    simp only [lvF]
    congr 1
    refine List.map_congr_left fun j hj => ?_
    obtain ⟨hj1, hj2⟩ := List.mem_filter.1 hj
    have hjk := List.mem_range.1 hj1
    have hd := hr i j hi (of_decide_eq_true hj2)
    rw [lvF_same hr f f' j hjk (by omega) (by omega)]
theorem Lev.exists {k : Nat} {D : Nat → Nat → Prop} {rk : Nat → Nat} (hr : ∀ i j, i < k → D i j → rk j < rk i) (hk : ∀ i j, i < k → D i j → j < k) : ∃ lev, Lev k D lev := by
  refine ⟨fun i => lvF k D (rk i + 1) i, ⟨fun i j hi hd => ?_, fun i hi => ?_⟩⟩
  · have hjk := hk i j hi hd
    have hlt := hr i j hi hd
    show lvF k D (rk j + 1) j < lvF k D (rk i + 1) i
    have h1 : lvF k D (rk i) j + 1 ≤ lvF k D (rk i + 1) i := by
      rw [lvF]
      exact mx_le (List.mem_map.2 ⟨j, List.mem_filter.2 ⟨List.mem_range.2 hjk, decide_eq_true hd⟩, rfl⟩)
    rw [lvF_same hr (rk j + 1) (rk i) j hjk (by omega) hlt]
    omega
  · show lvF k D (rk i + 1) i = 0 ∨ ∃ j, D i j ∧ lvF k D (rk i + 1) i = lvF k D (rk j + 1) j + 1
    rw [show lvF k D (rk i + 1) i = mx (((List.range k).filter fun j => decide (D i j)).map fun j => lvF k D (rk i) j + 1) from rfl]
    rcases mx_mem (((List.range k).filter fun j => decide (D i j)).map fun j => lvF k D (rk i) j + 1) with h | h
    · exact .inl h
    · right
      obtain ⟨j, hj, e⟩ := List.mem_map.1 h
      obtain ⟨hj1, hj2⟩ := List.mem_filter.1 hj
      have hjk := List.mem_range.1 hj1
      have hd := of_decide_eq_true hj2
      refine ⟨j, hd, ?_⟩
      rw [← e, lvF_same hr (rk i) (rk j + 1) j hjk (hr i j hi hd) (by omega)]
noncomputable def cntR (n : Nat) (R : Nat → Nat → Prop) (x : Nat) : Nat := ((List.range n).filter fun z => decide (R x z)).length
theorem filter_le {l : List Nat} {p q : Nat → Bool} (h : ∀ x ∈ l, p x = true → q x = true) : (l.filter p).length ≤ (l.filter q).length := by
  induction l with
  | nil => simp
  | cons y l ih =>
    have ih := ih fun x hx => h x (List.mem_cons_of_mem _ hx)
    have hy := h y (by simp)
    cases hp : p y with
    | true => rw [List.filter_cons_of_pos hp, List.filter_cons_of_pos (hy hp)]; simp; exact ih
    | false =>
      rw [List.filter_cons_of_neg (by simp [hp])]
      cases hq : q y with
      | true => rw [List.filter_cons_of_pos hq]; simp; omega
      | false => rw [List.filter_cons_of_neg (by simp [hq])]; exact ih
theorem filter_lt {l : List Nat} {p q : Nat → Bool} (h : ∀ x ∈ l, p x = true → q x = true) {y : Nat} (hy : y ∈ l) (h1 : p y = false) (h2 : q y = true) : (l.filter p).length < (l.filter q).length := by
  induction l with
  | nil => cases hy
  | cons z l ih =>
    have hr := fun x hx => h x (List.mem_cons_of_mem z hx)
    by_cases e : z = y
    · subst e
      rw [List.filter_cons_of_neg (by simp [h1]), List.filter_cons_of_pos h2]
      have := filter_le hr
      simp; omega
    · have hy' : y ∈ l := by
        rcases List.mem_cons.1 hy with k | k
        · exact absurd k.symm e
        · exact k
      have ih := ih hr hy'
      have hz := h z (by simp)
      cases hp : p z with
      | true => rw [List.filter_cons_of_pos hp, List.filter_cons_of_pos (hz hp)]; simp; exact ih
      | false =>
        rw [List.filter_cons_of_neg (by simp [hp])]
        cases hq : q z with
        | true => rw [List.filter_cons_of_pos hq]; simp; omega
        | false => rw [List.filter_cons_of_neg (by simp [hq])]; exact ih
theorem cntR_lt {n : Nat} {E : Nat → Nat → Prop} {x y : Nat} (hx : x < n) (he : E x y) (hn : ¬ Rch E y x) : cntR n (Rch E) y < cntR n (Rch E) x :=
  filter_lt (fun z _ h => decide_eq_true ((Rch.one he).trans (of_decide_eq_true h))) (List.mem_range.2 hx) (decide_eq_false hn) (decide_eq_true (.refl _))
theorem cntR_eq {n : Nat} {E : Nat → Nat → Prop} {x y : Nat} (h1 : Rch E x y) (h2 : Rch E y x) : cntR n (Rch E) x = cntR n (Rch E) y :=
  Nat.le_antisymm (filter_le fun z _ h => decide_eq_true (h2.trans (of_decide_eq_true h))) (filter_le fun z _ h => decide_eq_true (h1.trans (of_decide_eq_true h)))
end Go.Am.Sc
namespace Go.Am.Sc
open Classical
def IsOf (G : List (List Nat)) (o : Nat → Nat) : Prop := ∀ (x i : Nat) (l : List Nat), G[i]? = some l → x ∈ l → o x = i
def Dn (n : Nat) (E : Nat → Nat → Prop) (o : Nat → Nat) (i j : Nat) : Prop := i ≠ j ∧ ∃ x y, x < n ∧ y < n ∧ E x y ∧ o x = i ∧ o y = j
theorem IsOf.at' {n : Nat} {R : Nat → Nat → Prop} {G : List (List Nat)} {o : Nat → Nat} (h : IsOf G o) (hG : Grp n R G) {x : Nat} (hx : x < n) : ∃ l, G[o x]? = some l ∧ x ∈ l := by
  obtain ⟨l, h1, h2⟩ := hG.all x hx
  obtain ⟨i, hi⟩ := List.getElem?_of_mem h1
  exact ⟨l, by rw [h x i l hi h2]; exact hi, h2⟩
theorem IsOf.lt {n : Nat} {R : Nat → Nat → Prop} {G : List (List Nat)} {o : Nat → Nat} (h : IsOf G o) (hG : Grp n R G) {x : Nat} (hx : x < n) : o x < G.length := by
  obtain ⟨l, h1, _⟩ := h.at' hG hx
  exact (List.getElem?_eq_some_iff.1 h1).1
theorem IsOf.same {n : Nat} {R : Nat → Nat → Prop} {G : List (List Nat)} {o : Nat → Nat} (h : IsOf G o) (hG : Grp n R G) {x y : Nat} (hx : x < n) (hy : y < n) : o x = o y ↔ R x y ∧ R y x := by
  obtain ⟨l, h1, h2⟩ := h.at' hG hx
  have hl := List.mem_of_getElem? h1
  rw [← hG.one l hl x h2 y]
  constructor
  · intro e
    obtain ⟨m, k1, k2⟩ := h.at' hG hy
    rw [← e, h1] at k1
    rw [Option.some.inj k1]; exact k2
  · intro hyl
    exact (h y (o x) l h1 hyl).symm
theorem levels_are {n : Nat} {E : Nat → Nat → Prop} {G : List (List Nat)} {o : Nat → Nat} (hG : Grp n (Rch E) G) (h : IsOf G o) : ∃ lev, Lev G.length (Dn n E o) lev := by
  refine Lev.exists (rk := fun i => if hx : ∃ x, x < n ∧ o x = i then cntR n (Rch E) (Classical.choose hx) else 0) (fun i j hi hd => ?_) (fun i j hi hd => ?_)
  · obtain ⟨hij, x, y, hx, hy, he, e1, e2⟩ := hd
    have hxi : ∃ x, x < n ∧ o x = i := ⟨x, hx, e1⟩
    have hyj : ∃ y, y < n ∧ o y = j := ⟨y, hy, e2⟩
    show (if hx : ∃ x, x < n ∧ o x = j then cntR n (Rch E) (Classical.choose hx) else 0) < (if hx : ∃ x, x < n ∧ o x = i then cntR n (Rch E) (Classical.choose hx) else 0)
    rw [dif_pos hyj, dif_pos hxi]
    obtain ⟨a1, a2⟩ := Classical.choose_spec hxi
    obtain ⟨b1, b2⟩ := Classical.choose_spec hyj
    have s1 := (h.same hG a1 hx).1 (a2.trans e1.symm)
    have s2 := (h.same hG b1 hy).1 (b2.trans e2.symm)
    rw [cntR_eq s1.1 s1.2, cntR_eq s2.1 s2.2]
    refine cntR_lt hx he fun hr => hij ?_
    rw [← e1, ← e2]
    exact (h.same hG hx hy).2 ⟨.one he, hr⟩
  · obtain ⟨_, x, y, hx, hy, he, e1, e2⟩ := hd
    rw [← e2]; exact h.lt hG hy
theorem Dn.lt {n : Nat} {R E : Nat → Nat → Prop} {G : List (List Nat)} {o : Nat → Nat} (hG : Grp n R G) (h : IsOf G o) {i j : Nat} (hd : Dn n E o i j) : j < G.length := by
  obtain ⟨_, x, y, hx, hy, he, e1, e2⟩ := hd
  rw [← e2]; exact h.lt hG hy
/-! ### the reference's rounds -/
def relax (o : Nat → Nat) (out : List Nat) (i y : Nat) : List Nat := if o y ≠ i then out.set i (max (out.getD i 0) (out.getD (o y) 0 + 1)) else out
end Go.Am.Sc
namespace Go.Am.Sc
theorem relax_len (o : Nat → Nat) (out : List Nat) (i y : Nat) : (relax o out i y).length = out.length := by
  unfold relax; split <;> simp
theorem relax_get (o : Nat → Nat) (out : List Nat) {i : Nat} (y a : Nat) (hi : i < out.length) : (relax o out i y).getD a 0 = if o y ≠ i ∧ i = a then max (out.getD i 0) (out.getD (o y) 0 + 1) else out.getD a 0 := by
  unfold relax
  by_cases h : o y ≠ i
  · rw [if_pos h, getD_set _ _ _ _ _ hi]
    by_cases e : i = a
    · rw [if_pos e, if_pos ⟨h, e⟩]
    · rw [if_neg e, if_neg fun k => e k.2]
  · rw [if_neg h, if_neg fun k => h k.1]
theorem relax_mono (o : Nat → Nat) (out : List Nat) {i : Nat} (y a : Nat) (hi : i < out.length) : out.getD a 0 ≤ (relax o out i y).getD a 0 := by
  rw [relax_get o out y a hi]
  split
  · rename_i h
    rw [← h.2]
    exact Nat.le_max_left _ _
  · exact Nat.le_refl _
def rnd (o : Nat → Nat) : List (Nat × Nat) → List Nat → List Nat
  | [], out => out
  | p :: P, out => rnd o P (relax o out p.1 p.2)
theorem rnd_len (o : Nat → Nat) : ∀ (P : List (Nat × Nat)) (out : List Nat), (rnd o P out).length = out.length
  | [], _ => rfl
  | p :: P, out => by rw [rnd, rnd_len o P, relax_len]
theorem rnd_app (o : Nat → Nat) : ∀ (P Q : List (Nat × Nat)) (out : List Nat), rnd o (P ++ Q) out = rnd o Q (rnd o P out)
  | [], _, _ => rfl
  | p :: P, Q, out => by rw [List.cons_append, rnd, rnd_app o P, rnd]
theorem rnd_mono (o : Nat → Nat) : ∀ (P : List (Nat × Nat)) (out : List Nat) (a : Nat), (∀ p ∈ P, p.1 < out.length) → out.getD a 0 ≤ (rnd o P out).getD a 0
  | [], _, _, _ => Nat.le_refl _
  | p :: P, out, a, h => Nat.le_trans (relax_mono o out p.2 a (h p (by simp))) (rnd_mono o P _ a fun q hq => by rw [relax_len]; exact h q (by simp [hq]))
theorem rnd_ge (o : Nat → Nat) : ∀ (P : List (Nat × Nat)) (out : List Nat) (i y : Nat), (∀ p ∈ P, p.1 < out.length) → (i, y) ∈ P → o y ≠ i → out.getD (o y) 0 + 1 ≤ (rnd o P out).getD i 0
  | [], _, _, _, _, h, _ => by cases h
  | p :: P, out, i, y, h, hm, hn => by
    have hp := h p (by simp)
    have hP : ∀ q ∈ P, q.1 < (relax o out p.1 p.2).length := fun q hq => by rw [relax_len]; exact h q (by simp [hq])
    rw [rnd]
    rcases List.mem_cons.1 hm with e | hm
    · subst e
      refine Nat.le_trans ?_ (rnd_mono o P _ i hP)
      rw [relax_get o out y i hp, if_pos ⟨hn, rfl⟩]
      exact Nat.le_max_right _ _
    · have := rnd_ge o P _ i y hP hm hn
      have := relax_mono o out p.2 (o y) hp
      omega
theorem rnd_le {k : Nat} {D : Nat → Nat → Prop} {lev : Nat → Nat} (h : Lev k D lev) (o : Nat → Nat) : ∀ (P : List (Nat × Nat)) (out : List Nat), out.length = k → (∀ p ∈ P, p.1 < k ∧ (o p.2 ≠ p.1 → D p.1 (o p.2))) → (∀ a, out.getD a 0 ≤ lev a) → ∀ a, (rnd o P out).getD a 0 ≤ lev a
  | [], _, _, _, hb, a => hb a
  | p :: P, out, hl, hP, hb, a => by
    obtain ⟨h1, h2⟩ := hP p (by simp)
    refine rnd_le h o P _ (by rw [relax_len]; exact hl) (fun q hq => hP q (by simp [hq])) (fun a => ?_) a
    rw [relax_get o out p.2 a (by omega)]
    split
    · rename_i hc
      have := h.up p.1 (o p.2) h1 (h2 hc.1)
      have := hb p.1
      have := hb (o p.2)
      rw [← hc.2]
      omega
    · exact hb a
def rnds (o : Nat → Nat) (P : List (Nat × Nat)) : Nat → List Nat → List Nat
  | 0, out => out
  | r + 1, out => rnds o P r (rnd o P out)
theorem rnds_lev {k : Nat} {D : Nat → Nat → Prop} {lev : Nat → Nat} (h : Lev k D lev) (hk : ∀ i j, i < k → D i j → j < k) (o : Nat → Nat) (P : List (Nat × Nat)) (hP : ∀ p ∈ P, p.1 < k ∧ (o p.2 ≠ p.1 → D p.1 (o p.2))) (hD : ∀ i j, i < k → D i j → i ≠ j ∧ ∃ y, (i, y) ∈ P ∧ o y = j) : ∀ (r s : Nat) (out : List Nat), out.length = k → (∀ a, a < k → min s (lev a) ≤ out.getD a 0) → (∀ a, out.getD a 0 ≤ lev a) →
    (rnds o P r out).length = k ∧ (∀ a, a < k → min (s + r) (lev a) ≤ (rnds o P r out).getD a 0) ∧ ∀ a, (rnds o P r out).getD a 0 ≤ lev a
  | 0, s, out, hl, h1, h2 => ⟨hl, h1, h2⟩
  | r + 1, s, out, hl, h1, h2 => by
    have hlt : ∀ p ∈ P, p.1 < out.length := fun p hp => by rw [hl]; exact (hP p hp).1
    have := rnds_lev h hk o P hP hD r (s + 1) (rnd o P out) (by rw [rnd_len]; exact hl) (fun a ha => ?_) (rnd_le h o P out hl hP h2)
    · rw [rnds, show s + (r + 1) = s + 1 + r by omega]
      exact this
    · rcases h.at' a ha with h0 | ⟨j, hj, e⟩
      · rw [h0]; omega
      · obtain ⟨hne, y, hy, ey⟩ := hD a j ha hj
        have h3 := rnd_ge o P out a y hlt hy (by omega)
        rw [ey] at h3
        have h4 := h1 j (hk a j ha hj)
        omega
end Go.Am.Sc
namespace Go.Am.Sc
def look (lev : List Nat) (known : List Bool) : List Nat → Nat → Bool → List Nat → Nat × Bool × List Nat
  | [], n, r, st => (n, r, st)
  | y :: l, n, r, st => if known.getD y false = true then look lev known l (max n (lev.getD y 0 + 1)) r st else look lev known l (max n (lev.getD y 0 + 1)) false (y :: st)
inductive Lvs (out : List (List Nat)) (M : Nat) : List Nat → List Nat × List Bool → List Nat × List Bool → Prop
  | done (s : List Nat × List Bool) : Lvs out M [] s s
  | ready {x : Nat} {st : List Nat} {s s' : List Nat × List Bool} : x < out.length → st.length + 1 ≤ M → (∀ y, s.1.getD y 0 < M) → (look s.1 s.2 (outs out x) 0 true (x :: st)).2.1 = true → Lvs out M st (s.1.set x (look s.1 s.2 (outs out x) 0 true (x :: st)).1, s.2.set x true) s' → Lvs out M (x :: st) s s'
  | more {x : Nat} {st : List Nat} {s s' : List Nat × List Bool} : x < out.length → (look s.1 s.2 (outs out x) 0 true (x :: st)).2.2.length ≤ M → (∀ y, s.1.getD y 0 < M) → (look s.1 s.2 (outs out x) 0 true (x :: st)).2.1 = false → Lvs out M (look s.1 s.2 (outs out x) 0 true (x :: st)).2.2 s s' → Lvs out M (x :: st) s s'
def unk (known : List Bool) : List Nat → List Nat → List Nat
  | [], st => st
  | y :: l, st => if known.getD y false = true then unk known l st else unk known l (y :: st)
theorem look_st (lev : List Nat) (known : List Bool) : ∀ (l : List Nat) (n : Nat) (r : Bool) (st : List Nat), (look lev known l n r st).2.2 = unk known l st
  | [], _, _, _ => rfl
  | y :: l, n, r, st => by
    unfold look unk
    split
    · exact look_st lev known l _ r st
    · exact look_st lev known l _ false (y :: st)
theorem look_false (lev : List Nat) (known : List Bool) : ∀ (l : List Nat) (n : Nat) (st : List Nat), (look lev known l n false st).2.1 = false
  | [], _, _ => rfl
  | y :: l, n, st => by
    unfold look
    split
    · exact look_false lev known l _ st
    · exact look_false lev known l _ (y :: st)
theorem look_ready (lev : List Nat) (known : List Bool) : ∀ (l : List Nat) (n : Nat) (st : List Nat), ((look lev known l n true st).2.1 = true ↔ ∀ y ∈ l, known.getD y false = true)
  | [], _, _ => by simp [look]
  | y :: l, n, st => by
    unfold look
    by_cases h : known.getD y false = true
    · rw [if_pos h, look_ready lev known l _ st]
      exact ⟨fun k z hz => by
        rcases List.mem_cons.1 hz with rfl | hz
        · exact h
        · exact k z hz, fun k z hz => k z (List.mem_cons_of_mem _ hz)⟩
    · rw [if_neg h, look_false]
      exact ⟨(fun k => Bool.noConfusion k), fun k => absurd (k y (by simp)) h⟩
theorem unk_len (known : List Bool) : ∀ (l st : List Nat), st.length ≤ (unk known l st).length ∧ (unk known l st).length ≤ st.length + l.length
  | [], st => by simp [unk]
  | y :: l, st => by
    unfold unk
    split
    · have := unk_len known l st; simp; omega
    · have := unk_len known l (y :: st); simp at this ⊢; omega
theorem unk_app (known : List Bool) : ∀ (l st : List Nat), ∃ pre, unk known l st = pre ++ st ∧ ∀ y ∈ pre, y ∈ l
  | [], st => ⟨[], rfl, by simp⟩
  | y :: l, st => by
    unfold unk
    split
    · obtain ⟨pre, h1, h2⟩ := unk_app known l st
      exact ⟨pre, h1, fun z hz => List.mem_cons_of_mem _ (h2 z hz)⟩
    · obtain ⟨pre, h1, h2⟩ := unk_app known l (y :: st)
      exact ⟨pre ++ [y], by rw [h1]; simp, fun z hz => by
        rcases List.mem_append.1 hz with h | h
        · exact List.mem_cons_of_mem _ (h2 z h)
        · simp at h; simp [h]⟩
theorem look_n (lev : List Nat) (known : List Bool) : ∀ (l : List Nat) (n : Nat) (r : Bool) (st : List Nat), (look lev known l n r st).1 = max n (mx (l.map fun y => lev.getD y 0 + 1))
  | [], n, _, _ => by simp [look, mx]
  | y :: l, n, r, st => by
    have e : mx ((y :: l).map fun y => lev.getD y 0 + 1) = max (lev.getD y 0 + 1) (mx (l.map fun y => lev.getD y 0 + 1)) := rfl
    unfold look
    rw [e]
    split
    · rw [look_n lev known l]; omega
    · rw [look_n lev known l]; omega
structure LInv (out : List (List Nat)) (LV : Nat → Nat) (s : List Nat × List Bool) : Prop where
  l1 : s.1.length = out.length
  l2 : s.2.length = out.length
  ok : ∀ x, s.2.getD x false = true → s.1.getD x 0 = LV x ∧ ∀ y ∈ outs out x, s.2.getD y false = true
  un : ∀ x, s.1.getD x 0 ≤ LV x
def Kn (s t : List Nat × List Bool) : Prop := ∀ x, s.2.getD x false = true → t.2.getD x false = true
def LvOk (out : List (List Nat)) (LV rk : Nat → Nat) : Prop := ∀ x, x < out.length → LV x = mx ((outs out x).map fun y => LV y + 1) ∧ ∀ y ∈ outs out x, y < out.length ∧ rk y < rk x
theorem lvs_ready {out : List (List Nat)} {LV rk : Nat → Nat} {M : Nat} (hL : LvOk out LV rk) (hM : ∀ y, LV y < M) {s : List Nat × List Bool} (hI : LInv out LV s) {x : Nat} (hx : x < out.length) (hr : ∀ y ∈ outs out x, s.2.getD y false = true) (st : List Nat) (hst : st.length + 1 ≤ M) :
    ∃ s2, (∀ s', Lvs out M st s2 s' → Lvs out M (x :: st) s s') ∧ LInv out LV s2 ∧ Kn s s2 ∧ s2.2.getD x false = true := by
  obtain ⟨h1, h2, h3, h4⟩ := hI
  have hn : (look s.1 s.2 (outs out x) 0 true (x :: st)).1 = LV x := by
    rw [look_n, (hL x hx).1, Nat.zero_max]
    congr 1
    exact List.map_congr_left fun y hy => by rw [(h3 y (hr y hy)).1]
  have hxl : x < s.2.length := by omega
  have hxl1 : x < s.1.length := by omega
  have kn : ∀ z, s.2.getD z false = true → (s.2.set x true).getD z false = true := fun z hz => by
    rw [getD_set _ _ _ _ _ hxl]; split
    · rfl
    · exact hz
  refine ⟨(s.1.set x (LV x), s.2.set x true), fun s' hs => .ready hx hst (fun y => Nat.lt_of_le_of_lt (h4 y) (hM y)) ((look_ready _ _ _ _ _).2 hr) (by rw [hn]; exact hs), ⟨by simpa using h1, by simpa using h2, fun z hz => ?_, fun z => by
      show (s.1.set x (LV x)).getD z 0 ≤ LV z
      rw [getD_set _ _ _ _ _ hxl1]
      split
      · rename_i e; rw [e]; exact Nat.le_refl _
      · exact h4 z⟩, kn, by
    show (s.2.set x true).getD x false = true
    rw [getD_set _ _ _ _ _ hxl, if_pos rfl]⟩
  show (s.1.set x (LV x)).getD z 0 = LV z ∧ _
  rw [getD_set _ _ _ _ _ hxl1]
  by_cases e : x = z
  · subst e
    rw [if_pos rfl]
    exact ⟨rfl, fun y hy => kn y (hr y hy)⟩
  · rw [if_neg e]
    have hz : (s.2.set x true).getD z false = true := hz
    rw [getD_set _ _ _ _ _ hxl, if_neg e] at hz
    exact ⟨(h3 z hz).1, fun y hy => kn y ((h3 z hz).2 y hy)⟩
theorem unk_has (known : List Bool) : ∀ (l st : List Nat) (pre : List Nat), unk known l st = pre ++ st → ∀ y ∈ l, known.getD y false = true ∨ y ∈ pre
  | [], st, pre, h, y, hy => by cases hy
  | z :: l, st, pre, h, y, hy => by
    unfold unk at h
    by_cases hz : known.getD z false = true
    · rw [if_pos hz] at h
      rcases List.mem_cons.1 hy with rfl | hy
      · exact .inl hz
      · exact unk_has known l st pre h y hy
    · rw [if_neg hz] at h
      obtain ⟨p2, e2, _⟩ := unk_app known l (z :: st)
      have e3 : pre = p2 ++ [z] := by
        rw [e2] at h
        have : p2 ++ z :: st = (p2 ++ [z]) ++ st := by simp
        rw [this] at h
        exact (List.append_cancel_right h).symm
      rcases List.mem_cons.1 hy with rfl | hy
      · right; rw [e3]; simp
      · rcases unk_has known l (z :: st) p2 e2 y hy with k | k
        · exact .inl k
        · right; rw [e3]; simp [k]
theorem lvs_top {out : List (List Nat)} {LV rk : Nat → Nat} {M d : Nat} (hL : LvOk out LV rk) (hM : ∀ y, LV y < M) (hd : ∀ x, (outs out x).length ≤ d) : ∀ (r x : Nat), rk x < r → x < out.length → ∀ (st : List Nat) (s : List Nat × List Bool), st.length + 1 + r * d ≤ M → LInv out LV s →
    ∃ s2, (∀ s', Lvs out M st s2 s' → Lvs out M (x :: st) s s') ∧ LInv out LV s2 ∧ Kn s s2 ∧ s2.2.getD x false = true
  | 0, x, h, _, _, _, _, _ => by omega
  | r + 1, x, h, hx, st, s, hst, hI => by
    have hmul : (r + 1) * d = r * d + d := Nat.succ_mul r d
    by_cases hr : ∀ y ∈ outs out x, s.2.getD y false = true
    · exact lvs_ready hL hM hI hx hr st (by omega)
    · -- those above
      have many : ∀ (pre : List Nat) (s : List Nat × List Bool), LInv out LV s → (∀ y ∈ pre, y ∈ outs out x) → pre.length ≤ d → ∃ s2, (∀ s', Lvs out M (x :: st) s2 s' → Lvs out M (pre ++ x :: st) s s') ∧ LInv out LV s2 ∧ Kn s s2 ∧ ∀ y ∈ pre, s2.2.getD y false = true := by
        intro pre
        induction pre with
        | nil => exact fun s hI _ _ => ⟨s, fun _ k => k, hI, fun _ k => k, by simp⟩
        | cons y pre ih =>
          intro s hI hp hpd
          simp at hpd
          obtain ⟨hy1, hy2⟩ := (hL x hx).2 y (hp y (by simp))
          obtain ⟨s1, a1, a2, a3, a4⟩ := lvs_top hL hM hd r y (by omega) hy1 (pre ++ x :: st) s (by simp; omega) hI
          obtain ⟨s2, b1, b2, b3, b4⟩ := ih s1 a2 (fun z hz => hp z (by simp [hz])) (by omega)
          refine ⟨s2, fun s' k => a1 s' (b1 s' k), b2, fun z k => b3 z (a3 z k), fun z hz => ?_⟩
          rcases List.mem_cons.1 hz with rfl | hz
          · exact b3 z a4
          · exact b4 z hz
      obtain ⟨pre, e, hp⟩ := unk_app s.2 (outs out x) (x :: st)
      have hl := (unk_len s.2 (outs out x) (x :: st)).2
      have hdx := hd x
      obtain ⟨s1, a1, a2, a3, a4⟩ := many pre s hI hp (by rw [e] at hl; simp at hl; omega)
      have hr1 : ∀ y ∈ outs out x, s1.2.getD y false = true := fun y hy => by
        rcases unk_has s.2 (outs out x) (x :: st) pre e y hy with k | k
        · exact a3 y k
        · exact a4 y k
      obtain ⟨s2, b1, b2, b3, b4⟩ := lvs_ready hL hM a2 hx hr1 st (by omega)
      refine ⟨s2, fun s' k => .more hx (by rw [look_st]; simp at hl; omega) (fun y => Nat.lt_of_le_of_lt (hI.un y) (hM y)) ?_ (by rw [look_st, e]; exact a1 s' (b1 s' k)), b2, fun z k => b3 z (a3 z k), b4⟩
      cases hb : (look s.1 s.2 (outs out x) 0 true (x :: st)).2.1 with
      | false => rfl
      | true => exact absurd ((look_ready _ _ _ _ _).1 hb) hr
inductive LvAll (out : List (List Nat)) (M : Nat) : Nat → List Nat × List Bool → List Nat × List Bool → Prop
  | done {i : Nat} (s : List Nat × List Bool) : i = out.length → LvAll out M i s s
  | step {i : Nat} {s s1 s' : List Nat × List Bool} : i < out.length → Lvs out M [i] s s1 → LvAll out M (i + 1) s1 s' → LvAll out M i s s'
theorem lvAll {out : List (List Nat)} {LV rk : Nat → Nat} {M d R : Nat} (hL : LvOk out LV rk) (hM : ∀ y, LV y < M) (hd : ∀ x, (outs out x).length ≤ d) (hR : ∀ x, x < out.length → rk x < R) (hb : 1 + R * d ≤ M) : ∀ (f i : Nat) (s : List Nat × List Bool), i + f = out.length → LInv out LV s → (∀ x, x < i → s.2.getD x false = true) → ∃ s', LvAll out M i s s' ∧ LInv out LV s' ∧ ∀ x, x < out.length → s'.2.getD x false = true
  | 0, i, s, hi, hI, hk => ⟨s, .done s (by omega), hI, fun x hx => hk x (by omega)⟩
  | f + 1, i, s, hi, hI, hk => by
    obtain ⟨s1, a1, a2, a3, a4⟩ := lvs_top hL hM hd R i (hR i (by omega)) (by omega) [] s (by simp; omega) hI
    obtain ⟨s', b1, b2, b3⟩ := lvAll hL hM hd hR hb f (i + 1) s1 (by omega) a2 (fun x hx => by
      by_cases e : x = i
      · rw [e]; exact a4
      · exact a3 x (hk x (by omega)))
    exact ⟨s', .step (by omega) (a1 s1 (.done s1)) b1, b2, b3⟩
theorem Lvs.len {out : List (List Nat)} {M : Nat} {st : List Nat} {s s' : List Nat × List Bool} (h : Lvs out M st s s') : s'.1.length = s.1.length ∧ s'.2.length = s.2.length := by
  induction h with
  | done s => exact ⟨rfl, rfl⟩
  | ready _ _ _ _ _ ih => simpa using ih
  | more _ _ _ _ _ ih => exact ih
theorem levs_are {k : Nat} {D : Nat → Nat → Prop} {lev : Nat → Nat} (h : Lev k D lev) {out : List (List Nat)} (hl : out.length = k) (hD : ∀ i j, j ∈ outs out i ↔ D i j) (hk : ∀ i j, i < k → D i j → j < k) (h0 : ∀ i, ¬ i < k → lev i = 0) : LvOk out lev lev := fun x hx => by
  refine ⟨?_, fun y hy => ⟨?_, ?_⟩⟩
  · apply Nat.le_antisymm
    · rcases h.at' x (by omega) with e | ⟨j, h1, h2⟩
      · omega
      · rw [h2]
        exact mx_le (List.mem_map.2 ⟨j, (hD x j).2 h1, rfl⟩)
    · rcases mx_mem ((outs out x).map fun y => lev y + 1) with e | e
      · omega
      · obtain ⟨j, h1, h2⟩ := List.mem_map.1 e
        have := h.up x j (by omega) ((hD x j).1 h1)
        omega
  · rw [hl]; exact hk x y (by omega) ((hD x y).1 hy)
  · exact h.up x y (by omega) ((hD x y).1 hy)
end Go.Am.Sc
namespace Go.Am.Sc
def blw (o : Nat → Nat) : List (List Nat) → List (Nat × Nat) → List (List Nat)
  | L, [] => L
  | L, p :: P => blw o (if o p.1 ≠ o p.2 ∧ o p.2 ∉ outs L (o p.1) then L.set (o p.1) (outs L (o p.1) ++ [o p.2]) else L) P
theorem blw_app (o : Nat → Nat) : ∀ (P Q : List (Nat × Nat)) (L : List (List Nat)), blw o L (P ++ Q) = blw o (blw o L P) Q
  | [], _, _ => rfl
  | p :: P, Q, L => by rw [List.cons_append, blw, blw_app o P, blw]
theorem blw_len (o : Nat → Nat) : ∀ (P : List (Nat × Nat)) (L : List (List Nat)), (blw o L P).length = L.length
  | [], _ => rfl
  | p :: P, L => by
    rw [blw, blw_len o P]
    split <;> simp
theorem outs_set {L : List (List Nat)} {a : Nat} {l : List Nat} (ha : a < L.length) (b : Nat) : outs (L.set a l) b = if a = b then l else outs L b := by
  unfold outs
  rw [List.getD_eq_getElem?_getD, List.getD_eq_getElem?_getD, List.getElem?_set]
  by_cases e : a = b
  · rw [if_pos e, if_pos e, if_pos ha]; rfl
  · rw [if_neg e, if_neg e]
theorem blw_mem (o : Nat → Nat) : ∀ (P : List (Nat × Nat)) (L : List (List Nat)), (∀ p ∈ P, o p.1 < L.length) → ∀ a b, b ∈ outs (blw o L P) a ↔ b ∈ outs L a ∨ (a ≠ b ∧ ∃ p ∈ P, o p.1 = a ∧ o p.2 = b)
  | [], L, _, a, b => by simp [blw]
  | p :: P, L, hP, a, b => by
    have hp := hP p (by simp)
    by_cases h : o p.1 ≠ o p.2 ∧ o p.2 ∉ outs L (o p.1)
    · rw [blw, if_pos h, blw_mem o P _ (fun q hq => by simpa using hP q (by simp [hq])), outs_set hp]
      by_cases e : o p.1 = a
      · rw [if_pos e]
        subst e
        simp only [List.mem_append, List.mem_cons, List.not_mem_nil, or_false]
        constructor
        · rintro ((k | k) | ⟨k1, q, k2, k3⟩)
          · exact .inl k
          · exact .inr ⟨by rw [k]; exact h.1, p, .inl rfl, rfl, k.symm⟩
          · exact .inr ⟨k1, q, .inr k2, k3⟩
        · rintro (k | ⟨k1, q, k2 | k2, k3⟩)
          · exact .inl (.inl k)
          · subst k2
            exact .inl (.inr k3.2.symm)
          · exact .inr ⟨k1, q, k2, k3⟩
      · rw [if_neg e]
        simp only [List.mem_cons]
        constructor
        · rintro (k | ⟨k1, q, k2, k3⟩)
          · exact .inl k
          · exact .inr ⟨k1, q, .inr k2, k3⟩
        · rintro (k | ⟨k1, q, k2 | k2, k3⟩)
          · exact .inl k
          · subst k2
            exact absurd k3.1 e
          · exact .inr ⟨k1, q, k2, k3⟩
    · rw [blw, if_neg h, blw_mem o P _ (fun q hq => hP q (by simp [hq]))]
      simp only [List.mem_cons]
      constructor
      · rintro (k | ⟨k1, q, k2, k3⟩)
        · exact .inl k
        · exact .inr ⟨k1, q, .inr k2, k3⟩
      · rintro (k | ⟨k1, q, k2 | k2, k3⟩)
        · exact .inl k
        · subst k2
          obtain ⟨rfl, rfl⟩ := k3
          left
          exact Classical.byContradiction fun hc => h ⟨k1, hc⟩
        · exact .inr ⟨k1, q, k2, k3⟩
def NdL (k : Nat) (L : List (List Nat)) : Prop := L.length = k ∧ ∀ a, (outs L a).Nodup ∧ ∀ b ∈ outs L a, b < k
theorem NdL.le {k : Nat} {L : List (List Nat)} (h : NdL k L) (a : Nat) : (outs L a).length ≤ k := nodup_le (h.2 a).1 (h.2 a).2
theorem NdL.push {k : Nat} {L : List (List Nat)} (h : NdL k L) {a b : Nat} (ha : a < k) (hb : b < k) (hn : b ∉ outs L a) : NdL k (L.set a (outs L a ++ [b])) := by
  refine ⟨by simpa using h.1, fun x => ?_⟩
  rw [outs_set (by rw [h.1]; exact ha)]
  split
  · refine ⟨?_, fun y hy => ?_⟩
    · rw [List.nodup_append]
      refine ⟨(h.2 a).1, by simp, fun y hy z hz => ?_⟩
      simp at hz
      intro e
      exact hn (by rw [← hz, ← e]; exact hy)
    · rcases List.mem_append.1 hy with hy | hy
      · exact (h.2 a).2 y hy
      · simp at hy; omega
  · exact h.2 x
theorem NdL.blw (o : Nat → Nat) {k : Nat} : ∀ (P : List (Nat × Nat)) (L : List (List Nat)), NdL k L → (∀ p ∈ P, o p.1 < k ∧ o p.2 < k) → NdL k (blw o L P)
  | [], L, h, _ => h
  | p :: P, L, h, hP => by
    rw [Sc.blw]
    refine NdL.blw o P _ ?_ fun q hq => hP q (by simp [hq])
    split
    · rename_i hc
      exact h.push (hP p (by simp)).1 (hP p (by simp)).2 hc.2
    · exact h
def prs : List (List Nat) → Nat → List (Nat × Nat)
  | [], _ => []
  | l :: L, i => l.map (fun y => (i, y)) ++ prs L (i + 1)
theorem prs_mem {x y : Nat} : ∀ (L : List (List Nat)) (i : Nat), (x, y) ∈ prs L i ↔ ∃ j l, L[j]? = some l ∧ x = i + j ∧ y ∈ l
  | [], i => by simp [prs]
  | l :: L, i => by
    rw [prs, List.mem_append, prs_mem L (i + 1)]
    constructor
    · rintro (h | ⟨j, m, h1, h2, h3⟩)
      · obtain ⟨z, hz, e⟩ := List.mem_map.1 h
        cases e
        exact ⟨0, l, rfl, rfl, hz⟩
      · exact ⟨j + 1, m, by simpa using h1, by omega, h3⟩
    · rintro ⟨j, m, h1, h2, h3⟩
      cases j with
      | zero =>
        simp at h1
        subst h1
        exact .inl (List.mem_map.2 ⟨y, h3, by rw [h2]; rfl⟩)
      | succ j => exact .inr ⟨j, m, by simpa using h1, by omega, h3⟩
theorem prs_ed {x y : Nat} (L : List (List Nat)) : (x, y) ∈ prs L 0 ↔ x < L.length ∧ Ed L x y := by
  rw [prs_mem]
  unfold Ed outs
  rw [List.getD_eq_getElem?_getD]
  constructor
  · rintro ⟨j, l, h1, h2, h3⟩
    have e : x = j := by omega
    subst e
    refine ⟨(List.getElem?_eq_some_iff.1 h1).1, ?_⟩
    rw [h1]; exact h3
  · rintro ⟨h1, h2⟩
    rw [List.getElem?_eq_getElem h1] at h2
    exact ⟨x, L[x], List.getElem?_eq_getElem h1, by omega, h2⟩
theorem blw_dn {n : Nat} {out : List (List Nat)} (hn : out.length = n) (hok : ∀ a b, Ed out a b → b < n) {G : List (List Nat)} {o : Nat → Nat} (hG : Grp n (Rch (Ed out)) G) (ho : IsOf G o) : NdL G.length (blw o (List.replicate G.length []) (prs out 0)) ∧ ∀ i j, j ∈ outs (blw o (List.replicate G.length []) (prs out 0)) i ↔ Dn n (Ed out) o i j := by
  have e0 : ∀ a, outs (List.replicate G.length []) a = [] := fun a => by
    unfold outs
    rw [List.getD_eq_getElem?_getD, List.getElem?_replicate]
    split <;> rfl
  have hP : ∀ p ∈ prs out 0, o p.1 < G.length ∧ o p.2 < G.length := fun p hp => by
    obtain ⟨x, y⟩ := p
    obtain ⟨h1, h2⟩ := (prs_ed out).1 hp
    exact ⟨ho.lt hG (by omega), ho.lt hG (hok x y h2)⟩
  refine ⟨NdL.blw o _ _ ⟨by simp, fun a => by rw [e0]; simp⟩ hP, fun i j => ?_⟩
  rw [blw_mem o _ _ (fun p hp => by simpa using (hP p hp).1), e0]
  unfold Dn
  constructor
  · rintro (h | ⟨h1, ⟨x, y⟩, h2, h3, h4⟩)
    · cases h
    · obtain ⟨k1, k2⟩ := (prs_ed out).1 h2
      exact ⟨h1, x, y, by omega, hok x y k2, k2, h3, h4⟩
  · rintro ⟨h1, x, y, hx, hy, h2, h3, h4⟩
    exact .inr ⟨h1, (x, y), (prs_ed out).2 ⟨by omega, h2⟩, h3, h4⟩
/-! ### waves -/
def wvs (lv : List Nat) (m i : Nat) : List (List Nat) := (List.range m).map fun v => (List.range i).filter fun x => lv.getD x 0 == v
theorem wvs_len (lv : List Nat) (m i : Nat) : (wvs lv m i).length = m := by simp [wvs]
theorem wvs_get (lv : List Nat) {m i v : Nat} (hv : v < m) : (wvs lv m i)[v]? = some ((List.range i).filter fun x => lv.getD x 0 == v) := by
  unfold wvs
  rw [List.getElem?_map, List.getElem?_range hv]; rfl
theorem wvs_pad (lv : List Nat) (m i : Nat) (h : ∀ x, x < i → lv.getD x 0 < m) : wvs lv m i ++ [[]] = wvs lv (m + 1) i := by
  unfold wvs
  rw [List.range_succ, List.map_append]
  congr 1
  simp only [List.map_cons, List.map_nil, List.cons.injEq, and_true]
  symm
  rw [List.filter_eq_nil_iff]
  intro x hx
  have := h x (List.mem_range.1 hx)
  rw [Bool.not_eq_true, beq_eq_false_iff_ne]
  omega
theorem wvs_push (lv : List Nat) (m i : Nat) (h : lv.getD i 0 < m) : (wvs lv m i).set (lv.getD i 0) (((List.range i).filter fun x => lv.getD x 0 == lv.getD i 0) ++ [i]) = wvs lv m (i + 1) := by
  apply List.ext_getElem?
  intro v
  rw [List.getElem?_set]
  by_cases hv : v < m
  · rw [wvs_get lv hv, wvs_get lv hv, wvs_len]
    by_cases e : lv.getD i 0 = v
    · rw [if_pos e, if_pos h, List.range_succ, List.filter_append]
      rw [e]
      have : [i].filter (fun x => lv.getD x 0 == v) = [i] := by
        rw [List.filter_cons_of_pos (by rw [e]; exact beq_self_eq_true v)]; rfl
      rw [this]
    · rw [if_neg e, List.range_succ, List.filter_append]
      have : [i].filter (fun x => lv.getD x 0 == v) = [] := by
        rw [List.filter_cons_of_neg (by rw [Bool.not_eq_true, beq_eq_false_iff_ne]; exact e)]; rfl
      rw [this, List.append_nil]
  · have h1 : (wvs lv m i)[v]? = none := List.getElem?_eq_none (by rw [wvs_len]; omega)
    have h2 : (wvs lv m (i + 1))[v]? = none := List.getElem?_eq_none (by rw [wvs_len]; omega)
    rw [if_neg (by omega), h1, h2]
def mxl (lv : List Nat) : Nat := mx (lv.map (· + 1))
theorem lt_mxl {lv : List Nat} {i : Nat} (h : i < lv.length) : lv.getD i 0 < mxl lv := by
  have : lv.getD i 0 + 1 ≤ mxl lv := mx_le (List.mem_map.2 ⟨lv.getD i 0, by
    rw [List.getD_eq_getElem?_getD, List.getElem?_eq_getElem h]
    exact List.getElem_mem h, rfl⟩)
  omega
def wav (lv : List Nat) : List (List Nat) := wvs lv (mxl lv) lv.length
def lens : List (List Nat) → Nat
  | [] => 0
  | l :: L => l.length + lens L
theorem lens_app : ∀ (L M : List (List Nat)), lens (L ++ M) = lens L + lens M
  | [], M => by simp [lens]
  | l :: L, M => by rw [List.cons_append, lens, lens_app L M, lens]; omega
theorem filt_len (f : Nat → Nat) (m : Nat) (R : List Nat) : (R.filter fun x => decide (f x < m)).length + (R.filter fun x => f x == m).length = (R.filter fun x => decide (f x < m + 1)).length := by
  induction R with
  | nil => rfl
  | cons x R ih =>
    by_cases h1 : f x < m
    · rw [List.filter_cons_of_pos (by simp [h1]), List.filter_cons_of_neg (by simp; omega), List.filter_cons_of_pos (by simp; omega)]
      simp only [List.length_cons]; omega
    · by_cases h2 : f x = m
      · rw [List.filter_cons_of_neg (by simp [h1]), List.filter_cons_of_pos (by simp [h2]), List.filter_cons_of_pos (by simp; omega)]
        simp only [List.length_cons]; omega
      · rw [List.filter_cons_of_neg (by simp [h1]), List.filter_cons_of_neg (by simp [h2]), List.filter_cons_of_neg (by simp; omega)]
        exact ih
theorem wvs_lens (lv : List Nat) (i : Nat) : ∀ m, lens (wvs lv m i) = ((List.range i).filter fun x => decide (lv.getD x 0 < m)).length
  | 0 => by
    rw [List.filter_eq_nil_iff.2 fun x _ => by simp]
    rfl
  | m + 1 => by
    have e : wvs lv (m + 1) i = wvs lv m i ++ [(List.range i).filter fun x => lv.getD x 0 == m] := by
      unfold wvs
      rw [List.range_succ, List.map_append]; rfl
    rw [e, lens_app, wvs_lens lv i m]
    simp only [lens, Nat.add_zero]
    exact filt_len (fun x => lv.getD x 0) m (List.range i)
theorem wav_lens (lv : List Nat) : lens (wav lv) = lv.length := by
  unfold wav
  rw [wvs_lens, List.filter_eq_self.2 fun x hx => decide_eq_true (lt_mxl (List.mem_range.1 hx)), List.length_range]
theorem wav_at {lv : List Nat} {v : Nat} {l : List Nat} (h : (wav lv)[v]? = some l) : ∀ x ∈ l, x < lv.length ∧ lv.getD x 0 = v := by
  have hv : v < mxl lv := by
    have := (List.getElem?_eq_some_iff.1 h).1
    unfold wav at this
    rwa [wvs_len] at this
  unfold wav at h
  rw [wvs_get lv hv] at h
  have := Option.some.inj h
  subst this
  intro x hx
  obtain ⟨h1, h2⟩ := List.mem_filter.1 hx
  exact ⟨List.mem_range.1 h1, by simpa using h2⟩
end Go.Am.Sc
namespace Go.Am.Sc
noncomputable def lvO (n : Nat) (E : Nat → Nat → Prop) (G : List (List Nat)) : Nat → Nat := fun i => if i < G.length then (Classical.epsilon fun lev => ∃ o, IsOf G o ∧ Lev G.length (Dn n E o) lev) i else 0
theorem Dn.of {n : Nat} {R E : Nat → Nat → Prop} {G : List (List Nat)} {o o' : Nat → Nat} (hG : Grp n R G) (h : IsOf G o) (h' : IsOf G o') {i j : Nat} (hd : Dn n E o i j) : Dn n E o' i j := by
  have same : ∀ x, x < n → o' x = o x := fun x hx => by
    obtain ⟨l, h1, h2⟩ := h.at' hG hx
    exact h' x (o x) l h1 h2
  obtain ⟨h1, x, y, hx, hy, he, e1, e2⟩ := hd
  exact ⟨h1, x, y, hx, hy, he, by rw [same x hx]; exact e1, by rw [same y hy]; exact e2⟩
theorem lvO_lev {n : Nat} {E : Nat → Nat → Prop} {G : List (List Nat)} {o : Nat → Nat} (hG : Grp n (Rch E) G) (h : IsOf G o) : Lev G.length (Dn n E o) (lvO n E G) := by
  have hex : ∃ lev, ∃ o, IsOf G o ∧ Lev G.length (Dn n E o) lev := by
    obtain ⟨lev, hl⟩ := levels_are hG h
    exact ⟨lev, o, h, hl⟩
  obtain ⟨o', h1, h2⟩ := Classical.epsilon_spec hex
  have cut : ∀ i, i < G.length → lvO n E G i = (Classical.epsilon fun lev => ∃ o, IsOf G o ∧ Lev G.length (Dn n E o) lev) i := fun i hi => by unfold lvO; rw [if_pos hi]
  refine ⟨fun i j hi hd => ?_, fun i hi => ?_⟩
  · rw [cut i hi, cut j (Dn.lt hG h hd)]
    exact h2.up i j hi (hd.of hG h h1)
  · rw [cut i hi]
    rcases h2.at' i hi with e | ⟨j, hd, e⟩
    · exact .inl e
    · have hd' := hd.of hG h1 h
      exact .inr ⟨j, hd', by rw [cut j (Dn.lt hG h hd')]; exact e⟩
theorem lvO_out {n : Nat} {E : Nat → Nat → Prop} {G : List (List Nat)} (i : Nat) (h : ¬ i < G.length) : lvO n E G i = 0 := by unfold lvO; rw [if_neg h]
theorem lvO_lt {n : Nat} {E : Nat → Nat → Prop} {G : List (List Nat)} {o : Nat → Nat} (hG : Grp n (Rch E) G) (h : IsOf G o) (i : Nat) : lvO n E G i < G.length ∨ lvO n E G i = 0 := by
  by_cases hi : i < G.length
  · exact .inl ((lvO_lev hG h).lt (fun i j _ hd => Dn.lt hG h hd) i hi)
  · exact .inr (lvO_out i hi)
noncomputable def lvL (n : Nat) (E : Nat → Nat → Prop) (G : List (List Nat)) : List Nat := (List.range G.length).map (lvO n E G)
theorem lvL_len (n : Nat) (E : Nat → Nat → Prop) (G : List (List Nat)) : (lvL n E G).length = G.length := by simp [lvL]
theorem lvL_get (n : Nat) (E : Nat → Nat → Prop) (G : List (List Nat)) (i : Nat) : (lvL n E G).getD i 0 = lvO n E G i := by
  unfold lvL
  rw [List.getD_eq_getElem?_getD, List.getElem?_map]
  by_cases h : i < G.length
  · rw [List.getElem?_range h]; rfl
  · rw [List.getElem?_eq_none (by simp; omega), lvO_out i h]; rfl
theorem row_ext {l m : List Nat} (h1 : l.length = m.length) (h2 : ∀ a, a < l.length → l.getD a 0 = m.getD a 0) : l = m := by
  apply List.ext_getElem h1
  intro i h3 h4
  have := h2 i h3
  rw [List.getD_eq_getElem?_getD, List.getD_eq_getElem?_getD, List.getElem?_eq_getElem h3, List.getElem?_eq_getElem h4] at this
  exact this
theorem lvL_same {n : Nat} {E E' : Nat → Nat → Prop} {G : List (List Nat)} (he : ∀ a b, E a b ↔ E' a b) : lvL n E G = lvL n E' G := by
  have : E = E' := by funext a b; exact propext (he a b)
  rw [this]
/-! ### the program's -/
theorem prog_lv {n : Nat} {out : List (List Nat)} (hn : out.length = n) (hok : ∀ a b, Ed out a b → b < n) {G : List (List Nat)} {o : Nat → Nat} (hG : Grp n (Rch (Ed out)) G) (ho : IsOf G o) {L : List (List Nat)} (hL : L = blw o (List.replicate G.length []) (prs out 0)) : ∃ s', LvAll L (1 + G.length * G.length + G.length) 0 (List.replicate G.length 0, List.replicate G.length false) s' ∧ s'.1 = lvL n (Ed out) G := by
  obtain ⟨h1, h2⟩ := blw_dn hn hok hG ho
  rw [← hL] at h1 h2
  have hlev := lvO_lev hG ho
  have hlt := lvO_lt hG ho
  have rep0 : ∀ (k x : Nat), (List.replicate k 0).getD x 0 = 0 := fun k x => by
    rw [List.getD_eq_getElem?_getD, List.getElem?_replicate]; split <;> rfl
  have repf : ∀ (k x : Nat), (List.replicate k false).getD x false = false := fun k x => by
    rw [List.getD_eq_getElem?_getD, List.getElem?_replicate]; split <;> rfl
  obtain ⟨s', a1, a2, a3⟩ := lvAll (out := L) (LV := lvO n (Ed out) G) (rk := lvO n (Ed out) G) (M := 1 + G.length * G.length + G.length) (d := G.length) (R := G.length) (levs_are hlev h1.1 h2 (fun i j _ hd => Dn.lt hG ho hd) lvO_out) (fun y => by rcases hlt y with h | h <;> omega) (fun x => h1.le x) (fun x hx => by rw [h1.1] at hx; rcases hlt x with h | h <;> omega) (by omega) L.length 0 (List.replicate G.length 0, List.replicate G.length false) (by omega) ⟨by simpa using h1.1.symm, by simpa using h1.1.symm, fun x hx => by
    have hx : (List.replicate G.length false).getD x false = true := hx
    rw [repf] at hx; exact Bool.noConfusion hx, fun x => by
    show (List.replicate G.length 0).getD x 0 ≤ _
    rw [rep0]; omega⟩ (fun x hx => by omega)
  refine ⟨s', a1, row_ext (by rw [lvL_len, a2.l1, h1.1]) fun a ha => ?_⟩
  rw [lvL_get]
  rw [a2.l1] at ha
  exact (a2.ok a (a3 a ha)).1
/-! ### the reference's -/
def rps (out : List (List Nat)) : List (List Nat) → Nat → List (Nat × Nat)
  | [], _ => []
  | l :: L, i => (l.flatMap fun x => (outs out x).map fun y => (i, y)) ++ rps out L (i + 1)
theorem rps_mem {out : List (List Nat)} {a y : Nat} : ∀ (L : List (List Nat)) (i : Nat), (a, y) ∈ rps out L i ↔ ∃ j l x, L[j]? = some l ∧ a = i + j ∧ x ∈ l ∧ Ed out x y
  | [], i => by simp [rps]
  | l :: L, i => by
    rw [rps, List.mem_append, rps_mem L (i + 1)]
    constructor
    · rintro (h | ⟨j, m, x, h1, h2, h3⟩)
      · obtain ⟨x, hx, h⟩ := List.mem_flatMap.1 h
        obtain ⟨z, hz, e⟩ := List.mem_map.1 h
        cases e
        exact ⟨0, l, x, rfl, rfl, hx, hz⟩
      · exact ⟨j + 1, m, x, by simpa using h1, by omega, h3⟩
    · rintro ⟨j, m, x, h1, h2, h3, h4⟩
      cases j with
      | zero =>
        simp at h1
        subst h1
        exact .inl (List.mem_flatMap.2 ⟨x, h3, List.mem_map.2 ⟨y, h4, by rw [h2]; rfl⟩⟩)
      | succ j => exact .inr ⟨j, m, x, by simpa using h1, by omega, h3, h4⟩
theorem ref_lv {n : Nat} {out : List (List Nat)} (hok : ∀ a b, Ed out a b → b < n) {G : List (List Nat)} {o : Nat → Nat} (hG : Grp n (Rch (Ed out)) G) (ho : IsOf G o) : rnds o (rps out G 0) G.length (List.replicate G.length 0) = lvL n (Ed out) G := by
  have hlev := lvO_lev hG ho
  have hk : ∀ i j, i < G.length → Dn n (Ed out) o i j → j < G.length := fun i j _ hd => Dn.lt hG ho hd
  have rep0 : ∀ (k x : Nat), (List.replicate k 0).getD x 0 = 0 := fun k x => by
    rw [List.getD_eq_getElem?_getD, List.getElem?_replicate]; split <;> rfl
  obtain ⟨h1, h2, h3⟩ := rnds_lev hlev hk o (rps out G 0) (fun p hp => by
    obtain ⟨a, y⟩ := p
    obtain ⟨j, l, x, e1, e2, e3, e4⟩ := (rps_mem G 0).1 hp
    have ej : a = j := by omega
    subst ej
    have hx := hG.lt l (List.mem_of_getElem? e1) x e3
    exact ⟨(List.getElem?_eq_some_iff.1 e1).1, fun hne => ⟨fun e => hne e.symm, x, y, hx, hok x y e4, e4, ho x a l e1 e3, rfl⟩⟩) (fun i j hi hd => by
    obtain ⟨hne, x, y, hx, hy, he, e1, e2⟩ := hd
    obtain ⟨l, k1, k2⟩ := ho.at' hG hx
    exact ⟨hne, y, (rps_mem G 0).2 ⟨i, l, x, by rw [← e1]; exact k1, by omega, k2, he⟩, e2⟩) G.length 0 (List.replicate G.length 0) (by simp) (fun a _ => by omega) (fun a => by rw [rep0]; omega)
  refine row_ext (by rw [h1, lvL_len]) fun a ha => ?_
  rw [h1] at ha
  rw [lvL_get]
  have h4 := h2 a ha
  have h5 := h3 a
  have h6 := hlev.lt hk a ha
  omega
/-! ### an edge more -/
theorem incl_len : ∀ {A B : List Nat}, A.Pairwise (· < ·) → B.Pairwise (· < ·) → (∀ x ∈ A, x ∈ B) → A.length ≤ B.length ∧ (A.length = B.length → A = B)
  | [], B, _, _, _ => ⟨by simp, fun h => by
    have : B.length = 0 := h.symm
    rw [List.length_eq_zero_iff.1 this]⟩
  | a :: A, [], _, _, h => by have := h a (by simp); cases this
  | a :: A, b :: B, hA, hB, h => by
    rw [List.pairwise_cons] at hA hB
    rcases List.mem_cons.1 (h a (by simp)) with rfl | hab
    · obtain ⟨h1, h2⟩ := incl_len hA.2 hB.2 (fun x hx => by
        rcases List.mem_cons.1 (h x (by simp [hx])) with rfl | k
        · have := hA.1 x hx; omega
        · exact k)
      exact ⟨by simp; exact h1, fun e => by rw [h2 (by simpa using e)]⟩
    · have hlt := hB.1 a hab
      obtain ⟨h1, _⟩ := incl_len (A := a :: A) (B := B) (List.pairwise_cons.2 hA) hB.2 (fun x hx => by
        rcases List.mem_cons.1 (h x hx) with rfl | k
        · rcases List.mem_cons.1 hx with e | hx
          · omega
          · have := hA.1 x hx; omega
        · exact k)
      simp at h1 ⊢
      omega
theorem hd_min {l : List Nat} (h : l.Pairwise (· < ·)) {x : Nat} (hx : x ∈ l) : hd l ≤ x := by
  cases l with
  | nil => cases hx
  | cons a l =>
    rw [List.pairwise_cons] at h
    show a ≤ x
    rcases List.mem_cons.1 hx with rfl | hx
    · exact Nat.le_refl _
    · have := h.1 x hx; omega
theorem grp_more {n : Nat} {R R' : Nat → Nat → Prop} {G G' : List (List Nat)} (hG : Grp n R G) (ho : G.Pairwise fun l m => hd l < hd m) (hG' : Grp n R' G') (ho' : G'.Pairwise fun l m => hd l < hd m) (hRR : ∀ a b, R a b → R' a b) : G'.length ≤ G.length ∧ (G'.length = G.length → G' = G) := by
  have hp : (G.map hd).Pairwise (· < ·) := by rw [List.pairwise_map]; exact ho
  have hp' : (G'.map hd).Pairwise (· < ·) := by rw [List.pairwise_map]; exact ho'
  -- a group's first is a first of the finer ones
  have hsub : ∀ x ∈ G'.map hd, x ∈ G.map hd := fun x hx => by
    obtain ⟨l', hl', rfl⟩ := List.mem_map.1 hx
    obtain ⟨hne, hr⟩ := hG'.rise l' hl'
    have hm := hd_mem hne
    obtain ⟨l, hl, hxl⟩ := hG.all (hd l') (hG'.lt l' hl' _ hm)
    refine List.mem_map.2 ⟨l, hl, ?_⟩
    obtain ⟨k1, k2⟩ := hG.rise l hl
    have hin : hd l ∈ l' := (hG'.one l' hl' (hd l') hm (hd l)).2 (by
      have := (hG.one l hl (hd l') hxl (hd l)).1 (hd_mem k1)
      exact ⟨hRR _ _ this.1, hRR _ _ this.2⟩)
    have a1 := hd_min hr hin
    have a2 := hd_min k2 hxl
    omega
  obtain ⟨h1, h2⟩ := incl_len hp' hp hsub
  simp only [List.length_map] at h1 h2
  refine ⟨h1, fun e => ?_⟩
  have he := h2 e
  have key : ∀ l' ∈ G', ∀ x ∈ l', ∀ y ∈ l', R x y := fun l' hl' x hx y hy => by
    have hxn := hG'.lt l' hl' x hx
    have hyn := hG'.lt l' hl' y hy
    have stand : ∀ x, x ∈ l' → ∃ l ∈ G, x ∈ l ∧ hd l = hd l' := fun x hx => by
      obtain ⟨l, hl, hxl⟩ := hG.all x (hG'.lt l' hl' x hx)
      refine ⟨l, hl, hxl, ?_⟩
      have hh : hd l ∈ G'.map hd := by rw [he]; exact List.mem_map.2 ⟨l, hl, rfl⟩
      obtain ⟨m', hm', em⟩ := List.mem_map.1 hh
      have hl0 := hd_mem (hG.rise l hl).1
      have hm0 := hd_mem (hG'.rise m' hm').1
      rw [em] at hm0
      have hxm : x ∈ m' := (hG'.one m' hm' (hd l) hm0 x).2 (by
        have := (hG.one l hl (hd l) hl0 x).1 hxl
        exact ⟨hRR _ _ this.1, hRR _ _ this.2⟩)
      have e2 : m' = l' := pw_ext (hG'.rise m' hm').2 (hG'.rise l' hl').2 (hG'.same hm' hl' hxm hx)
      rw [← em, e2]
    obtain ⟨l, hl, hxl, e1⟩ := stand x hx
    obtain ⟨m, hm, hym, e2⟩ := stand y hy
    have hl0 := hd_mem (hG.rise l hl).1
    have hm0 := hd_mem (hG.rise m hm).1
    rw [e1] at hl0
    rw [e2] at hm0
    exact ((hG.one l hl x hxl y).1 ((hG.same hl hm hl0 hm0 y).2 hym)).1
  refine Grp.only (R := R) ⟨hG'.rise, hG'.lt, fun l' hl' x hx y => ⟨fun hy => ⟨key l' hl' x hx y hy, key l' hl' y hy x hx⟩, fun h => (hG'.one l' hl' x hx y).2 ⟨hRR _ _ h.1, hRR _ _ h.2⟩⟩, hG'.all⟩ hG ho' ho
theorem lv_more {n : Nat} {E E' : Nat → Nat → Prop} {G : List (List Nat)} {o : Nat → Nat} (hG : Grp n (Rch E) G) (hG' : Grp n (Rch E') G) (ho : IsOf G o) (hE : ∀ a b, E a b → E' a b) (i : Nat) : lvO n E G i ≤ lvO n E' G i := by
  by_cases hi : i < G.length
  · exact (lvO_lev hG ho).le (lvO_lev hG' ho) (fun i j _ hd => by
      obtain ⟨h1, x, y, hx, hy, he, e⟩ := hd
      exact ⟨h1, x, y, hx, hy, hE x y he, e⟩) (fun i j _ hd => Dn.lt hG ho hd) _ i hi (Nat.le_refl _)
  · rw [lvO_out i hi]; omega
theorem wav_ne {n : Nat} {E : Nat → Nat → Prop} {G : List (List Nat)} {o : Nat → Nat} (hG : Grp n (Rch E) G) (ho : IsOf G o) {v : Nat} {l : List Nat} (h : (wav (lvL n E G))[v]? = some l) : l ≠ [] := by
  have hv : v < mxl (lvL n E G) := by
    have := (List.getElem?_eq_some_iff.1 h).1
    unfold wav at this
    rwa [wvs_len] at this
  have hm : ∃ i, i < G.length ∧ v ≤ lvO n E G i := by
    rcases mx_mem ((lvL n E G).map (· + 1)) with e | e
    · unfold mxl at hv; omega
    · obtain ⟨a, h1, h2⟩ := List.mem_map.1 e
      unfold lvL at h1
      obtain ⟨i, h3, h4⟩ := List.mem_map.1 h1
      refine ⟨i, List.mem_range.1 h3, ?_⟩
      have h2 : a + 1 = mxl (lvL n E G) := h2
      omega
  obtain ⟨i, hi, hvi⟩ := hm
  obtain ⟨j, hj, e⟩ := (lvO_lev hG ho).all (fun i j _ hd => Dn.lt hG ho hd) _ i v hi (Nat.le_refl _) hvi
  unfold wav at h
  rw [wvs_get _ hv] at h
  have := Option.some.inj h
  intro e0
  rw [e0] at this
  have hmem : j ∈ (List.range (lvL n E G).length).filter fun x => (lvL n E G).getD x 0 == v := List.mem_filter.2 ⟨by rw [lvL_len]; exact List.mem_range.2 hj, by rw [lvL_get, e]; exact beq_self_eq_true v⟩
  rw [this] at hmem
  cases hmem
end Go.Am.Sc
