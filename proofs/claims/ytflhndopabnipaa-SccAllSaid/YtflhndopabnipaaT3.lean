/- Tarjan's groups: each turn keeps what is known: the edges, and the lower numbers. -/
import Derived.Test.YtflhndopabnipaaT2
set_option linter.unusedVariables false
namespace Go.Am.Sc
variable {out : List (List Nat)} {S : List (Nat × Nat)} {t : T}
theorem pw_inj {α : Type} {f : α → Nat} : ∀ {l : List α}, (l.Pairwise fun a b => f a < f b) → ∀ {a b : α}, a ∈ l → b ∈ l → f a = f b → a = b
  | x :: l, h, a, b, ha, hb, e => by
    rw [List.pairwise_cons] at h
    rcases List.mem_cons.1 ha with ha | ha
    · rcases List.mem_cons.1 hb with hb | hb
      · exact ha.trans hb.symm
      · have := h.1 b hb
        rw [ha] at e; omega
    · rcases List.mem_cons.1 hb with hb | hb
      · have := h.1 a ha
        rw [hb] at e; omega
      · exact pw_inj h.2 ha hb e
theorem Inv.inj (h : Inv out S t) {a b : Nat} (ha : a ∈ t.opn) (hb : b ∈ t.opn) (e : t.nm a = t.nm b) : a = b := pw_inj h.inc ha hb e
theorem take_succ_mem {α : Type} {l : List α} {j : Nat} {y z : α} (h : l[j]? = some y) (hz : z ∈ l.take (j + 1)) : z ∈ l.take j ∨ z = y := by
  rw [List.take_add_one, h] at hz
  simpa using hz
theorem Inv.adv {A B : List (Nat × Nat)} {x j y : Nat} (h : Inv out (A ++ (x, j) :: B) t) (hy : (outs out x)[j]? = some y) (hv : t.nm y ≠ 0) (hl : y ∈ t.opn → t.lo x ≤ t.nm y) : Inv out (A ++ (x, j + 1) :: B) t := by
  have sub : ∀ p ∈ A ++ (x, j + 1) :: B, ∃ q ∈ A ++ (x, j) :: B, q.1 = p.1 ∧ (p = q ∨ p = (x, j + 1)) := by
    intro p hp
    rcases List.mem_append.1 hp with hp | hp
    · exact ⟨p, by simp [hp], rfl, .inl rfl⟩
    · rcases List.mem_cons.1 hp with rfl | hp
      · exact ⟨(x, j), by simp, rfl, .inr rfl⟩
      · exact ⟨p, by simp [hp], rfl, .inl rfl⟩
  have bus : ∀ p ∈ A ++ (x, j) :: B, ∃ q ∈ A ++ (x, j + 1) :: B, q.1 = p.1 := by
    intro p hp
    rcases List.mem_append.1 hp with hp | hp
    · exact ⟨p, by simp [hp], rfl⟩
    · rcases List.mem_cons.1 hp with rfl | hp
      · exact ⟨(x, j + 1), by simp, rfl⟩
      · exact ⟨p, by simp [hp], rfl⟩
  have hx := h.stk (x, j) (by simp)
  refine { h with stk := ?_, dec := ?_, finE := ?_, stkE := ?_, tree := ?_ }
  · intro p hp
    obtain ⟨q, hq, e, rfl | rfl⟩ := sub p hp
    · exact h.stk p hq
    · exact ⟨hx.1, (List.getElem?_eq_some_iff.1 hy).1⟩
  · have hd := h.dec
    rw [List.pairwise_append, List.pairwise_cons] at hd ⊢
    refine ⟨hd.1, ⟨fun p hp => hd.2.1.1 p hp, hd.2.1.2⟩, fun a ha b hb => ?_⟩
    rcases List.mem_cons.1 hb with rfl | hb
    · exact hd.2.2 a ha (x, j) (by simp)
    · exact hd.2.2 a ha b (by simp [hb])
  · intro z hz hn
    exact h.finE z hz fun p hp e => by
      obtain ⟨q, hq, e'⟩ := bus p hp
      exact hn q hq (e'.trans e)
  · intro p hp z hz
    obtain ⟨q, hq, e, rfl | rfl⟩ := sub p hp
    · exact h.stkE p hq z hz
    · rcases take_succ_mem hy hz with hz | rfl
      · exact h.stkE (x, j) (by simp) z hz
      · exact ⟨hv, hl⟩
  · intro y hy
    obtain ⟨p, hp, h1, h2, h3, h4⟩ := h.tree y hy
    obtain ⟨q, hq, e⟩ := bus p hp
    refine ⟨q, hq, by rw [e]; exact h1, fun r hr k => ?_, by rw [e]; exact h3, by rw [e]; exact h4⟩
    obtain ⟨r', hr', e', _⟩ := sub r hr
    rw [e, ← e']
    exact h2 r' hr' (by rw [e']; exact k)
theorem Inv.lo_low1 (h : Inv out S t) {x v : Nat} (hx : x < out.length) (z : Nat) : (t.low1 x v).lo z = if x = z then v else t.lo z := by
  unfold T.low1 T.lo; rw [getD_set _ _ _ _ _ (by rw [h.ll]; exact hx)]
theorem Inv.low1 (h : Inv out S t) {x j v z : Nat} (hx : (x, j) ∈ S) (hz : z ∈ t.opn) (hv : t.nm z = v) (hr : Rch (Ed out) x z) (hl : v ≤ t.lo x) : Inv out S (t.low1 x v) := by
  have hxo := (h.stk _ hx).1
  have lo := h.lo_low1 (v := v) (h.inO x hxo)
  have le : ∀ y, (t.low1 x v).lo y ≤ t.lo y := fun y => by
    rw [lo]
    split
    · rename_i e; subst e; exact hl
    · exact Nat.le_refl _
  have hne : ∀ y, (∀ p ∈ S, p.1 ≠ y) → x ≠ y := fun y hn e => hn _ hx e
  refine { h with ll := by simp [T.low1, h.ll], lowO := ?_, finE := ?_, stkE := ?_, tree := ?_ }
  · intro y hy
    obtain ⟨h1, w, h2, h3, h4⟩ := h.lowO y hy
    refine ⟨Nat.le_trans (le y) h1, ?_⟩
    rw [lo]
    split
    · rename_i e; subst e; exact ⟨z, hz, hv, hr⟩
    · exact ⟨w, h2, h3, h4⟩
  · intro y hy hn
    rw [lo, if_neg (hne y hn)]
    exact h.finE y hy hn
  · intro p hp w hw
    have := h.stkE p hp w hw
    exact ⟨this.1, fun k => Nat.le_trans (le p.1) (this.2 k)⟩
  · intro y hy
    obtain ⟨p, hp, h1, h2, h3, h4⟩ := h.tree y hy
    refine ⟨p, hp, h1, h2, h3, ?_⟩
    by_cases e : x = y
    · subst e
      have : t.nm x ≤ t.nm p.1 := h2 _ hx (Nat.le_refl _)
      have e : p.1 = x := h.inj (h.stk p hp).1 hxo (by
        show t.nm p.1 = t.nm x
        have h1 : t.nm p.1 ≤ t.nm x := h1
        omega)
      rw [e]; exact Nat.le_refl _
    · rw [lo y, if_neg e]
      exact Nat.le_trans (le _) h4
theorem Inv.done {x j u k : Nat} (h : Inv out ((x, j) :: (u, k) :: S) t) (hj : (outs out x)[j]? = none) (hl : t.lo u ≤ t.lo x) (hx : t.lo x < t.nm x) : Inv out ((u, k) :: S) t := by
  have hjl : (outs out x).take j = outs out x := List.take_of_length_le (by simpa using hj)
  have hd := h.dec
  rw [List.pairwise_cons] at hd
  have hxu := hd.1 (u, k) (by simp)
  have hdu := (List.pairwise_cons.1 hd.2).1
  refine { h with stk := fun p hp => h.stk p (by simp [hp]), dec := hd.2, finE := ?_, stkE := fun p hp => h.stkE p (by simp [hp]), tree := ?_ }
  · intro y hy hn
    by_cases e : y = x
    · subst e
      refine ⟨hx, fun z hz => ?_⟩
      have := h.stkE (y, j) (by simp) z (by
        show z ∈ (outs out y).take j
        rw [hjl]; exact hz)
      exact this
    · exact h.finE y hy fun p hp => by
        rcases List.mem_cons.1 hp with rfl | hp
        · exact fun e' => e e'.symm
        · exact hn p hp
  · intro y hy
    obtain ⟨p, hp, h1, h2, h3, h4⟩ := h.tree y hy
    rcases List.mem_cons.1 hp with rfl | hp
    · refine ⟨(u, k), by simp, ?_, ?_, hxu.2.trans h3, Nat.le_trans hl h4⟩
      · have h1 : t.nm x ≤ t.nm y := h1
        have h2 : t.nm u < t.nm x := hxu.1
        show t.nm u ≤ t.nm y
        omega
      · intro q hq _
        rcases List.mem_cons.1 hq with rfl | hq
        · exact Nat.le_refl _
        · have := (hdu q hq).1
          show t.nm q.1 ≤ t.nm u
          exact Nat.le_of_lt this
    · exact ⟨p, hp, h1, fun q hq => h2 q (by simp [hq]), h3, h4⟩
theorem cutAt_app (x : Nat) : ∀ l : List Nat, (cutAt x l).1 ++ (cutAt x l).2 = l
  | [] => rfl
  | y :: l => by
    unfold cutAt
    split
    · rfl
    · simp [cutAt_app x l]
theorem cutAt_mem {x : Nat} : ∀ {l : List Nat}, x ∈ l → ∃ r, (cutAt x l).2 = x :: r
  | y :: l, h => by
    unfold cutAt
    split
    · rename_i e; subst e; exact ⟨l, rfl⟩
    · rename_i e
      exact cutAt_mem ((List.mem_cons.1 h).resolve_left fun k => e k.symm)
theorem offs_len : ∀ (l : List Nat) (is : List Bool), (offs is l).length = is.length
  | [], _ => rfl
  | y :: l, is => by rw [offs, offs_len l]; simp
theorem offs_get : ∀ (l : List Nat) (is : List Bool) (z : Nat), (∀ y ∈ l, y < is.length) → (offs is l).getD z false = if z ∈ l then false else is.getD z false
  | [], _, _, _ => by simp [offs]
  | y :: l, is, z, h => by
    rw [offs, offs_get l _ z (fun w hw => by simpa using h w (by simp [hw])), getD_set _ _ _ _ _ (h y (by simp))]
    by_cases e : y = z
    · subst e; simp
    · have e' : z ≠ y := fun k => e k.symm
      simp [e, e']
theorem nodup_of_lt {α : Type} {f : α → Nat} {l : List α} (h : l.Pairwise fun a b => f a < f b) : l.Nodup :=
  h.imp fun k e => by subst e; omega
theorem Inv.close {x j : Nat} (h : Inv out ((x, j) :: S) t) (hj : (outs out x)[j]? = none) (hx : ¬ t.lo x < t.nm x) : Inv out S (t.leave x) := by
  have hjl : (outs out x).take j = outs out x := List.take_of_length_le (by simpa using hj)
  have hd := h.dec
  rw [List.pairwise_cons] at hd
  have hxo : x ∈ t.opn := (h.stk (x, j) (by simp)).1
  have hlx : t.lo x = t.nm x := by have := (h.lowO x hxo).1; omega
  have hO := cutAt_app x t.opn
  obtain ⟨r, hr⟩ := cutAt_mem hxo
  have hinc := h.inc
  rw [← hO, List.pairwise_append, hr, List.pairwise_cons] at hinc
  obtain ⟨i1, ⟨i2, i3⟩, i4⟩ := hinc
  have hleave : t.leave x = { t with opn := (cutAt x t.opn).1, is := offs t.is (cutAt x t.opn).2, grp := t.grp ++ [sortN (cutAt x t.opn).2] } := by
    unfold T.leave; rw [if_neg hx]
  -- ahead of it, from it on
  have m1 : ∀ z, z ∈ (cutAt x t.opn).1 ↔ z ∈ t.opn ∧ t.nm z < t.nm x := fun z => by
    constructor
    · intro hz
      exact ⟨by rw [← hO]; simp [hz], i4 z hz x (by simp)⟩
    · rintro ⟨h1, h2⟩
      rw [← hO, hr] at h1
      rcases List.mem_append.1 h1 with h1 | h1
      · exact h1
      · rcases List.mem_cons.1 h1 with rfl | h1
        · omega
        · have := i2 z h1; omega
  have m2 : ∀ z, z ∈ (cutAt x t.opn).2 ↔ z ∈ t.opn ∧ t.nm x ≤ t.nm z := fun z => by
    constructor
    · intro hz
      refine ⟨by rw [← hO]; simp [hz], ?_⟩
      rw [hr] at hz
      rcases List.mem_cons.1 hz with rfl | hz
      · exact Nat.le_refl _
      · exact Nat.le_of_lt (i2 z hz)
    · rintro ⟨h1, h2⟩
      rw [← hO] at h1
      rcases List.mem_append.1 h1 with h1 | h1
      · have := i4 z h1 x (by simp)
        omega
      · exact h1
  -- of all from it on the frame is x
  have topd : ∀ q ∈ S, t.nm q.1 < t.nm x := fun q hq => (hd.1 q hq).1
  have tr : ∀ z ∈ (cutAt x t.opn).2, Rch (Ed out) x z ∧ t.nm x ≤ t.lo z := fun z hz => by
    obtain ⟨h1, h2⟩ := (m2 z).1 hz
    obtain ⟨p, hp, k1, k2, k3, k4⟩ := h.tree z h1
    have := k2 (x, j) (by simp) h2
    have this : t.nm x ≤ t.nm p.1 := this
    rcases List.mem_cons.1 hp with rfl | hp
    · exact ⟨k3, by rw [← hlx]; exact k4⟩
    · have := topd p hp; omega
  have fin : ∀ z ∈ (cutAt x t.opn).2, ∀ w, Ed out z w → t.nm w ≠ 0 ∧ (w ∈ t.opn → w ∈ (cutAt x t.opn).2) := fun z hz w hw => by
    obtain ⟨h1, h2⟩ := (m2 z).1 hz
    obtain ⟨_, h3⟩ := tr z hz
    have key : t.nm w ≠ 0 ∧ (w ∈ t.opn → t.lo z ≤ t.nm w) := by
      by_cases e : z = x
      · subst e
        exact h.stkE (z, j) (by simp) w (by
          show w ∈ (outs out z).take j
          rw [hjl]; exact hw)
      · refine (h.finE z h1 fun p hp e' => ?_).2 w hw
        rcases List.mem_cons.1 hp with rfl | hp
        · exact e e'.symm
        · have := topd p hp
          rw [e'] at this; omega
    exact ⟨key.1, fun k => (m2 w).2 ⟨k, by have := key.2 k; omega⟩⟩
  have back : ∀ n z, z ∈ (cutAt x t.opn).2 → t.nm z ≤ n → Rch (Ed out) z x := by
    intro n
    induction n with
    | zero => intro z hz hn; have := h.pos z ((m2 z).1 hz).1; omega
    | succ n ih =>
      intro z hz hn
      obtain ⟨h1, h2⟩ := (m2 z).1 hz
      by_cases e : z = x
      · subst e; exact .refl _
      · have hlz := (h.finE z h1 fun p hp e' => by
          rcases List.mem_cons.1 hp with rfl | hp
          · exact e e'.symm
          · have := topd p hp
            rw [e'] at this; omega).1
        obtain ⟨_, w, w1, w2, w3⟩ := h.lowO z h1
        have := (tr z hz).2
        exact w3.trans (ih w ((m2 w).2 ⟨w1, by omega⟩) (by omega))
  -- nothing else is of the group
  have clo' : ∀ z, (z ∈ (cutAt x t.opn).2 ∨ (t.nm z ≠ 0 ∧ z ∉ t.opn)) → ∀ w, Ed out z w → (w ∈ (cutAt x t.opn).2 ∨ (t.nm w ≠ 0 ∧ w ∉ t.opn)) := by
    intro z hz w hw
    rcases hz with hz | hz
    · obtain ⟨k1, k2⟩ := fin z hz w hw
      by_cases k : w ∈ t.opn
      · exact .inl (k2 k)
      · exact .inr ⟨k1, k⟩
    · exact .inr (h.clo z hz.1 hz.2 w hw)
  have only : ∀ z, Rch (Ed out) x z → Rch (Ed out) z x → z ∈ (cutAt x t.opn).2 := by
    intro z h1 h2
    rcases Rch.inv (p := fun z => z ∈ (cutAt x t.opn).2 ∨ (t.nm z ≠ 0 ∧ z ∉ t.opn)) (fun a b ha hb => clo' a ha b hb) h1 (.inl (by rw [hr]; simp)) with k | k
    · exact k
    · have : t.nm x ≠ 0 ∧ x ∉ t.opn := h2.inv (p := fun z => t.nm z ≠ 0 ∧ z ∉ t.opn) (fun a b ha hb => h.clo a ha.1 ha.2 b hb) k
      exact absurd hxo this.2
  have grp : ∀ a ∈ (cutAt x t.opn).2, ∀ y, y ∈ (cutAt x t.opn).2 ↔ Rch (Ed out) a y ∧ Rch (Ed out) y a := fun a ha y => by
    have a1 := (tr a ha).1
    have a2 := back _ a ha (Nat.le_refl _)
    constructor
    · intro hy
      exact ⟨a2.trans (tr y hy).1, (back _ y hy (Nat.le_refl _)).trans a1⟩
    · rintro ⟨y1, y2⟩
      exact only y (a1.trans y1) (y2.trans a2)
  have nm : ∀ z, (t.leave x).nm z = t.nm z := fun z => by rw [hleave]; rfl
  have lo : ∀ z, (t.leave x).lo z = t.lo z := fun z => by rw [hleave]; rfl
  have ho : (t.leave x).opn = (cutAt x t.opn).1 := by rw [hleave]
  have sub : ∀ z, z ∈ (t.leave x).opn → z ∈ t.opn := fun z hz => ((m1 z).1 (ho ▸ hz)).1
  have cl : ∀ z, t.nm z ≠ 0 ∧ z ∉ (t.leave x).opn → (z ∈ (cutAt x t.opn).2 ∨ (t.nm z ≠ 0 ∧ z ∉ t.opn)) := fun z hz => by
    by_cases k : z ∈ t.opn
    · left
      have : ¬ t.nm z < t.nm x := fun k' => hz.2 (by rw [ho]; exact (m1 z).2 ⟨k, k'⟩)
      exact (m2 z).2 ⟨k, by omega⟩
    · exact .inr ⟨hz.1, k⟩
  have lc : ∀ z, (z ∈ (cutAt x t.opn).2 ∨ (t.nm z ≠ 0 ∧ z ∉ t.opn)) → t.nm z ≠ 0 ∧ z ∉ (t.leave x).opn := fun z hz => by
    rcases hz with hz | hz
    · obtain ⟨k1, k2⟩ := (m2 z).1 hz
      have := h.pos z k1
      exact ⟨by omega, fun k => by have := ((m1 z).1 (ho ▸ k)).2; omega⟩
    · exact ⟨hz.1, fun k => hz.2 (sub z k)⟩
  have inS : ∀ p ∈ S, p.1 ∈ (t.leave x).opn := fun p hp => by
    rw [ho]; exact (m1 _).2 ⟨(h.stk p (by simp [hp])).1, topd p hp⟩
  refine ⟨by rw [hleave]; exact h.ln, by rw [hleave]; exact h.ll, by rw [hleave]; exact (offs_len _ _).trans h.li, h.ok, fun z hz => h.inO z (sub z hz), ?_, fun z hz => by rw [nm]; exact h.pos z (sub z hz), fun z => by rw [nm]; have := h.cnt z; rw [hleave]; exact this, ?_, fun p hp => ⟨inS p hp, (h.stk p (by simp [hp])).2⟩, ?_, ?_, ?_, ?_, ?_, ?_, ?_, ?_, ?_⟩
  · intro z hz
    rw [hleave]
    show (offs t.is (cutAt x t.opn).2).getD z false = true ↔ z ∈ (cutAt x t.opn).1
    rw [offs_get _ _ _ (fun w hw => by rw [h.li]; exact h.inO w ((m2 w).1 hw).1)]
    rw [m1]
    split
    · rename_i k
      have := ((m2 z).1 k).2
      simp
      intro _; omega
    · rename_i k
      rw [h.isO z hz]
      constructor
      · intro k'
        exact ⟨k', Nat.lt_of_not_le fun k2 => k ((m2 z).2 ⟨k', k2⟩)⟩
      · exact fun k' => k'.1
  · rw [ho]
    exact i1.imp fun k => by rw [nm, nm]; exact k
  · exact hd.2.imp fun k => by rw [nm, nm]; exact k
  · intro z h1 h2 w hw
    rw [nm] at h1
    have := lc w (clo' z (cl z ⟨h1, h2⟩) w hw)
    rw [nm]; exact this
  · intro z hz
    obtain ⟨k1, w, k2, k3, k4⟩ := h.lowO z (sub z hz)
    rw [nm, lo]
    refine ⟨k1, w, ?_, by rw [nm]; exact k3, k4⟩
    rw [ho]
    have := ((m1 z).1 (ho ▸ hz)).2
    exact (m1 w).2 ⟨k2, by omega⟩
  · intro z hz hn
    rw [nm, lo]
    have := h.finE z (sub z hz) fun p hp e => by
      rcases List.mem_cons.1 hp with rfl | hp
      · have := ((m1 z).1 (ho ▸ hz)).2
        have e : x = z := e
        rw [e] at this; omega
      · exact hn p hp e
    exact ⟨this.1, fun w hw => by rw [nm]; exact ⟨(this.2 w hw).1, fun k => (this.2 w hw).2 (sub w k)⟩⟩
  · intro p hp w hw
    have := h.stkE p (by simp [hp]) w hw
    rw [nm, lo]
    exact ⟨this.1, fun k => this.2 (sub w k)⟩
  · intro z hz
    obtain ⟨p, hp, k1, k2, k3, k4⟩ := h.tree z (sub z hz)
    have hzx := ((m1 z).1 (ho ▸ hz)).2
    rcases List.mem_cons.1 hp with rfl | hp
    · have k1 : t.nm x ≤ t.nm z := k1
      omega
    · refine ⟨p, hp, by rw [nm, nm]; exact k1, fun q hq k => ?_, k3, by rw [lo, lo]; exact k4⟩
      rw [nm, nm] at *
      exact k2 q (by simp [hq]) k
  · intro l hl
    rw [hleave] at hl
    rcases List.mem_append.1 hl with hl | hl
    · obtain ⟨k1, k2, k3⟩ := h.gIn l hl
      refine ⟨k1, k2, fun z hz => ?_⟩
      rw [nm]
      exact ⟨lc z (.inr (k3 z hz).1), (k3 z hz).2⟩
    · rw [List.mem_singleton] at hl
      subst hl
      refine ⟨fun e => ?_, sortN_lt ?_, fun z hz => ?_⟩
      · have : x ∈ sortN (cutAt x t.opn).2 := sortN_mem.2 (by rw [hr]; simp)
        rw [e] at this; cases this
      · rw [hr]
        exact nodup_of_lt (List.pairwise_cons.2 ⟨i2, i3⟩)
      · rw [sortN_mem] at hz
        rw [nm]
        refine ⟨lc z (.inl hz), fun y => ?_⟩
        rw [sortN_mem]
        exact grp z hz y
  · intro z h1 h2
    rw [nm] at h1
    rcases cl z ⟨h1, h2⟩ with k | k
    · exact ⟨sortN (cutAt x t.opn).2, by rw [hleave]; simp, sortN_mem.2 k⟩
    · obtain ⟨l, k1, k2⟩ := h.gAll z k.1 k.2
      exact ⟨l, by rw [hleave]; simp [k1], k2⟩
  · rw [hleave]
    show (t.grp ++ [sortN (cutAt x t.opn).2]).Pairwise _
    rw [List.pairwise_append]
    refine ⟨h.gDis, by simp, fun l hl m hm z hz hz' => ?_⟩
    rw [List.mem_singleton] at hm
    subst hm
    rw [sortN_mem] at hz'
    exact ((h.gIn l hl).2.2 z hz).1.2 ((m2 z).1 hz').1
end Go.Am.Sc
