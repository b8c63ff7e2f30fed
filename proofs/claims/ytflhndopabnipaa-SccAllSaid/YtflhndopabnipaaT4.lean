/- Tarjan's groups: the loop ends, and what it leaves. -/
import Derived.Test.YtflhndopabnipaaT3
set_option linter.unusedVariables false
namespace Go.Am.Sc
variable {out : List (List Nat)} {S : List (Nat × Nat)} {t : T}
def zeros : List Nat → Nat
  | [] => 0
  | x :: l => (if x = 0 then 1 else 0) + zeros l
theorem zeros_set : ∀ (l : List Nat) (i v : Nat), l.getD i 1 = 0 → v ≠ 0 → zeros (l.set i v) + 1 = zeros l
  | [], i, v, h, hv => by simp at h
  | x :: l, 0, v, h, hv => by
    simp at h
    subst h
    simp [zeros, hv]; omega
  | x :: l, i + 1, v, h, hv => by
    simp only [List.set_cons_succ, zeros]
    have := zeros_set l i v (by simpa using h) hv
    omega
def left (out : List (List Nat)) : List (Nat × Nat) → Nat
  | [] => 0
  | p :: S => ((outs out p.1).length - p.2) + 1 + left out S
theorem Inv.low_le (h : Inv out S t) (x v : Nat) (hx : x < out.length) : (t.low1 x v).nm = t.nm := rfl
theorem turn_some {x j y : Nat} (hj : (outs out x)[j]? = some y) : Sc.turn out ((x, j) :: S) t = if t.nm y = 0 then ((y, 0) :: (x, j + 1) :: S, t.enter y)
      else if t.is.getD y false = true then ((x, j + 1) :: S, t.low1 x (min (t.lo x) (t.nm y)))
      else ((x, j + 1) :: S, t) := by simp only [Sc.turn, hj]
theorem turn_last {x j : Nat} (hj : (outs out x)[j]? = none) : Sc.turn out [(x, j)] t = ([], t.leave x) := by simp only [Sc.turn, hj]
theorem turn_pop {x j u k : Nat} (hj : (outs out x)[j]? = none) : Sc.turn out ((x, j) :: (u, k) :: S) t = ((u, k) :: S, (t.low1 u (min (t.lo u) (t.lo x))).leave x) := by simp only [Sc.turn, hj]
theorem leave_nm (t : T) (x : Nat) : (t.leave x).nm = t.nm ∧ (t.leave x).num = t.num := by unfold T.leave; split <;> exact ⟨rfl, rfl⟩
theorem Inv.turn {x j : Nat} (h : Inv out ((x, j) :: S) t) : Inv out (turn out ((x, j) :: S) t).1 (turn out ((x, j) :: S) t).2 ∧
    (∀ z, t.nm z ≠ 0 → (turn out ((x, j) :: S) t).2.nm z ≠ 0) ∧
    ((zeros (turn out ((x, j) :: S) t).2.num < zeros t.num) ∨ ((turn out ((x, j) :: S) t).2.num = t.num ∧ left out (turn out ((x, j) :: S) t).1 < left out ((x, j) :: S))) := by
  have hxo := (h.stk (x, j) (by simp)).1
  have hxl := h.inO x hxo
  cases hj : (outs out x)[j]? with
  | some y =>
    have hjl := (List.getElem?_eq_some_iff.1 hj).1
    have hE : Ed out x y := List.mem_of_getElem? hj
    have hyl := h.ok x y hE
    rw [turn_some hj]
    split
    · rename_i h0
      have h1 := h.enter hyl h0 (.inr ⟨(x, j), S, rfl, .one hE⟩)
      have h2 : t.nm x ≤ t.cnt := h.cnt x
      have hxy : x ≠ y := fun e => by have := h.pos x hxo; rw [e] at this; omega
      have h3 := Inv.adv (A := [(y, 0)]) (B := S) h1 hj (by rw [h.nm_enter hyl, if_pos rfl]; omega) (fun _ => by
        rw [h.nm_enter hyl, if_pos rfl, h.lo_enter hyl, if_neg fun e => hxy e.symm]
        have := (h.lowO x hxo).1; omega)
      refine ⟨h3, fun z hz => ?_, .inl ?_⟩
      · show (t.enter y).nm z ≠ 0
        rw [h.nm_enter hyl]; split <;> omega
      · have := zeros_set t.num y (t.cnt + 1) (by
          have : t.num.getD y 0 = 0 := h0
          rw [List.getD_eq_getElem?_getD, List.getElem?_eq_getElem (by rw [h.ln]; exact hyl)] at this ⊢
          exact this) (by omega)
        show zeros (t.num.set y (t.cnt + 1)) < _
        omega
    · rename_i h0
      split
      · rename_i his
        have hyo := (h.isO y hyl).1 his
        have hle : min (t.lo x) (t.nm y) ≤ t.lo x := Nat.min_le_left _ _
        have h1 : Inv out ((x, j) :: S) (t.low1 x (min (t.lo x) (t.nm y))) := by
          by_cases k : t.lo x ≤ t.nm y
          · rw [Nat.min_eq_left k]
            obtain ⟨_, z, h2, h3, h4⟩ := h.lowO x hxo
            exact h.low1 (List.mem_cons_self ..) h2 h3 h4 (Nat.le_refl _)
          · rw [Nat.min_eq_right (by omega)]
            exact h.low1 (List.mem_cons_self ..) hyo rfl (.one hE) (by omega)
        refine ⟨Inv.adv (A := []) (B := S) h1 hj h0 (fun _ => ?_), fun z hz => hz, .inr ⟨rfl, ?_⟩⟩
        · show _ ≤ t.nm y
          rw [h.lo_low1 hxl, if_pos rfl]
          exact Nat.min_le_right _ _
        · simp only [left]; omega
      · rename_i his
        refine ⟨Inv.adv (A := []) (B := S) h hj h0 (fun k => absurd ((h.isO y hyl).2 k) his), fun z hz => hz, .inr ⟨rfl, ?_⟩⟩
        simp only [left]; omega
  | none =>
    cases S with
    | nil =>
      have hx : ¬ t.lo x < t.nm x := fun k => by
        obtain ⟨_, z, h2, h3, h4⟩ := h.lowO x hxo
        obtain ⟨p, hp, k1, _⟩ := h.tree z h2
        rw [List.mem_singleton] at hp
        subst hp
        have k1 : t.nm x ≤ t.nm z := k1
        omega
      rw [turn_last hj]
      refine ⟨h.close hj hx, fun z hz => ?_, .inr ⟨(leave_nm t x).2, ?_⟩⟩
      · show (t.leave x).nm z ≠ 0
        rw [(leave_nm t x).1]; exact hz
      · simp only [left]; omega
    | cons p S =>
      obtain ⟨u, k⟩ := p
      have huo := (h.stk (u, k) (by simp)).1
      have hul := h.inO u huo
      have hux := (List.pairwise_cons.1 h.dec).1 (u, k) (by simp)
      have hne : u ≠ x := fun e => by have := hux.1; simp only [e] at this; omega
      have h1 : Inv out ((x, j) :: (u, k) :: S) (t.low1 u (min (t.lo u) (t.lo x))) := by
        by_cases k' : t.lo u ≤ t.lo x
        · rw [Nat.min_eq_left k']
          obtain ⟨_, z, h2, h3, h4⟩ := h.lowO u huo
          exact h.low1 (j := k) (by simp) h2 h3 h4 (Nat.le_refl _)
        · rw [Nat.min_eq_right (by omega)]
          obtain ⟨_, z, h2, h3, h4⟩ := h.lowO x hxo
          exact h.low1 (j := k) (by simp) h2 h3 (hux.2.trans h4) (by omega)
      have lu : (t.low1 u (min (t.lo u) (t.lo x))).lo u = min (t.lo u) (t.lo x) := by rw [h.lo_low1 hul, if_pos rfl]
      have lx : (t.low1 u (min (t.lo u) (t.lo x))).lo x = t.lo x := by rw [h.lo_low1 hul, if_neg hne]
      rw [turn_pop hj]
      have nm1 : (t.low1 u (min (t.lo u) (t.lo x))).nm = t.nm ∧ (t.low1 u (min (t.lo u) (t.lo x))).num = t.num := ⟨rfl, rfl⟩
      generalize t.low1 u (min (t.lo u) (t.lo x)) = t1 at *
      refine ⟨?_, fun z hz => ?_, .inr ⟨(leave_nm t1 x).2.trans nm1.2, ?_⟩⟩
      · by_cases hx : t1.lo x < t1.nm x
        · have h2 := h1.done hj (by rw [lu, lx]; exact Nat.min_le_right _ _) hx
          have : t1.leave x = t1 := by unfold T.leave; rw [if_pos hx]
          show Inv out ((u, k) :: S) (t1.leave x)
          rw [this]; exact h2
        · exact h1.close hj hx
      · show (t1.leave x).nm z ≠ 0
        rw [(leave_nm t1 x).1, nm1.1]; exact hz
      · simp only [left]; omega
theorem Inv.runs : ∀ (n : Nat) (m : Nat) (S : List (Nat × Nat)) (t : T), Inv out S t → zeros t.num ≤ n → left out S ≤ m → ∃ t', Runs out S t t' ∧ Inv out [] t' ∧ ∀ z, t.nm z ≠ 0 → t'.nm z ≠ 0 := by
  intro n
  induction n with
  | zero =>
    intro m
    induction m with
    | zero =>
      intro S t h hn hm
      cases S with
      | nil => exact ⟨t, .nil t, h, fun z hz => hz⟩
      | cons p S => simp [left] at hm
    | succ m ih =>
      intro S t h hn hm
      cases S with
      | nil => exact ⟨t, .nil t, h, fun z hz => hz⟩
      | cons p S =>
        obtain ⟨x, j⟩ := p
        obtain ⟨h1, h2, h3⟩ := h.turn
        rcases h3 with h3 | ⟨h3, h4⟩
        · omega
        · obtain ⟨t', k1, k2, k3⟩ := ih _ _ h1 (by rw [h3]; exact hn) (by omega)
          exact ⟨t', .turn k1, k2, fun z hz => k3 z (h2 z hz)⟩
  | succ n ihn =>
    intro m
    induction m with
    | zero =>
      intro S t h hn hm
      cases S with
      | nil => exact ⟨t, .nil t, h, fun z hz => hz⟩
      | cons p S => simp [left] at hm
    | succ m ih =>
      intro S t h hn hm
      cases S with
      | nil => exact ⟨t, .nil t, h, fun z hz => hz⟩
      | cons p S =>
        obtain ⟨x, j⟩ := p
        obtain ⟨h1, h2, h3⟩ := h.turn
        rcases h3 with h3 | ⟨h3, h4⟩
        · obtain ⟨t', k1, k2, k3⟩ := ihn _ _ _ h1 (by omega) (Nat.le_refl _)
          exact ⟨t', .turn k1, k2, fun z hz => k3 z (h2 z hz)⟩
        · obtain ⟨t', k1, k2, k3⟩ := ih _ _ h1 (by rw [h3]; exact hn) (by omega)
          exact ⟨t', .turn k1, k2, fun z hz => k3 z (h2 z hz)⟩
theorem Inv.none_open (h : Inv out [] t) : t.opn = [] := by
  cases ho : t.opn with
  | nil => rfl
  | cons x l =>
    obtain ⟨p, hp, _⟩ := h.tree x (by rw [ho]; simp)
    cases hp
theorem Inv.from (h : Inv out [] t) {x : Nat} (hx : x < out.length) (h0 : t.nm x = 0) : ∃ t', Runs out [(x, 0)] (t.enter x) t' ∧ Inv out [] t' ∧ t'.nm x ≠ 0 ∧ ∀ z, t.nm z ≠ 0 → t'.nm z ≠ 0 := by
  have h1 := h.enter hx h0 (.inl ⟨rfl, h.none_open⟩)
  obtain ⟨t', k1, k2, k3⟩ := Inv.runs _ _ _ _ h1 (Nat.le_refl _) (Nat.le_refl _)
  refine ⟨t', k1, k2, k3 x ?_, fun z hz => k3 z ?_⟩
  · rw [h.nm_enter hx, if_pos rfl]; omega
  · rw [h.nm_enter hx]; split <;> omega
inductive Goes (out : List (List Nat)) : Nat → T → T → Prop
  | done {x : Nat} {t : T} : out.length ≤ x → Goes out x t t
  | old {x : Nat} {t t' : T} : x < out.length → t.nm x ≠ 0 → Goes out (x + 1) t t' → Goes out x t t'
  | new {x : Nat} {t t1 t' : T} : x < out.length → t.nm x = 0 → Runs out [(x, 0)] (t.enter x) t1 → Goes out (x + 1) t1 t' → Goes out x t t'
theorem Inv.goes : ∀ (n x : Nat) (t : T), Inv out [] t → out.length ≤ x + n → (∀ z, z < x → t.nm z ≠ 0) → ∃ t', Goes out x t t' ∧ Inv out [] t' ∧ ∀ z, z < out.length → t'.nm z ≠ 0
  | 0, x, t, h, hn, hz => ⟨t, .done (by omega), h, fun z hz' => hz z (by omega)⟩
  | n + 1, x, t, h, hn, hz => by
    by_cases hx : x < out.length
    · by_cases h0 : t.nm x = 0
      · obtain ⟨t1, k1, k2, k3, k4⟩ := h.from hx h0
        obtain ⟨t', g1, g2, g3⟩ := Inv.goes n (x + 1) t1 k2 (by omega) fun z hz' => by
          by_cases e : z = x
          · subst e; exact k3
          · exact k4 z (hz z (by omega))
        exact ⟨t', .new hx h0 k1 g1, g2, g3⟩
      · obtain ⟨t', g1, g2, g3⟩ := Inv.goes n (x + 1) t h (by omega) fun z hz' => by
          by_cases e : z = x
          · subst e; exact h0
          · exact hz z (by omega)
        exact ⟨t', .old hx h0 g1, g2, g3⟩
    · exact ⟨t, .done (by omega), h, fun z hz' => hz z (by omega)⟩
def T0 (n : Nat) : T := ⟨List.replicate n 0, List.replicate n 0, [], List.replicate n false, 0, []⟩
theorem getD_rep {α : Type} (n x : Nat) (d : α) : (List.replicate n d).getD x d = d := by
  rw [List.getD_eq_getElem?_getD, List.getElem?_replicate]; split <;> rfl
theorem Inv.start (ok : ∀ a b, Ed out a b → b < out.length) : Inv out [] (T0 out.length) := by
  have nm : ∀ x, (T0 out.length).nm x = 0 := fun x => getD_rep _ _ _
  have ho : (T0 out.length).opn = [] := rfl
  have hg : (T0 out.length).grp = [] := rfl
  refine ⟨by simp [T0], by simp [T0], by simp [T0], ok, by simp [ho], fun x hx => ?_, by simp [ho], fun x => by rw [nm]; exact Nat.zero_le _, by simp [ho], by simp, by simp, fun x hx => absurd (nm x) hx, by simp [ho], by simp [ho], by simp, by simp [ho], by simp [hg], fun x hx => absurd (nm x) hx, by simp [hg]⟩
  have : (T0 out.length).is.getD x false = false := getD_rep _ _ _
  rw [this, ho]; simp
structure Grp (n : Nat) (R : Nat → Nat → Prop) (L : List (List Nat)) : Prop where
  rise : ∀ l ∈ L, l ≠ [] ∧ l.Pairwise (· < ·)
  lt : ∀ l ∈ L, ∀ x ∈ l, x < n
  one : ∀ l ∈ L, ∀ x ∈ l, ∀ y, y ∈ l ↔ R x y ∧ R y x
  all : ∀ x, x < n → ∃ l ∈ L, x ∈ l
theorem Grp.same {n : Nat} {R : Nat → Nat → Prop} {L : List (List Nat)} (h : Grp n R L) {l m : List Nat} (hl : l ∈ L) (hm : m ∈ L) {x : Nat} (h1 : x ∈ l) (h2 : x ∈ m) : ∀ y, y ∈ l ↔ y ∈ m := fun y => by
  rw [h.one l hl x h1, h.one m hm x h2]
theorem Inv.grp (h : Inv out [] t) (ha : ∀ x, x < out.length → t.nm x ≠ 0) : Grp out.length (Rch (Ed out)) t.grp ∧ t.grp.Pairwise fun l m => ∀ x ∈ l, x ∉ m := by
  have ho := h.none_open
  refine ⟨⟨fun l hl => ⟨(h.gIn l hl).1, (h.gIn l hl).2.1⟩, fun l hl x hx => ?_, fun l hl x hx y => ((h.gIn l hl).2.2 x hx).2 y, fun x hx => h.gAll x (ha x hx) (by rw [ho]; simp)⟩, h.gDis⟩
  have hv := ((h.gIn l hl).2.2 x hx).1.1
  have hx' : ¬ t.num.length ≤ x := fun k => hv (by
    show t.num.getD x 0 = 0
    rw [List.getD_eq_getElem?_getD, List.getElem?_eq_none k]; rfl)
  have := h.ln
  omega
theorem pw_ext {l m : List Nat} (hl : l.Pairwise (· < ·)) (hm : m.Pairwise (· < ·)) (h : ∀ x, x ∈ l ↔ x ∈ m) : l = m := by
  induction l generalizing m with
  | nil =>
    cases m with
    | nil => rfl
    | cons y m => have := (h y).2 (by simp); cases this
  | cons x l ih =>
    cases m with
    | nil => have := (h x).1 (by simp); cases this
    | cons y m =>
      rw [List.pairwise_cons] at hl hm
      have e : x = y := by
        have h1 := (h x).1 (by simp)
        have h2 := (h y).2 (by simp)
        rcases List.mem_cons.1 h1 with h1 | h1
        · exact h1
        · rcases List.mem_cons.1 h2 with h2 | h2
          · exact h2.symm
          · have := hl.1 y h2; have := hm.1 x h1; omega
      subst e
      congr 1
      refine ih hl.2 hm.2 fun z => ?_
      constructor
      · intro hz
        have := (h z).1 (by simp [hz])
        rcases List.mem_cons.1 this with k | k
        · subst k; have := hl.1 z hz; omega
        · exact k
      · intro hz
        have := (h z).2 (by simp [hz])
        rcases List.mem_cons.1 this with k | k
        · subst k; have := hm.1 z hz; omega
        · exact k
def hd (l : List Nat) : Nat := l.headD 0
theorem hd_mem {l : List Nat} (h : l ≠ []) : hd l ∈ l := by cases l <;> simp_all [hd]
theorem hd_le {l : List Nat} (h : l.Pairwise (· < ·)) {x : Nat} (hx : x ∈ l) : hd l ≤ x := by
  cases l with
  | nil => cases hx
  | cons y l =>
    rw [List.pairwise_cons] at h
    rcases List.mem_cons.1 hx with rfl | hx
    · exact Nat.le_refl _
    · exact Nat.le_of_lt (h.1 x hx)
theorem Grp.only {n : Nat} {R : Nat → Nat → Prop} : ∀ {L M : List (List Nat)}, Grp n R L → Grp n R M → (L.Pairwise fun l m => hd l < hd m) → (M.Pairwise fun l m => hd l < hd m) → L = M := by
  intro L M hL hM oL oM
  have sub : ∀ {L M : List (List Nat)}, Grp n R L → Grp n R M → ∀ l ∈ L, l ∈ M := by
    intro L M hL hM l hl
    obtain ⟨h1, h2⟩ := hL.rise l hl
    have hx := hd_mem h1
    obtain ⟨m, hm, hxm⟩ := hM.all _ (hL.lt l hl _ hx)
    have : l = m := pw_ext h2 (hM.rise m hm).2 fun y => by rw [hL.one l hl _ hx, hM.one m hm _ hxm]
    rw [this]; exact hm
  have key : ∀ {L M : List (List Nat)}, (L.Pairwise fun l m => hd l < hd m) → (M.Pairwise fun l m => hd l < hd m) → (∀ l ∈ L, l ∈ M) → (∀ m ∈ M, m ∈ L) → L = M := by
    intro L
    induction L with
    | nil =>
      intro M _ _ _ h
      cases M with
      | nil => rfl
      | cons m M => have := h m (by simp); cases this
    | cons l L ih =>
      intro M hl hm h1 h2
      cases M with
      | nil => have := h1 l (by simp); cases this
      | cons m M =>
        rw [List.pairwise_cons] at hl hm
        have e : l = m := by
          rcases List.mem_cons.1 (h1 l (by simp)) with k | k
          · exact k
          · rcases List.mem_cons.1 (h2 m (by simp)) with k' | k'
            · exact k'.symm
            · have := hl.1 m k'; have := hm.1 l k; omega
        subst e
        congr 1
        refine ih hl.2 hm.2 (fun z hz => ?_) (fun z hz => ?_)
        · rcases List.mem_cons.1 (h1 z (by simp [hz])) with k | k
          · subst k; have := hl.1 z hz; omega
          · exact k
        · rcases List.mem_cons.1 (h2 z (by simp [hz])) with k | k
          · subst k; have := hm.1 z hz; omega
          · exact k
  exact key oL oM (sub hL hM) (sub hM hL)
theorem Grp.of_mem {n : Nat} {R : Nat → Nat → Prop} {L M : List (List Nat)} (h : Grp n R L) (hm : ∀ l, l ∈ M ↔ l ∈ L) : Grp n R M :=
  ⟨fun l hl => h.rise l ((hm l).1 hl), fun l hl => h.lt l ((hm l).1 hl), fun l hl => h.one l ((hm l).1 hl), fun x hx => by obtain ⟨l, k1, k2⟩ := h.all x hx; exact ⟨l, (hm l).2 k1, k2⟩⟩
theorem Grp.iff {n : Nat} {R R' : Nat → Nat → Prop} {L : List (List Nat)} (h : Grp n R L) (he : ∀ a b, a < n → b < n → (R a b ↔ R' a b)) (hlt : ∀ a b, a < n → R' a b → b < n) : Grp n R' L :=
  ⟨h.rise, h.lt, fun l hl x hx y => by
    have hxn := h.lt l hl x hx
    constructor
    · intro hy
      have hyn := h.lt l hl y hy
      have := (h.one l hl x hx y).1 hy
      exact ⟨(he x y hxn hyn).1 this.1, (he y x hyn hxn).1 this.2⟩
    · rintro ⟨k1, k2⟩
      have hyn := hlt x y hxn k1
      exact (h.one l hl x hx y).2 ⟨(he x y hxn hyn).2 k1, (he y x hyn hxn).2 k2⟩, h.all⟩
end Go.Am.Sc
