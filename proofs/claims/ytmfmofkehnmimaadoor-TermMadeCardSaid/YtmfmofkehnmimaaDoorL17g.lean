/- Layer 17: types by numbers in plain Lean: their texts tell them apart, and are closed in brackets. -/
import Derived.Test.YtmfmofkehnmimaaDoorL17e
import Derived.Test.YtmfmofkehnmimaaDoorL17f
set_option maxRecDepth 100000
namespace Go.Am.Tryd
open Go

/-- types by numbers -/
inductive MT where
  | v (n : Nat)
  | i
  | b
  | ar (x y : MT)
  | tu (x y : MT)
  | li (x : MT)

namespace MT

def ty : MT → Ty
  | v n => varT n
  | i => conT sInt []
  | b => conT sBool []
  | ar x y => conT sArrow [x.ty, y.ty]
  | tu x y => conT sComma [x.ty, y.ty]
  | li x => conT sList [x.ty]

def isAr : MT → Bool
  | ar _ _ => true
  | _ => false
def isBr : MT → Bool
  | ar _ _ => true
  | li _ => true
  | _ => false

def text : MT → List UInt8
  | v n => varS n
  | i => sInt
  | b => sBool
  | ar x y => brkS x.isAr x.text ++ ([32, 45, 62, 32] ++ y.text)
  | tu x y => 40 :: (x.text ++ (44 :: 32 :: (y.text ++ [41])))
  | li x => 76 :: 105 :: 115 :: 116 :: 32 :: brkS x.isBr x.text

def small (k : Nat) : MT → Prop
  | v n => n < k
  | i => True
  | b => True
  | ar x y => x.small k ∧ y.small k
  | tu x y => x.small k ∧ y.small k
  | li x => x.small k

def size : MT → Nat
  | v _ => 1
  | i => 1
  | b => 1
  | ar x y => x.size + y.size + 1
  | tu x y => x.size + y.size + 1
  | li x => x.size + 1

theorem isArr_ty (x : MT) : isArr x.ty = x.isAr := by
  cases x <;> rfl
theorem isComp_ty (x : MT) : isComp x.ty = x.isBr := by
  cases x <;> rfl

theorem text_ty : ∀ x : MT, textT x.ty = x.text
  | v n => by simp [ty, text, varT, textT]
  | i => by simp [ty, text, conT, textT, sInt, sArrow, sComma, argsT]
  | b => by simp [ty, text, conT, textT, sBool, sArrow, sComma, argsT]
  | ar x y => by simp [ty, text, conT, textT, arrT, headT, isArr_ty, text_ty x, text_ty y]
  | tu x y => by simp [ty, text, conT, textT, sArrow, sComma, commaT, text_ty x, text_ty y]
  | li x => by simp [ty, text, conT, textT, sArrow, sComma, sList, argsT, isComp_ty, text_ty x]

theorem good_ty {k : Nat} (hk : k ≤ 2600) : ∀ x : MT, x.small k → good x.ty
  | v n, h => by
    simp only [small] at h
    simp only [ty, varT, good]
    exact ⟨fun _ => ⟨by omega, by omega⟩, fun h => absurd rfl h⟩
  | i, _ => by simp [ty, conT, good, goods, sInt, sArrow]
  | b, _ => by simp [ty, conT, good, goods, sBool, sArrow]
  | ar x y, h => by simp [ty, conT, good, goods, good_ty hk x h.1, good_ty hk y h.2]
  | tu x y, h => by simp [ty, conT, good, goods, good_ty hk x h.1, good_ty hk y h.2]
  | li x, h => by simp [ty, conT, good, goods, sList, sArrow, good_ty hk x h]

/-- Make -/
def mk (k : Nat) : List UInt8 → MT
  | [] => i
  | c :: l =>
    if c.toNat % 3 = 0 ∨ (l = [] ∧ c.toNat % 3 = 1) then v (c.toNat / 3 % k)
    else match c.toNat / 3 % 5 with
      | 0 => if c.toNat / 15 % 2 = 0 then i else b
      | 1 => ar (mk k l) (mk k (l.drop (l.length / 2)))
      | 2 => ar (mk k l) (mk k (l.drop (l.length / 2)))
      | 3 => tu (mk k (l.drop (l.length / 2))) (mk k l)
      | _ => li (mk k l)
termination_by l => l.length

theorem mk_ty (k : Nat) : ∀ (n : Nat) (l : List UInt8), l.length ≤ n → mkT k l = (mk k l).ty
  | _, [], _ => by rw [mkT, mk]; rfl
  | n + 1, c :: l, h => by
    simp at h
    have h1 := mk_ty k n l h
    have h2 := mk_ty k n (l.drop (l.length / 2)) (by simp; omega)
    rw [mkT, mk]
    split
    · rfl
    · generalize c.toNat / 3 % 5 = q
      rcases q with _ | _ | _ | _ | q
      · simp only
        split <;> rfl
      all_goals simp [ty, h1, h2]

theorem mk_small (k : Nat) (hk : 0 < k) : ∀ (n : Nat) (l : List UInt8), l.length ≤ n → (mk k l).small k
  | _, [], _ => by rw [mk]; trivial
  | n + 1, c :: l, h => by
    simp at h
    have h1 := mk_small k hk n l h
    have h2 := mk_small k hk n (l.drop (l.length / 2)) (by simp; omega)
    rw [mk]
    split
    · exact Nat.mod_lt _ hk
    · split
      · split <;> trivial
      · exact ⟨h1, h2⟩
      · exact ⟨h1, h2⟩
      · exact ⟨h2, h1⟩
      · exact h1

theorem mk_len (k : Nat) : ∀ (n : Nat) (l : List UInt8), l.length ≤ n → (mk k l).text.length ≤ 22 * 3 ^ n
  | n, [], _ => by
    rw [mk]
    have : 1 ≤ 3 ^ n := Nat.one_le_pow _ _ (by omega)
    simp [text, sInt]; omega
  | n + 1, c :: l, h => by
    simp at h
    have h1 := mk_len k n l h
    have h2 := mk_len k n (l.drop (l.length / 2)) (by simp; omega)
    have h3 : 1 ≤ 3 ^ n := Nat.one_le_pow _ _ (by omega)
    have hv : ∀ m, (varS m).length ≤ 22 := fun m => by
      have := itoa_len ((m / 26 : Nat) : Int)
      unfold varS
      generalize itoa ((m / 26 : Nat) : Int) = s at *
      split <;> simp <;> omega
    rw [mk, Nat.pow_succ]
    split
    · have := hv (c.toNat / 3 % k)
      simp only [text]; omega
    · split
      · split <;> simp [text, sInt, sBool] <;> omega
      · have := (brkS_len (mk k l).isAr (mk k l).text).2
        simp only [text, List.length_append, List.length_cons, List.length_nil]; omega
      · have := (brkS_len (mk k l).isAr (mk k l).text).2
        simp only [text, List.length_append, List.length_cons, List.length_nil]; omega
      · simp only [text, List.length_append, List.length_cons, List.length_nil]; omega
      · have := (brkS_len (mk k l).isBr (mk k l).text).2
        simp only [text, List.length_append, List.length_cons, List.length_nil]; omega

/-! ### one text, one type -/

def stop (r : List UInt8) : Prop := ∀ c l, r = c :: l → c = 41 ∨ c = 44
def stop' (r : List UInt8) : Prop := ∀ c l, r = c :: l → c = 41 ∨ c = 44 ∨ c = 32

theorem stop.up {r : List UInt8} (h : stop r) : stop' r := fun c l e => (h c l e).imp id .inl
theorem stop_41 (l : List UInt8) : stop (41 :: l) := fun c m e => by cases e; exact .inl rfl
theorem stop_44 (l : List UInt8) : stop (44 :: l) := fun c m e => by cases e; exact .inr rfl
theorem stop'_32 (l : List UInt8) : stop' (32 :: l) := fun c m e => by cases e; exact .inr (.inr rfl)

theorem varS_cases {n : Nat} (h : n < 78) : ∃ d : List UInt8, varS n = UInt8.ofNat (97 + n % 26) :: d ∧ ((n < 26 ∧ d = []) ∨ (26 ≤ n ∧ n < 52 ∧ d = [49]) ∨ (52 ≤ n ∧ d = [50])) := by
  unfold varS
  refine ⟨_, rfl, ?_⟩
  by_cases h1 : n < 26
  · exact .inl ⟨h1, by simp [h1]⟩
  by_cases h2 : n < 52
  · refine .inr (.inl ⟨by omega, h2, ?_⟩)
    rw [if_neg h1, show n / 26 = 1 by omega]
    decide
  · refine .inr (.inr ⟨by omega, ?_⟩)
    rw [if_neg h1, show n / 26 = 2 by omega]
    decide

theorem letter {m n : Nat} (h : UInt8.ofNat (97 + m % 26) = UInt8.ofNat (97 + n % 26)) : m % 26 = n % 26 := by
  have h1 : (UInt8.ofNat (97 + m % 26)).toNat = (UInt8.ofNat (97 + n % 26)).toNat := by rw [h]
  have hm : m % 26 < 26 := Nat.mod_lt _ (by omega)
  have hn : n % 26 < 26 := Nat.mod_lt _ (by omega)
  rw [UInt8.toNat_ofNat', UInt8.toNat_ofNat'] at h1
  omega

theorem letter_ge (m : Nat) : 97 ≤ (UInt8.ofNat (97 + m % 26)).toNat := by
  have hm : m % 26 < 26 := Nat.mod_lt _ (by omega)
  rw [UInt8.toNat_ofNat']
  omega

theorem varS_inj {m n : Nat} (hm : m < 78) (hn : n < 78) {r r' : List UInt8} (hr : stop' r) (hr' : stop' r') (h : varS m ++ r = varS n ++ r') : m = n ∧ r = r' := by
  obtain ⟨d, h1, h2⟩ := varS_cases hm
  obtain ⟨e, h3, h4⟩ := varS_cases hn
  rw [h1, h3] at h
  simp only [List.cons_append, List.cons.injEq] at h
  obtain ⟨hl, h⟩ := h
  have hl := letter hl
  have no : ∀ (c : UInt8) (x y : List UInt8), stop' x → x = c :: y → c = 49 ∨ c = 50 → False := by
    intro c x y hs e hc
    rcases hs c y e with rfl | rfl | rfl <;> rcases hc with hc | hc <;> exact absurd hc (by decide)
  rcases h2 with ⟨h2, rfl⟩ | ⟨h2, h2', rfl⟩ | ⟨h2, rfl⟩ <;> rcases h4 with ⟨h4, rfl⟩ | ⟨h4, h4', rfl⟩ | ⟨h4, rfl⟩ <;> simp at h
  · exact ⟨by omega, h⟩
  · exact (no _ _ _ hr h (by simp)).elim
  · exact (no _ _ _ hr h (by simp)).elim
  · exact (no _ _ _ hr' h.symm (by simp)).elim
  · exact ⟨by omega, h⟩
  · exact (no _ _ _ hr' h.symm (by simp)).elim
  · exact ⟨by omega, h⟩

def headP : MT → UInt8 → Prop
  | v _, c => 97 ≤ c.toNat
  | i, c => c = 73
  | b, c => c = 66
  | li _, c => c = 76
  | tu _ _, c => c = 40
  | ar _ _, _ => False

/-- the first letter of what is no arrow -/
theorem head (x : MT) (hx : x.isAr = false) : ∃ c l, x.text = c :: l ∧ headP x c := by
  cases x with
  | v n => exact ⟨_, _, rfl, letter_ge n⟩
  | i => exact ⟨_, _, rfl, rfl⟩
  | b => exact ⟨_, _, rfl, rfl⟩
  | ar x y => simp [isAr] at hx
  | tu x y => exact ⟨_, _, rfl, rfl⟩
  | li x => exact ⟨_, _, rfl, rfl⟩

theorem inj (k : Nat) (hk : k ≤ 78) : ∀ (n : Nat) (x y : MT), x.size + y.size ≤ n → x.small k → y.small k →
    (∀ r r', stop r → stop r' → x.text ++ r = y.text ++ r' → x = y ∧ r = r') ∧
    (x.isAr = false → y.isAr = false → ∀ r r', stop' r → stop' r' → x.text ++ r = y.text ++ r' → x = y ∧ r = r') := by
  intro n
  induction n with
  | zero => intro x y h; cases x <;> simp [size] at h
  | succ n ih =>
    intro x y hs hx hy
    -- a bracket against a tuple: never
    have clash : ∀ (p q s : MT) (u w : List UInt8), p.size + q.size ≤ n → p.small k → q.small k → p.text ++ (41 :: u) = q.text ++ (44 :: w) → False := by
      intro p q s u w h1 h2 h3 h4
      have := ((ih p q h1 h2 h3).1 _ _ (stop_41 u) (stop_44 w) h4).2
      cases this
    -- brackets or none
    have brk : ∀ (p q : MT) (bp bq : Bool), (bp = false → p.isAr = false) → (bq = false → q.isAr = false) → p.size + q.size ≤ n → p.small k → q.small k → ∀ r r', stop' r → stop' r' → brkS bp p.text ++ r = brkS bq q.text ++ r' → p = q ∧ r = r' := by
      intro p q bp bq hp hq h1 h2 h3 r r' hr hr' h
      cases bp <;> cases bq
      · exact (ih p q h1 h2 h3).2 (hp rfl) (hq rfl) r r' hr hr' h
      · exfalso
        obtain ⟨c, l, e, hc⟩ := head p (hp rfl)
        simp only [brkS, if_true, if_false, Bool.false_eq_true] at h
        rw [e] at h
        simp only [List.cons_append, List.cons.injEq] at h
        obtain ⟨rfl, h'⟩ := h
        cases p with
        | tu p1 p2 =>
          simp only [text, List.cons.injEq, true_and] at e
          subst e
          simp only [size] at h1
          simp only [small] at h2
          refine clash q p1 p2 r' (32 :: (p2.text ++ [41] ++ r)) (by omega) h3 h2.1 ?_
          simpa using h'.symm
        | v n => revert hc; show 97 ≤ (40 : UInt8).toNat → False; decide
        | i => revert hc; show (40 : UInt8) = 73 → False; decide
        | b => revert hc; show (40 : UInt8) = 66 → False; decide
        | li x => revert hc; show (40 : UInt8) = 76 → False; decide
        | ar x y => exact hc
      · exfalso
        obtain ⟨c, l, e, hc⟩ := head q (hq rfl)
        simp only [brkS, if_true, if_false, Bool.false_eq_true] at h
        rw [e] at h
        simp only [List.cons_append, List.cons.injEq] at h
        obtain ⟨rfl, h'⟩ := h
        cases q with
        | tu p1 p2 =>
          simp only [text, List.cons.injEq, true_and] at e
          subst e
          simp only [size] at h1
          simp only [small] at h3
          refine clash p p1 p2 r (32 :: (p2.text ++ [41] ++ r')) (by omega) h2 h3.1 ?_
          simpa using h'
        | v n => revert hc; show 97 ≤ (40 : UInt8).toNat → False; decide
        | i => revert hc; show (40 : UInt8) = 73 → False; decide
        | b => revert hc; show (40 : UInt8) = 66 → False; decide
        | li x => revert hc; show (40 : UInt8) = 76 → False; decide
        | ar x y => exact hc
      · simp only [brkS, if_true, List.cons_append, List.cons.injEq, true_and, List.append_assoc, List.nil_append] at h
        obtain ⟨e1, e2⟩ := (ih p q h1 h2 h3).1 _ _ (stop_41 r) (stop_41 r') h
        exact ⟨e1, by simpa using e2⟩
    have Q : x.isAr = false → y.isAr = false → ∀ r r', stop' r → stop' r' → x.text ++ r = y.text ++ r' → x = y ∧ r = r' := by
      intro ax ay r r' hr hr' h
      have hd : ∀ c l c' l', x.text = c :: l → y.text = c' :: l' → c = c' := by
        intro c l c' l' e e'
        rw [e, e'] at h
        simp at h
        exact h.1
      obtain ⟨c, l, e, hc⟩ := head x ax
      obtain ⟨c', l', e', hc'⟩ := head y ay
      have hcc := hd _ _ _ _ e e'
      subst hcc
      cases x <;> cases y <;> simp only [isAr, Bool.true_eq_false] at ax ay <;> simp only [headP] at hc hc'
      case v.v m p =>
        obtain ⟨e1, e2⟩ := varS_inj (by simp only [small] at hx; omega) (by simp only [small] at hy; omega) hr hr' h
        exact ⟨by rw [e1], e2⟩
      case i.i => exact ⟨rfl, by simpa [text] using h⟩
      case b.b => exact ⟨rfl, by simpa [text] using h⟩
      case tu.tu p q p' q' =>
        simp only [size] at hs
        simp only [small] at hx hy
        simp only [text, List.cons_append, List.cons.injEq, true_and, List.append_assoc, List.nil_append] at h
        obtain ⟨e1, h1⟩ := (ih p p' (by omega) hx.1 hy.1).1 _ _ (stop_44 _) (stop_44 _) h
        simp only [List.cons.injEq, true_and] at h1
        obtain ⟨e2, h2⟩ := (ih q q' (by omega) hx.2 hy.2).1 _ _ (stop_41 _) (stop_41 _) h1
        exact ⟨by rw [e1, e2], by simpa using h2⟩
      case li.li p p' =>
        simp only [size] at hs
        simp only [small] at hx hy
        simp only [text, List.cons_append, List.cons.injEq, true_and] at h
        obtain ⟨e1, h1⟩ := brk p p' p.isBr p'.isBr (by cases p <;> simp [isAr, isBr]) (by cases p' <;> simp [isAr, isBr]) (by omega) hx hy r r' hr hr' h
        exact ⟨by rw [e1], h1⟩
      all_goals first
        | (subst hc; exact absurd hc' (by decide))
        | (subst hc'; exact absurd hc (by decide))
    refine ⟨fun r r' hr hr' h => ?_, Q⟩
    cases ax : x.isAr <;> cases ay : y.isAr
    · exact Q ax ay r r' hr.up hr'.up h
    · cases y <;> simp [isAr] at ay
      rename_i p q
      simp only [size] at hs
      simp only [small] at hy
      simp only [text, List.append_assoc] at h
      have := (brk x p false p.isAr (fun _ => ax) id (by omega) hx hy.1 r _ hr.up (stop'_32 _) h).2
      rcases hr _ _ this with h | h <;> exact absurd h (by decide)
    · cases x <;> simp [isAr] at ax
      rename_i p q
      simp only [size] at hs
      simp only [small] at hx
      simp only [text, List.append_assoc] at h
      have := (brk p y p.isAr false id (fun _ => ay) (by omega) hx.1 hy _ r' (stop'_32 _) hr'.up h).2
      rcases hr' _ _ this.symm with h | h <;> exact absurd h (by decide)
    · cases x <;> simp [isAr] at ax
      cases y <;> simp [isAr] at ay
      rename_i p q p' q'
      simp only [size] at hs
      simp only [small] at hx hy
      simp only [text, List.append_assoc] at h
      obtain ⟨e1, h1⟩ := brk p p' p.isAr p'.isAr id id (by omega) hx.1 hy.1 _ _ (stop'_32 _) (stop'_32 _) h
      have h1 : q.text ++ r = q'.text ++ r' := by
        injection h1 with _ h1
        injection h1 with _ h1
        injection h1 with _ h1
        injection h1 with _ h1
      obtain ⟨e2, h2⟩ := (ih q q' (by omega) hx.2 hy.2).1 r r' hr hr' h1
      exact ⟨by rw [e1, e2], h2⟩

theorem text_inj {k : Nat} (hk : k ≤ 78) {x y : MT} (hx : x.small k) (hy : y.small k) (h : x.text = y.text) : x = y := by
  have := (inj k hk (x.size + y.size) x y (Nat.le_refl _) hx hy).1 [] [] (fun c l e => by cases e) (fun c l e => by cases e) (by simpa using h)
  exact this.1

theorem same_ty : ∀ x y : MT, x.ty.same y.ty = true → x = y
  | v m, y, h => by
    cases y <;> simp [ty, varT, conT, Ty.same] at h
    rename_i n
    have : m = n := by have := h.1; omega
    rw [this]
  | i, y, h => by cases y <;> simp [ty, varT, conT, Ty.same, sInt, sBool, sArrow, sComma, sList] at h; rfl
  | b, y, h => by cases y <;> simp [ty, varT, conT, Ty.same, sInt, sBool, sArrow, sComma, sList] at h; rfl
  | ar p q, y, h => by
    cases y <;> simp [ty, varT, conT, Ty.same, Ty.sames, sInt, sBool, sArrow, sComma, sList] at h
    rw [same_ty p _ h.1, same_ty q _ h.2]
  | tu p q, y, h => by
    cases y <;> simp [ty, varT, conT, Ty.same, Ty.sames, sInt, sBool, sArrow, sComma, sList] at h
    rw [same_ty p _ h.1, same_ty q _ h.2]
  | li p, y, h => by
    cases y <;> simp [ty, varT, conT, Ty.same, Ty.sames, sInt, sBool, sArrow, sComma, sList] at h
    rw [same_ty p _ h]

/-- one text just where they are one -/
theorem text_same {k : Nat} (hk : k ≤ 78) {x y : MT} (hx : x.small k) (hy : y.small k) : (x.text == y.text) = x.ty.same y.ty := by
  cases h : x.ty.same y.ty with
  | true => rw [same_ty x y h]; simp
  | false =>
    simp only [beq_eq_false_iff_ne, ne_eq]
    intro e
    rw [text_inj hk hx hy e, same_refl] at h
    cases h

/-! ### brackets are closed -/

/-- how many brackets are open; nothing: one too many was closed -/
def cnt : Nat → List UInt8 → Option Nat
  | o, [] => some o
  | o, c :: l => if c = 40 then cnt (o + 1) l else if c = 41 then (match o with | 0 => none | o + 1 => cnt o l) else cnt o l

theorem cnt_plain : ∀ (s r : List UInt8) (o : Nat), (∀ c ∈ s, c ≠ 40 ∧ c ≠ 41) → cnt o (s ++ r) = cnt o r
  | [], r, o, _ => rfl
  | c :: s, r, o, h => by
    have h1 := h c (by simp)
    simp only [List.cons_append, cnt, if_neg h1.1, if_neg h1.2]
    exact cnt_plain s r o fun d hd => h d (by simp [hd])

theorem cnt_brk (x : List UInt8) (b : Bool) (h : ∀ o r, cnt o (x ++ r) = cnt o r) (o : Nat) (r : List UInt8) : cnt o (brkS b x ++ r) = cnt o r := by
  unfold brkS
  split
  · simp [cnt, h]
  · exact h o r

theorem cnt_text (k : Nat) (hk : k ≤ 78) : ∀ (x : MT), x.small k → ∀ o r, cnt o (x.text ++ r) = cnt o r
  | v n, hx, o, r => by
    refine cnt_plain _ _ _ fun c hc => ?_
    obtain ⟨d, h1, h2⟩ := varS_cases (n := n) (by simp only [small] at hx; omega)
    simp only [text] at hc
    rw [h1] at hc
    rcases List.mem_cons.1 hc with rfl | hc
    · have := letter_ge n
      constructor <;> intro e <;> rw [e] at this <;> exact absurd this (by decide)
    · rcases h2 with ⟨_, rfl⟩ | ⟨_, _, rfl⟩ | ⟨_, rfl⟩ <;> simp at hc <;> subst hc <;> decide
  | i, _, o, r => cnt_plain _ _ _ (by decide)
  | b, _, o, r => cnt_plain _ _ _ (by decide)
  | ar p q, hx, o, r => by
    simp only [text, List.append_assoc]
    rw [cnt_brk _ _ (cnt_text k hk p hx.1), cnt_plain _ _ _ (by decide), cnt_text k hk q hx.2]
  | tu p q, hx, o, r => by
    simp only [text, List.cons_append, List.append_assoc, List.nil_append]
    simp only [cnt, if_true]
    rw [cnt_text k hk p hx.1]
    simp only [cnt, show ¬ ((44 : UInt8) = 40) by decide, show ¬ ((44 : UInt8) = 41) by decide, show ¬ ((32 : UInt8) = 40) by decide, show ¬ ((32 : UInt8) = 41) by decide, if_false]
    rw [cnt_text k hk q hx.2]
    simp [cnt]
  | li p, hx, o, r => by
    have h1 : ∀ l, (76 :: 105 :: 115 :: 116 :: 32 :: l : List UInt8) = [76, 105, 115, 116, 32] ++ l := fun l => rfl
    simp only [text, List.cons_append]
    rw [h1, cnt_plain _ _ _ (by decide), cnt_brk _ _ (cnt_text k hk p hx)]

end MT

end Go.Am.Tryd
