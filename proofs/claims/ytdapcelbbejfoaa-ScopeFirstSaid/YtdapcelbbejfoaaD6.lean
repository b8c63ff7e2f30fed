/- Layer 12: data.Check. -/
import Derived.Test.YtdapcelbbejfoaaD5
set_option linter.unusedVariables false
set_option maxRecDepth 100000
set_option linter.unusedSimpArgs false
namespace Go.Am.Try
open Go Go.Am.Ps

theorem eqK_iff (a b : Key) : eqK a b = decide (a = b) := by
  obtain ⟨a1, a2⟩ := a
  obtain ⟨b1, b2⟩ := b
  simp only [eqK, eqS_iff, Prod.mk.injEq]
  by_cases h1 : a1 = b1
  · subst h1; cases a2 <;> cases b2 <;> simp
  · have : (a1 == b1) = false := by simpa using h1
    simp [this, h1]

/-- the map of names that have been seen -/
def T115 : Tab ctx 115 Key Bool where
  tk := ⟨.strct [(0, 9), (1, 4)], 2, 24, .agg [.str [], .bool false], [.str, .bool]⟩
  te := ⟨.bool, 1, 1, .bool false, [.bool]⟩
  ek := fun k => .agg [.str k.1, .bool k.2]
  ev := .bool
  z := false
  map := by rfl
  key := fun k => rfl
  kfit := fun k => rfl
  eq := fun k x => by
    obtain ⟨k1, k2⟩ := k
    obtain ⟨x1, x2⟩ := x
    simp only [eqA, AV.cells, eqLeaves, eqLeaf, Prod.mk.injEq, Bool.and_true]
    by_cases h1 : k1 = x1
    · subst h1
      cases k2 <;> cases x2 <;> simp
    · have : (k1 == x1) = false := by simpa using h1
      simp [this, h1]
  vfit := fun v => rfl
  zero := rfl

/-- what has been seen, in the heap -/
structure KH (had : List Key) (σ : H) : Prop where
  it : ∃ l, σ[0]? = some (.map (T115.enc l)) ∧ ∀ k, (getT l k).getD false = memK had k

theorem KH.look {had : List Key} {σ : H} (h : KH had σ) (s : Str) (b : Bool) : lookupA ctx 115 (.map 0) (.agg [.str s, .bool b]) false σ = some (.bool (memK had (s, b)), σ) := by
  obtain ⟨l, h1, h2⟩ := h.it
  have := T115.look h1 (s, b)
  have e : T115.z = false := rfl
  rw [e, h2] at this
  exact this

theorem KH.up {had : List Key} {σ : H} (h : KH had σ) (s : Str) (b : Bool) : ∃ σ', updateA ctx 115 (.map 0) (.agg [.str s, .bool b]) (.bool true) σ = some ((), σ') ∧ KH ((s, b) :: had) σ' ∧ σ'.length = σ.length ∧ ∀ j, j ≠ 0 → σ'[j]? = σ[j]? := by
  obtain ⟨l, h1, h2⟩ := h.it
  refine ⟨_, T115.up h1 (s, b) true, ⟨⟨putT (s, b) true l, ?_, fun k => ?_⟩⟩, by simp, fun j hj => List.getElem?_set_ne (Ne.symm hj)⟩
  · have := (List.getElem?_eq_some_iff.1 h1).1
    simp [this]
  · rw [getT_put]
    have : memK ((s, b) :: had) k = (eqK k (s, b) || memK had k) := by simp [memK]
    rw [this, eqK_iff, ← h2]
    split
    · rename_i h; simp [h]
    · rename_i h; simp [h]

theorem KH.app {had : List Key} {σ : H} (h : KH had σ) (o : HObj) : KH had (σ ++ [o]) := by
  obtain ⟨l, h1, h2⟩ := h.it
  exact ⟨⟨l, by rw [List.getElem?_append_left (List.getElem?_eq_some_iff.1 h1).1]; exact h1, h2⟩⟩

/-- the closure of Check -/
theorem cl61 {l : List Da} {nl : Bool} (hl : l.length < big) (d : Da) (hd : okD d) (σ : H) (q : Nat) (hq : σ[q]? = some (.arr false 4 [encD d])) (t : Ps.Ty) (ht : okT t) :
    Cl σ 61 [.adr (encR 4 nl (encDs l)), .ptr q 1 0 0] (encY t) (!rightT l d.vs.length t) := by
  obtain ⟨k, hk⟩ := right_ans l nl hl d.vs.length t ht
  have hs : snapL σ [encY t, .adr (encR 4 nl (encDs l)), .ptr q 1 0 0] = none := by
    have h : snapA σ 200 (.ptr q 1 0 0) = none := by
      unfold snapA
      rw [if_neg (by simp)]
    unfold snapL
    simp only [mapO2, h]
    cases snapA σ 200 (encY t) <;> cases snapA σ 200 (.adr (encR 4 nl (encDs l))) <;> rfl
  unfold encD at hq
  refine AnsH.of fn61_ (by simp) hs (by simp) ⟨k, fun N hN => ?_⟩
  have hk := hk N hN
  simp -implicitDefEqProofs [i61, c61, hk, hq]

theorem any_cl {l : List Da} {v : Int} (ts : List Ps.Ty) : (ts.map fun t => !rightT l v t).any id = !rightTs l v ts := any_right l v ts

theorem has61 {l : List Da} {nl : Bool} (hl : l.length < big) (d : Da) (hd : okD d) (σ : H) (q : Nat) (hq : σ[q]? = some (.arr false 4 [encD d])) (ts : List Ps.Ty) (hts : okTs ts) (hb : ts.length ≤ lim) :
    AnsH ctx 60 [encR 4 true (encYs ts), .fn 61 [.adr (encR 4 nl (encDs l)), .ptr q 1 0 0]] σ (.bool (!rightTs l d.vs.length ts)) σ := by
  have hm : ∀ ts : List Ps.Ty, okTs ts → ∀ t ∈ ts, okT t := by
    intro ts
    induction ts with
    | nil => intro _ t ht; cases ht
    | cons u us ih =>
      intro h t ht
      unfold okTs at h
      rcases List.mem_cons.1 ht with e | ht
      · rw [e]; exact h.1
      · exact ih h.2 t ht
  obtain ⟨e1, e2⟩ := map_pair encY (fun t => !rightT l d.vs.length t) ts
  have := has60_at σ 61 [.adr (encR 4 nl (encDs l)), .ptr q 1 0 0] (ts.map fun t => (encY t, !rightT l d.vs.length t)) true (by unfold lim at hb; simp [big]; omega) (by simp)
    (fun p hp => by obtain ⟨t, ht, rfl⟩ := List.mem_map.1 hp; exact cl61 hl d hd σ q hq t (hm ts hts t ht)) (fun p hp ti => by obtain ⟨t, _, rfl⟩ := List.mem_map.1 hp; exact encY_fits t ti)
  rw [e1, e2, any_right, ← encYs_map] at this
  exact this

/-- Check's loop over Cons -/
theorem lp29_0a {l : List Da} {nl : Bool} (hl : l.length < big) (d : Da) (hd : okD d) (q : Nat) (hq0 : q ≠ 0) (X13 X14 X15 : AV) : ∀ (r : List Cn) (j : Nat) (had : List Key) (σ : H), Tail (encCs d.cs) j (encCs r) → (∀ c ∈ r, okC c) → KH had σ → σ[q]? = some (.arr false 4 [encD d]) →
    ∃ e fr' σ', Lp ctx [6] [1] [1, 4, 6, 13, 14, 15, 36, 37, 38] b29_0a ⟨[(1, .v (.adr (encR 4 nl (encDs l)))), (4, .v (.map 0)), (6, .v (.ptr q 1 0 0)), (13, .v X13), (14, .v X14), (15, .v X15), (36, .v (encR 3 true (encCs d.cs))), (37, .v (.int .i64 d.cs.length)), (38, .v (.int .i64 j))], false⟩ σ e fr' σ' ∧ fr'.lk = false ∧ σ'.length = σ.length ∧
      (match chkC l d.vs.length had r with
       | .error a => e = .ret ∧ getS fr'.sl 2 = .v (.int .i64 6) ∧ getS fr'.sl 3 = .v (.int .i64 a)
       | .ok had' => e = .ex 2 ∧ KH had' σ' ∧ getS fr'.sl 1 = .v (.adr (encR 4 nl (encDs l))) ∧ getS fr'.sl 4 = .v (.map 0) ∧ getS fr'.sl 13 = .v X13 ∧ getS fr'.sl 14 = .v X14 ∧ getS fr'.sl 15 = .v X15 ∧ getS fr'.sl 60 = .u)
  | [], j, had, σ, h, hc, hk, hq => by
    have h' := h.nil
    simp only [encCs_length] at h'
    refine ⟨.ex 2, ?_, σ, Lp.exit ⟨0, fun N _ => ?_⟩ (by simp), ?_⟩
    rotate_left
    · simp -implicitDefEqProofs [b29_0a, h']
      rfl
    · exact ⟨by simp, rfl, rfl, hk, by simp, by simp, by simp, by simp, by simp, by simp⟩
  | c :: r, j, had, σ, h, hc, hk, hq => by
    have hlen := h.len
    simp only [encCs_cons] at h
    obtain ⟨g1, g2, g3, g4, g5⟩ := h.cons
    simp only [encCs_length] at hlen g2 g3
    have hcl : d.cs.length < big := by have := hd.2.1; unfold lim at this; unfold big; omega
    have hw := wrap_succ (n := j) (by simp at hlen; omega)
    have g6 := g5 3 true
    have hck := hc c (by simp)
    unfold encC at g1
    have hlk := hk.look c.s true
    rw [g6]
    unfold chkC
    cases hm : memK had (c.s, true) with
    | true =>
      rw [hm] at hlk
      simp only [Bool.true_or]
      refine ⟨.ret, ?_, σ, Lp.exit ⟨0, fun N hN => ?_⟩ (by simp), ?_⟩
      rotate_left
      · simp -implicitDefEqProofs [b29_0a, g1, g2, g3, hlk]
        rfl
      · exact ⟨by simp, rfl, rfl, by simp, by simp⟩
    | false =>
      rw [hm] at hlk
      obtain ⟨k, hkk⟩ := has61 (nl := nl) hl d hd σ q hq c.as hck.2 hck.1
      cases hr : rightTs l d.vs.length c.as with
      | false =>
        rw [hr] at hkk
        simp only [Bool.not_false, Bool.or_true]
        refine ⟨.ret, ?_, σ, Lp.exit ⟨k, fun N hN => ?_⟩ (by simp), ?_⟩
        rotate_left
        · have hkk := hkk N hN
          simp -implicitDefEqProofs [b29_0a, g1, g2, g3, hlk, hkk]
          rfl
        · exact ⟨by simp, rfl, rfl, by simp, by simp⟩
      | true =>
        rw [hr] at hkk
        obtain ⟨σ1, hu, hk1, hl1, hne⟩ := hk.up c.s true
        obtain ⟨e, fr', σ', l1, l2, l3, l4⟩ := lp29_0a (nl := nl) hl d hd q hq0 X13 X14 X15 r (j + 1) ((c.s, true) :: had) σ1 g4 (fun x hx => hc x (by simp [hx])) hk1 (by rw [hne q hq0]; exact hq)
        rw [g6] at l1
        simp only [Bool.not_true, Bool.or_false]
        refine ⟨e, fr', σ', Lp.step ⟨k, fun N hN => ?_⟩ l1, l2, by rw [l3, hl1], l4⟩
        have hkk := hkk N hN
        simp -implicitDefEqProofs [b29_0a, g1, g2, g3, hlk, hkk, hu, hw]

/-- Check's loop over declarations -/
theorem lp29_1a {l : List Da} {nl : Bool} (hl : l.length < big) : ∀ (r : List Da) (i : Nat) (had : List Key) (σ : H), Tail (encDs l) i (encDs r) → (∀ d ∈ r, okD d) → KH had σ → 
    ∃ e fr' σ', Lp ctx [6] [1] [1, 4, 13, 14, 15] b29_1a ⟨[(1, .v (.adr (encR 4 nl (encDs l)))), (4, .v (.map 0)), (13, .v (encR 4 nl (encDs l))), (14, .v (.int .i64 l.length)), (15, .v (.int .i64 i))], false⟩ σ e fr' σ' ∧ fr'.lk = false ∧
      (match chkD l had r with
       | some a => e = .ret ∧ getS fr'.sl 2 = .v (.int .i64 6) ∧ getS fr'.sl 3 = .v (.int .i64 a)
       | none => e = .ex 0 ∧ getS fr'.sl 2 = .u ∧ getS fr'.sl 3 = .u)
  | [], i, had, σ, h, hc, hk => by
    have h' := h.nil
    simp only [encDs_length] at h'
    refine ⟨.ex 0, ?_, σ, Lp.exit ⟨0, fun N _ => ?_⟩ (by simp), ?_⟩
    rotate_left
    · simp -implicitDefEqProofs [b29_1a, h']
      rfl
    · exact ⟨by simp, rfl, by simp, by simp⟩
  | d :: r, i, had, σ, h, hc, hk => by
    have hlen := h.len
    simp only [encDs_cons] at h
    obtain ⟨g1, g2, g3, g4, g5⟩ := h.cons
    simp only [encDs_length] at hlen g2 g3
    have hw := wrap_succ (n := i) (by simp at hlen; omega)
    have g6 := g5 4 nl
    have hd := hc d (by simp)
    have hs0 : σ.length ≠ 0 := by
      obtain ⟨l', h1, _⟩ := hk.it
      have := (List.getElem?_eq_some_iff.1 h1).1
      omega
    have hk0 := hk.app (.arr false 4 [encD d])
    have hlk := hk0.look d.s false
    have hq : (σ ++ [.arr false 4 [encD d]])[σ.length]? = some (.arr false 4 [encD d]) := by simp
    generalize hτ : σ ++ [HObj.arr false 4 [encD d]] = τ at hk0 hlk hq
    obtain ⟨k, hkk⟩ := twice_ans d.vs true hd.1
    have l0 := fun h' => lp29_1a (nl := nl) hl r (i + 1) h'
    rw [g6] at l0 ⊢
    unfold encD at g1 hq hτ
    unfold chkD
    cases hm : memK had (d.s, false) with
    | true =>
      rw [hm] at hlk
      simp only [Bool.true_or]
      refine ⟨.ret, ?_, τ, Lp.exit ⟨0, fun N hN => ?_⟩ (by simp), ?_⟩
      rotate_left
      · simp -implicitDefEqProofs [b29_1a, g1, g2, g3, hlk, hq, hτ]
        rfl
      · exact ⟨by simp, rfl, by simp, by simp⟩
    | false =>
      rw [hm] at hlk
      cases hr : dupS d.vs with
      | true =>
        rw [hr] at hkk
        simp only [Bool.or_true]
        refine ⟨.ret, ?_, τ, Lp.exit ⟨k, fun N hN => ?_⟩ (by simp), ?_⟩
        rotate_left
        · have hkk := hkk N hN
          simp -implicitDefEqProofs [b29_1a, g1, g2, g3, hlk, hq, hτ, hkk]
          rfl
        · exact ⟨by simp, rfl, by simp, by simp⟩
      | false =>
        rw [hr] at hkk
        simp only [Bool.or_false]
        obtain ⟨σ1, hu, hk1, hl1, hne⟩ := hk0.up d.s false
        have hq1 : σ1[σ.length]? = some (.arr false 4 [encD d]) := by rw [hne _ hs0]; exact hq
        obtain ⟨e1, fr1, σ2, m1, m2, m3, m4⟩ := lp29_0a (nl := nl) hl d hd σ.length hs0 (.sl 4 (encDs l)) (.int .i64 l.length) (.int .i64 i) d.cs 0 ((d.s, false) :: had) σ1 (Tail.all _) hd.2.2 hk1 hq1
        rw [g6] at m1
        obtain ⟨k2, hk2⟩ := m1.den
        unfold encD at hq1
        cases hcc : chkC l d.vs.length ((d.s, false) :: had) d.cs with
        | error a =>
          rw [hcc] at m4
          obtain ⟨rfl, m5, m6⟩ := m4
          refine ⟨.ret, fr1, σ2, Lp.exit ⟨k + k2, fun N hN => ?_⟩ (by simp), m2, rfl, m5, m6⟩
          have hkk := hkk N (by omega)
          have hk2 := hk2 N (by omega)
          simp only [Int.cast_ofNat_Int] at hk2
          simp -implicitDefEqProofs [b29_1a, g1, g2, g3, hlk, hq, hτ, hkk, hu, hq1, hk2]
        | ok had' =>
          rw [hcc] at m4
          obtain ⟨rfl, m5, m6, m7, m8, m9, m10, m11⟩ := m4
          obtain ⟨e, fr', σ', l1, l2, l3⟩ := l0 had' σ2 g4 (fun x hx => hc x (by simp [hx])) m5
          simp only
          refine ⟨e, fr', σ', Lp.step ⟨k + k2, fun N hN => ?_⟩ l1, l2, l3⟩
          have hkk := hkk N (by omega)
          have hk2 := hk2 N (by omega)
          simp only [g6] at m6
          simp only [Int.cast_ofNat_Int] at hk2
          simp -implicitDefEqProofs [b29_1a, g1, g2, g3, hlk, hq, hτ, hkk, hu, hq1, hk2, hw, m2, m6, m7, m8, m9, m10, m11]

/-- Check's loop over Cons -/
theorem lp29_0b {l : List Da} {nl : Bool} (hl : l.length < big) (d : Da) (hd : okD d) (q : Nat) (hq0 : q ≠ 0) (X13 X14 X15 : AV) : ∀ (r : List Cn) (j : Nat) (had : List Key) (σ : H), Tail (encCs d.cs) j (encCs r) → (∀ c ∈ r, okC c) → KH had σ → σ[q]? = some (.arr false 4 [encD d]) →
    ∃ e fr' σ', Lp ctx [6] [1] [1, 4, 6, 13, 14, 15, 36, 37, 38] b29_0b ⟨[(1, .v (.adr (encR 4 nl (encDs l)))), (4, .v (.map 0)), (6, .v (.ptr q 1 0 0)), (13, .v X13), (14, .v X14), (15, .v X15), (36, .v (encR 3 true (encCs d.cs))), (37, .v (.int .i64 d.cs.length)), (38, .v (.int .i64 j))], false⟩ σ e fr' σ' ∧ fr'.lk = false ∧ σ'.length = σ.length ∧
      (match chkC l d.vs.length had r with
       | .error a => e = .ret ∧ getS fr'.sl 2 = .v (.int .i64 6) ∧ getS fr'.sl 3 = .v (.int .i64 a)
       | .ok had' => e = .ex 2 ∧ KH had' σ' ∧ getS fr'.sl 1 = .v (.adr (encR 4 nl (encDs l))) ∧ getS fr'.sl 4 = .v (.map 0) ∧ getS fr'.sl 13 = .v X13 ∧ getS fr'.sl 14 = .v X14 ∧ getS fr'.sl 15 = .v X15 ∧ getS fr'.sl 60 = .u)
  | [], j, had, σ, h, hc, hk, hq => by
    have h' := h.nil
    simp only [encCs_length] at h'
    refine ⟨.ex 2, ?_, σ, Lp.exit ⟨0, fun N _ => ?_⟩ (by simp), ?_⟩
    rotate_left
    · simp -implicitDefEqProofs [b29_0b, h']
      rfl
    · exact ⟨by simp, rfl, rfl, hk, by simp, by simp, by simp, by simp, by simp, by simp⟩
  | c :: r, j, had, σ, h, hc, hk, hq => by
    have hlen := h.len
    simp only [encCs_cons] at h
    obtain ⟨g1, g2, g3, g4, g5⟩ := h.cons
    simp only [encCs_length] at hlen g2 g3
    have hcl : d.cs.length < big := by have := hd.2.1; unfold lim at this; unfold big; omega
    have hw := wrap_succ (n := j) (by simp at hlen; omega)
    have g6 := g5 3 true
    have hck := hc c (by simp)
    unfold encC at g1
    have hlk := hk.look c.s true
    rw [g6]
    unfold chkC
    cases hm : memK had (c.s, true) with
    | true =>
      rw [hm] at hlk
      simp only [Bool.true_or]
      refine ⟨.ret, ?_, σ, Lp.exit ⟨0, fun N hN => ?_⟩ (by simp), ?_⟩
      rotate_left
      · simp -implicitDefEqProofs [b29_0b, g1, g2, g3, hlk]
        rfl
      · exact ⟨by simp, rfl, rfl, by simp, by simp⟩
    | false =>
      rw [hm] at hlk
      obtain ⟨k, hkk⟩ := has61 (nl := nl) hl d hd σ q hq c.as hck.2 hck.1
      cases hr : rightTs l d.vs.length c.as with
      | false =>
        rw [hr] at hkk
        simp only [Bool.not_false, Bool.or_true]
        refine ⟨.ret, ?_, σ, Lp.exit ⟨k, fun N hN => ?_⟩ (by simp), ?_⟩
        rotate_left
        · have hkk := hkk N hN
          simp -implicitDefEqProofs [b29_0b, g1, g2, g3, hlk, hkk]
          rfl
        · exact ⟨by simp, rfl, rfl, by simp, by simp⟩
      | true =>
        rw [hr] at hkk
        obtain ⟨σ1, hu, hk1, hl1, hne⟩ := hk.up c.s true
        obtain ⟨e, fr', σ', l1, l2, l3, l4⟩ := lp29_0b (nl := nl) hl d hd q hq0 X13 X14 X15 r (j + 1) ((c.s, true) :: had) σ1 g4 (fun x hx => hc x (by simp [hx])) hk1 (by rw [hne q hq0]; exact hq)
        rw [g6] at l1
        simp only [Bool.not_true, Bool.or_false]
        refine ⟨e, fr', σ', Lp.step ⟨k, fun N hN => ?_⟩ l1, l2, by rw [l3, hl1], l4⟩
        have hkk := hkk N hN
        simp -implicitDefEqProofs [b29_0b, g1, g2, g3, hlk, hkk, hu, hw]

/-- Check's loop over declarations -/
theorem lp29_1b {l : List Da} {nl : Bool} (hl : l.length < big) : ∀ (r : List Da) (i : Nat) (had : List Key) (σ : H), Tail (encDs l) i (encDs r) → (∀ d ∈ r, okD d) → KH had σ → 
    ∃ e fr' σ', Lp ctx [6] [1] [1, 4, 13, 14, 15] b29_1b ⟨[(1, .v (.adr (encR 4 nl (encDs l)))), (4, .v (.map 0)), (13, .v (encR 4 nl (encDs l))), (14, .v (.int .i64 l.length)), (15, .v (.int .i64 i))], false⟩ σ e fr' σ' ∧ fr'.lk = false ∧
      (match chkD l had r with
       | some a => e = .ret ∧ getS fr'.sl 2 = .v (.int .i64 6) ∧ getS fr'.sl 3 = .v (.int .i64 a)
       | none => e = .ex 0 ∧ getS fr'.sl 2 = .u ∧ getS fr'.sl 3 = .u)
  | [], i, had, σ, h, hc, hk => by
    have h' := h.nil
    simp only [encDs_length] at h'
    refine ⟨.ex 0, ?_, σ, Lp.exit ⟨0, fun N _ => ?_⟩ (by simp), ?_⟩
    rotate_left
    · simp -implicitDefEqProofs [b29_1b, h']
      rfl
    · exact ⟨by simp, rfl, by simp, by simp⟩
  | d :: r, i, had, σ, h, hc, hk => by
    have hlen := h.len
    simp only [encDs_cons] at h
    obtain ⟨g1, g2, g3, g4, g5⟩ := h.cons
    simp only [encDs_length] at hlen g2 g3
    have hw := wrap_succ (n := i) (by simp at hlen; omega)
    have g6 := g5 4 nl
    have hd := hc d (by simp)
    have hs0 : σ.length ≠ 0 := by
      obtain ⟨l', h1, _⟩ := hk.it
      have := (List.getElem?_eq_some_iff.1 h1).1
      omega
    have hk0 := hk.app (.arr false 4 [encD d])
    have hlk := hk0.look d.s false
    have hq : (σ ++ [.arr false 4 [encD d]])[σ.length]? = some (.arr false 4 [encD d]) := by simp
    generalize hτ : σ ++ [HObj.arr false 4 [encD d]] = τ at hk0 hlk hq
    obtain ⟨k, hkk⟩ := twice_ans d.vs true hd.1
    have l0 := fun h' => lp29_1b (nl := nl) hl r (i + 1) h'
    rw [g6] at l0 ⊢
    unfold encD at g1 hq hτ
    unfold chkD
    cases hm : memK had (d.s, false) with
    | true =>
      rw [hm] at hlk
      simp only [Bool.true_or]
      refine ⟨.ret, ?_, τ, Lp.exit ⟨0, fun N hN => ?_⟩ (by simp), ?_⟩
      rotate_left
      · simp -implicitDefEqProofs [b29_1b, g1, g2, g3, hlk, hq, hτ]
        rfl
      · exact ⟨by simp, rfl, by simp, by simp⟩
    | false =>
      rw [hm] at hlk
      cases hr : dupS d.vs with
      | true =>
        rw [hr] at hkk
        simp only [Bool.or_true]
        refine ⟨.ret, ?_, τ, Lp.exit ⟨k, fun N hN => ?_⟩ (by simp), ?_⟩
        rotate_left
        · have hkk := hkk N hN
          simp -implicitDefEqProofs [b29_1b, g1, g2, g3, hlk, hq, hτ, hkk]
          rfl
        · exact ⟨by simp, rfl, by simp, by simp⟩
      | false =>
        rw [hr] at hkk
        simp only [Bool.or_false]
        obtain ⟨σ1, hu, hk1, hl1, hne⟩ := hk0.up d.s false
        have hq1 : σ1[σ.length]? = some (.arr false 4 [encD d]) := by rw [hne _ hs0]; exact hq
        obtain ⟨e1, fr1, σ2, m1, m2, m3, m4⟩ := lp29_0b (nl := nl) hl d hd σ.length hs0 (.sl 4 (encDs l)) (.int .i64 l.length) (.int .i64 i) d.cs 0 ((d.s, false) :: had) σ1 (Tail.all _) hd.2.2 hk1 hq1
        rw [g6] at m1
        obtain ⟨k2, hk2⟩ := m1.den
        unfold encD at hq1
        cases hcc : chkC l d.vs.length ((d.s, false) :: had) d.cs with
        | error a =>
          rw [hcc] at m4
          obtain ⟨rfl, m5, m6⟩ := m4
          refine ⟨.ret, fr1, σ2, Lp.exit ⟨k + k2, fun N hN => ?_⟩ (by simp), m2, rfl, m5, m6⟩
          have hkk := hkk N (by omega)
          have hk2 := hk2 N (by omega)
          simp only [Int.cast_ofNat_Int] at hk2
          simp -implicitDefEqProofs [b29_1b, g1, g2, g3, hlk, hq, hτ, hkk, hu, hq1, hk2]
        | ok had' =>
          rw [hcc] at m4
          obtain ⟨rfl, m5, m6, m7, m8, m9, m10, m11⟩ := m4
          obtain ⟨e, fr', σ', l1, l2, l3⟩ := l0 had' σ2 g4 (fun x hx => hc x (by simp [hx])) m5
          simp only
          refine ⟨e, fr', σ', Lp.step ⟨k + k2, fun N hN => ?_⟩ l1, l2, l3⟩
          have hkk := hkk N (by omega)
          have hk2 := hk2 N (by omega)
          simp only [g6] at m6
          simp only [Int.cast_ofNat_Int] at hk2
          simp -implicitDefEqProofs [b29_1b, g1, g2, g3, hlk, hq, hτ, hkk, hu, hq1, hk2, hw, m2, m6, m7, m8, m9, m10, m11]

def chkI : Option Nat → Int × Int
  | some a => (6, (a : Int))
  | none => (0, 0)

theorem run29a (l : List Da) (nl : Bool) (hl : l.length < big) (hd : ∀ d ∈ l, okD d) : ∃ σ', ∃ k, ∀ N, k ≤ N → runFn ctx (acall ctx N) N j29a [encR 4 nl (encDs l)] [] = some (.tup [.int .i64 (chkI (checkData l)).1, .int .i64 (chkI (checkData l)).2], σ') := by
  have hu1 : updateA ctx 115 (.map 0) (.agg [.str [73, 110, 116], .bool false]) (.bool true) [.map []] = some ((), [.map (T115.enc [(([73, 110, 116], false), true)])]) := T115.up (σ := [.map []]) (l := []) rfl ([73, 110, 116], false) true
  have hu2 : updateA ctx 115 (.map 0) (.agg [.str [66, 111, 111, 108], .bool false]) (.bool true) [.map (T115.enc [(([73, 110, 116], false), true)])] = some ((), [.map (T115.enc [(([73, 110, 116], false), true), (([66, 111, 111, 108], false), true)])]) := T115.up (σ := [.map (T115.enc [(([73, 110, 116], false), true)])]) (l := [(([73, 110, 116], false), true)]) rfl ([66, 111, 111, 108], false) true
  have hk : KH [(sInt, false), (sBool, false)] [.map (T115.enc [(([73, 110, 116], false), true), (([66, 111, 111, 108], false), true)])] := ⟨⟨_, rfl, fun k => by
    simp only [memK, List.any_cons, List.any_nil, eqK_iff, getT_cons, getT_nil, Bool.or_false, sInt, sBool]
    split
    · rename_i h; simp [h]
    · rename_i h
      split
      · rename_i h'; simp [h']
      · rename_i h'; simp [h, h']⟩⟩
  generalize T115.enc [(([73, 110, 116], false), true), (([66, 111, 111, 108], false), true)] = M2 at hu2 hk
  generalize T115.enc [(([73, 110, 116], false), true)] = M1 at hu1 hu2
  obtain ⟨e, fr', σ', l1, l2, l3⟩ := lp29_1a (nl := nl) hl l 0 _ _ (Tail.all _) hd hk
  obtain ⟨k, hk⟩ := l1.den
  refine ⟨σ', k, fun N hN => ?_⟩
  have hk := hk N hN
  simp only [Int.cast_ofNat_Int] at hk
  unfold checkData
  cases hc : chkD l [(sInt, false), (sBool, false)] l with
  | some a =>
    rw [hc] at l3
    obtain ⟨rfl, l4, l5⟩ := l3
    simp -implicitDefEqProofs [j29a, c29z, c29a, hu1, hu2, hk, l2, l4, l5, chkI]
  | none =>
    rw [hc] at l3
    obtain ⟨rfl, l4, l5⟩ := l3
    simp -implicitDefEqProofs [j29a, c29z, c29a, hu1, hu2, hk, l2, l4, l5, chkI]

theorem run29b (l : List Da) (nl : Bool) (hl : l.length < big) (hd : ∀ d ∈ l, okD d) : ∃ σ', ∃ k, ∀ N, k ≤ N → runFn ctx (acall ctx N) N j29b [encR 4 nl (encDs l)] [] = some (.tup [.int .i64 (chkI (checkData l)).1, .int .i64 (chkI (checkData l)).2], σ') := by
  have hu1 : updateA ctx 115 (.map 0) (.agg [.str [66, 111, 111, 108], .bool false]) (.bool true) [.map []] = some ((), [.map (T115.enc [(([66, 111, 111, 108], false), true)])]) := T115.up (σ := [.map []]) (l := []) rfl ([66, 111, 111, 108], false) true
  have hu2 : updateA ctx 115 (.map 0) (.agg [.str [73, 110, 116], .bool false]) (.bool true) [.map (T115.enc [(([66, 111, 111, 108], false), true)])] = some ((), [.map (T115.enc [(([66, 111, 111, 108], false), true), (([73, 110, 116], false), true)])]) := T115.up (σ := [.map (T115.enc [(([66, 111, 111, 108], false), true)])]) (l := [(([66, 111, 111, 108], false), true)]) rfl ([73, 110, 116], false) true
  have hk : KH [(sInt, false), (sBool, false)] [.map (T115.enc [(([66, 111, 111, 108], false), true), (([73, 110, 116], false), true)])] := ⟨⟨_, rfl, fun k => by
    simp only [memK, List.any_cons, List.any_nil, eqK_iff, getT_cons, getT_nil, Bool.or_false, sInt, sBool]
    split
    · rename_i h; simp [h]
    · rename_i h
      split
      · rename_i h'; simp [h']
      · rename_i h'; simp [h, h']⟩⟩
  generalize T115.enc [(([66, 111, 111, 108], false), true), (([73, 110, 116], false), true)] = M2 at hu2 hk
  generalize T115.enc [(([66, 111, 111, 108], false), true)] = M1 at hu1 hu2
  obtain ⟨e, fr', σ', l1, l2, l3⟩ := lp29_1b (nl := nl) hl l 0 _ _ (Tail.all _) hd hk
  obtain ⟨k, hk⟩ := l1.den
  refine ⟨σ', k, fun N hN => ?_⟩
  have hk := hk N hN
  simp only [Int.cast_ofNat_Int] at hk
  unfold checkData
  cases hc : chkD l [(sInt, false), (sBool, false)] l with
  | some a =>
    rw [hc] at l3
    obtain ⟨rfl, l4, l5⟩ := l3
    simp -implicitDefEqProofs [j29b, c29z, c29b, hu1, hu2, hk, l2, l4, l5, chkI]
  | none =>
    rw [hc] at l3
    obtain ⟨rfl, l4, l5⟩ := l3
    simp -implicitDefEqProofs [j29b, c29z, c29b, hu1, hu2, hk, l2, l4, l5, chkI]

/-- data.Check -/
theorem check_ans (l : List Da) (nl : Bool) (hl : l.length < big) (hd : ∀ d ∈ l, okD d) : Ans ctx 29 [encR 4 nl (encDs l)] (.tup [.int .i64 (chkI (checkData l)).1, .int .i64 (chkI (checkData l)).2]) := by
  obtain ⟨σ1, h1⟩ := run29a l nl hl hd
  obtain ⟨σ2, h2⟩ := run29b l nl hl hd
  exact Ans.two fn29_ al29_ (by simp) (by simp) (by simp [AV.scalars]) h1 h2

end Go.Am.Try
