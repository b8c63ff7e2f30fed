/- Layers 12 to 14: the reference's parser: the next token. -/
import Derived.Test.YtjbmnkchnbnhcaaGreatDoorP4
set_option linter.unusedVariables false
set_option maxRecDepth 100000
set_option linter.unusedSimpArgs false
namespace Go.Am.Tryz
open Go Go.Am.Ps
def encP (T : List Tok) (E : Nat) (p : PS) : AV := .agg [encR 4 true (encToks T), .int .i64 p.i, .int .i64 E, .bool p.bad, .int .i64 p.at_]
def objP (T : List Tok) (E : Nat) (p : PS) : HObj := .arr false 5 [encP T E p]
structure PO (T : List Tok) (E q : Nat) (σ : H) (p : PS) : Prop where
  obj : σ[q]? = some (objP T E p)
  tl : ∃ pre, pre.length = p.i ∧ T = pre ++ p.r
  sm : T.length ≤ 65536
structure Ext (q : Nat) (σ σ' : H) : Prop where
  len : σ.length ≤ σ'.length
  rest : ∀ j, j < σ.length → j ≠ q → σ'[j]? = σ[j]?
theorem Ext.refl (q : Nat) (σ : H) : Ext q σ σ := ⟨Nat.le_refl _, fun _ _ _ => rfl⟩
theorem Ext.trans {q : Nat} {σ σ1 σ2 : H} (h : Ext q σ σ1) (h' : Ext q σ1 σ2) : Ext q σ σ2 :=
  ⟨Nat.le_trans h.len h'.len, fun j hj hq => by rw [h'.rest j (Nat.lt_of_lt_of_le hj h.len) hq, h.rest j hj hq]⟩
theorem Ext.set (q : Nat) (σ : H) (x : HObj) : Ext q σ (σ.set q x) :=
  ⟨by simp, fun j _ hq => by rw [List.getElem?_set_ne (fun h => hq h.symm)]⟩
theorem Ext.app (q : Nat) (σ τ : H) : Ext q σ (σ ++ τ) :=
  ⟨by simp, fun j hj _ => by rw [List.getElem?_append_left hj]⟩
theorem PO.lt {T : List Tok} {E q : Nat} {σ : H} {p : PS} (h : PO T E q σ p) : q < σ.length := (List.getElem?_eq_some_iff.1 h.obj).1
theorem PO.set {T : List Tok} {E q : Nat} {σ : H} {p : PS} (h : PO T E q σ p) (p' : PS) (ht : ∃ pre, pre.length = p'.i ∧ T = pre ++ p'.r) : PO T E q (σ.set q (objP T E p')) p' :=
  ⟨by rw [List.getElem?_set_self h.lt], ht, h.sm⟩
theorem PO.app {T : List Tok} {E q : Nat} {σ : H} {p : PS} (h : PO T E q σ p) (τ : H) : PO T E q (σ ++ τ) p :=
  ⟨by rw [List.getElem?_append_left h.lt]; exact h.obj, h.tl, h.sm⟩
@[simp] theorem encTok_fits (t : Tok) (ti : TI) : (encTok t).fits ti = (ti.k.isAgg && 4 == ti.size) := rfl
@[simp] theorem encTok_noRef (t : Tok) : (encTok t).noRef = true := rfl
@[simp] theorem encR_lenM (sz : Nat) (nl : Bool) (xs : List AV) : lenM (encR sz nl xs) = pureM (.int .i64 xs.length) := by cases nl <;> cases xs <;> rfl
@[simp] theorem encR_lenOk (sz e : Nat) (nl : Bool) (xs : List AV) : lenOk (.slice e) (encR sz nl xs) = true := by cases nl <;> cases xs <;> rfl
@[simp] theorem encR_cells (sz : Nat) (nl : Bool) (xs : List AV) : (encR sz nl xs).cells = [encR sz nl xs] := by cases nl <;> cases xs <;> rfl
@[simp] theorem encR_fits (sz : Nat) (nl : Bool) (xs : List AV) (ti : TI) : (encR sz nl xs).fits ti = (!ti.k.isAgg && ti.size == 1) := by cases nl <;> cases xs <;> rfl
@[simp] theorem noRefs_encToks' (l : List Tok) : AV.noRefs (encToks l) = true := noRefs_encToks l
theorem PO.next {T : List Tok} {E q : Nat} {σ : H} {p : PS} {t : Tok} {r : List Tok} (h : PO T E q σ p) (hr : p.r = t :: r) :
    encR 4 true (encToks T) = .sl 4 (encToks T) ∧ idxN (p.i : Int) T.length = some p.i ∧ (encToks T)[p.i]? = some (encTok t) ∧ (p.i : Int) < (T.length : Int) ∧ p.i < 65536 ∧ (∃ pre, pre.length = p.i + 1 ∧ T = pre ++ r) := by
  obtain ⟨pre, h1, h2⟩ := h.tl
  rw [hr] at h2
  have hs := h.sm
  have hl : T.length = p.i + (r.length + 1) := by rw [h2]; simp [h1]
  refine ⟨?_, ?_, ?_, by omega, by omega, ⟨pre ++ [t], by simp [h1], by simp [h2]⟩⟩
  · rw [h2]; simp
  · unfold idxN; rw [if_pos (by omega)]; simp
  · rw [h2, ← h1]; simp
theorem PO.end_ {T : List Tok} {E q : Nat} {σ : H} {p : PS} (h : PO T E q σ p) (hr : p.r = []) : T.length = p.i ∧ p.i ≤ 65536 := by
  obtain ⟨pre, h1, h2⟩ := h.tl
  rw [hr] at h2
  have hs := h.sm
  have hl : T.length = p.i := by rw [h2]; simp [h1]
  omega
theorem snapPtr (σ : H) (q : Nat) (l : List AV) : snapL σ (.ptr q 1 0 0 :: l) = none := by
  have h : snapA σ 200 (.ptr q 1 0 0) = none := by
    unfold snapA
    rw [if_neg (by simp)]
  unfold snapL
  simp only [mapO2, h]
set_option maxHeartbeats 2000000 in
theorem peek_ans {T : List Tok} {E q : Nat} {σ : H} {p : PS} (h : PO T E q σ p) (k : Nat) (s : List UInt8) : AnsH ctx 75 [.ptr q 1 0 0, .int .i64 k, .str s] σ (.bool (p.peek k s)) σ := by
  refine AnsH.of fn75_ (by simp) (snapPtr _ _ _) (by simp) ⟨0, fun N _ => ?_⟩
  have ho := h.obj
  unfold objP encP at ho
  unfold PS.peek
  cases hb : p.bad with
  | true =>
    rw [hb] at ho
    simp -implicitDefEqProofs [i75, c75, ho]
  | false =>
    rw [hb] at ho
    cases hr : p.r with
    | nil =>
      obtain ⟨h1, h2⟩ := h.end_ hr
      simp -implicitDefEqProofs [i75, c75, ho, h1]
    | cons t r =>
      obtain ⟨h1, h2, h3, h4, h5, h6⟩ := h.next hr
      rw [h1] at ho
      unfold encTok at h3
      simp only [beq_int, eqS_iff]
      cases e1 : ((t.k : Int) == (k : Int)) with
      | false => simp -implicitDefEqProofs [i75, c75, ho, h2, h3, h4, e1]
      | true =>
        cases s with
        | nil => simp -implicitDefEqProofs [i75, c75, ho, h2, h3, h4, e1]
        | cons c s =>
          cases e2 : t.s == c :: s with
          | true => simp -implicitDefEqProofs [i75, c75, ho, h2, h3, h4, e1, e2]
          | false => simp -implicitDefEqProofs [i75, c75, ho, h2, h3, h4, e1, e2]
theorem encP_set {T : List Tok} {E q : Nat} {σ : H} {p : PS} (h : PO T E q σ p) : σ.set q (objP T E p) = σ := by
  apply List.ext_getElem?
  intro i
  rw [List.getElem?_set]
  split
  · rename_i hi
    subst hi
    rw [if_pos h.lt, h.obj]
  · rfl
theorem fail_ans {T : List Tok} {E q : Nat} {σ : H} {p : PS} (h : PO T E q σ p) : AnsH ctx 121 [.ptr q 1 0 0] σ (.tup []) (σ.set q (objP T E (p.fail E))) := by
  refine AnsH.of fn121_ (by simp) (snapPtr _ _ _) (by simp) ⟨0, fun N _ => ?_⟩
  have ho := h.obj
  have hlt := h.lt
  have hset : ∀ x, (σ.set q x)[q]? = some x := fun x => List.getElem?_set_self hlt
  cases hb : p.bad with
  | true =>
    have e : p.fail E = p := by unfold PS.fail; rw [hb]
    rw [e, encP_set h]
    unfold objP encP at ho
    rw [hb] at ho
    simp -implicitDefEqProofs [i121, c121, ho]
  | false =>
    cases hr : p.r with
    | nil =>
      obtain ⟨h1, h2⟩ := h.end_ hr
      have e : p.fail E = { p with bad := true, at_ := E } := by unfold PS.fail; rw [hb, hr]
      rw [e]
      unfold objP encP at ho ⊢
      rw [hb] at ho
      simp -implicitDefEqProofs [i121, c121, ho, h1, hset]
    | cons t r =>
      obtain ⟨h1, h2, h3, h4, h5, h6⟩ := h.next hr
      have e : p.fail E = { p with bad := true, at_ := t.at_ } := by unfold PS.fail; rw [hb, hr]
      rw [e]
      unfold objP encP at ho ⊢
      rw [h1] at ho ⊢
      rw [hb] at ho
      unfold encTok at h3
      simp -implicitDefEqProofs [i121, c121, ho, h2, h3, h4, hset]
theorem PO.failed {T : List Tok} {E q : Nat} {σ : H} {p : PS} (h : PO T E q σ p) : PO T E q (σ.set q (objP T E (p.fail E))) (p.fail E) := by
  refine h.set _ ?_
  obtain ⟨pre, h1, h2⟩ := h.tl
  refine ⟨pre, ?_, ?_⟩ <;> unfold PS.fail <;> split <;> assumption
theorem PO.nexted {T : List Tok} {E q : Nat} {σ : H} {p : PS} (h : PO T E q σ p) {t : Tok} {r : List Tok} (hr : p.r = t :: r) : PO T E q (σ.set q (objP T E p.next)) p.next := by
  refine h.set _ ?_
  obtain ⟨h1, h2, h3, h4, h5, h6⟩ := h.next hr
  simpa [PS.next, hr] using h6
theorem peek_cons {p : PS} {k : Nat} {s : List UInt8} (h : p.peek k s = true) : p.bad = false ∧ ∃ t r, p.r = t :: r ∧ t.k = k := by
  unfold PS.peek at h
  cases hr : p.r with
  | nil => rw [hr] at h; simp at h
  | cons t r =>
    rw [hr] at h
    simp only [Bool.and_eq_true, Bool.not_eq_true'] at h
    exact ⟨h.1, t, r, rfl, Nat.eq_of_beq_eq_true h.2.1⟩
theorem eat_ans {T : List Tok} {E q : Nat} {σ : H} {p : PS} (h : PO T E q σ p) (k : Nat) (s : List UInt8) :
    ∃ σ', AnsH ctx 76 [.ptr q 1 0 0, .int .i64 k, .str s] σ (encTok (p.eat E k s).1) σ' ∧ PO T E q σ' (p.eat E k s).2 ∧ Ext q σ σ' := by
  obtain ⟨k1, hk1⟩ := peek_ans h k s
  have hlt := h.lt
  have hset : ∀ x, (σ.set q x)[q]? = some x := fun x => List.getElem?_set_self hlt
  cases hp : p.peek k s with
  | false =>
    obtain ⟨k2, hk2⟩ := fail_ans h
    have e : p.eat E k s = (tok0, p.fail E) := by unfold PS.eat; rw [hp]
    rw [e]
    refine ⟨_, AnsH.of (σ' := σ.set q (objP T E (p.fail E))) fn76_ (by simp) (snapPtr _ _ _) (by simp) ⟨k1 + k2, fun N hN => ?_⟩, h.failed, Ext.set _ _ _⟩
    have hk1 := hk1 N (by omega)
    have hk2 := hk2 N (by omega)
    rw [hp] at hk1
    simp -implicitDefEqProofs [i76, c76, hk1, hk2, encTok, tok0]
  | true =>
    obtain ⟨hb, t, r, hr, _⟩ := peek_cons hp
    have e : p.eat E k s = (t, p.next) := by unfold PS.eat; rw [hp, hr]
    rw [e]
    refine ⟨_, AnsH.of (σ' := σ.set q (objP T E p.next)) fn76_ (by simp) (snapPtr _ _ _) (by simp) ⟨k1, fun N hN => ?_⟩, h.nexted hr, Ext.set _ _ _⟩
    have hk1 := hk1 N (by omega)
    rw [hp] at hk1
    obtain ⟨h1, h2, h3, h4, h5, h6⟩ := h.next hr
    have ho := h.obj
    have hw := wrap_succ (n := p.i) (by unfold big; omega)
    have hw2 : IntKind.i64.wrap (p.i : Int) = (p.i : Int) := wrap_i64 (by omega)
    unfold objP encP at ho ⊢
    rw [h1] at ho ⊢
    simp only [PS.next]
    simp -implicitDefEqProofs [i76, c76, hk1, ho, h2, h3, hw, hw2, hset]
theorem sign_ans {T : List Tok} {E q : Nat} {σ : H} {p : PS} (h : PO T E q σ p) (s : List UInt8) :
    ∃ σ', AnsH ctx 78 [.ptr q 1 0 0, .str s] σ (.tup []) σ' ∧ PO T E q σ' (p.sign E s) ∧ Ext q σ σ' := by
  obtain ⟨σ', ⟨k, hk⟩, h2, h3⟩ := eat_ans h 5 s
  refine ⟨σ', AnsH.of fn78_ (by simp) (snapPtr _ _ _) (by simp) ⟨k, fun N hN => ?_⟩, h2, h3⟩
  have hk := hk N hN
  simp only [Int.cast_ofNat_Int] at hk
  simp -implicitDefEqProofs [i78, c78, hk]
theorem try_ans {T : List Tok} {E q : Nat} {σ : H} {p : PS} (h : PO T E q σ p) (s : List UInt8) :
    ∃ σ', AnsH ctx 80 [.ptr q 1 0 0, .str s] σ (.bool (p.try_ s).1) σ' ∧ PO T E q σ' (p.try_ s).2 ∧ Ext q σ σ' := by
  obtain ⟨k1, hk1⟩ := peek_ans h 5 s
  have hlt := h.lt
  have hset : ∀ x, (σ.set q x)[q]? = some x := fun x => List.getElem?_set_self hlt
  cases hp : p.peek 5 s with
  | false =>
    have e : p.try_ s = (false, p) := by unfold PS.try_; rw [hp]
    rw [e]
    refine ⟨_, AnsH.of (σ' := σ) fn80_ (by simp) (snapPtr _ _ _) (by simp) ⟨k1, fun N hN => ?_⟩, h, Ext.refl _ _⟩
    have hk1 := hk1 N (by omega)
    rw [hp] at hk1
    simp only [Int.cast_ofNat_Int] at hk1
    simp -implicitDefEqProofs [i80, c80, hk1]
  | true =>
    obtain ⟨hb, t, r, hr, _⟩ := peek_cons hp
    have e : p.try_ s = (true, p.next) := by unfold PS.try_; rw [hp]
    rw [e]
    refine ⟨_, AnsH.of (σ' := σ.set q (objP T E p.next)) fn80_ (by simp) (snapPtr _ _ _) (by simp) ⟨k1, fun N hN => ?_⟩, h.nexted hr, Ext.set _ _ _⟩
    have hk1 := hk1 N (by omega)
    rw [hp] at hk1
    simp only [Int.cast_ofNat_Int] at hk1
    obtain ⟨h1, h2, h3, h4, h5, h6⟩ := h.next hr
    have ho := h.obj
    have hw := wrap_succ (n := p.i) (by unfold big; omega)
    unfold objP encP at ho ⊢
    simp only [PS.next]
    simp -implicitDefEqProofs [i80, c80, hk1, ho, hw, hset]
theorem atomic_ans {T : List Tok} {E q : Nat} {σ : H} {p : PS} (h : PO T E q σ p) : AnsH ctx 126 [.ptr q 1 0 0] σ (.bool p.atomic) σ := by
  obtain ⟨k1, hk1⟩ := peek_ans h 1 []
  obtain ⟨k2, hk2⟩ := peek_ans h 2 []
  obtain ⟨k3, hk3⟩ := peek_ans h 3 []
  obtain ⟨k4, hk4⟩ := peek_ans h 4 sTrue
  obtain ⟨k5, hk5⟩ := peek_ans h 4 sFalse
  obtain ⟨k6, hk6⟩ := peek_ans h 5 sOpen
  refine AnsH.of fn126_ (by simp) (snapPtr _ _ _) (by simp) ⟨k1 + k2 + k3 + k4 + k5 + k6, fun N hN => ?_⟩
  have hk1 := hk1 N (by omega)
  have hk2 := hk2 N (by omega)
  have hk3 := hk3 N (by omega)
  have hk4 := hk4 N (by omega)
  have hk5 := hk5 N (by omega)
  have hk6 := hk6 N (by omega)
  simp only [Int.cast_ofNat_Int, sTrue, sFalse, sOpen] at hk1 hk2 hk3 hk4 hk5 hk6
  unfold PS.atomic
  simp only [sTrue, sFalse, sOpen]
  cases e1 : p.peek 1 [] with
  | true => rw [e1] at hk1; simp -implicitDefEqProofs [i126, c126, hk1]
  | false =>
  cases e2 : p.peek 2 [] with
  | true => rw [e1] at hk1; rw [e2] at hk2; simp -implicitDefEqProofs [i126, c126, hk1, hk2]
  | false =>
  cases e3 : p.peek 3 [] with
  | true => rw [e1] at hk1; rw [e2] at hk2; rw [e3] at hk3; simp -implicitDefEqProofs [i126, c126, hk1, hk2, hk3]
  | false =>
  rw [e1] at hk1; rw [e2] at hk2; rw [e3] at hk3
  generalize p.peek 4 [116, 114, 117, 101] = b4 at *
  generalize p.peek 4 [102, 97, 108, 115, 101] = b5 at *
  generalize p.peek 5 [40] = b6 at *
  cases b4 with
  | true => simp -implicitDefEqProofs [i126, c126, hk1, hk2, hk3, hk4]
  | false =>
  cases b5 with
  | true => simp -implicitDefEqProofs [i126, c126, hk1, hk2, hk3, hk4, hk5]
  | false => simp -implicitDefEqProofs [i126, c126, hk1, hk2, hk3, hk4, hk5, hk6]
theorem atypic_ans {T : List Tok} {E q : Nat} {σ : H} {p : PS} (h : PO T E q σ p) : AnsH ctx 122 [.ptr q 1 0 0] σ (.bool p.atypic) σ := by
  obtain ⟨k1, hk1⟩ := peek_ans h 1 []
  obtain ⟨k2, hk2⟩ := peek_ans h 2 []
  obtain ⟨k6, hk6⟩ := peek_ans h 5 sOpen
  refine AnsH.of fn122_ (by simp) (snapPtr _ _ _) (by simp) ⟨k1 + k2 + k6, fun N hN => ?_⟩
  have hk1 := hk1 N (by omega)
  have hk2 := hk2 N (by omega)
  have hk6 := hk6 N (by omega)
  simp only [Int.cast_ofNat_Int, sOpen] at hk1 hk2 hk6
  unfold PS.atypic
  simp only [sOpen]
  cases e1 : p.peek 1 [] with
  | true => rw [e1] at hk1; simp -implicitDefEqProofs [i122, c122, hk1]
  | false =>
  cases e2 : p.peek 2 [] with
  | true => rw [e1] at hk1; rw [e2] at hk2; simp -implicitDefEqProofs [i122, c122, hk1, hk2]
  | false => rw [e1] at hk1; rw [e2] at hk2; simp -implicitDefEqProofs [i122, c122, hk1, hk2, hk6]
end Go.Am.Tryz
