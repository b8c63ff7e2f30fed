/- Layers 12 to 14: declared types in memory; the reference's place, atype. -/
import Derived.Test.YtjbmnkchnbnhcaaGreatDoorP12
set_option linter.unusedVariables false
set_option maxRecDepth 100000
set_option linter.unusedSimpArgs false
namespace Go.Am.Tryz
open Go Go.Am.Ps
mutual
def encY : Ps.Ty → AV
  | .mk k n s ks => .agg [.int .i64 k, .int .i64 n, .str s, encR 4 true (encYs ks)]
def encYs : List Ps.Ty → List AV
  | [] => []
  | t :: l => encY t :: encYs l
end
theorem encYs_map : ∀ l, encYs l = l.map encY
  | [] => by simp [encYs]
  | t :: l => by simp [encYs, encYs_map l]
@[simp] theorem encYs_nil : encYs [] = [] := by simp [encYs]
@[simp] theorem encYs_cons (t : Ps.Ty) (l : List Ps.Ty) : encYs (t :: l) = encY t :: encYs l := by simp [encYs]
@[simp] theorem encYs_app (l m : List Ps.Ty) : encYs (l ++ m) = encYs l ++ encYs m := by simp [encYs_map]
@[simp] theorem encYs_length (l : List Ps.Ty) : (encYs l).length = l.length := by simp [encYs_map]
mutual
@[simp] theorem noRef_encY : ∀ t, (encY t).noRef = true
  | .mk k n s ks => by simp [encY, noRefs_encYs ks]
@[simp] theorem noRefs_encYs : ∀ l, AV.noRefs (encYs l) = true
  | [] => by simp
  | t :: l => by simp [noRef_encY t, noRefs_encYs l]
end
@[simp] theorem encY_fits (t : Ps.Ty) (ti : TI) : (encY t).fits ti = (ti.k.isAgg && 4 == ti.size) := by cases t; simp [encY]
theorem encY_mk (k : Nat) (n : Int) (s : Str) (ks : List Ps.Ty) : encY (.mk k n s ks) = .agg [.int .i64 k, .int .i64 n, .str s, encR 4 true (encYs ks)] := by simp [encY]
theorem lp58 (L : List AV) (nl : Bool) (hL : L.length < big) (s : Str) : ∀ (r : List Str) (i : Nat), Tail L i (encSs r) →
    ∃ e fr', Lp ctx [] [] [0, 1, 5] b44_0 ⟨[(0, .v (encR 1 nl L)), (1, .v (.str s)), (5, .v (.int .i64 i))], false⟩ [] e fr' [] ∧ fr'.lk = false ∧
      ((e = .ex 0 ∧ getS fr'.sl 4 = .u ∧ placeF i r s = -1) ∨ (e = .ret ∧ getS fr'.sl 4 = .v (.int .i64 (placeF i r s))))
  | [], i, h => by
    have h' := h.nil
    refine ⟨.ex 0, ?_, Lp.exit ⟨0, fun N _ => ?_⟩ (by simp), ?_⟩
    rotate_left
    · simp -implicitDefEqProofs [b44_0, h']
      rfl
    · exact ⟨by simp, .inl ⟨rfl, by simp, rfl⟩⟩
  | a :: r, i, h => by
    have hlen := h.len
    obtain ⟨g1, g2, g3, g4, g5⟩ := h.cons
    simp at hlen
    have hw := wrap_succ (n := i) (by omega)
    have g6 := g5 1 nl
    cases hs : a == s with
    | true =>
      refine ⟨.ret, ?_, Lp.exit ⟨0, fun N _ => ?_⟩ (by simp), ?_⟩
      rotate_left
      · rw [g6]
        simp -implicitDefEqProofs [b44_0, g1, g2, g3, hs, -beq_iff_eq]
        rfl
      · exact ⟨by simp, .inr ⟨rfl, by simp [placeF, eqS_iff, hs, -beq_iff_eq]⟩⟩
    | false =>
      obtain ⟨e, fr', l1, l2, l3⟩ := lp58 L nl hL s r (i + 1) g4
      have e1 : placeF i (a :: r) s = placeF (i + 1) r s := by simp [placeF, eqS_iff, hs, -beq_iff_eq, -beq_eq_false_iff_ne]
      rw [e1]
      refine ⟨e, fr', Lp.step ⟨0, fun N hN => ?_⟩ l1, l2, l3⟩
      rw [g6]
      simp -implicitDefEqProofs [b44_0, g1, g2, g3, hs, hw, -beq_iff_eq, -beq_eq_false_iff_ne]
theorem place_ans (l : List Str) (nl : Bool) (hl : l.length < big) (s : Str) : Ans ctx 44 [encR 1 nl (encSs l), .str s] (.int .i64 (place l s)) := by
  obtain ⟨e, fr', l1, l2, l3⟩ := lp58 (encSs l) nl (by simpa using hl) s l 0 (Tail.all _)
  obtain ⟨k, hk⟩ := l1.den
  refine Ans.of (σ' := []) fn44_ (by simp) (by simp) ⟨k, fun N hN => ?_⟩
  have hk := hk N hN
  unfold place
  rcases l3 with ⟨rfl, l4, l5⟩ | ⟨rfl, l4⟩
  · rw [l5]
    simp -implicitDefEqProofs [i44, c44, hk, l2, l4]
  · simp -implicitDefEqProofs [i44, c44, hk, l2, l4]
structure VA (q : Nat) (σ : H) (V : AV) (vs : List Str) : Prop where
  v : ∃ qv, V = rowV qv vs.length 1 ∧ (vs ≠ [] → qv ≠ q ∧ ∃ fz, σ[qv]? = some (.arr fz 1 (encSs vs)))
  sm : vs.length < big
theorem VA.ext {q : Nat} {σ σ' : H} {V : AV} {vs : List Str} (h : VA q σ V vs) (he : Ext q σ σ') : VA q σ' V vs := by
  obtain ⟨⟨qv, h1, h2⟩, h3⟩ := h
  refine ⟨⟨qv, h1, fun hv => ?_⟩, h3⟩
  obtain ⟨h4, fz, h5⟩ := h2 hv
  exact ⟨h4, fz, by rw [he.rest qv (List.getElem?_eq_some_iff.1 h5).1 h4]; exact h5⟩
theorem VA.app {q : Nat} {σ : H} {V : AV} {vs : List Str} (h : VA q σ V vs) (τ : H) : VA q (σ ++ τ) V vs := h.ext (Ext.app _ _ _)
theorem place_at {q : Nat} {σ : H} {V : AV} {vs : List Str} (h : VA q σ V vs) (s : Str) : AnsH ctx 44 [V, .str s] σ (.int .i64 (place vs s)) σ := by
  obtain ⟨⟨qv, rfl, h2⟩, h3⟩ := h
  have hp := place_ans vs true h3 s
  cases vs with
  | nil => exact hp.at σ
  | cons a l =>
    obtain ⟨h4, fz, h5⟩ := h2 (by simp)
    have ht : (encSs (a :: l)).take (l.length + 1) = encSs (a :: l) := List.take_of_length_le (by simp)
    have h1 := snapA_hs (n := 199) (v := l.length + 1) (m := l.length + 1) h5 (by simp) (Nat.le_refl _) (by rw [ht]; simp)
    rw [ht] at h1
    have hsn : snapL σ [.hs qv (l.length + 1) 0 (l.length + 1) 1, .str s] = some ([.sl 1 (encSs (a :: l)), .str s], [qv]) := by
      simp only [snapL, mapO2, h1, snapA_noRef (a := .str s) rfl, List.append_nil]
    rw [show encR 1 true (encSs (a :: l)) = .sl 1 (encSs (a :: l)) by simp] at hp
    have := AnsH.lay (ns := [qv]) fn44_ (by simp) hsn (by simp [AV.noRefs, AV.noRef]) hp
    exact this
theorem snapPtr2 (σ : H) (q : Nat) (V : AV) : snapL σ [.ptr q 1 0 0, V] = none := snapPtr _ _ _
def DoesV (T : List Tok) (E : Nat) (f : Nat) (vs : List Str) (a : AV) (p p' : PS) : Prop :=
  ∀ q σ V, PO T E q σ p → VA q σ V vs → ∃ σ', AnsH ctx f [.ptr q 1 0 0, V] σ a σ' ∧ PO T E q σ' p' ∧ Ext q σ σ'
def TypOK (T : List Tok) (E : Nat) (vs : List Str) (n : Nat) : Prop := ∀ p, 4 * mu p + 3 ≤ n → DoesV T E 145 vs (encY (typ E vs n p).1) p (typ E vs n p).2 ∧ mu (typ E vs n p).2 ≤ mu p
def AtyOK (T : List Tok) (E : Nat) (vs : List Str) (n : Nat) : Prop := ∀ p, 4 * mu p + 1 ≤ n → DoesV T E 123 vs (encY (atype E vs n p).1) p (atype E vs n p).2 ∧ mu (atype E vs n p).2 ≤ mu p ∧ (p.atypic = true → mu (atype E vs n p).2 < mu p)
theorem lp79 (T : List Tok) (E q : Nat) (σ0 : H) (Z V : AV) (vs : List Str) (hZ : ∀ ti, Z.fits ti = (ti.k.isAgg && 4 == ti.size)) : ∀ (n : Nat), (∀ m, m < n → TypOK T E vs m) → ∀ (p : PS) (acc : List Ps.Ty) (σ : H) (q2 : Nat), acc.length ≤ 8 → 4 * mu p + 1 ≤ n → PO T E q σ p → VA q σ0 V vs → Own q σ0 σ q2 4 (encYs acc) →
    (match trest E vs n acc.length p with
     | (some l, p') => ∃ fr' σ' q3, Lp ctx [54, 82] [] [0, 1, 4, 7] b123_0 ⟨[(0, .v (.ptr q 1 0 0)), (1, .v V), (4, .bx Z), (7, .v (rowV q2 acc.length 4))], false⟩ σ (.ex 1) fr' σ' ∧ fr'.lk = false ∧ Hi 83 fr' ∧
        getS fr'.sl 0 = .v (.ptr q 1 0 0) ∧ getS fr'.sl 4 = .bx Z ∧ getS fr'.sl 7 = .v (rowV q3 (acc ++ l).length 4) ∧ PO T E q σ' p' ∧ Own q σ0 σ' q3 4 (encYs (acc ++ l)) ∧ mu p' ≤ mu p ∧ (acc ++ l).length ≤ 8
     | (none, p') => ∃ fr' σ', Lp ctx [54, 82] [] [0, 1, 4, 7] b123_0 ⟨[(0, .v (.ptr q 1 0 0)), (1, .v V), (4, .bx Z), (7, .v (rowV q2 acc.length 4))], false⟩ σ .ret fr' σ' ∧
        getS fr'.sl 4 = .bx (encY ty0) ∧ PO T E q σ' p' ∧ Ext q σ0 σ' ∧ mu p' ≤ mu p)
  | 0, _, _, _, _, _, _, h, _, _, _ => by omega
  | n + 1, hE, p, acc, σ, q2, h8, hn, hp, hV, ho => by
    obtain ⟨k1, hk1⟩ := peek_ans hp 5 sCom
    have hob := hp.obj
    unfold objP encP at hob
    cases hpk : p.peek 5 sCom with
    | false =>
      have e : trest E vs (n + 1) acc.length p = (some [], p) := by simp [trest, hpk]
      rw [e]
      simp only [List.append_nil]
      cases hb : p.bad with
      | true =>
        rw [hb] at hob
        refine ⟨?_, σ, q2, Lp.exit ⟨k1, fun N hN => ?_⟩ (by simp), ?_⟩
        rotate_left
        · have hk1 := hk1 N hN
          rw [hpk] at hk1
          simp only [Int.cast_ofNat_Int, sCom] at hk1
          simp -implicitDefEqProofs [b123_0, hk1, hob]
          rfl
        · exact ⟨by simp, hi_of (by simp), by simp, by simp, by simp, hp, ho, Nat.le_refl _, h8⟩
      | false =>
        rw [hb] at hob
        refine ⟨?_, σ, q2, Lp.exit ⟨k1, fun N hN => ?_⟩ (by simp), ?_⟩
        rotate_left
        · have hk1 := hk1 N hN
          rw [hpk] at hk1
          simp only [Int.cast_ofNat_Int, sCom] at hk1
          simp -implicitDefEqProofs [b123_0, hk1, hob]
          rfl
        · exact ⟨by simp, hi_of (by simp), by simp, by simp, by simp, hp, ho, Nat.le_refl _, h8⟩
    | true =>
      obtain ⟨hb, t, r, hr, _⟩ := peek_cons hpk
      have mn := mu_peek hpk
      rw [hb] at hob
      have hlt := hp.lt
      have hset : ∀ x, (σ.set q x)[q]? = some x := fun x => List.getElem?_set_self hlt
      obtain ⟨h1, h2, h3, h4, h5, h6⟩ := hp.next hr
      have hw := wrap_succ (n := p.i) (by unfold big; omega)
      cases h8q : Nat.beq acc.length 8 with
      | true =>
        have e : trest E vs (n + 1) acc.length p = (none, p.fail E) := by simp [trest, hpk, h8q]
        rw [e]
        obtain ⟨k2, hk2⟩ := fail_ans hp
        rw [beq_int] at h8q
        have h8r : ((acc.length : Int) == 8) = true := h8q
        refine ⟨?_, σ.set q (objP T E (p.fail E)), Lp.exit ⟨k1 + k2, fun N hN => ?_⟩ (by simp), ?_⟩
        rotate_left
        · have hk1 := hk1 N (by omega)
          have hk2 := hk2 N (by omega)
          rw [hpk] at hk1
          simp only [Int.cast_ofNat_Int, sCom] at hk1
          simp -implicitDefEqProofs [b123_0, hk1, hk2, hob, h8r, hZ, -beq_iff_eq]
          rfl
        · exact ⟨by simp [encY_mk, ty0], hp.failed, ho.ext.trans (Ext.set _ _ _), by rw [mu_fail]; omega⟩
      | false =>
        have hl8 : acc.length < 8 := by
          rcases Nat.lt_or_ge acc.length 8 with h | h
          · exact h
          · have : acc.length = 8 := by omega
            rw [this] at h8q; cases h8q
        have e : trest E vs (n + 1) acc.length p = (match trest E vs n (acc.length + 1) (typ E vs n p.next).2 with
            | (some l, p') => (some ((typ E vs n p.next).1 :: l), p')
            | (none, p') => (none, p')) := by
          simp only [trest, hpk, h8q]
          rfl
        rw [e]
        rw [beq_int] at h8q
        have h8r : ((acc.length : Int) == 8) = false := h8q
        obtain ⟨d, m4⟩ := hE n (by omega) p.next (by omega)
        have pn := hp.nexted hr
        have ho0 := ho.call (Ext.set q σ (objP T E p.next))
        obtain ⟨σ1, ⟨k2, hk2⟩, p1, x1⟩ := d q _ V pn (hV.ext ho0.ext)
        have ho1 := ho0.call x1
        obtain ⟨q3, σ2, hap, ho2, hq⟩ := ho1.app ⟨.strct [(0, 3), (1, 3), (2, 9), (3, 33)], 4, 56, .agg [.int .i64 0, .int .i64 0, .str [], .nil], []⟩ (encY (typ E vs n p.next).1) rfl (by simp) (by simp) (by simp; omega) (by simp; omega)
        rw [encYs_length] at hap
        have hacc : encYs acc ++ [encY (typ E vs n p.next).1] = encYs (acc ++ [(typ E vs n p.next).1]) := by simp
        rw [hacc] at ho2
        have hrec := lp79 T E q σ0 Z V vs hZ n (fun m hm => hE m (by omega)) (typ E vs n p.next).2 (acc ++ [(typ E vs n p.next).1]) σ2 q3 (by simp; omega) (by omega) (p1.ext hq) hV ho2
        have hal : (acc ++ [(typ E vs n p.next).1]).length = acc.length + 1 := by simp
        rw [hal] at hrec
        have hstep : ∃ k, ∀ N, k ≤ N → round1 ctx (acall ctx N) [54, 82] [] N [0, 1, 4, 7] b123_0 ⟨[(0, .v (.ptr q 1 0 0)), (1, .v V), (4, .bx Z), (7, .v (rowV q2 acc.length 4))], false⟩ σ = some (⟨[(0, .v (.ptr q 1 0 0)), (1, .v V), (4, .bx Z), (7, .v (rowV q3 (acc.length + 1) 4))], false⟩, σ2) := by
          refine ⟨k1 + k2, fun N hN => ?_⟩
          have hk1 := hk1 N (by omega)
          have hk2 := hk2 N (by omega)
          rw [hpk] at hk1
          simp only [Int.cast_ofNat_Int, sCom] at hk1
          rw [objP_next T E hb] at hk2
          simp -implicitDefEqProofs [b123_0, hk1, hk2, hob, h8r, hw, hset, hap, -appendH, -beq_iff_eq, -beq_eq_false_iff_ne]
        cases hx : trest E vs n (acc.length + 1) (typ E vs n p.next).2 with
        | mk o p' =>
          rw [hx] at hrec
          cases o with
          | some l =>
            obtain ⟨fr', σ', q4, l1, l2⟩ := hrec
            simp only [List.append_assoc, List.singleton_append] at l2
            obtain ⟨a1, a2, a3, a4, a6, a7, a8, a9, a10⟩ := l2
            exact ⟨fr', σ', q4, Lp.step hstep l1, a1, a2, a3, a4, a6, a7, a8, by omega, a10⟩
          | none =>
            obtain ⟨fr', σ', l1, l2, l3, l4, l5⟩ := hrec
            exact ⟨fr', σ', Lp.step hstep l1, l2, l3, l4, by omega⟩
end Go.Am.Tryz
