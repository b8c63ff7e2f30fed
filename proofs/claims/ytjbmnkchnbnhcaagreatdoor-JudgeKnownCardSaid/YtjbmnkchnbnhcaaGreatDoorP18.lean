/- Layers 12 to 14: the reference's Parse: a declaration. -/
import Derived.Test.YtjbmnkchnbnhcaaGreatDoorP17
set_option linter.unusedVariables false
set_option maxRecDepth 100000
set_option linter.unusedSimpArgs false
namespace Go.Am.Tryz
open Go Go.Am.Ps
def RowAt (σ : H) (q sz : Nat) (xs : List AV) : Prop := xs ≠ [] → σ[q]? = some (.arr false sz xs)
theorem RowAt.ext {σ σ' : H} {q0 q sz : Nat} {xs : List AV} (h : RowAt σ q sz xs) (he : Ext q0 σ σ') (hq : xs ≠ [] → q ≠ q0) : RowAt σ' q sz xs := fun hx => by
  have := h hx
  rw [he.rest q (List.getElem?_eq_some_iff.1 this).1 (hq hx)]; exact this
theorem app_raw (te : TI) {σ : H} {q2 : Nat} {xs : List AV} {y : AV} (h : RowAt σ q2 te.size xs) (hy : y.fits te = true) (hb : (xs.length + 1) * te.bytes ≤ 2 ^ 45) (hl : xs.length + 1 ≤ 2 ^ 45) :
    ∃ q3 σ', appendH te (rowV q2 xs.length te.size) [y] σ = some (rowV q3 (xs.length + 1) te.size, σ') ∧ σ'[q3]? = some (.arr false te.size (xs ++ [y])) ∧ σ.length ≤ σ'.length ∧ (∀ j o, σ[j]? = some o → (xs ≠ [] → j ≠ q2) → σ'[j]? = some o) := by
  cases xs with
  | nil =>
    simp only [List.length_nil, Nat.zero_add, Nat.one_mul] at hb
    refine ⟨σ.length, σ ++ [.arr false te.size [y]], ?_, by simp, by simp, fun j o hj _ => ?_⟩
    · simp [rowV, appendH, hy, fitAll, hb]
    · rw [List.getElem?_append_left (List.getElem?_eq_some_iff.1 hj).1]; exact hj
  | cons x l =>
    have h1 := h (by simp)
    simp at hb hl
    have e1 : l.length + 1 + 1 ≤ 35184372088832 := by omega
    have e3 : ¬ l.length + 1 + 1 ≤ l.length + 1 := by omega
    have e4 : l.length + 1 ≤ 35184372088831 := by omega
    have e5 : l.length ≤ 35184372088830 := by omega
    have hl2 := (List.getElem?_eq_some_iff.1 h1).1
    refine ⟨q2, σ.set q2 (.arr false te.size (x :: l ++ [y])), ?_, List.getElem?_set_self hl2, by simp, fun j o hj hq => ?_⟩
    · simp [rowV, appendH, hy, fitAll, hb, e1, e3, e4, e5, arrAt, h1]
    · rw [List.getElem?_set_ne (fun e => hq (by simp) e.symm)]; exact hj
def DRel (σ : H) : List AV → List Da → Prop
  | [], [] => True
  | x :: Ds, d :: ds => (∃ qv qc, x = .agg [.str d.s, .int .i64 d.a, rowV qv d.vs.length 1, rowV qc d.cs.length 3] ∧ RowAt σ qv 1 (encSs d.vs) ∧ RowAt σ qc 3 (encCs d.cs)) ∧ DRel σ Ds ds
  | _, _ => False
def Pres (σ σ' : H) : Prop := ∀ (q sz : Nat) (xs : List AV), sz = 1 ∨ sz = 3 → σ[q]? = some (.arr false sz xs) → σ'[q]? = some (.arr false sz xs)
theorem DRel.pres {σ σ' : H} (hp : Pres σ σ') : ∀ {Ds : List AV} {ds : List Da}, DRel σ Ds ds → DRel σ' Ds ds
  | [], [], _ => trivial
  | x :: Ds, d :: ds, h => by
    obtain ⟨⟨qv, qc, h1, h2, h3⟩, h4⟩ := h
    exact ⟨⟨qv, qc, h1, fun hx => hp qv 1 _ (.inl rfl) (h2 hx), fun hx => hp qc 3 _ (.inr rfl) (h3 hx)⟩, DRel.pres hp h4⟩
  | [], _ :: _, h => h.elim
  | _ :: _, [], h => h.elim
theorem DRel.len {σ : H} : ∀ {Ds : List AV} {ds : List Da}, DRel σ Ds ds → Ds.length = ds.length
  | [], [], _ => rfl
  | x :: Ds, d :: ds, h => by simp [DRel.len h.2]
  | [], _ :: _, h => h.elim
  | _ :: _, [], h => h.elim
theorem DRel.snoc {σ : H} {x : AV} {d : Da} (hx : ∃ qv qc, x = .agg [.str d.s, .int .i64 d.a, rowV qv d.vs.length 1, rowV qc d.cs.length 3] ∧ RowAt σ qv 1 (encSs d.vs) ∧ RowAt σ qc 3 (encCs d.cs)) : ∀ {Ds : List AV} {ds : List Da}, DRel σ Ds ds → DRel σ (Ds ++ [x]) (ds ++ [d])
  | [], [], _ => ⟨hx, trivial⟩
  | y :: Ds, e :: ds, h => ⟨h.1, DRel.snoc hx h.2⟩
  | [], _ :: _, h => h.elim
  | _ :: _, [], h => h.elim
theorem Pres.ext {T : List Tok} {E : Nat} {σ σ' : H} {p : PS} (h : PO T E 0 σ p) (he : Ext 0 σ σ') : Pres σ σ' := fun q sz xs hs hq => by
  have h0 : q ≠ 0 := by
    rintro rfl
    have := h.obj
    rw [hq] at this
    unfold objP at this
    simp at this
    omega
  rw [he.rest q (List.getElem?_eq_some_iff.1 hq).1 h0]; exact hq
theorem Pres.trans {σ σ1 σ2 : H} (h : Pres σ σ1) (h' : Pres σ1 σ2) : Pres σ σ2 := fun q sz xs hs hq => h' q sz xs hs (h q sz xs hs hq)
structure Inv (T : List Tok) (E : Nat) (σ : H) (p : PS) (out : Pg) (DV BV : AV) : Prop where
  po : PO T E 0 σ p
  d : ∃ qD Ds, DV = rowV qD out.ds.length 4 ∧ RowAt σ qD 4 Ds ∧ DRel σ Ds out.ds
  b : ∃ qB, BV = rowV qB out.bs.length 8 ∧ RowAt σ qB 8 (encBs out.bs)
theorem ne0_of {T : List Tok} {E : Nat} {σ : H} {p : PS} (h : PO T E 0 σ p) {q sz : Nat} {fz : Bool} {xs : List AV} (hq : σ[q]? = some (.arr fz sz xs)) (hs : sz ≠ 5) : q ≠ 0 := by
  rintro rfl
  have := h.obj
  rw [hq] at this
  unfold objP at this
  simp at this
  exact hs this.2.1
theorem Inv.ext {T : List Tok} {E : Nat} {σ σ' : H} {p p' : PS} {out : Pg} {DV BV : AV} (h : Inv T E σ p out DV BV) (he : Ext 0 σ σ') (hp : PO T E 0 σ' p') : Inv T E σ' p' out DV BV := by
  obtain ⟨qD, Ds, h1, h2, h3⟩ := h.d
  obtain ⟨qB, h4, h5⟩ := h.b
  exact ⟨hp, ⟨qD, Ds, h1, h2.ext he (fun hx => ne0_of h.po (h2 hx) (by omega)), h3.pres (Pres.ext h.po he)⟩, ⟨qB, h4, h5.ext he (fun hx => ne0_of h.po (h5 hx) (by omega))⟩⟩
theorem lp18_0 (σ0 : H) (L : List Tok) (hL : L.length ≤ 65536) (A : Nat) (S : Str) (Z O P : AV) : ∀ (r : List Tok) (i : Nat) (acc : List Str) (σ : H) (q2 : Nat), Tail (encToks L) i (encToks r) → acc.length = i → Own 0 σ0 σ q2 1 (encSs acc) →
    ∃ fr' σ' q3, Lp ctx [29, 79, 90, 101, 109, 136] [] [2, 4, 5, 7, 8, 9, 29] b40_0 ⟨[(2, .bx Z), (4, .v P), (5, .bx O), (7, .v (encR 4 true (encToks L))), (8, .bx (.agg [.str S, .int .i64 A, rowV q2 acc.length 1, .nil])), (9, .v (.int .i64 i)), (29, .v P)], false⟩ σ (.ex 2) fr' σ' ∧ fr'.lk = false ∧ Hi 81 fr' ∧
      getS fr'.sl 2 = .bx Z ∧ getS fr'.sl 4 = .v P ∧ getS fr'.sl 5 = .bx O ∧ getS fr'.sl 29 = .v P ∧ getS fr'.sl 8 = .bx (.agg [.str S, .int .i64 A, rowV q3 (acc ++ r.map (·.s)).length 1, .nil]) ∧ Own 0 σ0 σ' q3 1 (encSs (acc ++ r.map (·.s))) ∧ σ'[0]? = σ[0]?
  | [], i, acc, σ, q2, h, ha, ho => by
    have h' := h.nil
    simp at h'
    refine ⟨?_, σ, q2, Lp.exit ⟨0, fun N _ => ?_⟩ (by simp), ?_⟩
    rotate_left
    · simp -implicitDefEqProofs [b40_0, h']
      rfl
    · exact ⟨by simp, hi_of (by simp), by simp, by simp, by simp, by simp, by simp, by simpa using ho, rfl⟩
  | t :: r, i, acc, σ, q2, h, ha, ho => by
    have hlen := h.len
    obtain ⟨g1, g2, g3, g4, g5⟩ := h.cons
    simp at hlen
    have hw := wrap_succ (n := i) (by unfold big; omega)
    obtain ⟨q3, σ2, hap, ho2, hq⟩ := ho.app ⟨.str, 1, 16, .str [], [.str]⟩ (.str t.s) rfl (by simp) (by simp) (by simp; omega) (by simp; omega)
    obtain ⟨fr', σ', q4, l1, l2, l3, l4, l5, l6, l7, l8, l9, l10⟩ := lp18_0 σ0 L hL A S Z O P r (i + 1) (acc ++ [t.s]) σ2 q3 g4 (by simp [ha]) (by simpa using ho2)
    simp only [List.append_assoc, List.singleton_append, ← List.map_cons] at l8 l9
    rw [encSs_length] at hap
    have g6 : encR 4 true (encToks L) = .sl 4 (encToks L) := g5 4 true
    rw [g6] at l1 ⊢
    simp only [encToks_length] at g2 g3
    unfold encTok at g1
    refine ⟨fr', σ', q4, Lp.step ⟨0, fun N hN => ?_⟩ l1, l2, l3, l4, l5, l6, l7, l8, l9, l10.trans hq⟩
    simp -implicitDefEqProofs [b40_0, g1, g2, g3, hw, hap, -appendH]
theorem mu_con (E : Nat) (vs : List Str) (n : Nat) (p : PS) (hn : 4 * mu p + 2 ≤ n) : mu (con E vs n p).2 ≤ mu p := (con_does [] E vs n p hn).2
theorem lp18_1 (T : List Tok) (E : Nat) (σ0 : H) (Z O V : AV) (vs : List Str) (A : Nat) (S : Str) (n : Nat) : ∀ (m : Nat) (p : PS) (acc : List Cn) (σ : H) (q2 : Nat), mu p < m → 4 * mu p + 2 ≤ n → acc.length + mu p ≤ 70000 → PO T E 0 σ p → VA 0 σ0 V vs → Own 0 σ0 σ q2 3 (encCs acc) →
    ∃ fr' σ' q3, Lp ctx [29, 79, 90, 101, 109, 136] [] [2, 4, 5, 8, 29] b40_1 ⟨[(2, .bx Z), (4, .v (.ptr 0 1 0 0)), (5, .bx O), (8, .bx (.agg [.str S, .int .i64 A, V, rowV q2 acc.length 3])), (29, .v (.ptr 0 1 0 0))], false⟩ σ (.ex 4) fr' σ' ∧ fr'.lk = false ∧ Hi 103 fr' ∧
      getS fr'.sl 2 = .bx Z ∧ getS fr'.sl 4 = .v (.ptr 0 1 0 0) ∧ getS fr'.sl 5 = .bx O ∧ getS fr'.sl 29 = .v (.ptr 0 1 0 0) ∧ getS fr'.sl 8 = .bx (.agg [.str S, .int .i64 A, V, rowV q3 (acc ++ (cons E vs n m p).1).length 3]) ∧ PO T E 0 σ' (cons E vs n m p).2 ∧ Own 0 σ0 σ' q3 3 (encCs (acc ++ (cons E vs n m p).1)) ∧ mu (cons E vs n m p).2 ≤ mu p
  | 0, _, _, _, _, h, _, _, _, _, _ => by omega
  | m + 1, p, acc, σ, q2, hm, hn, hl, hp, hV, ho => by
    obtain ⟨σ1, ⟨k1, hk1⟩, p1, x1⟩ := try_ans hp sBar
    cases hpk : p.peek 5 sBar with
    | false =>
      have et : p.try_ sBar = (false, p) := by unfold PS.try_; rw [hpk]
      rw [et] at hk1 p1
      rw [show cons E vs n (m + 1) p = ([], p) by simp [cons, hpk]]
      simp only [List.append_nil]
      refine ⟨?_, σ1, q2, Lp.exit ⟨k1, fun N hN => ?_⟩ (by simp), ?_⟩
      rotate_left
      · have hk1 := hk1 N hN
        simp only [sBar] at hk1
        simp -implicitDefEqProofs [b40_1, hk1]
        rfl
      · exact ⟨by simp, hi_of (by simp), by simp, by simp, by simp, by simp, by simp, p1, ho.call x1, Nat.le_refl _⟩
    | true =>
      have et : p.try_ sBar = (true, p.next) := by unfold PS.try_; rw [hpk]
      rw [et] at hk1 p1
      have mn := mu_peek hpk
      obtain ⟨d, m1⟩ := con_does T E vs n p.next (by omega)
      obtain ⟨σ2, ⟨k2, hk2⟩, p2, x2⟩ := d 0 σ1 V p1 (hV.ext (ho.call x1).ext)
      rw [show cons E vs n (m + 1) p = ((con E vs n p.next).1 :: (cons E vs n m (con E vs n p.next).2).1, (cons E vs n m (con E vs n p.next).2).2) by simp [cons, hpk]]
      obtain ⟨q3, σ3, hap, ho3, hq⟩ := ((ho.call x1).call x2).app ⟨.strct [(0, 9), (1, 3), (2, 33)], 3, 48, .agg [.str [], .int .i64 0, .nil], []⟩ (encC (con E vs n p.next).1) rfl (by simp) (by simp) (by simp; omega) (by simp; omega)
      rw [encCs_length] at hap
      have hacc : encCs acc ++ [encC (con E vs n p.next).1] = encCs (acc ++ [(con E vs n p.next).1]) := by simp
      rw [hacc] at ho3
      obtain ⟨fr', σ', q4, l1, l2, l3, l4, l5, l6, l7, l8, l9, l10, l11⟩ := lp18_1 T E σ0 Z O V vs A S n m (con E vs n p.next).2 (acc ++ [(con E vs n p.next).1]) σ3 q3 (by omega) (by omega) (by simp; omega) (p2.ext hq) hV ho3
      simp only [List.append_assoc, List.singleton_append] at l8 l10
      refine ⟨fr', σ', q4, Lp.step ⟨k1 + k2, fun N hN => ?_⟩ l1, l2, l3, l4, l5, l6, l7, l8, l9, l10, by simp only; omega⟩
      have hk1 := hk1 N (by omega)
      have hk2 := hk2 N (by omega)
      simp only [sBar] at hk1
      generalize (con E vs n p.next).1 = a at *
      simp -implicitDefEqProofs [b40_1, hk1, hk2, hap, -appendH]
end Go.Am.Tryz
