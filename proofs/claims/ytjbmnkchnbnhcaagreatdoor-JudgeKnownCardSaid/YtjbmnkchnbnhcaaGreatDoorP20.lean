/- Layers 12 to 14: the reference's Parse. -/
import Derived.Test.YtjbmnkchnbnhcaaGreatDoorP19
set_option linter.unusedVariables false
set_option maxRecDepth 100000
set_option linter.unusedSimpArgs false
namespace Go.Am.Tryz
open Go Go.Am.Ps
set_option maxHeartbeats 2000000 in
theorem rnd18_let {T : List Tok} {E n : Nat} {σ : H} {p : PS} {out : Pg} {DV BV : AV} (h : Inv T E σ p out DV BV) (hpk : p.peek 4 sData = false) (hb : p.bad = false) {t : Tok} {r : List Tok} (hr : p.r = t :: r) (hn : 4 * mu p + 4 ≤ n) (hbs : out.bs.length ≤ 100000) :
    ∃ σ' BV', (∃ k, ∀ N, k ≤ N → round1 ctx (acall ctx N) [29, 79, 90, 101, 109, 136] [] N [2, 4, 5, 29] b40_2 (frP DV BV) σ = some (frP DV BV', σ')) ∧ Inv T E σ' (decl E n out p).2 (decl E n out p).1 DV BV' := by
  have hp := h.po
  have e : decl E n out p = (let x := (p.eat E 4 sLet).2.eat E 1 []; let l := x.2.names; let b := expr E n (l.2.sign E sEq); ({ out with bs := out.bs ++ [⟨x.1.s, x.1.at_, lams x.1.at_ l.1 b.1⟩] }, b.2.sign E sSemi)) := by
    simp only [decl, hpk]
  simp only at e
  rw [e]
  have m0 := mu_eat E p 4 sLet
  have m1 := mu_eat E (p.eat E 4 sLet).2 1 []
  have m2 := mu_names ((p.eat E 4 sLet).2.eat E 1 []).2
  have m3 := mu_sign E ((p.eat E 4 sLet).2.eat E 1 []).2.names.2 sEq
  obtain ⟨k1, hk1⟩ := peek_ans hp 4 sData
  obtain ⟨σ1, ⟨k2, hk2⟩, p1, x1⟩ := eat_ans (E := E) hp 4 sLet
  obtain ⟨σ2, ⟨k3, hk3⟩, p2, x2⟩ := eat_ans (E := E) p1 1 []
  obtain ⟨σ3, ⟨k4, hk4⟩, p3, x3⟩ := names_ans p2
  have hlen : ((p.eat E 4 sLet).2.eat E 1 []).2.names.1.length ≤ 65536 := Nat.le_trans (namesF_len _ _) p2.small
  obtain ⟨σ4, ⟨k5, hk5⟩, p4, x4⟩ := sign_ans (E := E) p3 sEq
  obtain ⟨d5, m5⟩ := expr_does (T := T) (E := E) (n := n) (p := ((p.eat E 4 sLet).2.eat E 1 []).2.names.2.sign E sEq) (by omega)
  obtain ⟨σ5, ⟨k6, hk6⟩, p5, x5⟩ := d5 0 σ4 p4
  obtain ⟨σ6, ⟨k7, hk7⟩, p6, x6⟩ := sign_ans (E := E) p5 sSemi
  obtain ⟨k8, hk8⟩ := lams_ans ((p.eat E 4 sLet).2.eat E 1 []).2.names.1 hlen ((p.eat E 4 sLet).2.eat E 1 []).1.at_ (expr E n (((p.eat E 4 sLet).2.eat E 1 []).2.names.2.sign E sEq)).1
  have x06 : Ext 0 σ σ6 := ((((x1.trans x2).trans x3).trans x4).trans x5).trans x6
  have inv6 := h.ext x06 p6
  obtain ⟨qD, Ds, i1, i2, i3⟩ := inv6.d
  obtain ⟨qB, i4, i5⟩ := inv6.b
  obtain ⟨ho, h2, h3, h4, h5, hw, hset⟩ := hp.beg hb hr
  generalize hlm : lams ((p.eat E 4 sLet).2.eat E 1 []).1.at_ ((p.eat E 4 sLet).2.eat E 1 []).2.names.1 (expr E n (((p.eat E 4 sLet).2.eat E 1 []).2.names.2.sign E sEq)).1 = bd at *
  generalize (expr E n (((p.eat E 4 sLet).2.eat E 1 []).2.names.2.sign E sEq)).1 = b at *
  generalize ((p.eat E 4 sLet).2.eat E 1 []).2.names.1 = L at *
  generalize ((p.eat E 4 sLet).2.eat E 1 []).1 = c at *
  generalize (p.eat E 4 sLet).1 = c0 at *
  obtain ⟨qB', σ7, hap7, hr7, hl7, hk9⟩ := app_raw ⟨.strct [(0, 9), (1, 3), (2, 63)], 8, 112, .agg [.str [], .int .i64 0, .int .i64 0, .int .i64 0, .str [], .int .i64 0, .nil, .nil], []⟩ (y := encB ⟨c.s, c.at_, bd⟩) i5 (by simp) (by simp; omega) (by simp; omega)
  rw [encBs_length] at hap7
  refine ⟨σ7, rowV qB' (out.bs.length + 1) 8, ⟨k1 + k2 + k3 + k4 + k5 + k6 + k7 + k8, fun N hN => ?_⟩, p6.raw i5 (by simp) hk9, ⟨qD, Ds, i1, i2.raw i5 (by simp) hk9, i3.pres (Pres.raw i5 (by simp) hk9)⟩, ⟨qB', by simp, fun _ => by simp only [encBs_app]; exact hr7⟩⟩
  have hk1 := hk1 N (by omega)
  have hk2 := hk2 N (by omega)
  have hk3 := hk3 N (by omega)
  have hk4 := hk4 N (by omega)
  have hk5 := hk5 N (by omega)
  have hk6 := hk6 N (by omega)
  have hk7 := hk7 N (by omega)
  have hk8 := hk8 N (by omega)
  rw [hpk] at hk1
  simp only [Int.cast_ofNat_Int, sData, sLet, sEq, sSemi] at hk1 hk2 hk3 hk5 hk7
  rw [encTok_k] at hk3
  clear hlm
  obtain ⟨bk, ba, bs, bn, bks, bas⟩ := bd
  simp only [encB, cellsE] at hap7
  rw [encE_mk] at hk8
  rw [i4]
  unfold frP
  have z1 : ∀ ti, Z2.fits ti = (ti.k.isAgg && 4 == ti.size) := fun _ => rfl
  simp -implicitDefEqProofs [b40_2, ho, h2, h3, h4, h5, hw, hset, hk1, hk2, hk3, hk4, hk5, hk6, hk7, hk8, hap7, -appendH]
theorem mu_cons (E : Nat) (vs : List Str) (n : Nat) : ∀ (m : Nat) (p : PS), 4 * mu p + 2 ≤ n → mu (cons E vs n m p).2 ≤ mu p
  | 0, p, _ => Nat.le_refl _
  | m + 1, p, hn => by
    simp only [cons]
    split
    · rename_i hpk
      have mn := mu_peek hpk
      have m1 := mu_con E vs n p.next (by omega)
      have m2 := mu_cons E vs n m (con E vs n p.next).2 (by omega)
      simp only; omega
    · exact Nat.le_refl _
theorem mu_decl (E n : Nat) (out : Pg) (p : PS) (hn : 4 * mu p + 4 ≤ n) (hb : p.bad = false) {t : Tok} {r : List Tok} (hr : p.r = t :: r) : mu (decl E n out p).2 < mu p := by
  have hmu : 0 < mu p := by simp [mu, hb, hr]
  unfold decl
  split
  · rename_i hpk
    have mn := mu_peek hpk
    have m1 := mu_eat E p.next 2 []
    have m2 := mu_names (p.next.eat E 2 []).2
    have m3 := mu_sign E (p.next.eat E 2 []).2.names.2 sEq
    have m4 := mu_con E ((p.next.eat E 2 []).2.names.1.map (·.s)) n ((p.next.eat E 2 []).2.names.2.sign E sEq) (by omega)
    have m5 := mu_cons E ((p.next.eat E 2 []).2.names.1.map (·.s)) n n (con E ((p.next.eat E 2 []).2.names.1.map (·.s)) n ((p.next.eat E 2 []).2.names.2.sign E sEq)).2 (by omega)
    have m6 := mu_sign E (cons E ((p.next.eat E 2 []).2.names.1.map (·.s)) n n (con E ((p.next.eat E 2 []).2.names.1.map (·.s)) n ((p.next.eat E 2 []).2.names.2.sign E sEq)).2).2 sSemi
    simp only
    omega
  · have m0 : mu (p.eat E 4 sLet).2 < mu p := by
      unfold PS.eat
      split
      · rename_i h1 h2
        have := mu_peek h1
        simp only; omega
      · simp only [mu_fail]; omega
    have m1 := mu_eat E (p.eat E 4 sLet).2 1 []
    have m2 := mu_names ((p.eat E 4 sLet).2.eat E 1 []).2
    have m3 := mu_sign E ((p.eat E 4 sLet).2.eat E 1 []).2.names.2 sEq
    have m4 := (expr_does (T := []) (E := E) (n := n) (p := ((p.eat E 4 sLet).2.eat E 1 []).2.names.2.sign E sEq) (by omega)).2
    have m5 := mu_sign E (expr E n (((p.eat E 4 sLet).2.eat E 1 []).2.names.2.sign E sEq)).2 sSemi
    simp only
    omega
theorem decl_len (E n : Nat) (out : Pg) (p : PS) : (decl E n out p).1.ds.length ≤ out.ds.length + 1 ∧ (decl E n out p).1.bs.length ≤ out.bs.length + 1 := by
  unfold decl
  split <;> simp
theorem lp18_2 (T : List Tok) (E n : Nat) : ∀ (m : Nat) (p : PS) (out : Pg) (σ : H) (DV BV : AV), mu p < m → 4 * mu p + 4 ≤ n → out.ds.length + m ≤ 100000 → out.bs.length + m ≤ 100000 → Inv T E σ p out DV BV →
    ∃ fr' σ' DV' BV', Lp ctx [29, 79, 90, 101, 109, 136] [] [2, 4, 5, 29] b40_2 (frP DV BV) σ (.ex 0) fr' σ' ∧ fr'.lk = false ∧ Hi 138 fr' ∧ getS fr'.sl 2 = .bx Z2 ∧ getS fr'.sl 4 = .v (.ptr 0 1 0 0) ∧ getS fr'.sl 5 = .bx (.agg [DV', BV']) ∧ getS fr'.sl 13 = .u ∧
      Inv T E σ' (decls E n m out p).2 (decls E n m out p).1 DV' BV'
  | 0, _, _, _, _, _, h, _, _, _, _ => by omega
  | m + 1, p, out, σ, DV, BV, hm, hn, hd, hbl, h => by
    have hp := h.po
    have ho := hp.obj
    unfold objP encP at ho
    cases hb : p.bad with
    | true =>
      rw [hb] at ho
      have e : decls E n (m + 1) out p = (out, p) := by simp [decls, hb]
      rw [e]
      cases hr : p.r with
      | nil =>
        obtain ⟨h1, h2⟩ := hp.end_ hr
        refine ⟨?_, σ, DV, BV, Lp.exit ⟨0, fun N hN => ?_⟩ (by simp), ?_⟩
        rotate_left
        · unfold frP
          simp -implicitDefEqProofs [b40_2, ho, h1]
          rfl
        · exact ⟨by simp, hi_of (by simp), by simp, by simp, by simp, by simp, h⟩
      | cons t r =>
        obtain ⟨h1, h2, h3, h4, h5, h6⟩ := hp.next hr
        refine ⟨?_, σ, DV, BV, Lp.exit ⟨0, fun N hN => ?_⟩ (by simp), ?_⟩
        rotate_left
        · unfold frP
          simp -implicitDefEqProofs [b40_2, ho, h4]
          rfl
        · exact ⟨by simp, hi_of (by simp), by simp, by simp, by simp, by simp, h⟩
    | false =>
      cases hr : p.r with
      | nil =>
        have e : decls E n (m + 1) out p = (out, p) := by simp [decls, hb, hr]
        rw [e]
        rw [hb] at ho
        obtain ⟨h1, h2⟩ := hp.end_ hr
        refine ⟨?_, σ, DV, BV, Lp.exit ⟨0, fun N hN => ?_⟩ (by simp), ?_⟩
        rotate_left
        · unfold frP
          simp -implicitDefEqProofs [b40_2, ho, h1]
          rfl
        · exact ⟨by simp, hi_of (by simp), by simp, by simp, by simp, by simp, h⟩
      | cons t r =>
        have e : decls E n (m + 1) out p = decls E n m (decl E n out p).1 (decl E n out p).2 := by simp [decls, hb, hr]
        rw [e]
        have md := mu_decl E n out p hn hb hr
        obtain ⟨l1, l2⟩ := decl_len E n out p
        cases hpk : p.peek 4 sData with
        | true =>
          obtain ⟨σ', DV', hs, hi⟩ := rnd18_data h hpk hn (by omega)
          obtain ⟨fr', σ2, DV2, BV2, q1, q2⟩ := lp18_2 T E n m _ _ σ' DV' BV (by omega) (by omega) (by omega) (by omega) hi
          exact ⟨fr', σ2, DV2, BV2, Lp.step hs q1, q2⟩
        | false =>
          obtain ⟨σ', BV', hs, hi⟩ := rnd18_let h hpk hb hr hn (by omega)
          obtain ⟨fr', σ2, DV2, BV2, q1, q2⟩ := lp18_2 T E n m _ _ σ' DV BV' (by omega) (by omega) (by omega) (by omega) hi
          exact ⟨fr', σ2, DV2, BV2, Lp.step hs q1, q2⟩
end Go.Am.Tryz
