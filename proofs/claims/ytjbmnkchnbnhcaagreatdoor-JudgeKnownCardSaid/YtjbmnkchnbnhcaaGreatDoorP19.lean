/- Layers 12 to 14: the reference's Parse: rounds of its loop. -/
import Derived.Test.YtjbmnkchnbnhcaaGreatDoorP18
set_option linter.unusedVariables false
set_option maxRecDepth 100000
set_option linter.unusedSimpArgs false
namespace Go.Am.Tryz
open Go Go.Am.Ps
def Z2 : AV := .agg [.nil, .nil, .int .i64 0, .int .i64 0]
def frP (DV BV : AV) : Fr := ⟨[(2, .bx Z2), (4, .v (.ptr 0 1 0 0)), (5, .bx (.agg [DV, BV])), (29, .v (.ptr 0 1 0 0))], false⟩
theorem PO.raw {T : List Tok} {E : Nat} {σ σ' : H} {p : PS} (h : PO T E 0 σ p) {q2 sz : Nat} {xs : List AV} (hr : RowAt σ q2 sz xs) (hs : sz ≠ 5) (hk : ∀ j o, σ[j]? = some o → (xs ≠ [] → j ≠ q2) → σ'[j]? = some o) : PO T E 0 σ' p :=
  h.ext (by rw [h.obj]; exact hk 0 _ h.obj (fun hx e => ne0_of h (hr hx) hs e.symm))
theorem RowAt.raw {σ σ' : H} {q q2 sz sz2 : Nat} {xs ys : List AV} (h : RowAt σ q sz ys) (hr : RowAt σ q2 sz2 xs) (hs : sz ≠ sz2) (hk : ∀ j o, σ[j]? = some o → (xs ≠ [] → j ≠ q2) → σ'[j]? = some o) : RowAt σ' q sz ys := fun hy =>
  hk q _ (h hy) (fun hx e => by
    have h1 := h hy
    have h2 := hr hx
    rw [e, h2] at h1
    simp at h1
    exact hs h1.1.symm)
theorem Pres.raw {σ σ' : H} {q2 sz2 : Nat} {xs : List AV} (hr : RowAt σ q2 sz2 xs) (hs : sz2 ≠ 1 ∧ sz2 ≠ 3) (hk : ∀ j o, σ[j]? = some o → (xs ≠ [] → j ≠ q2) → σ'[j]? = some o) : Pres σ σ' := fun q sz ys h1 h2 =>
  hk q _ h2 (fun hx e => by
    have h3 := hr hx
    rw [← e, h2] at h3
    simp at h3
    omega)
set_option maxHeartbeats 2000000 in
theorem rnd18_data {T : List Tok} {E n : Nat} {σ : H} {p : PS} {out : Pg} {DV BV : AV} (h : Inv T E σ p out DV BV) (hpk : p.peek 4 sData = true) (hn : 4 * mu p + 4 ≤ n) (hds : out.ds.length ≤ 100000) :
    ∃ σ' DV', (∃ k, ∀ N, k ≤ N → round1 ctx (acall ctx N) [29, 79, 90, 101, 109, 136] [] N [2, 4, 5, 29] b40_2 (frP DV BV) σ = some (frP DV' BV, σ')) ∧ Inv T E σ' (decl E n out p).2 (decl E n out p).1 DV' BV := by
  obtain ⟨hb, t, r, hr, _⟩ := peek_cons hpk
  have mn := mu_peek hpk
  have hp := h.po
  have e : decl E n out p = (let c := p.next.eat E 2 []; let l := c.2.names; let x := con E (l.1.map (·.s)) n (l.2.sign E sEq); let xs := cons E (l.1.map (·.s)) n n x.2; ({ out with ds := out.ds ++ [⟨c.1.s, c.1.at_, l.1.map (·.s), x.1 :: xs.1⟩] }, xs.2.sign E sSemi)) := by
    simp only [decl, hpk]
  simp only at e
  rw [e]
  have m1 := mu_eat E p.next 2 []
  have m2 := mu_names (p.next.eat E 2 []).2
  have m3 := mu_sign E (p.next.eat E 2 []).2.names.2 sEq
  obtain ⟨k1, hk1⟩ := peek_ans hp 4 sData
  obtain ⟨σ1, ⟨k2, hk2⟩, p1, x1⟩ := eat_ans (E := E) (hp.nexted hr) 2 []
  obtain ⟨σ2, ⟨k3, hk3⟩, p2, x2⟩ := names_ans p1
  have hlen : (p.next.eat E 2 []).2.names.1.length ≤ 65536 := Nat.le_trans (namesF_len _ _) p1.small
  obtain ⟨fr1, σ3, qv, j1, j2, j3, j4, j5, j6, j7, j8, j9, j10⟩ := lp18_0 σ2 (p.next.eat E 2 []).2.names.1 hlen (p.next.eat E 2 []).1.at_ (p.next.eat E 2 []).1.s Z2 (.agg [DV, BV]) (.ptr 0 1 0 0) (p.next.eat E 2 []).2.names.1 0 [] σ2 0 (Tail.all _) rfl (Own.nil p2.lt 1)
  simp only [List.nil_append] at j8 j9
  obtain ⟨k4, hk4⟩ := j1.den
  unfold Hi at j3
  obtain ⟨σ4, ⟨k5, hk5⟩, p4, x4⟩ := sign_ans (E := E) (p2.ext j10) sEq
  have own4 := j9.call x4
  have hV : VA 0 σ4 (rowV qv ((p.next.eat E 2 []).2.names.1.map (·.s)).length 1) ((p.next.eat E 2 []).2.names.1.map (·.s)) :=
    ⟨⟨qv, rfl, fun hv => by
      have h1 := own4.row (by simpa [encSs] using hv)
      exact ⟨by have := own4.lt; omega, false, h1.1⟩⟩, by simp only [List.length_map]; unfold big; omega⟩
  obtain ⟨d5, m5⟩ := con_does T E ((p.next.eat E 2 []).2.names.1.map (·.s)) n ((p.next.eat E 2 []).2.names.2.sign E sEq) (by omega)
  obtain ⟨σ5, ⟨k6, hk6⟩, p5, x5⟩ := d5 0 σ4 _ p4 hV
  obtain ⟨qc, σ6, hap6, own6, hq6⟩ := ((Own.nil p4.lt 3).call x5).app ⟨.strct [(0, 9), (1, 3), (2, 33)], 3, 48, .agg [.str [], .int .i64 0, .nil], []⟩ (encC (con E ((p.next.eat E 2 []).2.names.1.map (·.s)) n ((p.next.eat E 2 []).2.names.2.sign E sEq)).1) rfl (by simp) (by simp) (by simp) (by simp)
  have hsm := mu_small hp
  have hacc : [] ++ [encC (con E ((p.next.eat E 2 []).2.names.1.map (·.s)) n ((p.next.eat E 2 []).2.names.2.sign E sEq)).1] = encCs [(con E ((p.next.eat E 2 []).2.names.1.map (·.s)) n ((p.next.eat E 2 []).2.names.2.sign E sEq)).1] := by simp
  rw [hacc] at own6
  obtain ⟨fr2, σ7, qc2, l1, l2, l3, l4, l5, l6, l7, l8, l9, l10, l11⟩ := lp18_1 T E σ4 Z2 (.agg [DV, BV]) (rowV qv ((p.next.eat E 2 []).2.names.1.map (·.s)).length 1) ((p.next.eat E 2 []).2.names.1.map (·.s)) (p.next.eat E 2 []).1.at_ (p.next.eat E 2 []).1.s n n (con E ((p.next.eat E 2 []).2.names.1.map (·.s)) n ((p.next.eat E 2 []).2.names.2.sign E sEq)).2 [(con E ((p.next.eat E 2 []).2.names.1.map (·.s)) n ((p.next.eat E 2 []).2.names.2.sign E sEq)).1] σ6 qc (by omega) (by omega) (by simp; omega) (p5.ext hq6) hV own6
  simp only [List.singleton_append] at l8 l10
  obtain ⟨k7, hk7⟩ := l1.den
  unfold Hi at l3
  obtain ⟨σ8, ⟨k8, hk8⟩, p8, x8⟩ := sign_ans (E := E) l9 sSemi
  have own8 := l10.call x8
  have x08 : Ext 0 σ σ8 := (((((Ext.set 0 σ _).trans x1).trans x2).trans j9.ext).trans x4).trans own8.ext
  have inv8 := h.ext x08 p8
  have hV8 := hV.ext own8.ext
  obtain ⟨qD, Ds, i1, i2, i3⟩ := inv8.d
  obtain ⟨qB, i4, i5⟩ := inv8.b
  have hDl := i3.len
  have hbg := hp.beg hb hr
  obtain ⟨ho, h2, h3, h4, h5, hw, hset⟩ := hbg
  rw [objP_next T E hb] at hk2
  have hL1 := (hp.next hr).1
  rw [hL1] at hk2
  have hrowV8 : RowAt σ8 qv 1 (encSs ((p.next.eat E 2 []).2.names.1.map (·.s))) := fun hx => by
    have h1 := own4.row hx
    rw [own8.ext.rest qv (List.getElem?_eq_some_iff.1 h1.1).1 (by have := own4.lt; omega)]; exact h1.1
  have hrowC8 : RowAt σ8 qc2 3 (encCs ((con E ((p.next.eat E 2 []).2.names.1.map (·.s)) n ((p.next.eat E 2 []).2.names.2.sign E sEq)).1 :: (cons E ((p.next.eat E 2 []).2.names.1.map (·.s)) n n (con E ((p.next.eat E 2 []).2.names.1.map (·.s)) n ((p.next.eat E 2 []).2.names.2.sign E sEq)).2).1)) := fun hx => (own8.row hx).1
  generalize (cons E ((p.next.eat E 2 []).2.names.1.map (·.s)) n n (con E ((p.next.eat E 2 []).2.names.1.map (·.s)) n ((p.next.eat E 2 []).2.names.2.sign E sEq)).2).1 = cs at *
  generalize (con E ((p.next.eat E 2 []).2.names.1.map (·.s)) n ((p.next.eat E 2 []).2.names.2.sign E sEq)).1 = c1 at *
  generalize (p.next.eat E 2 []).2.names.1 = L at *
  generalize (p.next.eat E 2 []).1 = c at *
  obtain ⟨qD', σ9, hap9, hr9, hl9, hk9⟩ := app_raw ⟨.strct [(0, 9), (1, 3), (2, 52), (3, 163)], 4, 72, .agg [.str [], .int .i64 0, .nil, .nil], []⟩ (y := .agg [.str c.s, .int .i64 c.at_, rowV qv (L.map (·.s)).length 1, rowV qc2 (c1 :: cs).length 3]) i2 rfl (by simp; omega) (by simp; omega)
  rw [hDl] at hap9
  have hdr : DRel σ9 (Ds ++ [.agg [.str c.s, .int .i64 c.at_, rowV qv (L.map (·.s)).length 1, rowV qc2 (c1 :: cs).length 3]]) (out.ds ++ [⟨c.s, c.at_, L.map (·.s), c1 :: cs⟩]) :=
    DRel.snoc (d := ⟨c.s, c.at_, L.map (·.s), c1 :: cs⟩) ⟨qv, qc2, rfl, hrowV8.raw i2 (by simp) hk9, hrowC8.raw i2 (by simp) hk9⟩ (i3.pres (Pres.raw i2 (by simp) hk9))
  refine ⟨σ9, rowV qD' (out.ds.length + 1) 4, ⟨k1 + k2 + k3 + k4 + k5 + k6 + k7 + k8, fun N hN => ?_⟩, p8.raw i2 (by simp) hk9, ⟨qD', Ds ++ [.agg [.str c.s, .int .i64 c.at_, rowV qv (L.map (·.s)).length 1, rowV qc2 (c1 :: cs).length 3]], by simp, fun _ => hr9, hdr⟩, ⟨qB, i4, i5.raw i2 (by simp) hk9⟩⟩
  have hk1 := hk1 N (by omega)
  have hk2 := hk2 N (by omega)
  have hk3 := hk3 N (by omega)
  have hk4 := hk4 N (by omega)
  have hk5 := hk5 N (by omega)
  have hk6 := hk6 N (by omega)
  have hk7 := hk7 N (by omega)
  have hk8 := hk8 N (by omega)
  rw [hpk] at hk1
  simp only [Int.cast_ofNat_Int, sData, sEq, sSemi] at hk1 hk2 hk5 hk8
  rw [encTok_k] at hk2
  have e0 : rowV 0 0 1 = .nil := rfl
  have e1 : rowV 0 0 3 = .nil := rfl
  simp only [List.length_nil, e0] at hk4
  simp only [List.length_nil, e1, Nat.zero_add] at hap6
  simp only [List.length_singleton] at hk7
  rw [i1]
  unfold frP
  rw [i1] at hk4 j6 hk7 l6
  simp only [List.length_map, List.length_cons] at hk6 hk7 j8 l8 hap9
  have z1 : ∀ ti, Z2.fits ti = (ti.k.isAgg && 4 == ti.size) := fun _ => rfl
  simp -implicitDefEqProofs [b40_2, ho, h2, h3, h4, h5, hw, hset, hk1, hk2, hk3, hk4, j2, j3, j4, j5, j6, j7, j8, hk5, hk6, hap6, hk7, l2, l3, l4, l5, l6, l7, l8, hk8, hap9, -appendH]
end Go.Am.Tryz
