/- Layers 12 to 14: the reference's parser: what it keeps; alternatives. -/
import Derived.Test.YtjbmnkchnbnhcaaGreatDoorP7
set_option linter.unusedVariables false
set_option maxRecDepth 100000
set_option linter.unusedSimpArgs false
namespace Go.Am.Tryz
open Go Go.Am.Ps
def mu (p : PS) : Nat := match p.bad with | true => 0 | false => p.r.length
theorem mu_next {p : PS} {t : Tok} {r : List Tok} (hb : p.bad = false) (hr : p.r = t :: r) : mu p.next + 1 = mu p := by
  simp [mu, PS.next, hb, hr]
theorem mu_fail (E : Nat) (p : PS) : mu (p.fail E) = 0 := by
  unfold PS.fail
  cases hb : p.bad <;> simp [mu, hb]
theorem mu_peek {p : PS} {k : Nat} {s : Str} (h : p.peek k s = true) : mu p.next + 1 = mu p := by
  obtain ⟨hb, t, r, hr, _⟩ := peek_cons h
  exact mu_next hb hr
theorem mu_eat (E : Nat) (p : PS) (k : Nat) (s : Str) : mu (p.eat E k s).2 ≤ mu p := by
  unfold PS.eat
  split
  · rename_i h1 h2
    have := mu_peek h1
    simp only; omega
  · simp only [mu_fail]; omega
theorem mu_sign (E : Nat) (p : PS) (s : Str) : mu (p.sign E s) ≤ mu p := mu_eat E p 5 s
theorem mu_try (p : PS) (s : Str) : mu (p.try_ s).2 ≤ mu p := by
  unfold PS.try_
  split
  · rename_i h; have := mu_peek h; simp only; omega
  · exact Nat.le_refl _
theorem mu_namesF : ∀ n p, mu (namesF n p).2 ≤ mu p
  | 0, p => by simp [namesF]
  | n + 1, p => by
    simp only [namesF]
    split
    · rename_i h1 h2
      have := mu_peek h1
      have := mu_namesF n p.next
      simp only; omega
    · exact Nat.le_refl _
theorem mu_names (p : PS) : mu p.names.2 ≤ mu p := mu_namesF _ _
def Does (T : List Tok) (E : Nat) (f : Nat) (a : AV) (p p' : PS) : Prop :=
  ∀ q σ, PO T E q σ p → ∃ σ', AnsH ctx f [.ptr q 1 0 0] σ a σ' ∧ PO T E q σ' p' ∧ Ext q σ σ'
def ExprOK (T : List Tok) (E n : Nat) : Prop := ∀ p, 4 * mu p + 3 ≤ n → Does T E 82 (encE (expr E n p).1) p (expr E n p).2 ∧ mu (expr E n p).2 ≤ mu p
def AltOK (T : List Tok) (E n : Nat) : Prop := ∀ p, 4 * mu p + 4 ≤ n → Does T E 124 (encA (alt E n p).1) p (alt E n p).2 ∧ mu (alt E n p).2 ≤ mu p
def AtomOK (T : List Tok) (E n : Nat) : Prop := ∀ p, 4 * mu p + 1 ≤ n → Does T E 125 (encE (atom E n p).1) p (atom E n p).2 ∧ mu (atom E n p).2 ≤ mu p ∧ (p.atomic = true → mu (atom E n p).2 < mu p)
theorem Own.row2 {q q2 sz : Nat} {σ0 σ : H} {xs : List AV} (h : Own q σ0 σ q2 sz xs) : True := trivial
theorem lp80 (q : Nat) (σ0 : H) (L : List Tok) (hL : L.length ≤ 65536) (A : Nat) (S : Str) (b : Ex) (Z : AV) : ∀ (r : List Tok) (i : Nat) (acc : List Str) (σ : H) (q2 : Nat), Tail (encToks L) i (encToks r) → acc.length = i → Own q σ0 σ q2 1 (encSs acc) →
    ∃ fr' σ' q3, Lp ctx [34] [] [2, 4, 5, 6] b124_0 ⟨[(2, .bx Z), (4, .v (encR 4 true (encToks L))), (5, .bx (.agg (.int .i64 A :: .str S :: rowV q2 acc.length 1 :: cellsE b))), (6, .v (.int .i64 i))], false⟩ σ (.ex 0) fr' σ' ∧ fr'.lk = false ∧ Hi 36 fr' ∧
      getS fr'.sl 2 = .bx Z ∧ getS fr'.sl 5 = .bx (.agg (.int .i64 A :: .str S :: rowV q3 (acc ++ r.map (·.s)).length 1 :: cellsE b)) ∧ Own q σ0 σ' q3 1 (encSs (acc ++ r.map (·.s))) ∧ σ'[q]? = σ[q]?
  | [], i, acc, σ, q2, h, ha, ho => by
    have h' := h.nil
    simp at h'
    refine ⟨?_, σ, q2, Lp.exit ⟨0, fun N _ => ?_⟩ (by simp), ?_⟩
    rotate_left
    · simp -implicitDefEqProofs [b124_0, h']
      rfl
    · exact ⟨by simp, hi_of (by simp), by simp, by simp, by simpa using ho, rfl⟩
  | t :: r, i, acc, σ, q2, h, ha, ho => by
    have hlen := h.len
    obtain ⟨g1, g2, g3, g4, g5⟩ := h.cons
    simp at hlen
    have hw := wrap_succ (n := i) (by unfold big; omega)
    obtain ⟨q3, σ2, hap, ho2, hq⟩ := ho.app ⟨.str, 1, 16, .str [], [.str]⟩ (.str t.s) rfl (by simp) (by simp) (by simp; omega) (by simp; omega)
    obtain ⟨fr', σ', q4, l1, l2, l3, l4, l5, l6, l7⟩ := lp80 q σ0 L hL A S b Z r (i + 1) (acc ++ [t.s]) σ2 q3 g4 (by simp [ha]) (by simpa using ho2)
    simp only [List.append_assoc, List.singleton_append, ← List.map_cons] at l5 l6
    rw [encSs_length] at hap
    have g6 : encR 4 true (encToks L) = .sl 4 (encToks L) := g5 4 true
    rw [g6] at l1 ⊢
    simp only [encToks_length] at g2 g3
    unfold encTok at g1
    refine ⟨fr', σ', q4, Lp.step ⟨0, fun N hN => ?_⟩ l1, l2, l3, l4, l5, l6, l7.trans hq⟩
    obtain ⟨bk, ba, bs, bn, bks, bas⟩ := b
    simp only [cellsE] at l1 ⊢
    simp -implicitDefEqProofs [b124_0, g1, g2, g3, hw, hap, -appendH]
theorem step_alt {T : List Tok} {E n : Nat} (he : ExprOK T E n) : AltOK T E (n + 1) := fun p hn => by
  have e : alt E (n + 1) p = (.mk (p.eat E 2 []).1.at_ (p.eat E 2 []).1.s ((p.eat E 2 []).2.names.1.map (·.s)) (expr E n ((p.eat E 2 []).2.names.2.sign E sArr)).1, (expr E n ((p.eat E 2 []).2.names.2.sign E sArr)).2) := by
    simp [alt]
  have m1 := mu_eat E p 2 []
  have m2 := mu_names (p.eat E 2 []).2
  have m3 := mu_sign E (p.eat E 2 []).2.names.2 sArr
  obtain ⟨d, m4⟩ := he ((p.eat E 2 []).2.names.2.sign E sArr) (by omega)
  rw [e]
  refine ⟨fun q σ h => ?_, by simp only; omega⟩
  obtain ⟨σ1, ⟨k1, hk1⟩, p1, x1⟩ := eat_ans (E := E) h 2 []
  obtain ⟨σ2, ⟨k2, hk2⟩, p2, x2⟩ := names_ans p1
  obtain ⟨σ3, ⟨k3, hk3⟩, p3, x3⟩ := sign_ans (E := E) p2 sArr
  obtain ⟨σ4, ⟨k4, hk4⟩, p4, x4⟩ := d q σ3 p3
  have x : Ext q σ σ4 := ((x1.trans x2).trans x3).trans x4
  have hlen : (p.eat E 2 []).2.names.1.length ≤ 65536 := Nat.le_trans (namesF_len _ _) p1.small
  have hlt : q < σ4.length := Nat.lt_of_lt_of_le h.lt x.len
  generalize (p.eat E 2 []).2.names.1 = L at *
  generalize (p.eat E 2 []).1 = c at *
  generalize (expr E n ((p.eat E 2 []).2.names.2.sign E sArr)).1 = b at *
  obtain ⟨fr', σ5, q3, l1, l2, l3, l4, l5, l6, l7⟩ := lp80 q σ4 L hlen c.at_ c.s b (.agg [.int .i64 0, .str [], .nil, .int .i64 0, .int .i64 0, .str [], .int .i64 0, .nil, .nil]) L 0 [] σ4 0 (Tail.all _) rfl (Own.nil hlt 1)
  simp only [List.nil_append] at l5 l6
  obtain ⟨k5, hk5⟩ := l1.den
  unfold Hi at l3
  obtain ⟨ns, w1, w2, w3⟩ := l6.snap 198
  rw [encSs_length] at w1
  have hs : snapA σ5 200 (.agg (.int .i64 c.at_ :: .str c.s :: rowV q3 (L.map (·.s)).length 1 :: cellsE b)) = some (encA (.mk c.at_ c.s (L.map (·.s)) b), ns) := by
    unfold snapA
    split
    · rename_i hnr
      have : (rowV q3 (L.map (·.s)).length 1).noRef = true := by
        simp only [AV.noRef, AV.noRefs, Bool.and_eq_true] at hnr; exact hnr.2.2.1
      have h9 := (snapA_noRef (σ := σ5) (n := 199) this).symm.trans w1
      simp only [Option.some.injEq, Prod.mk.injEq] at h9
      rw [← h9.2, h9.1]; rfl
    · simp only [mapO2, w1, snapA_noRef (a := .int .i64 c.at_) rfl, snapA_noRef (a := .str c.s) rfl, mapO2_noRefs (noRefs_cellsE b), encA, List.append_nil, List.nil_append]
  refine ⟨frzH σ5 ns, AnsH.fn fn124_ (by simp) (snapPtr _ _ _) ⟨k1 + k2 + k3 + k4 + k5, fun N hN => ?_⟩ hs, p4.ext (by rw [frz_get ns σ5 q w3, l7]), (x.trans l6.ext).frz (fun j hj => Nat.le_trans x.len (w2 j hj))⟩
  have hk1 := hk1 N (by omega)
  have hk2 := hk2 N (by omega)
  have hk3 := hk3 N (by omega)
  have hk4 := hk4 N (by omega)
  have hk5 := hk5 N (by omega)
  simp only [Int.cast_ofNat_Int, sArr] at hk1 hk3
  clear hs w1 l6
  obtain ⟨bk, ba, bs, bn, bks, bas⟩ := b
  unfold encTok at hk1
  have e0 : rowV 0 0 1 = .nil := rfl
  simp only [encE, cellsE, List.length_nil, e0] at hk4 hk5 l5
  simp -implicitDefEqProofs [i124, c124, hk1, hk2, hk3, hk4, hk5, l2, l3, l4, l5, cellsE]
end Go.Am.Tryz
