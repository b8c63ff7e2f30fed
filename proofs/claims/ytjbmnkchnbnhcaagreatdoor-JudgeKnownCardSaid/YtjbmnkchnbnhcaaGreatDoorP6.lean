/- Layers 12 to 14: the reference's parser: rows in the heap, names, functions of some names. -/
import Derived.Test.YtjbmnkchnbnhcaaGreatDoorP5
set_option linter.unusedVariables false
set_option maxRecDepth 100000
set_option linter.unusedSimpArgs false
namespace Go.Am.Tryz
open Go Go.Am.Ps
structure Own (q : Nat) (σ0 σ : H) (q2 sz : Nat) (xs : List AV) : Prop where
  lt : q < σ0.length
  ext : Ext q σ0 σ
  row : xs ≠ [] → σ[q2]? = some (.arr false sz xs) ∧ σ0.length ≤ q2
  nr : AV.noRefs xs = true
theorem Own.nil {q : Nat} {σ0 : H} (h : q < σ0.length) (sz : Nat) : Own q σ0 σ0 0 sz [] := ⟨h, Ext.refl _ _, fun h => absurd rfl h, rfl⟩
theorem Own.call {q q2 sz : Nat} {σ0 σ σ1 : H} {xs : List AV} (h : Own q σ0 σ q2 sz xs) (he : Ext q σ σ1) : Own q σ0 σ1 q2 sz xs :=
  ⟨h.lt, h.ext.trans he, fun hx => by
    obtain ⟨h1, h2⟩ := h.row hx
    have := h.lt
    have hl := (List.getElem?_eq_some_iff.1 h1).1
    exact ⟨by rw [he.rest q2 hl (by omega)]; exact h1, h2⟩, h.nr⟩
theorem PO.ext {T : List Tok} {E q : Nat} {σ σ1 : H} {p : PS} (h : PO T E q σ p) (he : σ1[q]? = σ[q]?) : PO T E q σ1 p := ⟨by rw [he]; exact h.obj, h.tl, h.sm⟩
theorem noRefs_snoc (xs : List AV) (y : AV) : AV.noRefs (xs ++ [y]) = (AV.noRefs xs && y.noRef) := by
  rw [noRefs_append]; simp [AV.noRefs]
theorem Own.app {q q2 sz : Nat} {σ0 σ : H} {xs : List AV} (h : Own q σ0 σ q2 sz xs) (te : TI) (y : AV) (hs : te.size = sz) (hy : y.fits te = true) (hn : y.noRef = true) (hb : (xs.length + 1) * te.bytes ≤ 2 ^ 45) (hl : xs.length + 1 ≤ 2 ^ 45) :
    ∃ q3 σ', appendH te (rowV q2 xs.length sz) [y] σ = some (rowV q3 (xs.length + 1) sz, σ') ∧ Own q σ0 σ' q3 sz (xs ++ [y]) ∧ σ'[q]? = σ[q]? := by
  subst hs
  have hlt := h.lt
  have hle := h.ext.len
  cases xs with
  | nil =>
    simp only [List.length_nil, Nat.zero_add, Nat.one_mul] at hb
    refine ⟨σ.length, σ ++ [.arr false te.size [y]], ?_, ⟨hlt, h.ext.trans (Ext.app _ _ _), fun _ => ⟨by simp, hle⟩, by simp [AV.noRefs, hn]⟩, by rw [List.getElem?_append_left (by omega)]⟩
    simp [rowV, appendH, hy, fitAll, hb]
  | cons x l =>
    obtain ⟨h1, h2⟩ := h.row (by simp)
    simp at hb hl
    have e1 : l.length + 1 + 1 ≤ 35184372088832 := by omega
    have e3 : ¬ l.length + 1 + 1 ≤ l.length + 1 := by omega
    have e4 : l.length + 1 ≤ 35184372088831 := by omega
    have e5 : l.length ≤ 35184372088830 := by omega
    have hl2 := (List.getElem?_eq_some_iff.1 h1).1
    have ht : (x :: l).take (l.length + 1) = x :: l := by rw [show l.length + 1 = (x :: l).length by simp, List.take_length]
    refine ⟨q2, σ.set q2 (.arr false te.size (x :: l ++ [y])), ?_, ⟨hlt, ⟨by simp; omega, fun j hj hq => ?_⟩, fun _ => ⟨List.getElem?_set_self hl2, h2⟩, by rw [noRefs_snoc, h.nr, hn]; rfl⟩, by rw [List.getElem?_set_ne (by omega)]⟩
    · simp [rowV, appendH, hy, fitAll, hb, e1, e3, e4, e5, arrAt, h1]
    · rw [List.getElem?_set_ne (by omega)]
      exact h.ext.rest j hj hq
theorem frz_get : ∀ (ns : List Nat) (σ : H) (j : Nat), j ∉ ns → (frzH σ ns)[j]? = σ[j]?
  | [], _, _, _ => rfl
  | n :: ns, σ, j, h => by
    simp only [List.mem_cons, not_or] at h
    simp only [frzH]
    rw [frz_get ns _ j h.2]
    split
    · rw [List.getElem?_set_ne (fun e => h.1 e.symm)]
    · rfl
theorem frz_len : ∀ (ns : List Nat) (σ : H), (frzH σ ns).length = σ.length
  | [], _ => rfl
  | n :: ns, σ => by
    simp only [frzH]
    rw [frz_len ns]
    split <;> simp
theorem Ext.frz {q : Nat} {σ0 σ : H} (h : Ext q σ0 σ) {ns : List Nat} (hn : ∀ n ∈ ns, σ0.length ≤ n) : Ext q σ0 (frzH σ ns) :=
  ⟨by rw [frz_len]; exact h.len, fun j hj hq => by
    rw [frz_get ns σ j (fun hm => by have := hn j hm; omega)]
    exact h.rest j hj hq⟩
theorem Own.snap {q q2 sz : Nat} {σ0 σ : H} {xs : List AV} (h : Own q σ0 σ q2 sz xs) (n : Nat) : ∃ ns, snapA σ (n + 1) (rowV q2 xs.length sz) = some (encR sz true xs, ns) ∧ (∀ j ∈ ns, σ0.length ≤ j) ∧ q ∉ ns := by
  obtain ⟨ns, h1, h2⟩ := snap_rowV q2 sz xs σ n (fun hx => ⟨false, (h.row hx).1⟩) h.nr
  have hlt := h.lt
  rcases h2 with rfl | rfl
  · exact ⟨[], h1, by simp, by simp⟩
  · by_cases hx : xs = []
    · subst hx
      simp only [rowV, List.length_nil] at h1
      rw [snapA_noRef rfl] at h1
      cases h1
    · have := (h.row hx).2
      exact ⟨[q2], h1, by simpa using this, by simp; omega⟩
theorem lp43 (T : List Tok) (E q : Nat) (σ0 : H) : ∀ (n : Nat) (p : PS) (σ : H) (acc : List Tok) (q2 : Nat), p.r.length ≤ n → PO T E q σ p → Own q σ0 σ q2 4 (encToks acc) → acc.length + p.r.length ≤ 65536 →
    ∃ fr' σ' q3, Lp ctx [10] [] [0, 3] b77_0 ⟨[(0, .v (.ptr q 1 0 0)), (3, .v (rowV q2 acc.length 4))], false⟩ σ (.ex 0) fr' σ' ∧ fr'.lk = false ∧ Hi 11 fr' ∧ getS fr'.sl 2 = .u ∧
      getS fr'.sl 3 = .v (rowV q3 (acc ++ (namesF n p).1).length 4) ∧ PO T E q σ' (namesF n p).2 ∧ Own q σ0 σ' q3 4 (encToks (acc ++ (namesF n p).1))
  | n, p, σ, acc, q2, hn, hp, ho, hl => by
    obtain ⟨k1, hk1⟩ := peek_ans hp 1 []
    cases hpk : p.peek 1 [] with
    | false =>
      have e : namesF n p = ([], p) := by cases n <;> simp [namesF, hpk]
      rw [e]
      simp only [List.append_nil]
      refine ⟨?_, σ, q2, Lp.exit ⟨k1, fun N hN => ?_⟩ (by simp), ?_⟩
      rotate_left
      · have hk1 := hk1 N hN
        rw [hpk] at hk1
        simp only [Int.cast_ofNat_Int] at hk1
        simp -implicitDefEqProofs [b77_0, hk1]
        rfl
      · exact ⟨by simp, hi_of (by simp), by simp, by simp, hp, ho⟩
    | true =>
      obtain ⟨hb, t, r, hr, _⟩ := peek_cons hpk
      have hlr : p.r.length = r.length + 1 := by rw [hr]; simp
      obtain ⟨m, rfl⟩ : ∃ m, n = m + 1 := ⟨n - 1, by omega⟩
      have e : namesF (m + 1) p = (t :: (namesF m p.next).1, (namesF m p.next).2) := by
        simp [namesF, hpk, hr]
      have e2 : p.eat E 1 [] = (t, p.next) := by unfold PS.eat; rw [hpk, hr]
      obtain ⟨σ1, ⟨k2, hk2⟩, h2, h3⟩ := eat_ans (E := E) hp 1 []
      rw [e2] at hk2 h2
      have ho1 := ho.call h3
      obtain ⟨q3, σ2, ha, ho2, hq⟩ := ho1.app ⟨.strct [(0, 3), (1, 3), (2, 9), (3, 3)], 4, 40, .agg [.int .i64 0, .int .i64 0, .str [], .int .i64 0], []⟩ (encTok t) rfl (by simp) (by simp) (by simp; omega) (by simp; omega)
      have h4 := h2.ext hq
      have hnr : p.next.r = r := by simp [PS.next, hr]
      have hacc : encToks acc ++ [encTok t] = encToks (acc ++ [t]) := by simp
      rw [hacc] at ho2
      rw [encToks_length] at ha
      obtain ⟨fr', σ', q4, l1, l2⟩ := lp43 T E q σ0 m p.next σ2 (acc ++ [t]) q3 (by rw [hnr]; omega) h4 ho2 (by rw [hnr]; simp; omega)
      rw [e]
      simp only [List.append_assoc, List.singleton_append] at l1 l2
      refine ⟨fr', σ', q4, Lp.step ⟨k1 + k2, fun N hN => ?_⟩ l1, l2⟩
      have hk1 := hk1 N (by omega)
      have hk2 := hk2 N (by omega)
      rw [hpk] at hk1
      simp only [Int.cast_ofNat_Int] at hk1 hk2
      simp -implicitDefEqProofs [b77_0, hk1, hk2, ha, -appendH]
theorem namesF_len : ∀ n p, (namesF n p).1.length ≤ n
  | 0, p => by simp [namesF]
  | n + 1, p => by
    simp only [namesF]
    split
    · have := namesF_len n p.next
      simp only [List.length_cons]
      omega
    · simp
theorem PO.small {T : List Tok} {E q : Nat} {σ : H} {p : PS} (h : PO T E q σ p) : p.r.length ≤ 65536 := by
  obtain ⟨pre, h1, h2⟩ := h.tl
  have := h.sm
  rw [h2] at this
  simp at this
  omega
theorem names_ans {T : List Tok} {E q : Nat} {σ : H} {p : PS} (h : PO T E q σ p) :
    ∃ σ', AnsH ctx 77 [.ptr q 1 0 0] σ (encR 4 true (encToks p.names.1)) σ' ∧ PO T E q σ' p.names.2 ∧ Ext q σ σ' := by
  have hs := h.small
  obtain ⟨fr', σ', q3, l1, l2, l3, l4, l5, l6, l7⟩ := lp43 T E q σ p.r.length p σ [] 0 (Nat.le_refl _) h (Own.nil h.lt 4) (by simpa using hs)
  simp only [List.nil_append] at l5 l7
  obtain ⟨k, hk⟩ := l1.den
  unfold Hi at l3
  obtain ⟨ns, w1, w2, w3⟩ := l7.snap 199
  rw [encToks_length] at w1
  refine ⟨frzH σ' ns, AnsH.fn fn77_ (by simp) (snapPtr _ _ _) ⟨k, fun N hN => ?_⟩ w1, l6.ext (frz_get ns σ' q w3), l7.ext.frz w2⟩
  have hk := hk N hN
  simp only [List.length_nil, rowV] at hk
  simp -implicitDefEqProofs [i77, c77, hk, l2, l3, l4, l5]
end Go.Am.Tryz
