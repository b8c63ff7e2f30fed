/- Layers 12 to 14: the reference's Lex. -/
import Derived.Test.YtjbmnkchnbnhcaaGreatDoorP1
set_option linter.unusedVariables false
set_option maxRecDepth 100000
set_option linter.unusedSimpArgs false
namespace Go.Am.Tryz
open Go Go.Am.Ps
def encTok (t : Tok) : AV := .agg [.int .i64 t.k, .int .i64 t.at_, .str t.s, .int .i64 t.n]
def encToks (l : List Tok) : List AV := l.map encTok
@[simp] theorem encToks_length (l : List Tok) : (encToks l).length = l.length := by simp [encToks]
@[simp] theorem encToks_nil : encToks [] = [] := rfl
@[simp] theorem encToks_cons (t : Tok) (l : List Tok) : encToks (t :: l) = encTok t :: encToks l := rfl
@[simp] theorem encToks_append (l m : List Tok) : encToks (l ++ m) = encToks l ++ encToks m := by simp [encToks]
def rowV (q n sz : Nat) : AV := match n with | 0 => .nil | m + 1 => .hs q (m + 1) 0 (m + 1) sz
def stH (sz : Nat) (xs : List AV) : H := match xs with | [] => [] | x :: l => [.arr false sz (x :: l)]
theorem app_own (te : TI) (xs : List AV) (y : AV) (hy : y.fits te = true) (hb : (xs.length + 1) * te.bytes ≤ 2 ^ 45) (hl : xs.length + 1 ≤ 2 ^ 45) :
    appendH te (rowV 0 xs.length te.size) [y] (stH te.size xs) = some (rowV 0 (xs ++ [y]).length te.size, stH te.size (xs ++ [y])) := by
  cases xs with
  | nil =>
    simp only [List.length_nil, Nat.zero_add, Nat.one_mul] at hb
    simp [rowV, stH, appendH, hy, fitAll, hb]
  | cons x l =>
    simp at hb hl
    have e1 : l.length + 1 + 1 ≤ 35184372088832 := by omega
    have e3 : ¬ l.length + 1 + 1 ≤ l.length + 1 := by omega
    have e4 : l.length + 1 ≤ 35184372088831 := by omega
    have e5 : l.length ≤ 35184372088830 := by omega
    simp [rowV, stH, appendH, hy, fitAll, hb, e1, e3, e4, e5, arrAt]
theorem lp40_0 (s : List UInt8) (hb : s.length < big) (X2 X3 : AV) (σ : H) : ∀ (r : List UInt8) (i : Nat), ST s i r →
    ∃ fr', Lp ctx [199] [] [0, 2, 3, 4] b74_0 ⟨[(0, .v (.str s)), (2, .bx X2), (3, .bx X3), (4, .v (.int .i64 i))], false⟩ σ (.ex 2) fr' σ ∧
      fr'.lk = false ∧ Hi 59 fr' ∧ getS fr'.sl 0 = .v (.str s) ∧ getS fr'.sl 2 = .bx X2 ∧ getS fr'.sl 3 = .bx X3 ∧ getS fr'.sl 4 = .v (.int .i64 ((i + (spanB (fun d => !Nat.beq d.toNat 10) r).1.length : Nat) : Int)) ∧
      ST s (i + (spanB (fun d => !Nat.beq d.toNat 10) r).1.length) (spanB (fun d => !Nat.beq d.toNat 10) r).2
  | [], i, h => by
    have h' := h.nil
    refine ⟨?_, Lp.exit ⟨0, fun N _ => ?_⟩ (by simp), ?_⟩
    rotate_left
    · simp -implicitDefEqProofs [b74_0, h']
      rfl
    · exact ⟨by simp, hi_of (by simp), by simp, by simp, by simp, by simp [spanB], by simpa [spanB] using h⟩
  | c :: r, i, h => by
    obtain ⟨g1, g2, g3⟩ := h.cons
    have hl := h.len
    have hw := wrap_succ (n := i) (by simp at hl; omega)
    have hbq := beq_int c.toNat 10
    cases hc : Nat.beq c.toNat 10 with
    | true =>
      rw [hc] at hbq
      have e1 : ((c.toNat : Int) != 10) = false := by
        have : ((c.toNat : Int) == 10) = true := hbq.symm
        simp only [bne, this]; rfl
      refine ⟨?_, Lp.exit ⟨0, fun N hN => ?_⟩ (by simp), ?_⟩
      rotate_left
      · simp -implicitDefEqProofs [b74_0, g1, g2, e1, -bne_iff_ne]
        rfl
      · exact ⟨by simp, hi_of (by simp), by simp, by simp, by simp, by simp [spanB, hc], by simpa [spanB, hc] using h⟩
    | false =>
      rw [hc] at hbq
      have e1 : ((c.toNat : Int) != 10) = true := by
        have : ((c.toNat : Int) == 10) = false := hbq.symm
        simp only [bne, this]; rfl
      obtain ⟨fr', h1, h2⟩ := lp40_0 s hb X2 X3 σ r (i + 1) g3
      have e2 : spanB (fun d => !Nat.beq d.toNat 10) (c :: r) = (c :: (spanB (fun d => !Nat.beq d.toNat 10) r).1, (spanB (fun d => !Nat.beq d.toNat 10) r).2) := by
        simp [spanB, hc]
      rw [e2]
      simp only [List.length_cons]
      rw [show i + ((spanB (fun d => !Nat.beq d.toNat 10) r).1.length + 1) = i + 1 + (spanB (fun d => !Nat.beq d.toNat 10) r).1.length by omega]
      refine ⟨fr', Lp.step ⟨0, fun N hN => ?_⟩ h1, h2⟩
      simp -implicitDefEqProofs [b74_0, g1, g2, e1, hw, -bne_iff_ne]
theorem lp40_1 (s : List UInt8) (hb : s.length < big) (X2 X3 X4 X6 : AV) (σ : H) : ∀ (r : List UInt8) (i : Nat), ST s i r →
    ∃ fr', Lp ctx [199] [] [0, 2, 3, 4, 6, 7] b74_1 ⟨[(0, .v (.str s)), (2, .bx X2), (3, .bx X3), (4, .v X4), (6, .bx X6), (7, .v (.int .i64 i))], false⟩ σ (.ex 5) fr' σ ∧
      fr'.lk = false ∧ Hi 81 fr' ∧ getS fr'.sl 0 = .v (.str s) ∧ getS fr'.sl 2 = .bx X2 ∧ getS fr'.sl 3 = .bx X3 ∧ getS fr'.sl 4 = .v X4 ∧ getS fr'.sl 6 = .bx X6 ∧ getS fr'.sl 7 = .v (.int .i64 ((i + (spanB restB r).1.length : Nat) : Int)) ∧
      ST s (i + (spanB restB r).1.length) (spanB restB r).2
  | [], i, h => by
    have h' := h.nil
    refine ⟨?_, Lp.exit ⟨0, fun N _ => ?_⟩ (by simp), ?_⟩
    rotate_left
    · simp -implicitDefEqProofs [b74_1, h']
      rfl
    · exact ⟨by simp, hi_of (by simp), by simp, by simp, by simp, by simp, by simp, by simp [spanB], by simpa [spanB] using h⟩
  | c :: r, i, h => by
    obtain ⟨k, hk⟩ := rest_ans c
    obtain ⟨g1, g2, g3⟩ := h.cons
    have hl := h.len
    have hw := wrap_succ (n := i) (by simp at hl; omega)
    cases hc : restB c with
    | false =>
      refine ⟨?_, Lp.exit ⟨k, fun N hN => ?_⟩ (by simp), ?_⟩
      rotate_left
      · simp -implicitDefEqProofs [b74_1, g1, g2, hk N hN, hc]
        rfl
      · exact ⟨by simp, hi_of (by simp), by simp, by simp, by simp, by simp, by simp, by simp [spanB, hc], by simpa [spanB, hc] using h⟩
    | true =>
      obtain ⟨fr', h1, h2⟩ := lp40_1 s hb X2 X3 X4 X6 σ r (i + 1) g3
      have e2 : spanB restB (c :: r) = (c :: (spanB restB r).1, (spanB restB r).2) := by
        simp [spanB, hc]
      rw [e2]
      simp only [List.length_cons]
      rw [show i + ((spanB restB r).1.length + 1) = i + 1 + (spanB restB r).1.length by omega]
      refine ⟨fr', Lp.step ⟨k, fun N hN => ?_⟩ h1, h2⟩
      simp -implicitDefEqProofs [b74_1, g1, g2, hk N hN, hc, hw]
theorem lp40_2 (s : List UInt8) (hb : s.length < big) (X2 X3 X4 X6 : AV) (σ : H) : ∀ (r : List UInt8) (i : Nat), ST s i r →
    ∃ fr', Lp ctx [199] [] [0, 2, 3, 4, 6, 7] b74_2 ⟨[(0, .v (.str s)), (2, .bx X2), (3, .bx X3), (4, .v X4), (6, .bx X6), (7, .v (.int .i64 i))], false⟩ σ (.ex 8) fr' σ ∧
      fr'.lk = false ∧ Hi 116 fr' ∧ getS fr'.sl 0 = .v (.str s) ∧ getS fr'.sl 2 = .bx X2 ∧ getS fr'.sl 3 = .bx X3 ∧ getS fr'.sl 4 = .v X4 ∧ getS fr'.sl 6 = .bx X6 ∧ getS fr'.sl 7 = .v (.int .i64 ((i + (spanB digitB r).1.length : Nat) : Int)) ∧
      ST s (i + (spanB digitB r).1.length) (spanB digitB r).2
  | [], i, h => by
    have h' := h.nil
    refine ⟨?_, Lp.exit ⟨0, fun N _ => ?_⟩ (by simp), ?_⟩
    rotate_left
    · simp -implicitDefEqProofs [b74_2, h']
      rfl
    · exact ⟨by simp, hi_of (by simp), by simp, by simp, by simp, by simp, by simp, by simp [spanB], by simpa [spanB] using h⟩
  | c :: r, i, h => by
    obtain ⟨k, hk⟩ := digit_ans c
    obtain ⟨g1, g2, g3⟩ := h.cons
    have hl := h.len
    have hw := wrap_succ (n := i) (by simp at hl; omega)
    cases hc : digitB c with
    | false =>
      refine ⟨?_, Lp.exit ⟨k, fun N hN => ?_⟩ (by simp), ?_⟩
      rotate_left
      · simp -implicitDefEqProofs [b74_2, g1, g2, hk N hN, hc]
        rfl
      · exact ⟨by simp, hi_of (by simp), by simp, by simp, by simp, by simp, by simp, by simp [spanB, hc], by simpa [spanB, hc] using h⟩
    | true =>
      obtain ⟨fr', h1, h2⟩ := lp40_2 s hb X2 X3 X4 X6 σ r (i + 1) g3
      have e2 : spanB digitB (c :: r) = (c :: (spanB digitB r).1, (spanB digitB r).2) := by
        simp [spanB, hc]
      rw [e2]
      simp only [List.length_cons]
      rw [show i + ((spanB digitB r).1.length + 1) = i + 1 + (spanB digitB r).1.length by omega]
      refine ⟨fr', Lp.step ⟨k, fun N hN => ?_⟩ h1, h2⟩
      simp -implicitDefEqProofs [b74_2, g1, g2, hk N hN, hc, hw]
end Go.Am.Tryz
