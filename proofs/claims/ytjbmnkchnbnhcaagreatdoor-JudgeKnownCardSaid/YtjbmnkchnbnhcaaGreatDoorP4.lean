/- Layers 12 to 14: the reference's Lex. -/
import Derived.Test.YtjbmnkchnbnhcaaGreatDoorP3
set_option linter.unusedVariables false
set_option maxRecDepth 100000
set_option linter.unusedSimpArgs false
namespace Go.Am.Tryz
open Go Go.Am.Ps
theorem noLetter {c : UInt8} (h : c.toNat < 48 ∨ 58 ≤ c.toNat ∧ c.toNat < 65 ∨ 91 ≤ c.toNat ∧ c.toNat < 97 ∨ 123 ≤ c.toNat) : lowerB c = false ∧ upperB c = false ∧ digitB c = false := by
  refine ⟨?_, ?_, ?_⟩
  · cases e : lowerB c with
    | false => rfl
    | true => simp only [lowerB, Bool.and_eq_true, Nat.ble_eq] at e; omega
  · cases e : upperB c with
    | false => rfl
    | true => simp only [upperB, Bool.and_eq_true, Nat.ble_eq] at e; omega
  · cases e : digitB c with
    | false => rfl
    | true => simp only [digitB, Bool.and_eq_true, Nat.ble_eq] at e; omega
set_option maxHeartbeats 1000000 in
theorem rnd_arrow (s : List UInt8) (hb : s.length ≤ 65536) (c d : UInt8) (r : List UInt8) (i : Nat) (h : ST s i (c :: d :: r)) (acc : List Tok) (ha : acc.length ≤ 65536)
    (h1 : c.toNat = 45) (h2 : d.toNat = 62) : Rnd s i acc (.tok ⟨5, i, sArr, 0⟩ (i + 2) r) := by
  obtain ⟨g1, g2, g3⟩ := h.cons
  obtain ⟨g4, g5⟩ := g3.cons1
  obtain ⟨_, _, g6⟩ := g3.cons
  have hl := h.len
  have hw : IntKind.i64.wrap ((i : Int) + 1) = (i : Int) + 1 := wrap_i64 (by simp at hl; omega)
  have hw2 : IntKind.i64.wrap ((i : Int) + 2) = (i : Int) + 2 := wrap_i64 (by simp at hl; omega)
  obtain ⟨e1, e2, e3⟩ := noLetter (c := c) (by omega)
  obtain ⟨k1, hk1⟩ := lower_ans c
  obtain ⟨k2, hk2⟩ := upper_ans c
  obtain ⟨k3, hk3⟩ := digit_ans c
  have hap := app_tok acc 5 i 0 sArr (kI := 5) (nI := 0) rfl rfl ha
  refine ⟨⟨k1 + k2 + k3, fun N hN => ?_⟩, g6, by omega⟩
  have hk1 := hk1 N (by omega)
  have hk2 := hk2 N (by omega)
  have hk3 := hk3 N (by omega)
  generalize stL (acc ++ [⟨5, i, sArr, 0⟩]) = H1 at *
  generalize stL acc = H0 at *
  rw [h1] at g1 hk1 hk2 hk3
  rw [h2] at g4
  simp only [sArr] at hap
  unfold frL
  simp only [Int.cast_ofNat_Int] at g1 g4 hk1 hk2 hk3
  simp -implicitDefEqProofs [b74_3, g1, g2, g4, g5, hw, hw2, hk1, hk2, hk3, e1, e2, e3, hap, -appendH]
set_option maxHeartbeats 1000000 in
theorem rnd_sign1 (s : List UInt8) (hb : s.length ≤ 65536) (c : UInt8) (r : List UInt8) (i : Nat) (h : ST s i (c :: r)) (acc : List Tok) (ha : acc.length ≤ 65536)
    (h1 : c.toNat = 92 ∨ c.toNat = 61 ∨ c.toNat = 59 ∨ c.toNat = 124 ∨ c.toNat = 40 ∨ c.toNat = 41 ∨ c.toNat = 44 ∨ c.toNat = 123 ∨ c.toNat = 125) : Rnd s i acc (.tok ⟨5, i, [c], 0⟩ (i + 1) r) := by
  obtain ⟨g1, g2, g3⟩ := h.cons
  have hl := h.len
  have hw : IntKind.i64.wrap ((i : Int) + 1) = (i : Int) + 1 := wrap_i64 (by simp at hl; omega)
  obtain ⟨e1, e2, e3⟩ := noLetter (c := c) (by omega)
  obtain ⟨w1, w2, w3⟩ := ST.slice (s := s) (i := i) (a := [c]) (b := r) h
  simp only [List.length_singleton, Int.natCast_add, Int.natCast_one] at w1 w2
  obtain ⟨k1, hk1⟩ := lower_ans c
  obtain ⟨k2, hk2⟩ := upper_ans c
  obtain ⟨k3, hk3⟩ := digit_ans c
  have hap := app_tok acc 5 i 0 [c] (kI := 5) (nI := 0) rfl rfl ha
  refine ⟨⟨k1 + k2 + k3, fun N hN => ?_⟩, g3, by omega⟩
  have hk1 := hk1 N (by omega)
  have hk2 := hk2 N (by omega)
  have hk3 := hk3 N (by omega)
  generalize stL (acc ++ [⟨5, i, [c], 0⟩]) = H1 at *
  generalize stL acc = H0 at *
  unfold frL
  rcases h1 with h1 | h1 | h1 | h1 | h1 | h1 | h1 | h1 | h1
  all_goals
    rw [h1] at g1 hk1 hk2 hk3
    simp only [Int.cast_ofNat_Int] at g1 hk1 hk2 hk3
    simp -implicitDefEqProofs [b74_3, g1, g2, hw, hk1, hk2, hk3, e1, e2, e3, w1, w2, hap, -appendH]
set_option maxHeartbeats 2000000 in
theorem rnd_bad (s : List UInt8) (hb : s.length ≤ 65536) (c : UInt8) (r : List UInt8) (i : Nat) (h : ST s i (c :: r)) (acc : List Tok) (ha : acc.length ≤ 65536)
    (h1 : (Nat.beq c.toNat 32 || (Nat.beq c.toNat 9 || Nat.beq c.toNat 10)) = false) (h2 : (lowerB c || upperB c) = false) (h3 : digitB c = false) (h4 : signB c = false)
    (h5 : (Nat.beq c.toNat 45 && nextIs 45 r) = false) (h6 : (Nat.beq c.toNat 45 && nextIs 62 r) = false) : Rnd s i acc .bad := by
  obtain ⟨g1, g2, g3⟩ := h.cons
  have hl := h.len
  have hw : IntKind.i64.wrap ((i : Int) + 1) = (i : Int) + 1 := wrap_i64 (by simp at hl; omega)
  simp only [Bool.or_eq_false_iff] at h1 h2
  obtain ⟨e1, e2⟩ := h2
  simp only [signB, Bool.or_eq_false_iff] at h4
  obtain ⟨s1, s2, s3, s4, s5, s6, s7, s8, s9⟩ := h4
  obtain ⟨n1, n2, n3⟩ := h1
  rw [beq_int] at n1 n2 n3 s1 s2 s3 s4 s5 s6 s7 s8 s9
  simp only [Int.cast_ofNat_Int] at n1 n2 n3 s1 s2 s3 s4 s5 s6 s7 s8 s9
  obtain ⟨k1, hk1⟩ := lower_ans c
  obtain ⟨k2, hk2⟩ := upper_ans c
  obtain ⟨k3, hk3⟩ := digit_ans c
  rw [e1] at hk1
  rw [e2] at hk2
  rw [h3] at hk3
  by_cases hm : c.toNat = 45
  · have g0 : strIdx s i = some (.int .u8 45) := by rw [g1, hm]; rfl
    rw [hm] at hk1 hk2 hk3
    simp only [Int.cast_ofNat_Int] at hk1 hk2 hk3
    cases r with
    | nil =>
      have g5 : ¬ (i : Int) + 1 < (s.length : Int) := by simp at hl; omega
      refine ⟨?_, k1 + k2 + k3, fun N hN => ?_, ?_⟩
      rotate_left
      · have hk1 := hk1 N (by omega)
        have hk2 := hk2 N (by omega)
        have hk3 := hk3 N (by omega)
        unfold frL
        simp -implicitDefEqProofs [b74_3, g0, g2, hw, hk1, hk2, hk3, g5]
        rfl
      · simp
    | cons d r =>
      obtain ⟨g4, g5⟩ := g3.cons1
      have d1 : ((d.toNat : Int) == 45) = false := by
        rw [hm] at h5
        have h7 : Nat.beq d.toNat 45 = false := h5
        rw [beq_int] at h7; exact h7
      have d2 : ((d.toNat : Int) == 62) = false := by
        rw [hm] at h6
        have h7 : Nat.beq d.toNat 62 = false := h6
        rw [beq_int] at h7; exact h7
      refine ⟨?_, k1 + k2 + k3, fun N hN => ?_, ?_⟩
      rotate_left
      · have hk1 := hk1 N (by omega)
        have hk2 := hk2 N (by omega)
        have hk3 := hk3 N (by omega)
        unfold frL
        simp -implicitDefEqProofs [b74_3, g0, g2, g4, g5, hw, hk1, hk2, hk3, d1, d2]
        rfl
      · simp
  · have n4 : ((c.toNat : Int) == 45) = false := by simp; omega
    refine ⟨?_, k1 + k2 + k3, fun N hN => ?_, ?_⟩
    rotate_left
    · have hk1 := hk1 N (by omega)
      have hk2 := hk2 N (by omega)
      have hk3 := hk3 N (by omega)
      unfold frL
      simp -implicitDefEqProofs [b74_3, g1, g2, hw, hk1, hk2, hk3, n1, n2, n3, n4, s1, s2, s3, s4, s5, s6, s7, s8, s9]
      rfl
    · simp
theorem rnd_all (s : List UInt8) (hb : s.length ≤ 65536) (c : UInt8) (r : List UInt8) (i : Nat) (h : ST s i (c :: r)) (acc : List Tok) (ha : acc.length ≤ 65536) : Rnd s i acc (lex1 i c r) := by
  unfold lex1
  cases h1 : (Nat.beq c.toNat 32 || (Nat.beq c.toNat 9 || Nat.beq c.toNat 10)) with
  | true => rw [if_pos rfl]; exact rnd_space s hb c r i h acc h1
  | false =>
  rw [if_neg (by simp)]
  cases h5 : (Nat.beq c.toNat 45 && nextIs 45 r) with
  | true =>
    rw [if_pos rfl]
    rw [Bool.and_eq_true] at h5
    cases r with
    | nil => simp [nextIs] at h5
    | cons d r => exact rnd_comment s hb c d r i h acc (Nat.eq_of_beq_eq_true h5.1) (Nat.eq_of_beq_eq_true h5.2)
  | false =>
  rw [if_neg (by simp)]
  cases h2 : (lowerB c || upperB c) with
  | true => rw [if_pos rfl]; exact rnd_word s hb c r i h acc ha h2
  | false =>
  rw [if_neg (by simp)]
  cases h3 : digitB c with
  | true => rw [if_pos rfl]; exact rnd_digit s hb c r i h acc ha h3
  | false =>
  rw [if_neg (by simp)]
  cases h6 : (Nat.beq c.toNat 45 && nextIs 62 r) with
  | true =>
    rw [if_pos rfl]
    rw [Bool.and_eq_true] at h6
    cases r with
    | nil => simp [nextIs] at h6
    | cons d r => exact rnd_arrow s hb c d r i h acc ha (Nat.eq_of_beq_eq_true h6.1) (Nat.eq_of_beq_eq_true h6.2)
  | false =>
  rw [if_neg (by simp)]
  cases h4 : signB c with
  | true =>
    rw [if_pos rfl]
    refine rnd_sign1 s hb c r i h acc ha ?_
    simp only [signB, Bool.or_eq_true] at h4
    rcases h4 with h | h | h | h | h | h | h | h | h <;> have := Nat.eq_of_beq_eq_true h <;> omega
  | false =>
    rw [if_neg (by simp)]
    exact rnd_bad s hb c r i h acc ha h1 h2 h3 h4 h5 h6
def Lexed.app (acc : List Tok) : Lexed → Lexed
  | .ok l => .ok (acc ++ l)
  | x => x
theorem app_consT (acc : List Tok) (t : Tok) (x : Lexed) : Lexed.app acc (consT t x) = Lexed.app (acc ++ [t]) x := by
  cases x <;> simp [consT, Lexed.app]
def encLx : Lexed → AV
  | .ok l => .agg [encR 4 true (encToks l), .int .i64 0, .int .i64 0]
  | .bad e a => .agg [.nil, .int .i64 e, .int .i64 a]
theorem lp40_3 (s : List UInt8) (hb : s.length ≤ 65536) : ∀ (n i : Nat) (r : List UInt8) (acc : List Tok), ST s i r → r.length < n → acc.length ≤ i →
    ∃ e fr' σ', Lp ctx [199] [] [0, 2, 3, 4] b74_3 (frL s i acc) (stL acc) e fr' σ' ∧
      (match Lexed.app acc (lexF n i r) with
       | .ok l => e = .ex 0 ∧ fr'.lk = false ∧ Hi 202 fr' ∧ getS fr'.sl 2 = .bx Zl ∧ getS fr'.sl 3 = .bx (.agg [rowV 0 l.length 4, .int .i64 0, .int .i64 0]) ∧ σ' = stL l ∧ l.length ≤ 65536
       | .bad k a => e = .ret ∧ getS fr'.sl 2 = .bx (.agg [.nil, .int .i64 k, .int .i64 a]))
  | 0, _, _, _, _, h, _ => by omega
  | n + 1, i, [], acc, h, _, ha => by
    have h' := h.nil
    refine ⟨.ex 0, ?_, stL acc, Lp.exit ⟨0, fun N _ => ?_⟩ (by simp), ?_⟩
    rotate_left
    · simp -implicitDefEqProofs [b74_3, frL, h']
      rfl
    · simp only [lexF, Lexed.app, List.append_nil]
      exact ⟨by simp, by simp, hi_of (by simp), by simp, by simp, by simp, by omega⟩
  | n + 1, i, c :: r, acc, h, hn, ha => by
    have hl := h.len
    simp only [List.length_cons] at hl hn
    have hr := rnd_all s hb c r i h acc (by omega)
    simp only [lexF]
    cases hx : lex1 i c r with
    | skip j q =>
      rw [hx] at hr
      obtain ⟨h1, h2, h3⟩ := hr
      have hl2 := h2.len
      obtain ⟨e, fr', σ', q1, q2⟩ := lp40_3 s hb n j q acc h2 (by omega) (by omega)
      exact ⟨e, fr', σ', Lp.step h1 q1, q2⟩
    | tok t j q =>
      rw [hx] at hr
      obtain ⟨h1, h2, h3⟩ := hr
      have hl2 := h2.len
      obtain ⟨e, fr', σ', q1, q2⟩ := lp40_3 s hb n j q (acc ++ [t]) h2 (by omega) (by simp; omega)
      refine ⟨e, fr', σ', Lp.step h1 q1, ?_⟩
      simp only
      rw [app_consT]
      exact q2
    | bad =>
      rw [hx] at hr
      obtain ⟨fr', k, h1, h2⟩ := hr
      exact ⟨.ret, fr', stL acc, Lp.exit ⟨k, h1⟩ (by simp), rfl, h2⟩
theorem noRefs_encToks : ∀ l, AV.noRefs (encToks l) = true
  | [] => rfl
  | t :: l => by simp [encTok, noRefs_encToks l]
theorem snapA_noRef {σ : H} {n : Nat} {a : AV} (h : a.noRef = true) : snapA σ n a = some (a, []) := by
  cases n <;> simp [snapA, h]
theorem mapO2_noRefs {σ : H} {n : Nat} : ∀ {l : List AV}, AV.noRefs l = true → mapO2 (snapA σ n) l = some (l, [])
  | [], _ => rfl
  | a :: l, h => by
    simp only [AV.noRefs, Bool.and_eq_true] at h
    simp only [mapO2, snapA_noRef h.1, mapO2_noRefs h.2, List.append_nil]
theorem snapA_hs {σ : H} {n q v m sz : Nat} {fz : Bool} {xs : List AV} (h : σ[q]? = some (.arr fz sz xs)) (hv : xs.length = v) (hm : m ≤ v) (hn : AV.noRefs (xs.take m) = true) : snapA σ (n + 1) (.hs q v 0 m sz) = some (.sl sz (xs.take m), [q]) := by
  unfold snapA
  rw [if_neg (by simp)]
  simp [arrAt, h, hv, hm, mapO2_noRefs hn]
theorem snap_rowV (q sz : Nat) (xs : List AV) (σ : H) (n : Nat) (h : xs ≠ [] → ∃ fz, σ[q]? = some (.arr fz sz xs)) (hn : AV.noRefs xs = true) : ∃ ns, snapA σ (n + 1) (rowV q xs.length sz) = some (encR sz true xs, ns) ∧ (ns = [] ∨ ns = [q]) := by
  cases xs with
  | nil => exact ⟨[], by simp only [rowV, List.length_nil]; exact snapA_noRef rfl, .inl rfl⟩
  | cons x l =>
    obtain ⟨fz, h⟩ := h (by simp)
    refine ⟨[q], ?_, .inr rfl⟩
    have h2 : (x :: l).take (l.length + 1) = x :: l := by
      rw [show l.length + 1 = (x :: l).length by simp, List.take_length]
    have := snapA_hs (n := n) (m := l.length + 1) h (by simp) (Nat.le_refl _) (by rw [h2]; exact hn)
    simp only [rowV, List.length_cons]
    rw [this, h2]
    simp
theorem lex_ans (s : List UInt8) : Ans ctx 74 [.str s] (encLx (lex s)) := by
  unfold lex
  cases hle : Nat.ble s.length 65536 with
  | false =>
    rw [if_neg (by simp)]
    have hgt : (65536 : Int) < (s.length : Int) := by
      have : ¬ s.length ≤ 65536 := by
        intro h
        rw [Nat.ble_eq_true_of_le h] at hle
        cases hle
      omega
    refine Ans.of (σ' := []) fn74_ (by simp) (by simp [encLx]) ⟨0, fun N hN => ?_⟩
    simp -implicitDefEqProofs [i74, c74, hgt, encLx]
  | true =>
    rw [if_pos rfl]
    have hb : s.length ≤ 65536 := Nat.le_of_ble_eq_true hle
    have hgt : ¬ (65536 : Int) < (s.length : Int) := by omega
    obtain ⟨e, fr', σ', q1, q2⟩ := lp40_3 s hb (s.length + 1) 0 s [] (ST.all s) (by omega) (by simp)
    obtain ⟨k, hk⟩ := q1.den
    have e0 : Lexed.app [] (lexF (s.length + 1) 0 s) = lexF (s.length + 1) 0 s := by
      cases lexF (s.length + 1) 0 s <;> simp [Lexed.app]
    rw [e0] at q2
    have ef : frL s 0 [] = ⟨[(0, .v (.str s)), (2, .bx (.agg [.nil, .int .i64 0, .int .i64 0])), (3, .bx (.agg [.nil, .int .i64 0, .int .i64 0])), (4, .v (.int .i64 0))], false⟩ := rfl
    have es : stL [] = [] := rfl
    rw [ef, es] at hk
    cases hx : lexF (s.length + 1) 0 s with
    | bad x a =>
      rw [hx] at q2
      obtain ⟨rfl, q3⟩ := q2
      refine Ans.of (σ' := σ') fn74_ (by simp) (by simp [encLx]) ⟨k, fun N hN => ?_⟩
      simp -implicitDefEqProofs [i74, c74, hgt, encLx, hk N hN, q3]
    | ok l =>
      rw [hx] at q2
      obtain ⟨rfl, q3, q4, q5, q6, rfl, q7⟩ := q2
      unfold Hi at q4
      obtain ⟨ns, w1, w2⟩ := snap_rowV 0 4 (encToks l) (stL l) 198 (by intro h; cases l with | nil => exact absurd rfl h | cons t l => exact ⟨false, rfl⟩) (noRefs_encToks l)
      rw [encToks_length] at w1
      refine Ans.fn (σ' := stL l) (rs := []) (r' := .agg [rowV 0 l.length 4, .int .i64 0, .int .i64 0]) (ns := ns) fn74_ (by simp) ⟨k, fun N hN => ?_⟩ ?_
      · simp -implicitDefEqProofs [i74, c74, hgt, encLx, hk N hN, q3, q4, q5, q6]
      · unfold snapA
        split
        · rename_i hnr
          cases l with
          | nil =>
            have h9 := (snapA_noRef (σ := stL []) (n := 199) (a := .nil) rfl).symm.trans w1
            simp at h9
            simp [rowV, encLx, ← h9]
          | cons t l => simp [rowV] at hnr
        · simp only [mapO2, w1, snapA_noRef (a := .int .i64 0) rfl, encLx, List.append_nil]
end Go.Am.Tryz
