/- Layers 12 to 14: the reference's Lex, a round of its loop. -/
import Derived.Test.YtjbmnkchnbnhcaaGreatDoorP2
set_option linter.unusedVariables false
set_option maxRecDepth 100000
set_option linter.unusedSimpArgs false
namespace Go.Am.Tryz
open Go Go.Am.Ps
theorem spanB_eq (p : UInt8 → Bool) : ∀ l, (spanB p l).1 ++ (spanB p l).2 = l
  | [] => rfl
  | c :: l => by
    simp only [spanB]
    cases p c with
    | true => simp [spanB_eq p l]
    | false => simp
theorem spanB_all (p : UInt8 → Bool) : ∀ l, (spanB p l).1.all p = true
  | [] => rfl
  | c :: l => by
    simp only [spanB]
    cases h : p c with
    | true => simp [spanB_all p l, h]
    | false => simp
theorem spanB_first (p : UInt8 → Bool) (c : UInt8) (l : List UInt8) (h : p c = true) : (spanB p (c :: l)).1.length ≠ 0 := by
  simp [spanB, h]
theorem ST.slice {s a b : List UInt8} {i : Nat} (h : ST s i (a ++ b)) : bounds (some (i : Int)) (some ((i + a.length : Nat) : Int)) s.length = some (i, i + a.length) ∧ (s.take (i + a.length)).drop i = a ∧ ST s (i + a.length) b := by
  obtain ⟨p, rfl, rfl⟩ := h
  refine ⟨?_, ?_, ⟨p ++ a, by simp, by simp⟩⟩
  · unfold bounds
    simp only [Option.getD_some]
    rw [if_pos (by simp; omega)]
    simp
    omega
  · rw [← List.append_assoc, List.take_append_of_le_length (by simp), show p.length + a.length = (p ++ a).length by simp, List.take_length]
    simp
def Zl : AV := .agg [.nil, .int .i64 0, .int .i64 0]
@[simp] theorem Zl_fits (ti : TI) : Zl.fits ti = (ti.k.isAgg && 3 == ti.size) := rfl
def frL (s : List UInt8) (i : Nat) (acc : List Tok) : Fr := ⟨[(0, .v (.str s)), (2, .bx Zl), (3, .bx (.agg [rowV 0 acc.length 4, .int .i64 0, .int .i64 0])), (4, .v (.int .i64 i))], false⟩
def stL (acc : List Tok) : H := stH 4 (encToks acc)
@[simp] theorem rowV_fits (q n sz : Nat) (ti : TI) : (rowV q n sz).fits ti = (!ti.k.isAgg && ti.size == 1) := by cases n <;> rfl
@[simp] theorem rowV_cells (q n sz : Nat) : (rowV q n sz).cells = [rowV q n sz] := by cases n <;> rfl
@[simp] theorem rowV_len (q n sz : Nat) : lenM (rowV q n sz) = pureM (.int .i64 n) := by cases n <;> rfl
@[simp] theorem rowV_lenOk (q n sz e : Nat) : lenOk (.slice e) (rowV q n sz) = true := by cases n <;> rfl
theorem app_tok (acc : List Tok) (k i n : Nat) (a : List UInt8) {kI nI : Int} (hk : kI = k) (hn : nI = n) (h : acc.length ≤ 65536) :
    appendH ⟨.strct [(0, 3), (1, 3), (2, 9), (3, 3)], 4, 40, .agg [.int .i64 0, .int .i64 0, .str [], .int .i64 0], []⟩ (rowV 0 acc.length 4) [.agg [.int .i64 kI, .int .i64 i, .str a, .int .i64 nI]] (stL acc) = some (rowV 0 (acc.length + 1) 4, stL (acc ++ [⟨k, i, a, n⟩])) := by
  subst hk hn
  have := app_own ⟨.strct [(0, 3), (1, 3), (2, 9), (3, 3)], 4, 40, .agg [.int .i64 0, .int .i64 0, .str [], .int .i64 0], []⟩ (encToks acc) (encTok ⟨k, i, a, n⟩) rfl (by simp; omega) (by simp; omega)
  simp only [encToks_length, List.length_append, List.length_singleton] at this
  simp only [stL, encToks_append, encToks_cons, encToks_nil]
  exact this
def Rnd (s : List UInt8) (i : Nat) (acc : List Tok) : One1 → Prop
  | .skip j r => (∃ k, ∀ N, k ≤ N → round1 ctx (acall ctx N) [199] [] N [0, 2, 3, 4] b74_3 (frL s i acc) (stL acc) = some (frL s j acc, stL acc)) ∧ ST s j r ∧ i < j
  | .tok t j r => (∃ k, ∀ N, k ≤ N → round1 ctx (acall ctx N) [199] [] N [0, 2, 3, 4] b74_3 (frL s i acc) (stL acc) = some (frL s j (acc ++ [t]), stL (acc ++ [t]))) ∧ ST s j r ∧ i < j
  | .bad => ∃ fr' k, (∀ N, k ≤ N → den ctx (acall ctx N) [199] [] N b74_3 (frL s i acc) (stL acc) = some ((.ret, fr'), stL acc)) ∧ getS fr'.sl 2 = .bx (.agg [.nil, .int .i64 3, .int .i64 i])
theorem rnd_space (s : List UInt8) (hb : s.length ≤ 65536) (c : UInt8) (r : List UInt8) (i : Nat) (h : ST s i (c :: r)) (acc : List Tok)
    (h1 : (Nat.beq c.toNat 32 || (Nat.beq c.toNat 9 || Nat.beq c.toNat 10)) = true) : Rnd s i acc (.skip (i + 1) r) := by
  obtain ⟨g1, g2, g3⟩ := h.cons
  have hl := h.len
  have hw := wrap_succ (n := i) (by simp [big] at hl ⊢; omega)
  refine ⟨⟨0, fun N _ => ?_⟩, g3, by omega⟩
  simp only [beq_int] at h1
  unfold frL
  have e0 : ((c.toNat : Int) == ((32 : Nat) : Int)) = ((c.toNat : Int) == 32) := rfl
  have e1 : ((c.toNat : Int) == ((9 : Nat) : Int)) = ((c.toNat : Int) == 9) := rfl
  have e2 : ((c.toNat : Int) == ((10 : Nat) : Int)) = ((c.toNat : Int) == 10) := rfl
  rw [e0, e1, e2] at h1
  cases c1 : ((c.toNat : Int) == 32) with
  | true => simp -implicitDefEqProofs [b74_3, g1, g2, c1, hw]
  | false =>
    cases c2 : ((c.toNat : Int) == 9) with
    | true => simp -implicitDefEqProofs [b74_3, g1, g2, c1, c2, hw]
    | false =>
      rw [c1, c2] at h1
      have c3 : ((c.toNat : Int) == 10) = true := h1
      simp -implicitDefEqProofs [b74_3, g1, g2, c1, c2, c3, hw]
theorem ST.cons1 {s r : List UInt8} {i : Nat} {c : UInt8} (h : ST s (i + 1) (c :: r)) : strIdx s ((i : Int) + 1) = some (.int .u8 c.toNat) ∧ (i : Int) + 1 < (s.length : Int) := by
  obtain ⟨h1, h2, _⟩ := h.cons
  exact ⟨by simpa using h1, by omega⟩
theorem wrap_add {n k : Nat} (h : n + k < big) : IntKind.i64.wrap ((n : Int) + (k : Int)) = (n : Int) + (k : Int) := by
  unfold big at h
  exact wrap_i64 (by omega)
theorem rnd_comment (s : List UInt8) (hb : s.length ≤ 65536) (c d : UInt8) (r : List UInt8) (i : Nat) (h : ST s i (c :: d :: r)) (acc : List Tok)
    (h1 : c.toNat = 45) (h2 : d.toNat = 45) : Rnd s i acc (.skip (i + (spanB (fun d => !Nat.beq d.toNat 10) (c :: d :: r)).1.length) (spanB (fun d => !Nat.beq d.toNat 10) (c :: d :: r)).2) := by
  obtain ⟨g1, g2, g3⟩ := h.cons
  obtain ⟨g4, g5⟩ := g3.cons1
  have hl := h.len
  have hw : IntKind.i64.wrap ((i : Int) + 1) = (i : Int) + 1 := wrap_i64 (by simp at hl; omega)
  obtain ⟨fr', q1, q2, q3, q4, q5, q6, q7, q8⟩ := lp40_0 s (by simp [big]; omega) Zl (.agg [rowV 0 acc.length 4, .int .i64 0, .int .i64 0]) (stL acc) (c :: d :: r) i h
  obtain ⟨k, hk⟩ := q1.den
  refine ⟨⟨k, fun N hN => ?_⟩, q8, ?_⟩
  · have hk := hk N hN
    have hj : 0 ≤ (spanB (fun d => !Nat.beq d.toNat 10) (c :: d :: r)).1.length := by omega
    rw [h1] at g1
    rw [h2] at g4
    generalize i + (spanB (fun d => !Nat.beq d.toNat 10) (c :: d :: r)).1.length = j at *
    unfold frL
    simp -implicitDefEqProofs [b74_3, g1, g2, g4, g5, hw, hk, q2, q4, q5, q6, q7]
  · have : (spanB (fun d => !Nat.beq d.toNat 10) (c :: d :: r)).1.length ≠ 0 := spanB_first _ _ _ (by rw [h1]; rfl)
    omega
set_option maxHeartbeats 1000000 in
theorem rnd_word (s : List UInt8) (hb : s.length ≤ 65536) (c : UInt8) (r : List UInt8) (i : Nat) (h : ST s i (c :: r)) (acc : List Tok) (ha : acc.length ≤ 65536)
    (h1 : (lowerB c || upperB c) = true) : Rnd s i acc (
     if isWord (spanB restB (c :: r)).1 then .tok ⟨4, i, (spanB restB (c :: r)).1, 0⟩ (i + (spanB restB (c :: r)).1.length) (spanB restB (c :: r)).2
     else if nameB (spanB restB (c :: r)).1 then .tok ⟨1, i, (spanB restB (c :: r)).1, 0⟩ (i + (spanB restB (c :: r)).1.length) (spanB restB (c :: r)).2
     else if conB (spanB restB (c :: r)).1 then .tok ⟨2, i, (spanB restB (c :: r)).1, 0⟩ (i + (spanB restB (c :: r)).1.length) (spanB restB (c :: r)).2
     else .bad) := by
  obtain ⟨g1, g2, g3⟩ := h.cons
  have hl := h.len
  have hc : 65 ≤ c.toNat := by
    simp only [lowerB, upperB, Bool.or_eq_true, Bool.and_eq_true, Nat.ble_eq] at h1
    omega
  have n1 : ((c.toNat : Int) == 32) = false := by simp; omega
  have n2 : ((c.toNat : Int) == 9) = false := by simp; omega
  have n3 : ((c.toNat : Int) == 10) = false := by simp; omega
  have n4 : ((c.toNat : Int) == 45) = false := by simp; omega
  have hr : restB c = true := by
    simp only [restB]
    cases hlo : lowerB c <;> cases hup : upperB c <;> simp [hlo, hup] at h1 ⊢
  obtain ⟨fr', q1, q2, q3, q4, q5, q6, q7, q8, q9, q10⟩ := lp40_1 s (by simp [big]; omega) Zl (.agg [rowV 0 acc.length 4, .int .i64 0, .int .i64 0]) (.int .i64 i) (.agg [.int .i64 0, .int .i64 i, .str [], .int .i64 0]) (stL acc) (c :: r) i h
  obtain ⟨k, hk⟩ := q1.den
  unfold Hi at q3
  have hne := spanB_first restB c r hr
  have hsp := spanB_eq restB (c :: r)
  obtain ⟨w1, w2, w3⟩ := ST.slice (s := s) (i := i) (a := (spanB restB (c :: r)).1) (b := (spanB restB (c :: r)).2) (by rw [hsp]; exact h)
  have hal : (spanB restB (c :: r)).1.length ≤ 65536 := by
    have : ((spanB restB (c :: r)).1 ++ (spanB restB (c :: r)).2).length = (c :: r).length := by rw [hsp]
    simp only [List.length_append] at this
    omega
  obtain ⟨k1, hk1⟩ := lower_ans c
  obtain ⟨k2, hk2⟩ := upper_ans c
  obtain ⟨k3, hk3⟩ := word_ans (spanB restB (c :: r)).1
  obtain ⟨k4, hk4⟩ := name_ans (spanB restB (c :: r)).1 (by simp [big]; omega)
  obtain ⟨k5, hk5⟩ := con_ans (spanB restB (c :: r)).1 (by simp [big]; omega)
  generalize (spanB restB (c :: r)).1 = a at *
  generalize (spanB restB (c :: r)).2 = b at *
  generalize hj : i + a.length = j at *
  have hij : i < j := by omega
  have L1 : ∀ N, k + k1 + k2 + k3 + k4 + k5 ≤ N → (lowerB c = true ∨ lowerB c = false) := fun N _ => by cases lowerB c <;> simp
  have hap4 := app_tok acc 4 i 0 a (kI := 4) (nI := 0) rfl rfl ha
  have hap1 := app_tok acc 1 i 0 a (kI := 1) (nI := 0) rfl rfl ha
  have hap2 := app_tok acc 2 i 0 a (kI := 2) (nI := 0) rfl rfl ha
  cases e3 : isWord a with
  | true =>
    rw [if_pos rfl]
    refine ⟨⟨k + k1 + k2 + k3, fun N hN => ?_⟩, q10, hij⟩
    have hk := hk N (by omega)
    have hk1 := hk1 N (by omega)
    have hk2 := hk2 N (by omega)
    have hk3 := hk3 N (by omega)
    generalize stL (acc ++ [⟨4, i, a, 0⟩]) = H1 at *
    generalize stL acc = H0 at *
    unfold frL
    cases e1 : lowerB c with
    | true => simp -implicitDefEqProofs [b74_3, g1, g2, n1, n2, n3, n4, hk1, e1, hk, q2, q3, q4, q5, q6, q7, q8, q9, hk3, e3, w1, w2, hap4, -appendH]
    | false => 
      have e2 : upperB c = true := by simpa [e1] using h1
      simp -implicitDefEqProofs [b74_3, g1, g2, n1, n2, n3, n4, hk1, hk2, e1, e2, hk, q2, q3, q4, q5, q6, q7, q8, q9, hk3, e3, w1, w2, hap4, -appendH]
  | false =>
    rw [if_neg (by simp)]
    cases e4 : nameB a with
    | true =>
      rw [if_pos rfl]
      refine ⟨⟨k + k1 + k2 + k3 + k4, fun N hN => ?_⟩, q10, hij⟩
      have hk := hk N (by omega)
      have hk1 := hk1 N (by omega)
      have hk2 := hk2 N (by omega)
      have hk3 := hk3 N (by omega)
      have hk4 := hk4 N (by omega)
      generalize stL (acc ++ [⟨1, i, a, 0⟩]) = H1 at *
      generalize stL acc = H0 at *
      unfold frL
      cases e1 : lowerB c with
      | true => simp -implicitDefEqProofs [b74_3, g1, g2, n1, n2, n3, n4, hk1, e1, hk, q2, q3, q4, q5, q6, q7, q8, q9, hk3, hk4, e3, e4, w1, w2, hap1, -appendH]
      | false => 
        have e2 : upperB c = true := by simpa [e1] using h1
        simp -implicitDefEqProofs [b74_3, g1, g2, n1, n2, n3, n4, hk1, hk2, e1, e2, hk, q2, q3, q4, q5, q6, q7, q8, q9, hk3, hk4, e3, e4, w1, w2, hap1, -appendH]
    | false =>
      rw [if_neg (by simp)]
      cases e5 : conB a with
      | true =>
        rw [if_pos rfl]
        refine ⟨⟨k + k1 + k2 + k3 + k4 + k5, fun N hN => ?_⟩, q10, hij⟩
        have hk := hk N (by omega)
        have hk1 := hk1 N (by omega)
        have hk2 := hk2 N (by omega)
        have hk3 := hk3 N (by omega)
        have hk4 := hk4 N (by omega)
        have hk5 := hk5 N (by omega)
        generalize stL (acc ++ [⟨2, i, a, 0⟩]) = H1 at *
        generalize stL acc = H0 at *
        unfold frL
        cases e1 : lowerB c with
        | true => simp -implicitDefEqProofs [b74_3, g1, g2, n1, n2, n3, n4, hk1, e1, hk, q2, q3, q4, q5, q6, q7, q8, q9, hk3, hk4, hk5, e3, e4, e5, w1, w2, hap2, -appendH]
        | false => 
          have e2 : upperB c = true := by simpa [e1] using h1
          simp -implicitDefEqProofs [b74_3, g1, g2, n1, n2, n3, n4, hk1, hk2, e1, e2, hk, q2, q3, q4, q5, q6, q7, q8, q9, hk3, hk4, hk5, e3, e4, e5, w1, w2, hap2, -appendH]
      | false =>
        rw [if_neg (by simp)]
        clear hap4 hap1 hap2
        cases e1 : lowerB c with
        | true =>
          refine ⟨?_, k + k1 + k2 + k3 + k4 + k5, fun N hN => ?_, ?_⟩
          rotate_left
          · have hk := hk N (by omega)
            have hk1 := hk1 N (by omega)
            have hk3 := hk3 N (by omega)
            have hk4 := hk4 N (by omega)
            have hk5 := hk5 N (by omega)
            unfold frL
            simp -implicitDefEqProofs [b74_3, g1, g2, n1, n2, n3, n4, hk1, e1, hk, q2, q3, q4, q5, q6, q7, q8, q9, hk3, hk4, hk5, e3, e4, e5, w1, w2]
            rfl
          · simp
        | false =>
          have e2 : upperB c = true := by simpa [e1] using h1
          refine ⟨?_, k + k1 + k2 + k3 + k4 + k5, fun N hN => ?_, ?_⟩
          rotate_left
          · have hk := hk N (by omega)
            have hk1 := hk1 N (by omega)
            have hk2 := hk2 N (by omega)
            have hk3 := hk3 N (by omega)
            have hk4 := hk4 N (by omega)
            have hk5 := hk5 N (by omega)
            unfold frL
            simp -implicitDefEqProofs [b74_3, g1, g2, n1, n2, n3, n4, hk1, hk2, e1, e2, hk, q2, q3, q4, q5, q6, q7, q8, q9, hk3, hk4, hk5, e3, e4, e5, w1, w2]
            rfl
          · simp
set_option maxHeartbeats 1000000 in
theorem rnd_digit (s : List UInt8) (hb : s.length ≤ 65536) (c : UInt8) (r : List UInt8) (i : Nat) (h : ST s i (c :: r)) (acc : List Tok) (ha : acc.length ≤ 65536)
    (h1 : digitB c = true) : Rnd s i acc (
     match numB (spanB digitB (c :: r)).1 with
     | some n => .tok ⟨3, i, [], n⟩ (i + (spanB digitB (c :: r)).1.length) (spanB digitB (c :: r)).2
     | none => .bad) := by
  obtain ⟨g1, g2, g3⟩ := h.cons
  have hl := h.len
  have hc : 48 ≤ c.toNat ∧ c.toNat ≤ 57 := by
    simpa only [digitB, Bool.and_eq_true, Nat.ble_eq] using h1
  have n1 : ((c.toNat : Int) == 32) = false := by simp; omega
  have n2 : ((c.toNat : Int) == 9) = false := by simp; omega
  have n3 : ((c.toNat : Int) == 10) = false := by simp; omega
  have n4 : ((c.toNat : Int) == 45) = false := by simp; omega
  have e1 : lowerB c = false := by
    cases e : lowerB c with
    | false => rfl
    | true => simp only [lowerB, Bool.and_eq_true, Nat.ble_eq] at e; omega
  have e2 : upperB c = false := by
    cases e : upperB c with
    | false => rfl
    | true => simp only [upperB, Bool.and_eq_true, Nat.ble_eq] at e; omega
  obtain ⟨fr', q1, q2, q3, q4, q5, q6, q7, q8, q9, q10⟩ := lp40_2 s (by simp [big]; omega) Zl (.agg [rowV 0 acc.length 4, .int .i64 0, .int .i64 0]) (.int .i64 i) (.agg [.int .i64 0, .int .i64 i, .str [], .int .i64 0]) (stL acc) (c :: r) i h
  obtain ⟨k, hk⟩ := q1.den
  unfold Hi at q3
  have hne := spanB_first digitB c r h1
  have hsp := spanB_eq digitB (c :: r)
  obtain ⟨w1, w2, w3⟩ := ST.slice (s := s) (i := i) (a := (spanB digitB (c :: r)).1) (b := (spanB digitB (c :: r)).2) (by rw [hsp]; exact h)
  have hal : (spanB digitB (c :: r)).1.length ≤ 65536 := by
    have : ((spanB digitB (c :: r)).1 ++ (spanB digitB (c :: r)).2).length = (c :: r).length := by rw [hsp]
    simp only [List.length_append] at this
    omega
  obtain ⟨k1, hk1⟩ := lower_ans c
  obtain ⟨k2, hk2⟩ := upper_ans c
  obtain ⟨k3, hk3⟩ := digit_ans c
  obtain ⟨k4, hk4⟩ := number_ans (spanB digitB (c :: r)).1 (by simp [big]; omega) (spanB_all _ _)
  generalize (spanB digitB (c :: r)).1 = a at *
  generalize (spanB digitB (c :: r)).2 = b at *
  generalize hj : i + a.length = j at *
  have hij : i < j := by omega
  cases hn : numB a with
  | some n =>
    have hap := app_tok acc 3 i n [] (kI := 3) (nI := n) rfl rfl ha
    refine ⟨⟨k + k1 + k2 + k3 + k4, fun N hN => ?_⟩, q10, hij⟩
    have hk := hk N (by omega)
    have hk1 := hk1 N (by omega)
    have hk2 := hk2 N (by omega)
    have hk3 := hk3 N (by omega)
    have hk4 := hk4 N (by omega)
    rw [hn] at hk4
    simp only [optI] at hk4
    have e3 : (0 : Int) ≤ (n : Int) := by omega
    generalize stL (acc ++ [⟨3, i, [], n⟩]) = H1 at *
    generalize stL acc = H0 at *
    unfold frL
    simp -implicitDefEqProofs [b74_3, g1, g2, n1, n2, n3, n4, hk1, hk2, hk3, hk4, e1, e2, e3, h1, hk, q2, q3, q4, q5, q6, q7, q8, q9, w1, w2, hap, -appendH]
  | none =>
    refine ⟨?_, k + k1 + k2 + k3 + k4, fun N hN => ?_, ?_⟩
    rotate_left
    · have hk := hk N (by omega)
      have hk1 := hk1 N (by omega)
      have hk2 := hk2 N (by omega)
      have hk3 := hk3 N (by omega)
      have hk4 := hk4 N (by omega)
      rw [hn] at hk4
      simp only [optI] at hk4
      unfold frL
      simp -implicitDefEqProofs [b74_3, g1, g2, n1, n2, n3, n4, hk1, hk2, hk3, hk4, e1, e2, h1, hk, q2, q3, q4, q5, q6, q7, q8, q9, w1, w2]
      rfl
    · simp
end Go.Am.Tryz
