/- Layer 13: what is wrong with an expression, whatever it is; with a program. -/
import Derived.Test.YtdapcelbbejfoaaE3
set_option linter.unusedVariables false
set_option maxRecDepth 100000
set_option linter.unusedSimpArgs false
namespace Go.Am.Try
open Go Go.Am.Ps

/-- the loop over kids -/
theorem lp66 (ds : List Da) (K A : Nat) (S : Str) (N' : Nat) (L : List AV) (nl : Bool) (C5 : AV) (hC : ∀ ti, C5.fits ti = (!ti.k.isAgg && ti.size == 1)) (hL : L.length < big) (B : List Str) : ∀ (r : List Ex) (i : Nat) (σ : H), Tail L i (encEs r) → B.length + 1 + bdEs r ≤ 2 ^ 61 → (∀ e ∈ r, WrongOK ds e) → SS ds σ B →
    ∃ e fr' σ', Lp ctx [] [] [0, 3, 40, 41, 42] b66_0 ⟨[(0, .v (.ptr 1 1 0 0)), (3, .bx (.agg [.int .i64 K, .int .i64 A, .str S, .int .i64 N', encR 6 nl L, C5])), (40, .v (encR 6 nl L)), (41, .v (.int .i64 L.length)), (42, .v (.int .i64 i))], false⟩ σ e fr' σ' ∧ fr'.lk = false ∧ SS ds σ' B ∧ Kp σ σ' ∧
      (match wrK ds K S i B r with
       | some x => e = .ret ∧ getS fr'.sl 4 = .v (.int .i64 x)
       | none => e = .ex 1 ∧ getS fr'.sl 4 = .u ∧ getS fr'.sl 0 = .v (.ptr 1 1 0 0) ∧ getS fr'.sl 3 = .bx (.agg [.int .i64 K, .int .i64 A, .str S, .int .i64 N', encR 6 nl L, C5]) ∧ (∀ t, 70 ≤ t → t < 74 → getS fr'.sl t = .u))
  | [], i, σ, h, _, _, hs => by
    have h' := h.nil
    refine ⟨.ex 1, ?_, σ, Lp.exit ⟨0, fun N _ => ?_⟩ (by simp), ?_⟩
    rotate_left
    · simp -implicitDefEqProofs [b66_0, h']
      rfl
    · refine ⟨by simp, hs, .refl _, rfl, by simp, by simp, by simp, fun t h1 h2 => ?_⟩
      simp only [getS]
      repeat rw [if_neg (by omega)]
  | e :: r, i, σ, h, hb, he, hs => by
    have hlen := h.len
    simp only [encEs_cons] at h
    obtain ⟨g1, g2, g3, g4, g5⟩ := h.cons
    simp at hlen
    simp only [bdEs] at hb
    have hw := wrap_succ (n := i) (by omega)
    have g6 := g5 6 nl
    have e6 : ((K : Int) == 6) = Nat.beq K 6 := (beq_int K 6).symm
    have e7 : ((K : Int) == 7) = Nat.beq K 7 := (beq_int K 7).symm
    have e1 : ((i : Int) == 1) = Nat.beq i 1 := (beq_int i 1).symm
    have hbe : bindsK K i = (Nat.beq K 6 || (Nat.beq K 7 && Nat.beq i 1)) := rfl
    rw [g6]
    -- what within tells, of either row of names
    have both : ∃ σ1 k, (∀ N, k ≤ N → acall ctx N 99 [.ptr 1 1 0 0, (match bindsK K i with | true => .sl 1 [.str S] | false => .nil), encE e] σ = some (.int .i64 (orM1 (match bindsK K i with | true => wrE ds (S :: B) e | false => wrE ds B e)), σ1)) ∧ SS ds σ1 B ∧ Kp σ σ1 := by
      cases hbk : bindsK K i with
      | true =>
        obtain ⟨σ1, ⟨k, hk⟩, s1, p1⟩ := swithin_ans (he e (by simp)) [S] false (by simp [big]) (B := B) (σ := σ) (by simp; omega) hs
        exact ⟨σ1, k, hk, s1, p1⟩
      | false =>
        obtain ⟨σ1, ⟨k, hk⟩, s1, p1⟩ := swithin_ans (he e (by simp)) [] true (by simp [big]) (B := B) (σ := σ) (by simp; omega) hs
        exact ⟨σ1, k, hk, s1, p1⟩
    obtain ⟨σ1, k, hk, s1, p1⟩ := both
    have ew : wrK ds K S i B (e :: r) = (match (match bindsK K i with | true => wrE ds (S :: B) e | false => wrE ds B e) with | some x => some x | none => wrK ds K S (i + 1) B r) := by
      rw [wrK]; rfl
    rw [ew]
    generalize (match bindsK K i with | true => wrE ds (S :: B) e | false => wrE ds B e) = W at *
    -- the step's facts, by what the kind is
    cases W with
    | some x =>
      simp only [orM1] at hk
      have hx0 : (0 : Int) ≤ (x : Int) := by omega
      have fin : ∀ names : AV, True → True := fun _ h => h
      cases c6 : ((K : Int) == 6) with
      | true =>
        rw [← e6, ← e7, ← e1, c6] at hbe
        rw [hbe] at hk
        refine ⟨.ret, ?_, σ1, Lp.exit ⟨k, fun N hN => ?_⟩ (by simp), ?_⟩
        rotate_left
        · have hk := hk N hN
          simp only [Bool.true_or] at hk
          simp -implicitDefEqProofs [b66_0, g1, g2, g3, hk, c6, -beq_iff_eq]
          rfl
        · exact ⟨by simp, s1, p1, rfl, by simp⟩
      | false =>
        rw [← e6, ← e7, ← e1, c6, Bool.false_or] at hbe
        cases c7 : ((K : Int) == 7) with
        | false =>
          rw [c7, Bool.false_and] at hbe
          rw [hbe] at hk
          refine ⟨.ret, ?_, σ1, Lp.exit ⟨k, fun N hN => ?_⟩ (by simp), ?_⟩
          rotate_left
          · have hk := hk N hN
            simp only at hk
            simp -implicitDefEqProofs [b66_0, g1, g2, g3, hk, c6, c7, -beq_iff_eq, -beq_eq_false_iff_ne]
            rfl
          · exact ⟨by simp, s1, p1, rfl, by simp⟩
        | true =>
          rw [c7, Bool.true_and] at hbe
          cases c1 : ((i : Int) == 1) with
          | true =>
            rw [c1] at hbe
            rw [hbe] at hk
            refine ⟨.ret, ?_, σ1, Lp.exit ⟨k, fun N hN => ?_⟩ (by simp), ?_⟩
            rotate_left
            · have hk := hk N hN
              simp only at hk
              simp -implicitDefEqProofs [b66_0, g1, g2, g3, hk, c6, c7, c1, -beq_iff_eq, -beq_eq_false_iff_ne]
              rfl
            · exact ⟨by simp, s1, p1, rfl, by simp⟩
          | false =>
            rw [c1] at hbe
            rw [hbe] at hk
            refine ⟨.ret, ?_, σ1, Lp.exit ⟨k, fun N hN => ?_⟩ (by simp), ?_⟩
            rotate_left
            · have hk := hk N hN
              simp only at hk
              simp -implicitDefEqProofs [b66_0, g1, g2, g3, hk, c6, c7, c1, -beq_iff_eq, -beq_eq_false_iff_ne]
              rfl
            · exact ⟨by simp, s1, p1, rfl, by simp⟩
    | none =>
      simp only [orM1] at hk
      obtain ⟨ex, fr', σ', l1, l2, l3, l4, l5⟩ := lp66 ds K A S N' L nl C5 hC hL B r (i + 1) σ1 g4 (by omega) (fun x hx => he x (by simp [hx])) s1
      rw [g6] at l1 l5
      refine ⟨ex, fr', σ', Lp.step ⟨k, fun N hN => ?_⟩ l1, l2, l3, p1.trans l4, l5⟩
      have hk := hk N hN
      cases c6 : ((K : Int) == 6) with
      | true =>
        rw [← e6, ← e7, ← e1, c6] at hbe
        rw [hbe] at hk
        simp only [Bool.true_or] at hk
        simp -implicitDefEqProofs [b66_0, g1, g2, g3, hk, c6, hw, -beq_iff_eq]
      | false =>
        rw [← e6, ← e7, ← e1, c6, Bool.false_or] at hbe
        cases c7 : ((K : Int) == 7) with
        | false =>
          rw [c7, Bool.false_and] at hbe
          rw [hbe] at hk
          simp only at hk
          simp -implicitDefEqProofs [b66_0, g1, g2, g3, hk, c6, c7, hw, -beq_iff_eq, -beq_eq_false_iff_ne]
        | true =>
          rw [c7, Bool.true_and] at hbe
          cases c1 : ((i : Int) == 1) with
          | true =>
            rw [c1] at hbe
            rw [hbe] at hk
            simp only at hk
            simp -implicitDefEqProofs [b66_0, g1, g2, g3, hk, c6, c7, c1, hw, -beq_iff_eq, -beq_eq_false_iff_ne]
          | false =>
            rw [c1] at hbe
            rw [hbe] at hk
            simp only at hk
            simp -implicitDefEqProofs [b66_0, g1, g2, g3, hk, c6, c7, c1, hw, -beq_iff_eq, -beq_eq_false_iff_ne]

theorem any_count (B : List Str) (s : Str) : B.any (eqS s) = !((B.count s : Int) == 0) := by
  cases h : B.any (eqS s) with
  | true =>
    rw [List.any_eq_true] at h
    obtain ⟨x, h1, h2⟩ := h
    rw [eqS_iff] at h2
    have : s = x := by simpa using h2
    subst this
    have : 0 < B.count s := List.count_pos_iff.2 h1
    have : ((B.count s : Int) == 0) = false := by simp; omega
    rw [this]; rfl
  | false =>
    have : B.count s = 0 := by
      apply List.count_eq_zero_of_not_mem
      intro hm
      have : B.any (eqS s) = true := List.any_eq_true.2 ⟨s, hm, by rw [eqS_iff]; simp⟩
      rw [this] at h; cases h
    rw [this]; rfl

set_option maxHeartbeats 4000000 in
theorem wrong_body {ds : List Da} (hd : okDs ds) (k a : Nat) (s : Str) (n : Nat) (ks : List Ex) (as : List Al) (hks : ks.length < big) (has : as.length < big) (hok : okAs as) (h1 : ∀ e ∈ ks, WrongOK ds e) (h2 : ∀ x ∈ as, match x with | .mk _ _ _ b => WrongOK ds b) : WrongOK ds (.mk k a s n ks as) := by
  intro B σ hb hs
  simp only [bdE] at hb
  obtain ⟨ex, fr1, σ1, j1, j2, s1, p1, j4⟩ := lp66 ds k a s n (encEs ks) true (encR 9 true (encAs as)) (by simp) (by simpa using hks) B ks 0 σ (Tail.all _) (by omega) h1 hs
  obtain ⟨k1, hk1⟩ := j1.den
  obtain ⟨σ2, ⟨k2, hk2⟩, s2, p2⟩ := alts_ans hd as has B σ1 (by omega) hok h2 s1
  have ho := hs.o
  have hlk := hs.look s
  have hac := any_count B s
  have hb1 := beq_int k 1
  have hb2 := beq_int k 2
  simp only [Int.cast_ofNat_Int] at hb1 hb2
  have ew : wrE ds B (.mk k a s n ks as) = (match headW ds B k a s with | some x => some x | none => match wrK ds k s 0 B ks with | some x => some x | none => wrA ds B [] as) := by
    rw [wrE]; rfl
  rw [ew]
  have ew2 : orM1 (match wrK ds k s 0 B ks with | some x => some x | none => wrA ds B [] as) = (match wrK ds k s 0 B ks with | some x => (x : Int) | none => orM1 (wrA ds B [] as)) := by
    cases wrK ds k s 0 B ks <;> rfl
  unfold headW
  cases c1 : Nat.beq k 1 with
  | true =>
    rw [c1] at hb1
    have hb1 := hb1.symm
    simp only
    cases hany : B.any (eqS s) with
    | false =>
      rw [hany] at hac
      have hz : ((B.count s : Int) == 0) = true := by
        cases h : ((B.count s : Int) == 0) with
        | true => rfl
        | false => rw [h] at hac; cases hac
      refine ⟨σ, AnsH.of fn66_ (by simp) (snapPtr _ _ _) (by simp) ⟨0, fun N hN => ?_⟩, hs, .refl _⟩
      rw [encE_mk]
      simp only [orM1]
      simp -implicitDefEqProofs [i66, c66, hb1, ho, hlk, hz, -beq_iff_eq, -beq_eq_false_iff_ne]
    | true =>
      rw [hany] at hac
      have hz : ((B.count s : Int) == 0) = false := by
        cases h : ((B.count s : Int) == 0) with
        | false => rfl
        | true => rw [h] at hac; cases hac
      simp only
      cases hw : wrK ds k s 0 B ks with
      | some x =>
        rw [hw] at j4
        obtain ⟨rfl, j5⟩ := j4
        refine ⟨σ1, AnsH.of fn66_ (by simp) (snapPtr _ _ _) (by simp) ⟨k1, fun N hN => ?_⟩, s1, p1⟩
        have hk1 := hk1 N (by omega)
        simp only [encEs_length, Int.cast_ofNat_Int] at hk1
        rw [encE_mk]
        simp only [orM1]
        simp -implicitDefEqProofs [i66, c66, hb1, ho, hlk, hz, hk1, j2, j5, -beq_iff_eq, -beq_eq_false_iff_ne, -bne_iff_ne]
      | none =>
        rw [hw] at j4
        obtain ⟨rfl, j5, j6, j7, j8⟩ := j4
        refine ⟨σ2, AnsH.of fn66_ (by simp) (snapPtr _ _ _) (by simp) ⟨k1 + k2, fun N hN => ?_⟩, s2, p1.trans p2⟩
        have hk1 := hk1 N (by omega)
        have hk2 := hk2 N (by omega)
        simp only [encEs_length, Int.cast_ofNat_Int] at hk1
        rw [encE_mk]
        simp -implicitDefEqProofs [i66, c66, hb1, ho, hlk, hz, hk1, j2, j5, j6, j7, j8, hk2, -beq_iff_eq, -beq_eq_false_iff_ne, -bne_iff_ne]
  | false =>
    rw [c1] at hb1
    have hb1 := hb1.symm
    simp only
    cases c2 : Nat.beq k 2 with
    | true =>
      rw [c2] at hb2
      have hb2 := hb2.symm
      obtain ⟨kc, hkc⟩ := scon_ans hd hs s
      simp only
      cases hc : conN ds s with
      | none =>
        rw [hc] at hkc
        simp only [conR] at hkc
        refine ⟨σ, AnsH.of fn66_ (by simp) (snapPtr _ _ _) (by simp) ⟨kc, fun N hN => ?_⟩, hs, .refl _⟩
        have hkc := hkc N hN
        rw [encE_mk]
        simp only [orM1]
        simp -implicitDefEqProofs [i66, c66, hb1, hb2, hkc, -beq_iff_eq, -beq_eq_false_iff_ne]
      | some m =>
        rw [hc] at hkc
        simp only [conR] at hkc
        simp only
        cases hw : wrK ds k s 0 B ks with
        | some x =>
          rw [hw] at j4
          obtain ⟨rfl, j5⟩ := j4
          refine ⟨σ1, AnsH.of fn66_ (by simp) (snapPtr _ _ _) (by simp) ⟨k1 + kc, fun N hN => ?_⟩, s1, p1⟩
          have hkc := hkc N (by omega)
          have hk1 := hk1 N (by omega)
          simp only [encEs_length, Int.cast_ofNat_Int] at hk1
          rw [encE_mk]
          simp only [orM1]
          simp -implicitDefEqProofs [i66, c66, hb1, hb2, hkc, hk1, j2, j5, -beq_iff_eq, -beq_eq_false_iff_ne, -bne_iff_ne]
        | none =>
          rw [hw] at j4
          obtain ⟨rfl, j5, j6, j7, j8⟩ := j4
          refine ⟨σ2, AnsH.of fn66_ (by simp) (snapPtr _ _ _) (by simp) ⟨k1 + k2 + kc, fun N hN => ?_⟩, s2, p1.trans p2⟩
          have hkc := hkc N (by omega)
          have hk1 := hk1 N (by omega)
          have hk2 := hk2 N (by omega)
          simp only [encEs_length, Int.cast_ofNat_Int] at hk1
          rw [encE_mk]
          simp -implicitDefEqProofs [i66, c66, hb1, hb2, hkc, hk1, j2, j5, j6, j7, j8, hk2, -beq_iff_eq, -beq_eq_false_iff_ne, -bne_iff_ne]
    | false =>
      rw [c2] at hb2
      have hb2 := hb2.symm
      simp only
      cases hw : wrK ds k s 0 B ks with
      | some x =>
        rw [hw] at j4
        obtain ⟨rfl, j5⟩ := j4
        refine ⟨σ1, AnsH.of fn66_ (by simp) (snapPtr _ _ _) (by simp) ⟨k1, fun N hN => ?_⟩, s1, p1⟩
        have hk1 := hk1 N (by omega)
        simp only [encEs_length, Int.cast_ofNat_Int] at hk1
        rw [encE_mk]
        simp only [orM1]
        simp -implicitDefEqProofs [i66, c66, hb1, hb2, hk1, j2, j5, -beq_iff_eq, -beq_eq_false_iff_ne, -bne_iff_ne]
      | none =>
        rw [hw] at j4
        obtain ⟨rfl, j5, j6, j7, j8⟩ := j4
        refine ⟨σ2, AnsH.of fn66_ (by simp) (snapPtr _ _ _) (by simp) ⟨k1 + k2, fun N hN => ?_⟩, s2, p1.trans p2⟩
        have hk1 := hk1 N (by omega)
        have hk2 := hk2 N (by omega)
        simp only [encEs_length, Int.cast_ofNat_Int] at hk1
        rw [encE_mk]
        simp -implicitDefEqProofs [i66, c66, hb1, hb2, hk1, j2, j5, j6, j7, j8, hk2, -beq_iff_eq, -beq_eq_false_iff_ne, -bne_iff_ne]

mutual
/-- scope.wrong -/
theorem wrong_ok {ds : List Da} (hd : okDs ds) : ∀ e, okE e → WrongOK ds e
  | .mk k a s n ks as, hok => by
    simp only [okE] at hok
    exact wrong_body hd k a s n ks as (by have := hok.1; unfold lim at this; unfold big; omega) (by have := hok.2.1; unfold lim at this; unfold big; omega) hok.2.2.2 (wrongs_ok hd ks hok.2.2.1) (wronga_ok hd as hok.2.2.2)
theorem wrongs_ok {ds : List Da} (hd : okDs ds) : ∀ l, okEs l → ∀ e ∈ l, WrongOK ds e
  | [], _, e, he => by cases he
  | x :: l, hok, e, he => by
    simp only [okEs] at hok
    rcases List.mem_cons.1 he with h | h
    · rw [h]; exact wrong_ok hd x hok.1
    · exact wrongs_ok hd l hok.2 e h
theorem wronga_ok {ds : List Da} (hd : okDs ds) : ∀ l, okAs l → ∀ x ∈ l, match x with | .mk _ _ _ b => WrongOK ds b
  | [], _, x, hx => by cases hx
  | .mk a c ns b :: l, hok, x, hx => by
    simp only [okAs, okA] at hok
    rcases List.mem_cons.1 hx with h | h
    · rw [h]; exact wrong_ok hd b hok.1.2
    · exact wronga_ok hd l hok.2 x h
end

end Go.Am.Try
