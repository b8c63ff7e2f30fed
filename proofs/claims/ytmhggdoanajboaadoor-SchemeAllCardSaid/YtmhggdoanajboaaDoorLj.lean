/- Layer 17: the reference's may, of any type. -/
import Derived.Test.YtmhggdoanajboaaDoorLh
set_option maxRecDepth 100000
set_option linter.unusedSimpArgs false
set_option linter.unusedVariables false
namespace Go.Am.Tryd
open Go
theorem rest_okc (c : UInt8) : Ps.restB c = okc c := by
  rw [okc_nat]
  unfold Ps.restB Ps.lowerB Ps.upperB Ps.digitB
  simp only [ble_int, beq_int]
  rw [Bool.eq_iff_iff]
  simp only [Bool.or_eq_true, Bool.and_eq_true, decide_eq_true_eq, beq_iff_eq]
  omega
theorem conB_eq (s : List UInt8) : Ps.conB s = conB s := by
  cases s with
  | nil => rfl
  | cons c r =>
    have h1 : (c :: r).all Ps.restB = (c :: r).all okc := by
      congr 1
      funext x
      exact rest_okc x
    have h2 : Ps.upperB c = (65 ≤ c && c ≤ 90) := by
      unfold Ps.upperB
      simp only [ble_int, UInt8.le_iff_toNat_le]
      congr 1 <;> (simp; omega)
    have h3 : Nat.ble (c :: r).length 30 = decide (r.length < 30) := by
      rw [ble_int]
      simp; omega
    show (((c :: r).all Ps.restB && (!(c :: r).isEmpty && Nat.ble (c :: r).length 30)) && Ps.upperB c) = (decide (r.length < 30) && (65 ≤ c && c ≤ 90) && (c :: r).all okc)
    rw [h1, h2, h3]
    cases (c :: r).all okc <;> cases decide (r.length < 30) <;> simp
theorem names_all : (∀ t : Ty, t.ok → namesA t) := by
  have key : ∀ n, (∀ t : Ty, SizeOf.sizeOf t ≤ n → t.ok → namesA t) := by
    intro n
    induction n with
    | zero => intro t h; cases t; simp at h
    | succ n ih =>
      intro t h ho
      obtain ⟨k, m, s, nl, ks⟩ := t
      simp only [Ty.ok] at ho
      simp only [namesA]
      refine ⟨fun _ => .inr (.inr (con71_ans s ho.1)), ?_⟩
      · have hl : ∀ l : List Ty, (∀ a ∈ l, SizeOf.sizeOf a ≤ n) → Ty.oks l → namesAs l := by
          intro l
          induction l with
          | nil => intro _ _; trivial
          | cons a l ihl =>
            intro h1 h2
            simp only [Ty.oks] at h2
            exact ⟨ih a (h1 a (by simp)) h2.1, ihl (fun x hx => h1 x (by simp [hx])) h2.2⟩
        refine hl ks (fun a ha => ?_) ho.2.2
        have := List.sizeOf_lt_of_mem ha
        simp at h
        omega
  exact fun t => key _ t (Nat.le_refl _)
theorem lp37 (K N0 S : AV) (d : Nat) (hd : 1 ≤ d) (hd2 : d < 1000) (xs : List AV) (nl : Bool) (hb : xs.length < big) : ∀ (rest : List Ty) (i : Nat), Tail xs i (encTs rest) → (∀ a ∈ rest, Ans ctx 37 [encT a, .int .i64 ((d - 1 : Nat) : Int)] (.bool (mayT (d - 1) a))) →
    ∃ e fr', Lp ctx [] [] [1, 2, 5, 6] b37_0 ⟨[(1, .v (.int .i64 d)), (2, .bx (.agg [K, N0, S, encR 4 nl xs])), (5, .v (.int .i64 xs.length)), (6, .v (.int .i64 i))], false⟩ [] e fr' [] ∧
      fr'.lk = false ∧ cond (mayTs (d - 1) rest) (e = .ex 1 ∧ getS fr'.sl 4 = .u) (e = .ret ∧ getS fr'.sl 4 = .v (.bool false))
  | [], i, h1, _ => by
    have h1 := h1.nil
    refine ⟨.ex 1, ?_, Lp.exit ⟨0, fun N _ => ?_⟩ (by simp), ?_⟩
    rotate_left
    · simp [b37_0, h1]
      rfl
    · simp [mayTs]
  | a :: r, i, h1, ha => by
    obtain ⟨k, hk⟩ := ha a (by simp)
    simp only [encTs_cons] at h1
    have hl := h1.len
    obtain ⟨g1, g2, g3, g4, g5⟩ := h1.cons
    have hw := wrap_succ (n := i) (by simp at hl; omega)
    obtain ⟨dd, rfl⟩ : ∃ dd, d = dd + 1 := ⟨d - 1, by omega⟩
    have hw2 : IntKind.i64.wrap (dd : Int) = (dd : Int) := wrap_i64 (by omega)
    simp only [Nat.add_sub_cancel] at *
    cases hab : mayT dd a with
    | false =>
      rw [hab] at hk
      refine ⟨.ret, ?_, Lp.exit ⟨k, fun N hN => ?_⟩ (by simp), ?_⟩
      rotate_left
      · simp [b37_0, g1, g2, g3, g5, hk N hN, hw2]
        rfl
      · simp [mayTs, hab]
    | true =>
      rw [hab] at hk
      obtain ⟨e, fr', l1, l2, l3⟩ := lp37 K N0 S (dd + 1) hd hd2 xs nl hb r (i + 1) g4 (fun x hx => ha x (by simp [hx]))
      refine ⟨e, fr', Lp.step ⟨k, fun N hN => ?_⟩ l1, l2, ?_⟩
      · simp [b37_0, g1, g2, g3, g5, hk N hN, hw, hw2]
      · simpa [mayTs, hab] using l3
set_option maxHeartbeats 4000000
mutual
theorem may15_ans : ∀ (t : Ty), t.ok → ∀ d : Nat, d < 1000 → Ans ctx 37 [encT t, .int .i64 d] (.bool (mayT d t))
  | .mk k n s nl ks, ho, d, hd => by
    simp only [Ty.ok] at ho
    by_cases h0 : 1 ≤ d
    · have h0' : ¬ (d : Int) < 1 := by omega
      obtain ⟨e, fr', l1, l2, l3⟩ := lp37 (.int .i64 k) (.int .i64 n) (.str s) d h0 hd (encTs ks) nl (by simpa using ho.2.1) ks 0 (Tail.all _) (fun a ha => may15_all ks ho.2.2 (d - 1) (by omega) a ha)
      obtain ⟨q, hq⟩ := l1.den
      simp only [encTs_length] at hq
      obtain ⟨qc, hqc⟩ := con9_ans s ho.1
      rw [conB_eq] at hqc
      refine Ans.of (σ' := []) fn37_ (by simp) (by simp) ⟨q + qc, fun N hN => ?_⟩
      have hq := hq N (by omega)
      have hqc := hqc N (by omega)
      unfold mayT
      rw [decide_eq_true h0, Bool.true_and]
      by_cases hk : k = 1
      · rw [if_pos hk]
        subst hk
        cases hs : s == [] with
        | false => simp [i37, c37, encT, h0', hs]
        | true =>
          by_cases hl : ks.length = 0
          · have hl' : ((ks.length : Int) == 0) = true := by simp [hl]
            by_cases h1 : 0 ≤ n
            · by_cases h2 : n ≤ 2147483647
              · simp [i37, c37, encT, h0', hs, hl, h1, h2]
              · simp [i37, c37, encT, h0', hs, hl, h1, h2]
            · simp [i37, c37, encT, h0', hs, hl, h1]
          · have hl' : ((ks.length : Int) == 0) = false := by simpa using hl
            have hl2 : (ks.length == 0) = false := by simpa using hl
            simp [i37, c37, encT, h0', hs, hl', hl2]
      · have hk1 : (k == 1) = false := by simpa using hk
        rw [if_neg hk]
        cases hk2 : k == 2 with
        | false => simp [i37, c37, encT, h0', hk1, hk2]
        | true =>
          rw [Bool.true_and]
          cases hn : n == 0 with
          | false => simp [i37, c37, encT, h0', hk1, hk2, hn, bne]
          | true =>
            rw [Bool.true_and]
            unfold namedB
            by_cases ha : s = sArrow
            · rw [if_pos ha]
              have a1 : (s == [45, 62]) = true := by simpa [sArrow] using ha
              have a2 : (s == [44]) = false := by rw [ha]; rfl
              cases c1 : ks.length == 2 with
              | true =>
                have d1 : ((ks.length : Int) == 2) = true := by rw [show (2 : Int) = ((2 : Nat) : Int) from rfl, nat_eq]; exact c1
                rw [Bool.true_and]
                cases hm : mayTs (d - 1) ks with
                | true =>
                  rw [hm] at l3
                  obtain ⟨rfl, l4⟩ := l3
                  simp [i37, c37, encT, h0', hk1, hk2, hn, bne, hq, l2, l4, a1, a2, d1]
                | false =>
                  rw [hm] at l3
                  obtain ⟨rfl, l4⟩ := l3
                  simp [i37, c37, encT, h0', hk1, hk2, hn, bne, hq, l2, l4, a1, a2, d1]
              | false =>
                have d1 : ((ks.length : Int) == 2) = false := by rw [show (2 : Int) = ((2 : Nat) : Int) from rfl, nat_eq]; exact c1
                rw [Bool.false_and]
                simp [i37, c37, encT, h0', hk1, hk2, hn, bne, a1, a2, d1]
            · rw [if_neg ha]
              have a1 : (s == [45, 62]) = false := by simpa [sArrow] using ha
              by_cases hco : s = sComma
              · rw [if_pos hco]
                have a2 : (s == [44]) = true := by simpa [sComma] using hco
                by_cases c1 : 2 ≤ ks.length
                · have d1 : ¬ (ks.length : Int) < 2 := by omega
                  by_cases c2 : ks.length ≤ 8
                  · have d2 : ¬ (8 : Int) < ks.length := by omega
                    rw [decide_eq_true c1, decide_eq_true c2, Bool.true_and, Bool.true_and]
                    cases hm : mayTs (d - 1) ks with
                    | true =>
                      rw [hm] at l3
                      obtain ⟨rfl, l4⟩ := l3
                      simp [i37, c37, encT, h0', hk1, hk2, hn, bne, hq, l2, l4, a1, a2, d1, d2]
                    | false =>
                      rw [hm] at l3
                      obtain ⟨rfl, l4⟩ := l3
                      simp [i37, c37, encT, h0', hk1, hk2, hn, bne, hq, l2, l4, a1, a2, d1, d2]
                  · have d2 : (8 : Int) < ks.length := by omega
                    rw [decide_eq_true c1, decide_eq_false c2, Bool.true_and, Bool.false_and]
                    simp [i37, c37, encT, h0', hk1, hk2, hn, bne, a1, a2, d1, d2]
                · have d1 : (ks.length : Int) < 2 := by omega
                  rw [decide_eq_false c1, Bool.false_and, Bool.false_and]
                  simp [i37, c37, encT, h0', hk1, hk2, hn, bne, a1, a2, d1]
              · rw [if_neg hco]
                have a2 : (s == [44]) = false := by simpa [sComma] using hco
                cases hcb : conB s with
                | false =>
                  rw [hcb] at hqc
                  rw [Bool.false_and, Bool.false_and]
                  simp [i37, c37, encT, h0', hk1, hk2, hn, bne, a1, a2, hqc]
                | true =>
                  rw [hcb] at hqc
                  rw [Bool.true_and]
                  by_cases c2 : ks.length ≤ 20
                  · have d2 : ¬ (20 : Int) < ks.length := by omega
                    rw [decide_eq_true c2, Bool.true_and]
                    cases hm : mayTs (d - 1) ks with
                    | true =>
                      rw [hm] at l3
                      obtain ⟨rfl, l4⟩ := l3
                      simp [i37, c37, encT, h0', hk1, hk2, hn, bne, hq, l2, l4, a1, a2, hqc, d2]
                    | false =>
                      rw [hm] at l3
                      obtain ⟨rfl, l4⟩ := l3
                      simp [i37, c37, encT, h0', hk1, hk2, hn, bne, hq, l2, l4, a1, a2, hqc, d2]
                  · have d2 : (20 : Int) < ks.length := by omega
                    rw [decide_eq_false c2, Bool.false_and]
                    simp [i37, c37, encT, h0', hk1, hk2, hn, bne, a1, a2, hqc, d2]
    · have h0' : (d : Int) < 1 := by omega
      refine Ans.of (σ' := []) fn37_ (by simp) (by simp) ⟨0, fun N hN => ?_⟩
      unfold mayT
      rw [decide_eq_false h0]
      simp [i37, c37, encT, h0']
theorem may15_all : ∀ (l : List Ty), Ty.oks l → ∀ d : Nat, d < 1000 → ∀ a ∈ l, Ans ctx 37 [encT a, .int .i64 d] (.bool (mayT d a))
  | [], _, _, _, a, ha => by simp at ha
  | t :: l, ho, d, hd, a, ha => by
    simp only [Ty.oks] at ho
    rcases List.mem_cons.1 ha with h | ha
    · rw [h]; exact may15_ans t ho.1 d hd
    · exact may15_all l ho.2 d hd a ha
end
end Go.Am.Tryd
