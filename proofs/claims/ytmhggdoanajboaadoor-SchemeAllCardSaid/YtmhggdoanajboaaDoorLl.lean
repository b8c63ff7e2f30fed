/- Layer 17: the reference's Text. -/
import Derived.Test.YtmhggdoanajboaaDoorLf
import Derived.Test.YtmhggdoanajboaaDoorLq
import Derived.KernelRfl
set_option maxRecDepth 100000
set_option linter.unusedSimpArgs false
namespace Go.Am.Tryd
open Go
mutual
def shp : Ty → Prop
  | .mk k n s _ ks => (k = 1 → 0 ≤ n ∧ n < 2 ^ 40 ∧ s = [] ∧ ks = []) ∧ (k ≠ 1 → k = 2 ∧ (s = sArrow → ks.length = 2)) ∧ shps ks
def shps : List Ty → Prop
  | [] => True
  | t :: l => shp t ∧ shps l
end
theorem lp24_0 (K N0 S : AV) (xs : List AV) (nl : Bool) (hb : xs.length < big) : ∀ (rest : List Ty) (i : Nat) (acc : List UInt8), Tail xs i (encTs rest) → (acc ++ commaT (i == 0) rest).length < lim → (∀ a ∈ rest, Ans ctx 21 [encT a] (.str (textT a))) →
    ∃ fr', Lp ctx [] [] [1, 5, 6] b21_0 ⟨[(1, .bx (.agg [K, N0, S, encR 4 nl xs])), (5, .v (.str acc)), (6, .v (.int .i64 i))], false⟩ [] (.ex 1) fr' [] ∧
      fr'.lk = false ∧ getS fr'.sl 5 = .v (.str (acc ++ commaT (i == 0) rest)) ∧ getS fr'.sl 2 = .u ∧ getS fr'.sl 78 = .u ∧ getS fr'.sl 79 = .u
  | [], i, acc, h1, _, _ => by
    have h1 := h1.nil
    refine ⟨?_, Lp.exit ⟨0, fun N _ => ?_⟩ (by simp), ?_⟩
    rotate_left
    · simp [b21_0, h1]
      rfl
    · simp [commaT]
  | a :: r, i, acc, h1, hl, ha => by
    obtain ⟨k, hk⟩ := ha a (by simp)
    simp only [encTs_cons] at h1
    have hlen := h1.len
    obtain ⟨g1, g2, g3, g4, g5⟩ := h1.cons
    have hw := wrap_succ (n := i) (by simp at hlen; omega)
    simp only [commaT, List.length_append, lim] at hl
    by_cases h0 : i = 0
    · obtain ⟨fr', q1, q2⟩ := lp24_0 K N0 S xs nl hb r (i + 1) (acc ++ textT a) g4 (by simp [h0, lim] at hl ⊢; omega) (fun x hx => ha x (by simp [hx]))
      have e1 : acc ++ textT a ++ commaT (i + 1 == 0) r = acc ++ commaT (i == 0) (a :: r) := by simp [commaT, h0]
      rw [e1] at q2
      have c1 : acc.length + (textT a).length < 4611686018427387904 := by simp [h0] at hl; omega
      have c3 : ¬ (0 : Int) < i := by omega
      have c4 : ¬ 0 < i := by omega
      refine ⟨fr', Lp.step ⟨k, fun N hN => ?_⟩ q1, q2⟩
      simp [b21_0, g1, g2, g3, g5, hk N hN, c1, c3, c4, hw]
    · obtain ⟨fr', q1, q2⟩ := lp24_0 K N0 S xs nl hb r (i + 1) (acc ++ [44, 32] ++ textT a) g4 (by simp [h0, lim] at hl ⊢; omega) (fun x hx => ha x (by simp [hx]))
      have e1 : acc ++ [44, 32] ++ textT a ++ commaT (i + 1 == 0) r = acc ++ commaT (i == 0) (a :: r) := by simp [commaT, h0]
      rw [e1] at q2
      have c1 : acc.length + 2 < 4611686018427387904 := by simp [h0] at hl; omega
      have c2 : acc.length + 2 + (textT a).length < 4611686018427387904 := by simp [h0] at hl; omega
      have c3 : (0 : Int) < i := by omega
      have c4 : 0 < i := by omega
      have c5 : acc.length + ((textT a).length + 2) < 4611686018427387904 := by omega
      refine ⟨fr', Lp.step ⟨k, fun N hN => ?_⟩ q1, q2⟩
      simp [b21_0, g1, g2, g3, g5, hk N hN, c1, c2, c3, c4, c5, hw]
theorem comp_ref (k n : Int) (s : List UInt8) (nl : Bool) (ks : List Ty) (h : shp (.mk k n s nl ks)) : isComp (.mk k n s nl ks) = (s == [45, 62] || (decide (0 < ks.length) && !(s == [44]))) := by
  simp only [shp] at h
  by_cases hk : k = 1
  · obtain ⟨_, _, rfl, rfl⟩ := h.1 hk
    simp [isComp, hk]
  · obtain ⟨rfl, ha⟩ := h.2.1 hk
    simp only [isComp, sComma, sArrow] at *
    by_cases e : s = [45, 62]
    · subst e
      have := ha rfl
      simp [this]
    · have e' : (s == [45, 62]) = false := by simpa using e
      rw [e']
      cases h44 : s == [44] <;> cases hl : decide (0 < ks.length) <;> simp [bne, h44]
theorem lp24_1 (K N0 S : AV) (xs : List AV) (nl : Bool) (hb : xs.length < big) : ∀ (rest : List Ty) (i : Nat) (acc : List UInt8), Tail xs i (encTs rest) → (acc ++ argsT rest).length < lim → shps rest → (∀ a ∈ rest, Ans ctx 21 [encT a] (.str (textT a))) →
    ∃ fr', Lp ctx [] [] [1, 7, 8] b21_1 ⟨[(1, .bx (.agg [K, N0, S, encR 4 nl xs])), (7, .v (.str acc)), (8, .v (.int .i64 i))], false⟩ [] (.ex 3) fr' [] ∧
      fr'.lk = false ∧ getS fr'.sl 7 = .v (.str (acc ++ argsT rest)) ∧ getS fr'.sl 2 = .u ∧ getS fr'.sl 117 = .u
  | [], i, acc, h1, _, _, _ => by
    have h1 := h1.nil
    refine ⟨?_, Lp.exit ⟨0, fun N _ => ?_⟩ (by simp), ?_⟩
    rotate_left
    · simp [b21_1, h1]
      rfl
    · simp [argsT]
  | .mk ka na sa nla kas :: r, i, acc, h1, hl, hsh, ha => by
    simp only [encTs_cons] at h1
    have hlen := h1.len
    obtain ⟨g1, g2, g3, g4, g5⟩ := h1.cons
    have hw := wrap_succ (n := i) (by simp at hlen; omega)
    simp only [argsT, List.length_append, List.length_cons, lim] at hl
    obtain ⟨k, hk⟩ := ha _ List.mem_cons_self
    obtain ⟨fr', q1, q2⟩ := lp24_1 K N0 S xs nl hb r (i + 1) (acc ++ (32 :: brkS (isComp (.mk ka na sa nla kas)) (textT (.mk ka na sa nla kas)))) g4 (by simp [lim] at hl ⊢; omega) hsh.2 (fun x hx => ha x (by simp [hx]))
    have e1 : acc ++ (32 :: brkS (isComp (.mk ka na sa nla kas)) (textT (.mk ka na sa nla kas))) ++ argsT r = acc ++ argsT (.mk ka na sa nla kas :: r) := by simp [argsT]
    rw [e1] at q2
    have hbl := brkS_len (isComp (.mk ka na sa nla kas)) (textT (.mk ka na sa nla kas))
    refine ⟨fr', Lp.step ⟨k, fun N hN => ?_⟩ q1, q2⟩
    have hk := hk N hN
    rw [comp_ref ka na sa nla kas hsh.1] at hl hbl ⊢
    generalize hX : textT (.mk ka na sa nla kas) = X at *
    have hK1 : lenM (encR 4 nla (encTs kas)) = pureM (.int .i64 (kas.length : Int)) := by simp
    have hK2 : lenOk (.slice 24) (encR 4 nla (encTs kas)) = true := by simp
    have hK3 : ∀ ti : TI, (encR 4 nla (encTs kas)).fits ti = (!ti.k.isAgg && ti.size == 1) := by simp
    simp only [encT] at hk g1
    generalize encR 4 nla (encTs kas) = KK at hk g1 hK1 hK2 hK3
    have z : decide (0 < kas.length) = decide ((0 : Int) < kas.length) := by simp
    rw [z] at hl hbl ⊢
    generalize (kas.length : Int) = L at *
    have c1 : 1 + X.length < 4611686018427387904 := by omega
    have c2 : X.length + 1 + 1 < 4611686018427387904 := by omega
    have c3 : acc.length + 1 < 4611686018427387904 := by omega
    have c4 : acc.length + 1 + X.length < 4611686018427387904 := by omega
    have c6 : acc.length + (X.length + 1) < 4611686018427387904 := by omega
    cases b1 : sa == [45, 62]
    · by_cases e3 : 0 < L
      · cases b2 : sa == [44]
        · have c5 : acc.length + 1 + (X.length + 1 + 1) < 4611686018427387904 := by simp [b1, b2, e3, brkS] at hbl hl; omega
          have c7 : acc.length + (X.length + 1 + 1 + 1) < 4611686018427387904 := by omega
          simp [b21_1, g1, g2, g3, g5, b1, b2, e3, hk, hw, c1, c2, c3, c4, c5, c6, c7, hK1, hK2, hK3, brkS]
        · simp [b21_1, g1, g2, g3, g5, b1, b2, e3, hk, hw, c1, c2, c3, c4, c6, hK1, hK2, hK3, brkS]
      · simp [b21_1, g1, g2, g3, g5, b1, e3, hk, hw, c1, c2, c3, c4, c6, hK1, hK2, hK3, brkS]
    · have c5 : acc.length + 1 + (X.length + 1 + 1) < 4611686018427387904 := by simp [b1, brkS] at hbl hl; omega
      have c7 : acc.length + (X.length + 1 + 1 + 1) < 4611686018427387904 := by omega
      simp [b21_1, g1, g2, g3, g5, b1, hk, hw, c1, c2, c3, c4, c5, c6, c7, hK1, hK2, hK3, brkS]
mutual
theorem text15_ans : ∀ t : Ty, shp t → t.ok → (textT t).length < lim → Ans ctx 21 [encT t] (.str (textT t))
  | .mk k n s nl ks, hg, ho, hl => by
    have hsh := hg
    simp only [shp] at hg
    simp only [Ty.ok] at ho
    by_cases hk : k = 1
    · obtain ⟨h0, h52, rfl, rfl⟩ := hg.1 hk
      obtain ⟨m, rfl⟩ : ∃ m : Nat, n = m := ⟨n.toNat, by omega⟩
      obtain ⟨r, hr⟩ : ∃ r, r = m % 26 := ⟨_, rfl⟩
      have m26 : (m : Int).tmod 26 = (r : Int) := by rw [hr]; exact tmod_lit m 26
      have hr26 : r < 26 := by rw [hr]; exact Nat.mod_lt _ (by omega)
      have w1 : IntKind.i64.wrap (97 + (r : Int)) = 97 + r := wrap_i64 (by omega)
      have w2 : IntKind.u8.wrap (97 + (r : Int)) = 97 + r := u8_small (by omega)
      have t1 : (97 + (r : Int)).toNat = 97 + r := by omega
      by_cases hlt : m < 26
      · have c1 : ¬ (26 : Int) ≤ m := by omega
        rw [show textT (.mk k m [] nl []) = [UInt8.ofNat (97 + r)] by simp [textT, hk, varS, hlt, hr]]
        refine Ans.of (σ' := []) fn21_ (by simp) (by simp) ⟨0, fun N hN => ?_⟩
        simp [i21, c21, encT, hk, m26, w1, w2, t1, c1, bytesOf, isByte]
      · have c1 : (26 : Int) ≤ m := by omega
        obtain ⟨q, hd⟩ := digits_ans (m / 26) (by omega)
        obtain ⟨d, hq'⟩ : ∃ d, d = m / 26 := ⟨_, rfl⟩
        rw [← hq'] at hd
        have hq : (m : Int) / 26 = d := by omega
        have w3 : IntKind.i64.wrap (d : Int) = d := wrap_i64 (by omega)
        have hil := itoa_len (d : Int)
        rw [show textT (.mk k m [] nl []) = UInt8.ofNat (97 + r) :: itoa (d : Int) by
          simp only [textT, if_pos hk, varS, Int.toNat_natCast, if_neg hlt, hr, hq']]
        generalize itoa (d : Int) = D at *
        have c2 : 1 + D.length < 4611686018427387904 := by omega
        have c3 : D.length + 1 < 4611686018427387904 := by omega
        refine Ans.of (σ' := []) fn21_ (by simp) (by simp) ⟨q, fun N hN => ?_⟩
        simp [i21, c21, encT, hk, m26, w1, w2, w3, t1, c1, hq, hd N hN, bytesOf, isByte, c2, c3]
    · have hk' : (k == 1) = false := by simpa using hk
      obtain ⟨hk2, hg1⟩ := hg.2.1 hk
      have hg2 := hg.2.2
      simp only [textT, if_neg hk] at hl ⊢
      by_cases ha : s = sArrow
      · subst ha
        obtain ⟨a, b, rfl⟩ : ∃ a b, ks = [a, b] := by
          have := hg1 rfl
          match ks, this with
          | [a, b], _ => exact ⟨a, b, rfl⟩
        have hall := text15_all [a, b] hg2 ho.2.2 (fun x hx => by
          have h1 := (brkS_len (isArr a) (textT a)).1
          simp [arrT, headT] at hl
          simp at hx
          rcases hx with rfl | rfl <;> omega)
        obtain ⟨q1, h1⟩ := hall a (by simp)
        obtain ⟨q2, h2⟩ := hall b (by simp)
        cases a with
        | mk ka na sa nla kas =>
        have hla := brkS_len (isArr (.mk ka na sa nla kas)) (textT (.mk ka na sa nla kas))
        have hia : isArr (.mk ka na sa nla kas) = (sa == [45, 62]) := by
          have hsa := hg2.1
          simp only [shp] at hsa
          by_cases h1 : ka = 1
          · obtain ⟨_, _, rfl, _⟩ := hsa.1 h1
            simp [isArr, h1, sArrow]
          · obtain ⟨rfl, _⟩ := hsa.2.1 h1
            simp [isArr, sArrow]
        simp only [if_pos, arrT, headT] at hl ⊢
        rw [hia] at hl hla ⊢
        clear hall hg1 hg2 hg hsh
        generalize textT (.mk ka na sa nla kas) = A at *
        generalize textT b = B at *
        simp [lim] at hl
        have c1 : 1 + A.length < 4611686018427387904 := by omega
        have c2 : A.length + 1 + 1 < 4611686018427387904 := by omega
        refine Ans.of (σ' := []) fn21_ (by simp) (by simp) ⟨q1 + q2, fun N hN => ?_⟩
        have h1 := h1 N (by omega)
        have h2 := h2 N (by omega)
        simp only [encT] at h1
        cases b2 : sa == [45, 62]
        · simp [b2, brkS] at hla hl
          have c3 : A.length + 4 < 4611686018427387904 := by omega
          have c4 : A.length + 4 + B.length < 4611686018427387904 := by omega
          have c5 : A.length + (B.length + 4) < 4611686018427387904 := by omega
          simp [i21, c21, encT, hk', sArrow, b2, h1, h2, c1, c2, c3, c4, c5, brkS]
        · simp [b2, brkS] at hla hl
          have c3 : A.length + 1 + 1 + 4 < 4611686018427387904 := by omega
          have c4 : A.length + 1 + 1 + 4 + B.length < 4611686018427387904 := by omega
          have c5 : A.length + (B.length + 4) + 1 + 1 < 4611686018427387904 := by omega
          have c6 : A.length + 5 + 1 < 4611686018427387904 := by omega
          have c7 : A.length + (B.length + 5) + 1 < 4611686018427387904 := by omega
          simp [i21, c21, encT, hk', sArrow, b2, h1, h2, c1, c2, c3, c4, c5, c6, c7, brkS]
      · have ha' : (s == [45, 62]) = false := by simpa [sArrow] using ha
        rw [if_neg ha] at hl ⊢
        by_cases hco : s = sComma
        · have hco' : (s == [44]) = true := by simpa [sComma] using hco
          rw [if_pos hco] at hl ⊢
          obtain ⟨fr', h1, h2, h3, h4, h5, h6⟩ := lp24_0 (.int .i64 k) (.int .i64 n) (.str s) (encTs ks) nl (by simpa using ho.2.1) ks 0 [40] (Tail.all _) (by simp at hl ⊢; omega)
            (fun a ha => text15_all ks hg2 ho.2.2 (fun a ha => by have := comma_len a ks true ha; simp at hl; omega) a ha)
          obtain ⟨q, hq⟩ := h1.den
          have c1 : (commaT true ks).length + 1 + 1 < 4611686018427387904 := by simp [lim] at hl; omega
          simp only [beq_self_eq_true, List.singleton_append] at h3
          refine Ans.of (σ' := []) fn21_ (by simp) (by simp) ⟨q, fun N hN => ?_⟩
          simp [i21, c21, encT, hk', ha', hco', hq N hN, h2, h3, h4, h5, h6, c1]
        · have hco' : (s == [44]) = false := by simpa [sComma] using hco
          rw [if_neg hco] at hl ⊢
          obtain ⟨fr', h1, h2, h3, h4, h5⟩ := lp24_1 (.int .i64 k) (.int .i64 n) (.str s) (encTs ks) nl (by simpa using ho.2.1) ks 0 s (Tail.all _) hl hg2
            (fun a ha => text15_all ks hg2 ho.2.2 (fun a ha => by have := args_len a ks ha; simp at hl; omega) a ha)
          obtain ⟨q, hq⟩ := h1.den
          refine Ans.of (σ' := []) fn21_ (by simp) (by simp) ⟨q, fun N hN => ?_⟩
          simp [i21, c21, encT, hk', ha', hco', hq N hN, h2, h3, h4, h5]
theorem text15_all : ∀ l : List Ty, shps l → Ty.oks l → (∀ a ∈ l, (textT a).length < lim) → ∀ a ∈ l, Ans ctx 21 [encT a] (.str (textT a))
  | [], _, _, _, a, ha => by simp at ha
  | t :: l, hg, hc, hl, a, ha => by
    rcases List.mem_cons.1 ha with h | ha
    · rw [h]; exact text15_ans t hg.1 hc.1 (hl t (by simp))
    · exact text15_all l hg.2 hc.2 (fun a ha => hl a (by simp [ha])) a ha
end
end Go.Am.Tryd
