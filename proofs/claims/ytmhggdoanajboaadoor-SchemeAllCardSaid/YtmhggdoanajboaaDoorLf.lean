/- Layer 17: texts of types. -/
import Derived.Test.YtmhggdoanajboaaDoorLc
set_option maxRecDepth 100000
set_option linter.unusedSimpArgs false
namespace Go.Am.Tryd
open Go
def varS (n : Nat) : List UInt8 := UInt8.ofNat (97 + n % 26) :: (if n < 26 then [] else itoa ((n / 26 : Nat) : Int))
theorem itoa_ans (n : Nat) (h : n < 2 ^ 60) : Ans ctx 68 [.int .i64 n] (.str (itoa n)) :=
  Ans.prim fn68_ rfl rfl fun σ => by
    show (if (-9223372036854775808 : Int) ≤ n ∧ (n : Int) ≤ 9223372036854775807 then pureM (AV.str (itoa n)) else failM) σ = _
    rw [if_pos (by omega)]
    rfl
theorem itoa_len (n : Int) : (itoa n).length ≤ 21 := by
  have hd : ∀ k m, (digitsN k m).length ≤ k := by
    intro k
    induction k with
    | zero => intro m; simp [digitsN]
    | succ k ih =>
      intro m
      rw [digitsN]
      split
      · simp
      · have := ih (m / 10)
        simp; omega
  unfold itoa
  split
  · have := hd 20 n.natAbs
    simp; omega
  · have := hd 20 n.toNat
    omega
theorem u8_small {n : Int} (h : 0 ≤ n ∧ n ≤ 255) : IntKind.u8.wrap n = n := Go.IntWalk.u8_in n h
theorem variable_ans (n : Nat) (h : n < 2 ^ 40) : Ans ctx 49 [.int .i64 n] (.str (varS n)) := by
  obtain ⟨q, hq⟩ : ∃ q, q = n / 26 := ⟨_, rfl⟩
  obtain ⟨r, hr⟩ : ∃ r, r = n % 26 := ⟨_, rfl⟩
  obtain ⟨k, hk⟩ := itoa_ans q (by omega)
  have m26 : (n : Int).tmod 26 = (r : Int) := by rw [hr]; exact tmod_lit n 26
  have hr26 : r < 26 := by rw [hr]; exact Nat.mod_lt _ (by omega)
  have w1 : IntKind.i64.wrap (97 + (r : Int)) = 97 + r := wrap_i64 (by omega)
  have w2 : IntKind.u8.wrap (97 + (r : Int)) = 97 + r := u8_small (by omega)
  have w3 : IntKind.i64.wrap ((n : Int) / 26) = (q : Int) := by rw [wrap_i64 (by omega)]; omega
  have t1 : (97 + (r : Int)).toNat = 97 + r := by omega
  have hl := itoa_len (q : Int)
  by_cases hlt : n < 26
  · have c1 : ¬ (26 : Int) ≤ n := by omega
    have c2 : (n : Int) < 26 := by omega
    refine Ans.of (σ' := []) fn49_ (by simp) (by simp) ⟨k, fun N hN => ?_⟩
    simp [i49, c49, m26, w1, w2, w3, t1, c1, c2, hk N hN, bytesOf, isByte, varS, hlt, ← hr]
  · have c1 : (26 : Int) ≤ n := by omega
    have c2 : ¬ (n : Int) < 26 := by omega
    have c3 : 1 + (itoa (q : Int)).length < 4611686018427387904 := by omega
    rw [show varS n = UInt8.ofNat (97 + r) :: itoa (q : Int) by simp only [varS, hlt, if_false, hr, hq]]
    refine Ans.of (σ' := []) fn49_ (by simp) (by simp) ⟨k, fun N hN => ?_⟩
    simp [i49, c49, m26, w1, w2, w3, t1, c1, c2, c3, hk N hN, bytesOf, isByte]
def brkS (b : Bool) (s : List UInt8) : List UInt8 := if b then 40 :: (s ++ [41]) else s
def isArr : Ty → Bool
  | .mk k _ s _ _ => k == 2 && s == sArrow
def isComp : Ty → Bool
  | .mk k _ s _ ks => k == 2 && (s != sComma && decide (0 < ks.length))
mutual
def textT : Ty → List UInt8
  | .mk k n s _ ks =>
    if k = 1 then varS n.toNat
    else if s = sArrow then arrT ks
    else if s = sComma then 40 :: (commaT true ks ++ [41])
    else s ++ argsT ks
def arrT : List Ty → List UInt8
  | [] => []
  | a :: l => brkS (isArr a) (textT a) ++ ([32, 45, 62, 32] ++ headT l)
def headT : List Ty → List UInt8
  | [] => []
  | a :: _ => textT a
def commaT (first : Bool) : List Ty → List UInt8
  | [] => []
  | x :: l => (if first then [] else [44, 32]) ++ (textT x ++ commaT false l)
def argsT : List Ty → List UInt8
  | [] => []
  | x :: l => 32 :: (brkS (isComp x) (textT x) ++ argsT l)
end
mutual
def good : Ty → Prop
  | .mk k n s _ ks => (k = 1 → 0 ≤ n ∧ n < 2 ^ 40) ∧ (k ≠ 1 → (s = sArrow → ks.length = 2) ∧ goods ks)
def goods : List Ty → Prop
  | [] => True
  | t :: l => good t ∧ goods l
end
def lim : Nat := 2 ^ 60
theorem brk_ans (t : Ty) (b : Bool) (h : Ans ctx 20 [encT t] (.str (textT t))) (hl : (textT t).length < lim) : Ans ctx 50 [encT t, .bool b] (.str (brkS b (textT t))) := by
  obtain ⟨k, hk⟩ := h
  unfold lim at hl
  refine Ans.of (σ' := []) fn50_ (by simp) (by simp) ⟨k, fun N hN => ?_⟩
  have c1 : 1 + (textT t).length < 4611686018427387904 := by omega
  have c2 : (textT t).length + 1 + 1 < 4611686018427387904 := by omega
  cases b <;> simp [i50, c50, brkS, hk N hN, c1, c2]
theorem lp10_0 (xs : List AV) (nl : Bool) (hb : xs.length < big) : ∀ (rest : List Ty) (i : Nat) (acc : List UInt8), Tail xs i (encTs rest) → (acc ++ commaT (i == 0) rest).length < lim → (∀ a ∈ rest, Ans ctx 20 [encT a] (.str (textT a))) →
    ∃ fr', Lp ctx [] [] [5, 46, 47, 48] b20_0 ⟨[(5, .v (.str acc)), (46, .v (encR 4 nl xs)), (47, .v (.int .i64 xs.length)), (48, .v (.int .i64 i))], false⟩ [] (.ex 1) fr' [] ∧
      fr'.lk = false ∧ getS fr'.sl 5 = .v (.str (acc ++ commaT (i == 0) rest)) ∧ getS fr'.sl 2 = .u ∧ getS fr'.sl 62 = .u ∧ getS fr'.sl 63 = .u ∧ getS fr'.sl 64 = .u
  | [], i, acc, h1, _, _ => by
    have h1 := h1.nil
    refine ⟨?_, Lp.exit ⟨0, fun N _ => ?_⟩ (by simp), ?_⟩
    rotate_left
    · simp [b20_0, h1]
      rfl
    · simp [commaT]
  | a :: r, i, acc, h1, hl, ha => by
    obtain ⟨k, hk⟩ := ha a (by simp)
    simp only [encTs_cons] at h1
    have hlen := h1.len
    obtain ⟨g1, g2, g3, g4, g5⟩ := h1.cons
    have hw := wrap_succ (n := i) (by simp at hlen; omega)
    simp only [commaT, List.length_append, lim] at hl
    by_cases h0 : i = 0
    · obtain ⟨fr', q1, q2⟩ := lp10_0 xs nl hb r (i + 1) (acc ++ textT a) g4 (by simp [h0, lim] at hl ⊢; omega) (fun x hx => ha x (by simp [hx]))
      have e1 : acc ++ textT a ++ commaT (i + 1 == 0) r = acc ++ commaT (i == 0) (a :: r) := by simp [commaT, h0]
      rw [e1] at q2
      have c1 : acc.length + (textT a).length < 4611686018427387904 := by simp [h0] at hl; omega
      have c3 : ¬ (0 : Int) < i := by omega
      have c4 : ¬ 0 < i := by omega
      refine ⟨fr', Lp.step ⟨k, fun N hN => ?_⟩ q1, q2⟩
      simp [b20_0, g1, g2, g3, g5, hk N hN, c1, c3, c4, hw]
    · obtain ⟨fr', q1, q2⟩ := lp10_0 xs nl hb r (i + 1) (acc ++ [44, 32] ++ textT a) g4 (by simp [h0, lim] at hl ⊢; omega) (fun x hx => ha x (by simp [hx]))
      have e1 : acc ++ [44, 32] ++ textT a ++ commaT (i + 1 == 0) r = acc ++ commaT (i == 0) (a :: r) := by simp [commaT, h0]
      rw [e1] at q2
      have c1 : acc.length + 2 < 4611686018427387904 := by simp [h0] at hl; omega
      have c2 : acc.length + 2 + (textT a).length < 4611686018427387904 := by simp [h0] at hl; omega
      have c3 : (0 : Int) < i := by omega
      have c4 : 0 < i := by omega
      have c5 : acc.length + ((textT a).length + 2) < 4611686018427387904 := by omega
      refine ⟨fr', Lp.step ⟨k, fun N hN => ?_⟩ q1, q2⟩
      simp [b20_0, g1, g2, g3, g5, hk N hN, c1, c2, c3, c4, c5, hw]
theorem lp10_1 (xs : List AV) (nl : Bool) (hb : xs.length < big) : ∀ (rest : List Ty) (i : Nat) (acc : List UInt8), Tail xs i (encTs rest) → (acc ++ argsT rest).length < lim → (∀ a ∈ rest, Ans ctx 20 [encT a] (.str (textT a))) →
    ∃ fr', Lp ctx [] [] [8, 68, 69, 70] b20_1 ⟨[(8, .v (.str acc)), (68, .v (encR 4 nl xs)), (69, .v (.int .i64 xs.length)), (70, .v (.int .i64 i))], false⟩ [] (.ex 3) fr' [] ∧
      fr'.lk = false ∧ getS fr'.sl 8 = .v (.str (acc ++ argsT rest)) ∧ getS fr'.sl 2 = .u ∧ getS fr'.sl 94 = .u
  | [], i, acc, h1, _, _ => by
    have h1 := h1.nil
    refine ⟨?_, Lp.exit ⟨0, fun N _ => ?_⟩ (by simp), ?_⟩
    rotate_left
    · simp [b20_1, h1]
      rfl
    · simp [argsT]
  | .mk ka na sa nla kas :: r, i, acc, h1, hl, ha => by
    simp only [encTs_cons] at h1
    have hlen := h1.len
    obtain ⟨g1, g2, g3, g4, g5⟩ := h1.cons
    have hw := wrap_succ (n := i) (by simp at hlen; omega)
    simp only [argsT, List.length_append, List.length_cons, lim] at hl
    have hta : (textT (.mk ka na sa nla kas)).length ≤ (brkS (isComp (.mk ka na sa nla kas)) (textT (.mk ka na sa nla kas))).length := by
      unfold brkS; split <;> simp; omega
    obtain ⟨k, hk⟩ := brk_ans _ (isComp (.mk ka na sa nla kas)) (ha _ List.mem_cons_self) (by unfold lim; omega)
    obtain ⟨fr', q1, q2⟩ := lp10_1 xs nl hb r (i + 1) (acc ++ (32 :: brkS (isComp (.mk ka na sa nla kas)) (textT (.mk ka na sa nla kas)))) g4 (by simp [lim] at hl ⊢; omega) (fun x hx => ha x (by simp [hx]))
    have e1 : acc ++ (32 :: brkS (isComp (.mk ka na sa nla kas)) (textT (.mk ka na sa nla kas))) ++ argsT r = acc ++ argsT (.mk ka na sa nla kas :: r) := by simp [argsT]
    rw [e1] at q2
    refine ⟨fr', Lp.step ⟨k, fun N hN => ?_⟩ q1, q2⟩
    have hk := hk N hN
    generalize hB : brkS (isComp (.mk ka na sa nla kas)) (textT (.mk ka na sa nla kas)) = B at *
    have c1 : 1 + B.length < 4611686018427387904 := by omega
    have c2 : acc.length + (B.length + 1) < 4611686018427387904 := by omega
    have hK1 : lenM (encR 4 nla (encTs kas)) = pureM (.int .i64 (kas.length : Int)) := by simp
    have hK2 : lenOk (.slice 24) (encR 4 nla (encTs kas)) = true := by simp
    have hK3 : ∀ ti : TI, (encR 4 nla (encTs kas)).fits ti = (!ti.k.isAgg && ti.size == 1) := by simp
    simp only [encT, isComp, sComma] at hk g1
    generalize encR 4 nla (encTs kas) = K at hk g1 hK1 hK2 hK3
    have z : decide (0 < kas.length) = decide ((0 : Int) < kas.length) := by simp
    rw [z] at hk
    generalize (kas.length : Int) = L at hk hK1
    cases b1 : ka == 2
    · simp [b1] at hk
      simp [b20_1, g1, g2, g3, g5, b1, hk, hw, c1, c2, hK1, hK2, hK3]
    by_cases e2 : sa = [44]
    · subst e2
      simp [b1] at hk
      simp [b20_1, g1, g2, g3, g5, b1, hk, hw, c1, c2, hK1, hK2, hK3]
    have e4 : (sa != [44]) = true := by simpa using e2
    have e5 : (sa == [44]) = false := by simpa using e2
    by_cases e3 : 0 < L
    · simp only [b1, e4, e3, decide_true, Bool.and_self] at hk
      simp [b20_1, g1, g2, g3, g5, b1, e2, e5, e3, hk, hw, c1, c2, hK1, hK2, hK3]
    · simp only [b1, e4, e3, decide_false, Bool.and_false] at hk
      simp [b20_1, g1, g2, g3, g5, b1, e2, e5, e3, hk, hw, c1, c2, hK1, hK2, hK3]
theorem brkS_len (b : Bool) (s : List UInt8) : s.length ≤ (brkS b s).length ∧ (brkS b s).length ≤ s.length + 2 := by
  unfold brkS
  split
  · simp; omega
  · simp
theorem comma_len (a : Ty) : ∀ (l : List Ty) (f : Bool), a ∈ l → (textT a).length ≤ (commaT f l).length
  | [], _, h => by simp at h
  | x :: l, f, h => by
    simp only [commaT, List.length_append]
    rcases List.mem_cons.1 h with rfl | h
    · omega
    · have := comma_len a l false h; omega
theorem args_len (a : Ty) : ∀ (l : List Ty), a ∈ l → (textT a).length ≤ (argsT l).length
  | [], h => by simp at h
  | x :: l, h => by
    simp only [argsT, List.length_append, List.length_cons]
    rcases List.mem_cons.1 h with rfl | h
    · have := (brkS_len (isComp a) (textT a)).1; omega
    · have := args_len a l h; omega
mutual
theorem text_ans : ∀ t : Ty, good t → cl t → (textT t).length < lim → Ans ctx 20 [encT t] (.str (textT t))
  | .mk k n s nl ks, hg, hc, hl => by
    simp only [good] at hg
    simp only [cl] at hc
    obtain ⟨hs, hks, hcs⟩ := hc
    by_cases hk : k = 1
    · obtain ⟨m, rfl⟩ : ∃ m : Nat, n = m := ⟨n.toNat, by have := (hg.1 hk).1; omega⟩
      obtain ⟨q, hq⟩ := variable_ans m (by have := (hg.1 hk).2; omega)
      refine Ans.of (σ' := []) fn20_ (by simp) (by simp) ⟨q, fun N hN => ?_⟩
      simp [i20, c20, encT, textT, hk, hq N hN]
    · have hk' : (k == 1) = false := by simpa using hk
      obtain ⟨hg1, hg2⟩ := hg.2 hk
      simp only [textT, if_neg hk] at hl ⊢
      by_cases ha : s = sArrow
      · subst ha
        obtain ⟨a, b, rfl⟩ : ∃ a b, ks = [a, b] := by
          have := hg1 rfl
          match ks, this with
          | [a, b], _ => exact ⟨a, b, rfl⟩
        have hall := text_all [a, b] hg2 hcs (fun x hx => by
          have h1 := (brkS_len (isArr a) (textT a)).1
          simp [arrT, headT] at hl
          simp at hx
          rcases hx with rfl | rfl <;> omega)
        have hta := hall a (by simp)
        have htb := hall b (by simp)
        cases a with
        | mk ka na sa nla kas =>
        have hla := (brkS_len (isArr (.mk ka na sa nla kas)) (textT (.mk ka na sa nla kas))).1
        obtain ⟨q1, h1⟩ := brk_ans _ (isArr (.mk ka na sa nla kas)) hta (by simp [arrT, headT] at hl; omega)
        obtain ⟨q2, h2⟩ := htb
        simp only [if_pos, arrT, headT] at hl ⊢
        clear hall hta hg1 hg2 hcs hg
        generalize brkS (isArr (.mk ka na sa nla kas)) (textT (.mk ka na sa nla kas)) = A at *
        generalize textT b = B at *
        simp [lim] at hl
        have c1 : A.length + 4 < 4611686018427387904 := by omega
        have c2 : A.length + 4 + B.length < 4611686018427387904 := by omega
        have c3 : A.length + (B.length + 4) < 4611686018427387904 := by omega
        refine Ans.of (σ' := []) fn20_ (by simp) (by simp) ⟨q1 + q2, fun N hN => ?_⟩
        have h1 := h1 N (by omega)
        have h2 := h2 N (by omega)
        simp only [encT, isArr, sArrow] at h1
        cases b1 : ka == 2
        · simp only [b1, Bool.false_and] at h1
          simp [i20, c20, encT, hk', sArrow, b1, h1, h2, c1, c2, c3]
        cases b2 : sa == [45, 62]
        · simp only [b1, b2, Bool.and_false] at h1
          simp [i20, c20, encT, hk', sArrow, b1, b2, h1, h2, c1, c2, c3]
        · simp only [b1, b2, Bool.and_self] at h1
          simp [i20, c20, encT, hk', sArrow, b1, b2, h1, h2, c1, c2, c3]
      · have ha' : (s == [45, 62]) = false := by simpa [sArrow] using ha
        rw [if_neg ha] at hl ⊢
        by_cases hco : s = sComma
        · have hco' : (s == [44]) = true := by simpa [sComma] using hco
          rw [if_pos hco] at hl ⊢
          obtain ⟨fr', h1, h2, h3, h4, h5, h6, h7⟩ := lp10_0 (encTs ks) nl (by simp [big]; omega) ks 0 [] (Tail.all _) (by simp at hl ⊢; omega)
            (fun a ha => text_all ks hg2 hcs (fun a ha => by have := comma_len a ks true ha; simp at hl; omega) a ha)
          obtain ⟨q, hq⟩ := h1.den
          have c1 : 1 + (commaT true ks).length < 4611686018427387904 := by simp [lim] at hl; omega
          have c2 : (commaT true ks).length + 1 + 1 < 4611686018427387904 := by simp [lim] at hl; omega
          simp at h3
          refine Ans.of (σ' := []) fn20_ (by simp) (by simp) ⟨q, fun N hN => ?_⟩
          simp [i20, c20, encT, hk', ha', hco', hq N hN, h2, h3, h4, h5, h6, h7, c1, c2]
        · have hco' : (s == [44]) = false := by simpa [sComma] using hco
          rw [if_neg hco] at hl ⊢
          obtain ⟨fr', h1, h2, h3, h4, h5⟩ := lp10_1 (encTs ks) nl (by simp [big]; omega) ks 0 s (Tail.all _) hl
            (fun a ha => text_all ks hg2 hcs (fun a ha => by have := args_len a ks ha; simp at hl; omega) a ha)
          obtain ⟨q, hq⟩ := h1.den
          refine Ans.of (σ' := []) fn20_ (by simp) (by simp) ⟨q, fun N hN => ?_⟩
          simp [i20, c20, encT, hk', ha', hco', hq N hN, h2, h3, h4, h5]
theorem text_all : ∀ l : List Ty, goods l → cls l → (∀ a ∈ l, (textT a).length < lim) → ∀ a ∈ l, Ans ctx 20 [encT a] (.str (textT a))
  | [], _, _, _, a, ha => by simp at ha
  | t :: l, hg, hc, hl, a, ha => by
    rcases List.mem_cons.1 ha with h | ha
    · rw [h]; exact text_ans t hg.1 hc.1 (hl t (by simp))
    · exact text_all l hg.2 hc.2 (fun a ha => hl a (by simp [ha])) a ha
end
end Go.Am.Tryd
