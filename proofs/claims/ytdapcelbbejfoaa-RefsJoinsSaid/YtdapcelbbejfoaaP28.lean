/- Layer 14: what is free in two together is what is free in the first, and then what is free in the second (RefsJoins). -/
import Derived.Test.YtdapcelbbejfoaaP27
set_option linter.unusedVariables false
set_option maxRecDepth 100000
set_option linter.unusedSimpArgs false
namespace Go.Am.Try
open Go Go.Am.Ps

/-! ### plain -/

/-- all that another lacks -/
def lack (O l : List Str) : List Str := l.filter fun y => !(O.any fun z => z == y)

theorem any_no {O : List Str} {y : Str} (h : y ∉ O) : (O.any fun z => z == y) = false := by
  cases he : O.any fun z => z == y with
  | false => rfl
  | true =>
    obtain ⟨z, h1, h2⟩ := List.any_eq_true.1 he
    exact absurd ((by simpa using h2 : z = y) ▸ h1) h

theorem any_yes {O : List Str} {y : Str} (h : y ∈ O) : (O.any fun z => z == y) = true := List.any_eq_true.2 ⟨y, h, by simp⟩

theorem lack_snoc (O : List Str) (y : Str) (l : List Str) : lack O (l ++ [y]) = if y ∈ O then lack O l else lack O l ++ [y] := by
  unfold lack
  rw [List.filter_append]
  split
  · rename_i h; simp only [List.filter_cons, List.filter_nil, any_yes h]; simp
  · rename_i h; simp only [List.filter_cons, List.filter_nil, any_no h]; simp

theorem mem_lack {O l : List Str} {y : Str} (h : y ∉ O) : y ∈ lack O l ↔ y ∈ l := by
  unfold lack
  rw [List.mem_filter]
  simp only [any_no h]
  simp

theorem addF_lack (pre B O : List Str) (k : Nat) (s : Str) : addF k s B (pre ++ lack pre O) = pre ++ lack pre (addF k s B O) := by
  unfold addF
  by_cases hs : s ∈ pre
  · rw [if_neg (fun h => h.2.2 (by simp [hs]))]
    split
    · rw [lack_snoc, if_pos hs]
    · rfl
  · have h2 : s ∈ pre ++ lack pre O ↔ s ∈ O := by
      rw [List.mem_append, mem_lack hs]
      exact ⟨fun h => h.elim (fun h => absurd h hs) id, .inr⟩
    have e : (k = 1 ∧ s ∉ B ∧ s ∉ pre ++ lack pre O) ↔ (k = 1 ∧ s ∉ B ∧ s ∉ O) := by rw [h2]
    by_cases hc : k = 1 ∧ s ∉ B ∧ s ∉ O
    · rw [if_pos hc, if_pos (e.2 hc), lack_snoc, if_neg hs, List.append_assoc]
    · rw [if_neg hc, if_neg (fun h => hc (e.1 h))]

mutual
theorem frE_lack (pre : List Str) : ∀ (e : Ex) (B O : List Str), frE B (pre ++ lack pre O) e = pre ++ lack pre (frE B O e)
  | .mk k a s n ks as, B, O => by
    simp only [frE]
    rw [addF_lack, frK_lack pre k s ks 0 B _, frA_lack pre as B _]
theorem frK_lack (pre : List Str) (k : Nat) (s : Str) : ∀ (l : List Ex) (i : Nat) (B O : List Str), frK k s i B (pre ++ lack pre O) l = pre ++ lack pre (frK k s i B O l)
  | [], i, B, O => by simp [frK]
  | e :: l, i, B, O => by
    simp only [frK]
    cases bindK k i with
    | true =>
      simp only [cond]
      rw [frE_lack pre e (s :: B), frK_lack pre k s l (i + 1) B]
    | false =>
      simp only [cond]
      rw [frE_lack pre e B, frK_lack pre k s l (i + 1) B]
theorem frA_lack (pre : List Str) : ∀ (l : List Al) (B O : List Str), frA B (pre ++ lack pre O) l = pre ++ lack pre (frA B O l)
  | [], B, O => by simp [frA]
  | .mk _ _ ns b :: l, B, O => by
    simp only [frA]
    rw [frE_lack pre b (ns ++ B), frA_lack pre l B]
end

theorem frE_pre (O : List Str) (e : Ex) : frE [] O e = O ++ lack O (frE [] [] e) := by
  have h := frE_lack O e [] []
  have e1 : lack O [] = [] := rfl
  rw [e1, List.append_nil] at h
  exact h

theorem lack_all {O l : List Str} (h : ∀ y ∈ l, y ∈ O) : lack O l = [] := by
  unfold lack
  rw [List.filter_eq_nil_iff]
  intro a ha
  rw [any_yes (h a ha)]
  simp

theorem free_ap (e1 e2 : Ex) : frE [] [] (.mk 5 0 [] 0 [e1, e2] []) = frE [] [] e1 ++ lack (frE [] [] e1) (frE [] [] e2) := by
  have h1 : addF 5 [] [] [] = [] := by unfold addF; rw [if_neg (by simp)]
  simp only [frE, h1, frK, frA]
  have e2 : bindK 5 0 = false := rfl
  have e4 : bindK 5 (0 + 1) = false := rfl
  rw [e2, e4]
  exact frE_pre _ _

theorem free_tup (e1 e2 : Ex) : frE [] [] (.mk 8 0 [] 0 [e1, e2, e1] []) = frE [] [] e1 ++ lack (frE [] [] e1) (frE [] [] e2) := by
  have h1 : addF 8 [] [] [] = [] := by unfold addF; rw [if_neg (by simp)]
  simp only [frE, h1, frK, frA]
  have b1 : bindK 8 0 = false := rfl
  have b2 : bindK 8 (0 + 1) = false := rfl
  have b3 : bindK 8 (0 + 1 + 1) = false := rfl
  rw [b1, b2, b3]
  simp only [cond]
  have h2 := frE_pre (frE [] [] e1) e2
  rw [h2]
  have h3 := frE_pre (frE [] [] e1 ++ lack (frE [] [] e1) (frE [] [] e2)) e1
  rw [h3, lack_all (O := frE [] [] e1 ++ lack (frE [] [] e1) (frE [] [] e2)) (l := frE [] [] e1) (fun y hy => List.mem_append.2 (.inl hy)), List.append_nil]

theorem lack_len_le (O l : List Str) : (lack O l).length ≤ l.length := List.length_filter_le _ _

/-! ### of the machine -/

/-- a row in the heap, never nil -/
def rowH (n : Nat) : AV := .hs 0 n 0 n 1
def stR (xs : List AV) : H := [.arr false 1 xs]

theorem setCells_end : ∀ (ys xs : List AV), setCells xs xs.length ys = xs
  | [], xs => rfl
  | y :: ys, xs => by
    have : xs.set xs.length y = xs := by rw [List.set_eq_of_length_le (Nat.le_refl _)]
    simp only [setCells]
    rw [this]
    have h : ∀ (ys xs : List AV) (n : Nat), xs.length ≤ n → setCells xs n ys = xs := by
      intro ys
      induction ys with
      | nil => intro xs n _; rfl
      | cons y ys ih =>
        intro xs n hn
        simp only [setCells]
        rw [List.set_eq_of_length_le hn, ih xs (n + 1) (by omega)]
    exact h ys xs _ (by omega)

theorem app_row (te : TI) (hte : te.size = 1) (xs ys : List AV) (hy : fitAll te ys = true) (hb : (xs.length + ys.length) * te.bytes ≤ 2 ^ 45) (hl : xs.length + ys.length ≤ 2 ^ 45) :
    appendH te (rowH xs.length) ys (stR xs) = some (rowH (xs ++ ys).length, stR (xs ++ ys)) := by
  have h0 : arrAt (stR xs) 0 xs.length = some (false, 1, xs) := by simp [arrAt, stR]
  unfold rowH appendH
  simp only [h0]
  rw [if_pos ⟨trivial, hte.symm, by omega, hb, hl, hy⟩]
  cases ys with
  | nil => simp [stR, setCells]
  | cons y ys =>
    rw [if_neg (by simp), if_pos trivial]
    simp [stR]

theorem fit_Ss : ∀ l : List Str, fitAll ⟨.str, 1, 16, .str [], [.str]⟩ (encSs l) = true
  | [] => rfl
  | a :: l => by
    have := fit_Ss l
    simp only [fitAll, encSs_cons, List.all_cons, AV.fits] at this ⊢
    simp [this]

theorem elems_Ss (l : List Str) (σ : H) : elemsM ⟨.str, 1, 16, .str [], [.str]⟩ (encR 1 true (encSs l)) σ = some (encSs l, σ) := by
  cases l with
  | nil => simp
  | cons a l => simp

theorem texts_row (l : List Str) (nl : Bool) (w : List Str) (hl : l.length < big) : AnsH ctx 21 [encR 1 nl (encSs l), rowH w.length] (stR (encSs w)) (.bool (sameSs l w)) (stR (encSs w)) := by
  have ht : (encSs w).take w.length = encSs w := List.take_of_length_le (by simp)
  have hx : (stR (encSs w))[0]? = some (.arr false 1 (encSs w)) := rfl
  have h1 := snapA_hs (n := 199) (v := w.length) (m := w.length) hx (by simp) (Nat.le_refl _) (by rw [ht]; simp)
  rw [ht] at h1
  have hsn : snapL (stR (encSs w)) [encR 1 nl (encSs l), .hs 0 w.length 0 w.length 1] = some ([encR 1 nl (encSs l), .sl 1 (encSs w)], [0]) := by
    simp only [snapL, mapO2, h1, snapA_noRef (a := encR 1 nl (encSs l)) (by simp), List.append_nil, List.nil_append]
  have hp := texts_ans l w nl false hl
  rw [encR_false] at hp
  exact AnsH.lay (ns := [0]) fn21_ (by simp [rowH, AV.noRefs, AV.noRef]) hsn (by simp [AV.noRefs, AV.noRef]) hp

/-- is it among them -/
theorem lp4_0 (y : Str) (L M : List AV) (nl nm : Bool) (hL : L.length < big) (X7 X8 X11 : AV) (j : Nat) (hy : M[j]? = some (.str y)) (hj : idxN (j : Int) M.length = some j) (hm : encR 1 nm M = .sl 1 M) (σ : H) : ∀ (r : List Str) (i : Nat) (w : Bool), Tail L i (encSs r) →
    ∃ fr', Lp ctx [59, 61, 94] [] [7, 8, 9, 10, 11, 12, 13, 14] b4_0 ⟨[(7, .bx X7), (8, .bx X8), (9, .v (encR 1 nl L)), (10, .v (encR 1 nm M)), (11, .v X11), (12, .v (.int .i64 j)), (13, .v (.bool w)), (14, .v (.int .i64 i))], false⟩ σ (.ex 2) fr' σ ∧ fr'.lk = false ∧ Hi 72 fr' ∧
      getS fr'.sl 4 = .u ∧ getS fr'.sl 7 = .bx X7 ∧ getS fr'.sl 8 = .bx X8 ∧ getS fr'.sl 9 = .v (encR 1 nl L) ∧ getS fr'.sl 10 = .v (encR 1 nm M) ∧ getS fr'.sl 11 = .v X11 ∧ getS fr'.sl 12 = .v (.int .i64 j) ∧ getS fr'.sl 66 = .u ∧ getS fr'.sl 67 = .u ∧ getS fr'.sl 13 = .v (.bool (w || r.any (fun z => z == y)))
  | [], i, w, h => by
    have h' := h.nil
    refine ⟨?_, ?_, ?_⟩
    rotate_left
    · refine Lp.exit ⟨0, fun N _ => ?_⟩ (by simp)
      simp -implicitDefEqProofs [b4_0, h']
      rfl
    · exact ⟨by simp, hi_of (by simp), by simp, by simp, by simp, by simp, by simp, by simp, by simp, by simp, by simp, by simp⟩
  | a :: r, i, w, h => by
    have hlen := h.len
    simp only [encSs_cons] at h
    obtain ⟨g1, g2, g3, g4, g5⟩ := h.cons
    simp at hlen
    unfold big at hL
    have hw := wrap_succ (n := i) (by unfold big; omega)
    have g6 := g5 1 nl
    cases hw0 : w with
    | true =>
      obtain ⟨fr', q1, q2⟩ := lp4_0 y L M nl nm (by unfold big; omega) X7 X8 X11 j hy hj hm σ r (i + 1) true g4
      have e2 : (true || (a :: r).any (fun z => z == y)) = (true || r.any (fun z => z == y)) := by simp
      rw [e2]
      rw [g6, hm] at q1 q2 ⊢
      refine ⟨fr', Lp.step ⟨0, fun N hN => ?_⟩ q1, q2⟩
      simp -implicitDefEqProofs [b4_0, d4_1, g1, g2, g3, hw, hy, hj, -beq_iff_eq]
    | false =>
      obtain ⟨fr', q1, q2⟩ := lp4_0 y L M nl nm (by unfold big; omega) X7 X8 X11 j hy hj hm σ r (i + 1) (a == y) g4
      have e2 : (false || (a :: r).any (fun z => z == y)) = ((a == y) || r.any (fun z => z == y)) := by simp
      rw [e2]
      rw [g6, hm] at q1 q2 ⊢
      refine ⟨fr', Lp.step ⟨0, fun N hN => ?_⟩ q1, q2⟩
      have hs : strOp .eql a y = some (.bool (a == y)) := by simp [strOp]
      generalize (a == y) = c at *
      simp -implicitDefEqProofs [b4_0, d4_1, g1, g2, g3, hw, hy, hj, hs, -beq_iff_eq, -strOp]

/-- the second's, behind the first's -/
theorem lp4_1 (O : List Str) (nl nm : Bool) (M : List AV) (hO : O.length ≤ 2 ^ 38) (hM : M.length ≤ 2 ^ 38) (X7 X8 : AV) : ∀ (r : List Str) (i : Nat) (acc : List Str), Tail M i (encSs r) → acc.length ≤ O.length + i →
    ∃ fr', Lp ctx [59, 61, 94] [] [7, 8, 9, 10, 11, 12] b4_1 ⟨[(7, .bx X7), (8, .bx X8), (9, .v (encR 1 nl (encSs O))), (10, .v (encR 1 nm M)), (11, .v (rowH acc.length)), (12, .v (.int .i64 i))], false⟩ (stR (encSs acc)) (.ex 0) fr' (stR (encSs (acc ++ lack O r))) ∧ fr'.lk = false ∧ Hi 95 fr' ∧
      getS fr'.sl 4 = .u ∧ getS fr'.sl 7 = .bx X7 ∧ getS fr'.sl 8 = .bx X8 ∧ getS fr'.sl 11 = .v (rowH (acc ++ lack O r).length)
  | [], i, acc, h, ha => by
    have h' := h.nil
    refine ⟨?_, ?_, ?_⟩
    rotate_left
    · have e : lack O [] = [] := rfl
      rw [e, List.append_nil]
      refine Lp.exit ⟨0, fun N _ => ?_⟩ (by simp)
      simp -implicitDefEqProofs [b4_1, h']
      rfl
    · exact ⟨by simp, hi_of (by simp), by simp, by simp, by simp, by simp [lack]⟩
  | a :: r, i, acc, h, ha => by
    have hlen := h.len
    simp only [encSs_cons] at h
    obtain ⟨g1, g2, g3, g4, g5⟩ := h.cons
    simp at hlen
    have hw := wrap_succ (n := i) (by unfold big; omega)
    have g6 := g5 1 nm
    obtain ⟨fr1, p1, p2, p3, p4, p5, p6, p7, p8, p9, p10, p12, p13, p11⟩ := lp4_0 a (encSs O) M nl nm (by simp; unfold big; omega) X7 X8 (rowH acc.length) i g1 g3 g6 (stR (encSs acc)) O 0 false (Tail.all _)
    obtain ⟨k, hk⟩ := p1.den
    unfold Hi at p3
    have e0 : (false || O.any (fun z => z == a)) = O.any (fun z => z == a) := rfl
    rw [e0] at p11
    cases hax : O.any (fun z => z == a) with
    | true =>
      rw [hax] at p11
      obtain ⟨fr', q1, q2⟩ := lp4_1 O nl nm M hO hM X7 X8 r (i + 1) acc g4 (by omega)
      have e1 : lack O (a :: r) = lack O r := by simp only [lack, List.filter_cons, hax]; rfl
      rw [e1]
      rw [g6] at q1 hk p8 ⊢
      refine ⟨fr', Lp.step ⟨k, fun N hN => ?_⟩ q1, q2⟩
      have hk := hk N hN
      generalize stR (encSs acc) = H0 at *
      generalize rowH acc.length = R0 at *
      simp -implicitDefEqProofs [b4_1, g1, g2, g3, hw, hk, p2, p3, p4, p5, p6, p7, p8, p9, p10, p12, p13, p11]
    | false =>
      rw [hax] at p11
      have hap := app_row ⟨.str, 1, 16, .str [], [.str]⟩ rfl (encSs acc) [.str a] (by simp [fitAll]) (by simp; omega) (by simp; omega)
      have e3 : encSs acc ++ [.str a] = encSs (acc ++ [a]) := by simp
      rw [e3] at hap
      simp only [encSs_length, List.length_append, List.length_singleton] at hap
      obtain ⟨fr', q1, q2⟩ := lp4_1 O nl nm M hO hM X7 X8 r (i + 1) (acc ++ [a]) g4 (by simp; omega)
      have e1 : lack O (a :: r) = a :: lack O r := by simp only [lack, List.filter_cons, hax]; rfl
      rw [e1]
      simp only [List.append_assoc, List.singleton_append] at q1 q2
      rw [g6] at q1 hk p8 ⊢
      refine ⟨fr', Lp.step ⟨k, fun N hN => ?_⟩ q1, q2⟩
      have hk := hk N hN
      generalize stR (encSs (acc ++ [a])) = H1 at *
      generalize stR (encSs acc) = H0 at *
      simp only [List.length_append, List.length_singleton]
      generalize rowH acc.length = R0 at *
      generalize rowH (acc.length + 1) = R1 at *
      simp -implicitDefEqProofs [b4_1, g1, g2, g3, hw, hk, p2, p3, p4, p5, p6, p7, p8, p9, p10, p12, p13, p11, hap, -appendH]

theorem okF_ap {e1 e2 : Ex} (h1 : okF e1) (h2 : okF e2) (m1 : mxE e1 + 3 ≤ 2 ^ 60) (m2 : mxE e2 + 3 ≤ 2 ^ 60) (v1 : 3 * vE e1 + 9 ≤ 2 ^ 38) (v2 : 3 * vE e2 + 9 ≤ 2 ^ 38) : okF (.mk 5 0 [] 0 [e1, e2] []) :=
  ⟨⟨by simp [lim], by simp [lim], ⟨h1.ok, h2.ok, trivial⟩, trivial⟩, by simp [mxE, mxEs, mxAs]; omega, by simp [vE, vEs, vAs]; omega⟩

theorem okF_tup {e1 e2 : Ex} (h1 : okF e1) (h2 : okF e2) (m1 : mxE e1 + 3 ≤ 2 ^ 60) (m2 : mxE e2 + 3 ≤ 2 ^ 60) (v1 : 3 * vE e1 + 9 ≤ 2 ^ 38) (v2 : 3 * vE e2 + 9 ≤ 2 ^ 38) : okF (.mk 8 0 [] 0 [e1, e2, e1] []) :=
  ⟨⟨by simp [lim], by simp [lim], ⟨h1.ok, h2.ok, h1.ok, trivial⟩, trivial⟩, by simp [mxE, mxEs, mxAs]; omega, by simp [vE, vEs, vAs]; omega⟩

/-- what is parsed, with more room above -/
theorem parse_okH {s : Str} {p : Pg} (h : parse s = .ok p) : ∀ b ∈ p.bs, okF b.b ∧ mxE b.b + 3 ≤ 2 ^ 60 ∧ 3 * vE b.b + 9 ≤ 2 ^ 38 := by
  have hF := parse_okF h
  unfold parse at h
  cases hl : lex s with
  | bad e a => rw [hl] at h; cases h
  | ok l =>
    rw [hl] at h
    simp only at h
    have hlen := tl_lex s hl
    obtain ⟨h1, _⟩ := decls_okV s.length (8 * l.length + 40) (by omega) (l.length + 1) ⟨[], []⟩ ⟨0, l, false, 0⟩ hlen (by simp)
    generalize decls s.length (8 * l.length + 40) (l.length + 1) ⟨[], []⟩ ⟨0, l, false, 0⟩ = R at *
    obtain ⟨out, q⟩ := R
    simp only at h h1
    split at h
    · cases h
    · split at h
      · cases h
      · cases h
        intro b hb
        have hm := (h1 b hb).mx
        have hv := (h1 b hb).v
        exact ⟨hF b hb, by omega, by omega⟩

set_option maxHeartbeats 4000000 in
/-- warplaw14.RefsJoins -/
theorem refsJoins_ans (l m : List UInt8) (nl nm : Bool) : Ans ctx 4 [encR 1 nl (ofBytes l), encR 1 nm (ofBytes m)] (.bool true) := by
  obtain ⟨kw, hkw⟩ := awake_ans
  by_cases hlen : 30 < l.length
  · have h40 : (30 : Int) < (l.length : Int) := by omega
    refine Ans.of (σ' := []) fn4_ (by simp) (by simp) ⟨kw, fun N hN => ?_⟩
    simp -implicitDefEqProofs [i4, c4, h40, hkw N hN]
  by_cases hlem : 30 < m.length
  · have h40 : ¬ (30 : Int) < (l.length : Int) := by omega
    have h41 : (30 : Int) < (m.length : Int) := by omega
    refine Ans.of (σ' := []) fn4_ (by simp) (by simp) ⟨kw, fun N hN => ?_⟩
    simp -implicitDefEqProofs [i4, c4, h40, h41, hkw N hN]
  have h40 : ¬ (30 : Int) < (l.length : Int) := by omega
  have h41 : ¬ (30 : Int) < (m.length : Int) := by omega
  obtain ⟨⟨k1, hk1⟩, n1⟩ := expr19_ans l nl (by omega)
  obtain ⟨S1, e1, v1, s1⟩ := cat [108, 101, 116, 32, 113, 32, 61, 32] (exS 8 l) (by simp only [List.length_cons, List.length_nil]; omega)
  simp only [List.length_cons, List.length_nil] at v1
  obtain ⟨S2, e2, v2, s2⟩ := cat S1 [59] (by simp only [List.length_cons, List.length_nil]; omega)
  have eS : S2 = letQ (exS 8 l) := by rw [e2, e1]; rfl
  obtain ⟨⟨k2, hk2⟩, hok⟩ := parse_ans S2
  obtain ⟨⟨k3, hk3⟩, n3⟩ := expr19_ans m nm (by omega)
  obtain ⟨S3, e3, v3, s3⟩ := cat [108, 101, 116, 32, 113, 32, 61, 32] (exS 8 m) (by simp only [List.length_cons, List.length_nil]; omega)
  simp only [List.length_cons, List.length_nil] at v3
  obtain ⟨S4, e4, v4, s4⟩ := cat S3 [59] (by simp only [List.length_cons, List.length_nil]; omega)
  have eT : S4 = letQ (exS 8 m) := by rw [e4, e3]; rfl
  obtain ⟨⟨k4, hk4⟩, hok4⟩ := parse_ans S4
  generalize exS 8 l = ES at *
  generalize exS 8 m = EM at *
  cases hp : parse S2 with
  | bad e a =>
    rw [hp] at hk2
    have he : e ≠ 0 := parse_pos hp
    have he' : ((e : Int) != 0) = true := by simp; omega
    refine Ans.of (σ' := []) fn4_ (by simp) (by simp) ⟨k1 + k2 + k3 + k4 + kw, fun N hN => ?_⟩
    have hk1 := hk1 N (by omega)
    have hk2 := hk2 N (by omega)
    have hk3 := hk3 N (by omega)
    have hk4 := hk4 N (by omega)
    have hkw := hkw N (by omega)
    cases hq : parse S4 with
    | bad x y =>
      rw [hq] at hk4
      simp only [encPd] at hk2 hk4
      simp -implicitDefEqProofs [i4, c4, h40, h41, hk1, s1, s2, hk2, hk3, s3, s4, hk4, he', hkw, -strOp, -bne_iff_ne]
    | ok w =>
      rw [hq] at hk4
      simp only [encPd] at hk2 hk4
      simp -implicitDefEqProofs [i4, c4, h40, h41, hk1, s1, s2, hk2, hk3, s3, s4, hk4, he', hkw, -strOp, -bne_iff_ne]
  | ok p =>
    rw [hp] at hk2
    have hb : ∃ b bs, p.bs = b :: bs := by
      rw [eS] at hp
      exact parse_let hp
    obtain ⟨b, bs, hbs⟩ := hb
    obtain ⟨hF, hm, hv⟩ := parse_okH hp b (by rw [hbs]; simp)
    have hbl : (p.bs.length : Nat) ≤ lim := (hok p hp).bs
    obtain ⟨bs', ba, e⟩ := b
    simp only at hF hm hv
    cases hq : parse S4 with
    | bad e a =>
      rw [hq] at hk4
      have he : e ≠ 0 := parse_pos hq
      have he' : ((e : Int) != 0) = true := by simp; omega
      refine Ans.of (σ' := []) fn4_ (by simp) (by simp) ⟨k1 + k2 + k3 + k4 + kw, fun N hN => ?_⟩
      have hk1 := hk1 N (by omega)
      have hk2 := hk2 N (by omega)
      have hk3 := hk3 N (by omega)
      have hk4 := hk4 N (by omega)
      have hkw := hkw N (by omega)
      simp only [encPd] at hk2 hk4
      simp -implicitDefEqProofs [i4, c4, h40, h41, hk1, s1, s2, hk2, hk3, s3, s4, hk4, he', hkw, -strOp, -bne_iff_ne]
    | ok w =>
      rw [hq] at hk4
      have hc : ∃ b bs, w.bs = b :: bs := by
        rw [eT] at hq
        exact parse_let hq
      obtain ⟨c, cs, hcs⟩ := hc
      obtain ⟨hG, gm, gv⟩ := parse_okH hq c (by rw [hcs]; simp)
      have hcl : (w.bs.length : Nat) ≤ lim := (hok4 w hq).bs
      obtain ⟨cs', ca, g⟩ := c
      simp only at hG gm gv
      obtain ⟨k5, hk5⟩ := free_ans e hF
      obtain ⟨k6, hk6⟩ := free_ans g hG
      obtain ⟨k7, hk7⟩ := free_ans _ (okF_ap hF hG hm gm hv gv)
      obtain ⟨k8, hk8⟩ := free_ans _ (okF_tup hF hG hm gm hv gv)
      rw [free_ap] at hk7
      rw [free_tup] at hk8
      have hal := frE_len e [] []
      have hbl2 := frE_len g [] []
      simp only [List.length_nil] at hal hbl2
      generalize frE [] [] e = O at *
      generalize frE [] [] g = Q at *
      have hwl := lack_len_le O Q
      obtain ⟨fr', q1, q2, q3, q4, q5, q6, q7⟩ := lp4_1 O true true (encSs Q) (by omega) (by simp; omega) (encE e) (encE g) Q 0 O (Tail.all _) (by simp)
      obtain ⟨k9, hk9⟩ := q1.den
      unfold Hi at q3
      have hWl : (O ++ lack O Q).length ≤ 2 ^ 39 := by rw [List.length_append]; omega
      obtain ⟨k10, hk10⟩ := texts_row (O ++ lack O Q) true (O ++ lack O Q) (by unfold big; omega)
      have hss : sameSs (O ++ lack O Q) (O ++ lack O Q) = true := by rw [sameSs_iff]; simp
      rw [hss] at hk10
      generalize O ++ lack O Q = W at *
      have hap := app_row ⟨.str, 1, 16, .str [], [.str]⟩ rfl [] (encSs O) (fit_Ss O) (by simp; omega) (by simp; omega)
      rw [List.nil_append] at hap
      simp only [encSs_length, List.length_nil] at hap
      have er0 : rowH 0 = .hs 0 0 0 0 1 := rfl
      have es0 : stR [] = [.arr false 1 []] := rfl
      rw [er0, es0] at hap
      refine Ans.of (σ' := stR (encSs W)) fn4_ (by simp) (by simp) ⟨k1 + k2 + k3 + k4 + k5 + k6 + k7 + k8 + k9 + k10 + kw, fun N hN => ?_⟩
      have hk1 := hk1 N (by omega)
      have hk2 := hk2 N (by omega)
      have hk3 := hk3 N (by omega)
      have hk4 := hk4 N (by omega)
      have hk5 := hk5 N (by omega)
      have hk6 := hk6 N (by omega)
      have hk7 := hk7 N (by omega)
      have hk8 := hk8 N (by omega)
      have hk9 := hk9 N (by omega)
      have hk10 := hk10 N (by omega)
      have hkw := hkw N (by omega)
      rw [encE_mk 5] at hk7
      rw [encE_mk 8] at hk8
      simp only [encEs_cons, encEs_nil, encAs_nil, encR_tnil, encR_cons, Int.cast_ofNat_Int] at hk7 hk8
      simp only [encPd, hbs, hcs, encBs_cons, encR_cons] at hk2 hk4
      have hidx1 : idxN 0 (bs.length + 1) = some 0 := by unfold idxN; rw [if_pos (by omega)]; rfl
      have hidx2 : idxN 0 (cs.length + 1) = some 0 := by unfold idxN; rw [if_pos (by omega)]; rfl
      obtain ⟨ek, ea, es, en, eks, eas⟩ := e
      obtain ⟨gk, ga, gs, gn, gks, gas⟩ := g
      simp only [encB, cellsE] at hk2 hk4
      simp only [encE_mk ek, encE_mk gk] at hk5 hk6 hk7 hk8 hk9 q5 q6
      generalize stR (encSs W) = H1 at *
      generalize stR (encSs O) = H0 at *
      generalize rowH W.length = R1 at *
      generalize rowH O.length = R0 at *
      simp -implicitDefEqProofs [i4, c4, d4_0, h40, h41, hk1, s1, s2, hk2, hk3, s3, s4, hk4, hk5, hk6, hk7, hk8, hk9, q2, q3, q4, q5, q6, q7, hk10, hkw, hidx1, hidx2, hap, elems_Ss, -strOp, -appendH, -elemsM]
end Go.Am.Try
