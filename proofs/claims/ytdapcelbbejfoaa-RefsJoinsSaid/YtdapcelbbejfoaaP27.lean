/- Layer 14: a name that is bound around all is not free (RefsBound). -/
import Derived.Test.YtdapcelbbejfoaaP24
import Derived.Test.YtdapcelbbejfoaaP26
set_option linter.unusedVariables false
set_option maxRecDepth 100000
set_option linter.unusedSimpArgs false
namespace Go.Am.Try
open Go Go.Am.Ps

/-! ### plain -/

/-- all but a name -/
def but (x : Str) (l : List Str) : List Str := l.filter fun y => !(y == x)

theorem mem_but {x y : Str} {l : List Str} (h : y ≠ x) : y ∈ but x l ↔ y ∈ l := by
  unfold but
  rw [List.mem_filter]
  simp [h]

theorem but_snoc (x y : Str) (l : List Str) : but x (l ++ [y]) = if y = x then but x l else but x l ++ [y] := by
  unfold but
  rw [List.filter_append]
  split
  · rename_i h; simp [h]
  · rename_i h; simp [h]

theorem addF_but {x : Str} {pre B B' O : List Str} (hp : ∀ y ∈ pre, y = x) (hB : ∀ y, y ∈ B' ↔ y ∈ B ∨ y = x) (k : Nat) (s : Str) : addF k s B' (pre ++ but x O) = pre ++ but x (addF k s B O) := by
  unfold addF
  by_cases hs : s = x
  · subst hs
    rw [if_neg (fun h => h.2.1 ((hB s).2 (.inr rfl)))]
    split
    · rw [but_snoc, if_pos rfl]
    · rfl
  · have h1 : s ∈ B' ↔ s ∈ B := by rw [hB]; simp [hs]
    have h2 : s ∈ pre ++ but x O ↔ s ∈ O := by
      rw [List.mem_append, mem_but hs]
      exact ⟨fun h => h.elim (fun h => absurd (hp s h) hs) id, .inr⟩
    have e : (k = 1 ∧ s ∉ B' ∧ s ∉ pre ++ but x O) ↔ (k = 1 ∧ s ∉ B ∧ s ∉ O) := by rw [h1, h2]
    by_cases hc : k = 1 ∧ s ∉ B ∧ s ∉ O
    · rw [if_pos hc, if_pos (e.2 hc), but_snoc, if_neg hs, List.append_assoc]
    · rw [if_neg hc, if_neg (fun h => hc (e.1 h))]

mutual
theorem frE_but {x : Str} {pre : List Str} (hp : ∀ y ∈ pre, y = x) : ∀ (e : Ex) (B B' O : List Str), (∀ y, y ∈ B' ↔ y ∈ B ∨ y = x) → frE B' (pre ++ but x O) e = pre ++ but x (frE B O e)
  | .mk k a s n ks as, B, B', O, hB => by
    simp only [frE]
    rw [addF_but hp hB, frK_but hp k s ks 0 B B' _ hB, frA_but hp as B B' _ hB]
theorem frK_but {x : Str} {pre : List Str} (hp : ∀ y ∈ pre, y = x) (k : Nat) (s : Str) : ∀ (l : List Ex) (i : Nat) (B B' O : List Str), (∀ y, y ∈ B' ↔ y ∈ B ∨ y = x) → frK k s i B' (pre ++ but x O) l = pre ++ but x (frK k s i B O l)
  | [], i, B, B', O, hB => by simp [frK]
  | e :: l, i, B, B', O, hB => by
    simp only [frK]
    have hB2 : ∀ y, y ∈ s :: B' ↔ y ∈ s :: B ∨ y = x := fun y => by simp [hB, or_assoc]
    cases bindK k i with
    | true =>
      simp only [cond]
      rw [frE_but hp e (s :: B) (s :: B') O hB2, frK_but hp k s l (i + 1) B B' _ hB]
    | false =>
      simp only [cond]
      rw [frE_but hp e B B' O hB, frK_but hp k s l (i + 1) B B' _ hB]
theorem frA_but {x : Str} {pre : List Str} (hp : ∀ y ∈ pre, y = x) : ∀ (l : List Al) (B B' O : List Str), (∀ y, y ∈ B' ↔ y ∈ B ∨ y = x) → frA B' (pre ++ but x O) l = pre ++ but x (frA B O l)
  | [], B, B', O, hB => by simp [frA]
  | .mk _ _ ns b :: l, B, B', O, hB => by
    simp only [frA]
    rw [frE_but hp b (ns ++ B) (ns ++ B') O (fun y => by simp [hB, or_assoc]), frA_but hp l B B' _ hB]
end

theorem free_lam (x : Str) (e : Ex) : frE [] [] (.mk 6 0 x 0 [e] []) = but x (frE [] [] e) := by
  have h := frE_but (x := x) (pre := []) (by simp) e [] [x] [] (fun y => by simp)
  have e1 : addF 6 x [] [] = [] := by unfold addF; rw [if_neg (by simp)]
  simp only [frE, e1, frK, frA]
  have e2 : bindK 6 0 = true := rfl
  rw [e2]
  exact h

theorem free_let (x : Str) (e : Ex) : frE [] [] (.mk 7 0 x 0 [.mk 1 0 x 0 [] [], e] []) = x :: but x (frE [] [] e) := by
  have h := frE_but (x := x) (pre := [x]) (by simp) e [] [x] [] (fun y => by simp)
  have e1 : addF 7 x [] [] = [] := by unfold addF; rw [if_neg (by simp)]
  have e3 : addF 1 x [] [] = [x] := by unfold addF; rw [if_pos ⟨rfl, by simp, by simp⟩]; rfl
  simp only [frE, e1, frK, frA, e3]
  have e2 : bindK 7 0 = false := rfl
  have e4 : bindK 7 (0 + 1) = true := rfl
  rw [e2, e4]
  exact h

theorem but_len_le (x : Str) (l : List Str) : (but x l).length ≤ l.length := List.length_filter_le _ _

theorem but_eq {x : Str} {l : List Str} (h : x ∉ l) : but x l = l := by
  unfold but
  rw [List.filter_eq_self]
  intro a ha
  have : a ≠ x := fun e => h (e ▸ ha)
  simp [this]

/-! ### of the machine -/

theorem texts_at (l : List Str) (nl : Bool) (w : List Str) (hl : l.length < big) : AnsH ctx 21 [encR 1 nl (encSs l), rowV 0 w.length 1] (stH 1 (encSs w)) (.bool (sameSs l w)) (stH 1 (encSs w)) := by
  cases w with
  | nil => exact (texts_ans l [] nl true hl).at _
  | cons a w =>
    have ht : (encSs (a :: w)).take (w.length + 1) = encSs (a :: w) := List.take_of_length_le (by simp)
    have hx : (stH 1 (encSs (a :: w)))[0]? = some (.arr false 1 (encSs (a :: w))) := rfl
    have h1 := snapA_hs (n := 199) (v := w.length + 1) (m := w.length + 1) hx (by simp) (Nat.le_refl _) (by rw [ht]; simp)
    rw [ht] at h1
    have hsn : snapL (stH 1 (encSs (a :: w))) [encR 1 nl (encSs l), .hs 0 (w.length + 1) 0 (w.length + 1) 1] = some ([encR 1 nl (encSs l), .sl 1 (encSs (a :: w))], [0]) := by
      simp only [snapL, mapO2, h1, snapA_noRef (a := encR 1 nl (encSs l)) (by simp), List.append_nil, List.nil_append]
    have hp := texts_ans l (a :: w) nl false hl
    rw [encR_false] at hp
    exact AnsH.lay (ns := [0]) fn21_ (by simp [rowV, AV.noRefs, AV.noRef]) hsn (by simp [AV.noRefs, AV.noRef]) hp

/-- the loop of RefsBound -/
theorem lp3_0 (x : Str) (L : List AV) (nl : Bool) (hL : L.length ≤ 2 ^ 39) (X9 X10 : AV) : ∀ (r : List Str) (i : Nat) (acc : List Str) (w : Bool), Tail L i (encSs r) → acc.length ≤ i →
    ∃ fr', Lp ctx [70] [] [7, 8, 9, 10, 11, 12, 13] b3_0 ⟨[(7, .v (.str x)), (8, .v (encR 1 nl L)), (9, .v X9), (10, .v X10), (11, .v (rowV 0 acc.length 1)), (12, .v (.bool w)), (13, .v (.int .i64 i))], false⟩ (stH 1 (encSs acc)) (.ex 0) fr' (stH 1 (encSs (acc ++ but x r))) ∧ fr'.lk = false ∧ Hi 71 fr' ∧
      getS fr'.sl 4 = .u ∧ getS fr'.sl 7 = .v (.str x) ∧ getS fr'.sl 8 = .v (encR 1 nl L) ∧ getS fr'.sl 9 = .v X9 ∧ getS fr'.sl 10 = .v X10 ∧ getS fr'.sl 11 = .v (rowV 0 (acc ++ but x r).length 1) ∧ getS fr'.sl 12 = .v (.bool (w || r.any (fun y => y == x)))
  | [], i, acc, w, h, ha => by
    have h' := h.nil
    refine ⟨?_, ?_, ?_⟩
    rotate_left
    · have e : but x [] = [] := rfl
      rw [e, List.append_nil]
      refine Lp.exit ⟨0, fun N _ => ?_⟩ (by simp)
      simp -implicitDefEqProofs [b3_0, h']
      rfl
    · exact ⟨by simp, hi_of (by simp), by simp, by simp, by simp, by simp, by simp, by simp [but], by simp⟩
  | a :: r, i, acc, w, h, ha => by
    have hlen := h.len
    simp only [encSs_cons] at h
    obtain ⟨g1, g2, g3, g4, g5⟩ := h.cons
    simp at hlen
    have hw := wrap_succ (n := i) (by unfold big; omega)
    have g6 := g5 1 nl
    cases hax : a == x with
    | true =>
      obtain ⟨fr', q1, q2⟩ := lp3_0 x L nl hL X9 X10 r (i + 1) acc true g4 (by omega)
      have e1 : but x (a :: r) = but x r := by simp [but, hax, -beq_iff_eq]
      have e2 : (w || (a :: r).any (fun y => y == x)) = (true || r.any (fun y => y == x)) := by simp [hax, -beq_iff_eq]
      rw [e1, e2]
      rw [g6] at q1 q2 ⊢
      refine ⟨fr', Lp.step ⟨0, fun N hN => ?_⟩ q1, q2⟩
      simp -implicitDefEqProofs [b3_0, g1, g2, g3, hw, hax, -beq_iff_eq]
    | false =>
      have hap := app_own ⟨.str, 1, 16, .str [], [.str]⟩ (encSs acc) (.str a) (by simp) (by simp; omega) (by simp; omega)
      have e3 : encSs acc ++ [.str a] = encSs (acc ++ [a]) := by simp
      rw [e3] at hap
      simp only [encSs_length, List.length_append, List.length_singleton] at hap
      obtain ⟨fr', q1, q2⟩ := lp3_0 x L nl hL X9 X10 r (i + 1) (acc ++ [a]) w g4 (by simp; omega)
      have e1 : but x (a :: r) = a :: but x r := by simp [but, hax, -beq_eq_false_iff_ne]
      have e2 : (w || (a :: r).any (fun y => y == x)) = (w || r.any (fun y => y == x)) := by simp [hax, -beq_eq_false_iff_ne]
      rw [e1, e2]
      simp only [List.append_assoc, List.singleton_append] at q1 q2
      rw [g6] at q1 q2 ⊢
      refine ⟨fr', Lp.step ⟨0, fun N hN => ?_⟩ q1, q2⟩
      generalize stH 1 (encSs (acc ++ [a])) = H1 at *
      generalize stH 1 (encSs acc) = H0 at *
      simp -implicitDefEqProofs [b3_0, g1, g2, g3, hw, hax, hap, -appendH, -beq_eq_false_iff_ne]

def six : List Str := [[120], [121], [102], [103], [105, 100], [122]]
def letQ (s : Str) : Str := [108, 101, 116, 32, 113, 32, 61, 32] ++ s ++ [59]

theorem okF_lam (x : Str) {e : Ex} (h : okF e) (hm : mxE e + 3 ≤ 2 ^ 60) (hv : vE e + 3 ≤ 2 ^ 38) : okF (.mk 6 0 x 0 [e] []) :=
  ⟨⟨by simp [lim], by simp [lim], ⟨h.ok, trivial⟩, trivial⟩, by simp [mxE, mxEs, mxAs]; omega, by simp [vE, vEs, vAs]; omega⟩

theorem okF_let (x : Str) {e : Ex} (h : okF e) (hm : mxE e + 3 ≤ 2 ^ 60) (hv : vE e + 3 ≤ 2 ^ 38) : okF (.mk 7 0 x 0 [.mk 1 0 x 0 [] [], e] []) :=
  ⟨⟨by simp [lim], by simp [lim], ⟨by simp [okE, okEs, okAs, lim], h.ok, trivial⟩, trivial⟩, by simp [mxE, mxEs, mxAs]; omega, by simp [vE, vEs, vAs]; omega⟩

/-- what is parsed, with room above -/
theorem parse_okG {s : Str} {p : Pg} (h : parse s = .ok p) : ∀ b ∈ p.bs, okF b.b ∧ mxE b.b + 3 ≤ 2 ^ 60 ∧ vE b.b + 3 ≤ 2 ^ 38 := by
  have hF := parse_okF h
  unfold parse at h
  cases hl : lex s with
  | bad e a => rw [hl] at h; cases h
  | ok l =>
    rw [hl] at h
    simp only at h
    have hlen := tl_lex s hl
    obtain ⟨h1, _⟩ := decls_okV s.length (8 * l.length + 40) (by omega) (l.length + 1) ⟨[], []⟩ ⟨0, l, false, 0⟩ hlen (by simp)
    generalize decls s.length (8 * l.length + 40) (l.length + 1) ⟨[], []⟩ ⟨0, l, false, 0⟩ = R at *
    obtain ⟨out, q⟩ := R
    simp only at h h1
    split at h
    · cases h
    · split at h
      · cases h
      · cases h
        intro b hb
        have hm := (h1 b hb).mx
        have hv := (h1 b hb).v
        exact ⟨hF b hb, by omega, by omega⟩

theorem parse_pos {s : Str} {e a : Nat} (h : parse s = .bad e a) : e ≠ 0 := by
  unfold parse at h
  cases hl : lex s with
  | bad x y =>
    rw [hl] at h
    have := lex_pos s hl
    simp only [Parsed.bad.injEq] at h
    rw [← h.1]; exact this
  | ok l =>
    rw [hl] at h
    simp only at h
    split at h
    · simp only [Parsed.bad.injEq] at h; omega
    · split at h
      · simp only [Parsed.bad.injEq] at h; omega
      · cases h

set_option maxHeartbeats 4000000 in
/-- warplaw14.RefsBound -/
theorem refsBound_ans (l : List UInt8) (which : UInt8) (nl : Bool) : Ans ctx 3 [encR 1 nl (ofBytes l), .int .u8 which.toNat] (.bool true) := by
  obtain ⟨kw, hkw⟩ := awake_ans
  by_cases hlen : 40 < l.length
  · have h40 : (40 : Int) < (l.length : Int) := by omega
    refine Ans.of (σ' := []) fn3_ (by simp) (by simp) ⟨kw, fun N hN => ?_⟩
    simp -implicitDefEqProofs [i3, c3, h40, hkw N hN]
  · have h40 : ¬ (40 : Int) < (l.length : Int) := by omega
    obtain ⟨⟨k1, hk1⟩, n1⟩ := expr19_ans l nl (by omega)
    obtain ⟨S1, e1, v1, s1⟩ := cat [108, 101, 116, 32, 113, 32, 61, 32] (exS 8 l) (by simp only [List.length_cons, List.length_nil]; omega)
    simp only [List.length_cons, List.length_nil] at v1
    obtain ⟨S2, e2, v2, s2⟩ := cat S1 [59] (by simp only [List.length_cons, List.length_nil]; omega)
    have eS : S2 = letQ (exS 8 l) := by rw [e2, e1]; rfl
    obtain ⟨⟨k2, hk2⟩, hok⟩ := parse_ans S2
    generalize exS 8 l = ES at *
    cases hp : parse S2 with
    | bad e a =>
      rw [hp] at hk2
      have he : e ≠ 0 := parse_pos hp
      have he' : ((e : Int) != 0) = true := by simp; omega
      refine Ans.of (σ' := []) fn3_ (by simp) (by simp) ⟨k1 + k2 + kw, fun N hN => ?_⟩
      have hk1 := hk1 N (by omega)
      have hk2 := hk2 N (by omega)
      have hkw := hkw N (by omega)
      simp only [encPd] at hk2
      simp -implicitDefEqProofs [i3, c3, h40, hk1, s1, s2, hk2, he', hkw, -strOp, -bne_iff_ne]
    | ok p =>
      rw [hp] at hk2
      have hb : ∃ b bs, p.bs = b :: bs := by
        rw [eS] at hp
        exact parse_let hp
      obtain ⟨b, bs, hbs⟩ := hb
      obtain ⟨hF, hm, hv⟩ := parse_okG hp b (by rw [hbs]; simp)
      have hbl : (p.bs.length : Nat) ≤ lim := (hok p hp).bs
      obtain ⟨bs', ba, e⟩ := b
      simp only at hF hm hv
      have hr : which.toNat % 6 < 6 := Nat.mod_lt _ (by omega)
      have hx := pk_get six (which.toNat % 6) hr
      have hxi := idx_lt hr
      have hrem : ((which.toNat : Int)).tmod 6 = ((which.toNat % 6 : Nat) : Int) := rfl
      simp only [six, encSs, List.map_cons, List.map_nil] at hx
      generalize pk [[120], [121], [102], [103], [105, 100], [122]] (which.toNat % 6) = x at *
      generalize which.toNat % 6 = r6 at *
      obtain ⟨k3, hk3⟩ := free_ans e hF
      obtain ⟨k4, hk4⟩ := free_ans _ (okF_lam x hF hm hv)
      obtain ⟨k5, hk5⟩ := free_ans _ (okF_let x hF hm hv)
      rw [free_lam] at hk4
      rw [free_let] at hk5
      have hal := frE_len e [] []
      simp only [List.length_nil] at hal
      generalize frE [] [] e = a at *
      have hwl := but_len_le x a
      obtain ⟨fr', q1, q2, q3, q4, q5, q6, q7, q8, q9, q10⟩ := lp3_0 x (encSs a) true (by simp; omega) (encR 1 true (encSs (but x a))) (.sl 1 (.str x :: encSs (but x a))) a 0 [] false (Tail.all _) (by simp)
      simp only [List.nil_append] at q1 q9
      obtain ⟨k6, hk6⟩ := q1.den
      unfold Hi at q3
      obtain ⟨k7, hk7⟩ := texts_at (but x a) true (but x a) (by unfold big; omega)
      obtain ⟨k8, hk8⟩ := texts_at (but x a) false (but x a) (by unfold big; omega)
      have hss : sameSs (but x a) (but x a) = true := by rw [sameSs_iff]; simp
      rw [hss] at hk7 hk8
      rw [encR_false] at hk8
      refine Ans.of (σ' := stH 1 (encSs (but x a))) fn3_ (by simp) (by simp) ⟨k1 + k2 + k3 + k4 + k5 + k6 + k7 + k8 + kw, fun N hN => ?_⟩
      have hk1 := hk1 N (by omega)
      have hk2 := hk2 N (by omega)
      have hk3 := hk3 N (by omega)
      have hk4 := hk4 N (by omega)
      have hk5 := hk5 N (by omega)
      have hk6 := hk6 N (by omega)
      have hk7 := hk7 N (by omega)
      have hk8 := hk8 N (by omega)
      have hkw := hkw N (by omega)
      rw [encE_mk 6] at hk4
      rw [encE_mk 7] at hk5
      simp only [encEs_cons, encEs_nil, encAs_nil, encR_tnil, encR_cons, encE_mk 1, encSs_cons, Int.cast_ofNat_Int] at hk4 hk5
      simp only [encPd, hbs, encBs_cons, encR_cons] at hk2
      have e0 : rowV 0 ([] : List Str).length 1 = .nil := rfl
      have e0' : stH 1 (encSs []) = [] := rfl
      rw [e0, e0'] at hk6
      have hw1 : IntKind.i64.wrap (((but x a).length : Int) + 1) = ((but x a).length : Int) + 1 := wrap_i64 (by omega)
      have hbd : bounds (some 1) none ((but x a).length + 1) = some (1, (but x a).length + 1) := bounds_from (k := 1) (by omega)
      have htk : (encSs (but x a)).take (but x a).length = encSs (but x a) := List.take_of_length_le (by simp)
      have hidx : idxN 0 ((but x a).length + 1) = some 0 := by unfold idxN; rw [if_pos (by omega)]; rfl
      have hidx2 : idxN 0 (bs.length + 1) = some 0 := by unfold idxN; rw [if_pos (by omega)]; rfl
      have hfin : ((false || a.any (fun y => y == x)) = true) ∨ ((false || a.any (fun y => y == x)) = false ∧ ((a.length : Int) == ((but x a).length : Int)) = true) := by
        cases ha : a.any (fun y => y == x) with
        | true => exact .inl rfl
        | false =>
          refine .inr ⟨rfl, ?_⟩
          have : x ∉ a := fun hm => by
            have : a.any (fun y => y == x) = true := List.any_eq_true.2 ⟨x, hm, by simp⟩
            rw [ha] at this; cases this
          rw [but_eq this]; simp
      have hne : strOp .neq x x = some (.bool false) := by simp [strOp]
      have heq : strOp .eql x x = some (.bool true) := by simp [strOp]
      obtain ⟨ek, ea, es, en, eks, eas⟩ := e
      simp only [encB, cellsE] at hk2
      simp only [encE_mk ek] at hk3 hk4 hk5
      rcases hfin with hfin | ⟨hfin, hfl⟩
      · rw [hfin] at q10
        generalize stH 1 (encSs (but x a)) = H1 at *
        simp -implicitDefEqProofs [i3, c3, h40, hk1, s1, s2, hk2, hrem, hx, hxi, hk3, hk4, hk5, hk6, q2, q3, q4, q5, q6, q7, q8, q9, q10, hk7, hk8, hkw, hw1, hbd, htk, hidx, hidx2, hne, heq, -strOp]
      · rw [hfin] at q10
        generalize stH 1 (encSs (but x a)) = H1 at *
        simp -implicitDefEqProofs [i3, c3, h40, hk1, s1, s2, hk2, hrem, hx, hxi, hk3, hk4, hk5, hk6, q2, q3, q4, q5, q6, q7, q8, q9, q10, hk7, hk8, hkw, hw1, hbd, htk, hidx, hidx2, hfl, hne, heq, -strOp, -beq_iff_eq]
end Go.Am.Try
