/- R0, R1, R2, R3, as one -/
import Derived.Test.YtdapcelbbejfoaaP21
import Derived.Test.YtdapcelbbejfoaaD9
import Derived.Test.YtdapcelbbejfoaaQA
set_option linter.unusedVariables false
set_option linter.unusedSimpArgs false
namespace Go.Am.Try
open Go Go.Am.Ps
def few (k n : Nat) (out : Pg) : Prop := out.ds.length ≤ k ∧ ∀ d ∈ out.ds, d.cs.length ≤ n + 1
theorem few_decl (E : Nat) {n k : Nat} (hn : n < lim) {out : Pg} (h : few k n out) (p : PS) : few (k + 1) n (decl E n out p).1 := by
  obtain ⟨h1, h3⟩ := h
  unfold decl
  split
  · refine ⟨by simp; omega, fun d hd => ?_⟩
    simp only [List.mem_append, List.mem_singleton] at hd
    rcases hd with hd | rfl
    · exact h3 d hd
    · obtain ⟨o1, o2⟩ := okC_cons E ((p.next.eat E 2 []).2.names.1.map (·.s)) hn n (con E ((p.next.eat E 2 []).2.names.1.map (·.s)) n ((p.next.eat E 2 []).2.names.2.sign E sEq)).2
      simp only [List.length_cons]; omega
  · exact ⟨by simp only; omega, h3⟩
theorem few_decls (E : Nat) {n : Nat} (hn : n < lim) : ∀ (m k : Nat) (out : Pg) (p : PS), few k n out → few (k + m) n (decls E n m out p).1
  | 0, k, out, p, h => h
  | m + 1, k, out, p, h => by
    simp only [decls]
    split
    · have := few_decls E hn m (k + 1) _ (decl E n out p).2 (few_decl E hn h p)
      rw [show k + (m + 1) = k + 1 + m by omega]
      exact this
    · exact ⟨by have := h.1; simp only; omega, h.2⟩
theorem parse_few {s : Str} {p : Pg} (h : parse s = .ok p) : p.ds.length ≤ 2 ^ 30 ∧ ∀ d ∈ p.ds, d.cs.length ≤ 2 ^ 30 := by
  unfold parse at h
  cases hl : lex s with
  | bad e a => rw [hl] at h; cases h
  | ok l =>
    rw [hl] at h
    simp only at h
    have hlen := tl_lex s hl
    have h1 := few_decls s.length (n := 8 * l.length + 40) (by unfold lim; omega) (l.length + 1) 0 ⟨[], []⟩ ⟨0, l, false, 0⟩ ⟨by simp, by simp⟩
    generalize decls s.length (8 * l.length + 40) (l.length + 1) ⟨[], []⟩ ⟨0, l, false, 0⟩ = R at *
    obtain ⟨out, q⟩ := R
    simp only at h h1
    split at h
    · cases h
    · split at h
      · cases h
      · cases h
        refine ⟨by have := h1.1; omega, fun d hd => ?_⟩
        have := h1.2 d hd
        omega
end Go.Am.Try
set_option maxRecDepth 100000
namespace Go.Am.Try
open Go Go.Am.Ps
theorem nr_bytes : ∀ l : List UInt8, AV.noRefs (ofBytes l) = true
  | [] => rfl
  | b :: l => by
    have := nr_bytes l
    simp only [ofBytes, List.map_cons, AV.noRefs, AV.noRef, Bool.true_and]
    exact this
theorem s_cat (x y : List UInt8) (h : x.length + y.length < 4611686018427387904) : ∃ S, S = x ++ y ∧ S.length = x.length + y.length ∧ strOp .add x y = some (.str S) :=
  ⟨x ++ y, rfl, by simp, by simp [strOp, h]⟩
theorem s_at {l : List Str} {k : Nat} (h : k < l.length) : (encSs l)[k]? = some (.str (l.getD k [])) := by
  unfold encSs
  rw [List.getElem?_map, List.getD_eq_getElem?_getD, List.getElem?_eq_getElem h]; rfl
def vS : List Str := [[], [32, 97], [32, 97, 32, 98], [32, 97, 32, 97]]
def a1S : List Str := [[], [32, 97], [32, 73, 110, 116], [32, 40, 76, 105, 115, 116, 32, 97, 41], [32, 40, 97, 32, 45, 62, 32, 98, 41], [32, 40, 97, 44, 32, 66, 111, 111, 108, 41], [32, 40, 79, 112, 116, 32, 73, 110, 116, 41], [32, 84, 114, 101, 101]]
def a2S : List Str := [[], [32, 98], [32, 97, 32, 40, 76, 105, 115, 116, 32, 97, 41], [32, 40, 80, 97, 105, 114, 32, 97, 32, 73, 110, 116, 41], [32, 40, 84, 32, 45, 62, 32, 84, 41], [32, 40, 73, 110, 116, 32, 73, 110, 116, 41]]
theorem textP_y (P : List Pc) (y : Str) : textP P y = textP P [] ++ y := by
  induction P with
  | nil => rfl
  | cons a l ih => simp only [textP]; rw [ih]; simp
theorem tab_text {T : List (List Pc)} {l : List Str} (h : T.map (fun P => textP P []) = l) (k : Nat) (y : Str) : textP (T.getD k []) y = l.getD k [] ++ y := by
  rw [textP_y, ← h]
  congr 1
  rw [List.getD_eq_getElem?_getD, List.getD_eq_getElem?_getD, List.getElem?_map]
  cases T[k]? <;> rfl
theorem vS_text : vT.map (fun P => textP P []) = vS := by decide
theorem a1S_text : A1.map (fun P => textP P []) = a1S := by decide
theorem a2S_text : A2.map (fun P => textP P []) = a2S := by decide
def decS (a b c d : Nat) : Str :=
  [100, 97, 116, 97, 32] ++ (nmT.getD (a % 6) [] ++ (vS.getD (a / 6 % 4) [] ++ ([32, 61, 32] ++ (k1T.getD (b % 4) [] ++ (a1S.getD (b / 4 % 8) [] ++ ((match Nat.blt 0 (c % 3) with | true => [32, 124, 32] ++ (k2T.getD (c / 3 % 5) [] ++ a2S.getD (d % 6) []) | false => []) ++ [59, 10]))))))
theorem dec_text (a b c d : Nat) (y : Str) : textP (dec4 a b c d) y = decS a b c d ++ y := by
  unfold dec4 declP decS moreP
  simp only [textP_app]
  rw [tab_text vS_text, tab_text a1S_text]
  cases Nat.blt 0 (c % 3) with
  | true =>
    simp only [textP_app, tab_text a2S_text]
    simp [textP, Pc.str, sData]
  | false => simp [textP, Pc.str, sData]
theorem srcP_nil (k : Nat) (l : List UInt8) (h : l.length < 4) : srcP k l = [] := by
  cases k with
  | zero => cases l <;> rfl
  | succ k =>
    match l with
    | [] => rfl
    | [_] => rfl
    | [_, _] => rfl
    | [_, _, _] => rfl
    | _ :: _ :: _ :: _ :: _ => simp at h; omega
theorem idx_to {i n : Nat} {z : Int} (hz : z = (i : Int)) (h : i < n) : idxN z n = some i := by subst hz; unfold idxN; rw [if_pos (by omega)]; simp
theorem tab6 (x : UInt8) : ∃ j1 j2 : Nat, j1 = x.toNat % 6 ∧ j1 < 6 ∧ j2 = x.toNat / 6 % 4 ∧ j2 < 4 ∧ IntKind.i64.wrap (x.toNat : Int) = (x.toNat : Int) ∧ ((x.toNat : Int)).tmod 6 = (j1 : Int) ∧ IntKind.i64.wrap ((x.toNat : Int) / 6) = (x.toNat : Int) / 6 ∧ ((x.toNat : Int) / 6).tmod 4 = (j2 : Int) := by
  have := x.toNat_lt
  exact ⟨_, _, rfl, Nat.mod_lt _ (by omega), rfl, Nat.mod_lt _ (by omega), wrap_i64 (by omega), rfl, wrap_i64 (by omega), rfl⟩
theorem tab4 (x : UInt8) : ∃ j1 j2 : Nat, j1 = x.toNat % 4 ∧ j1 < 4 ∧ j2 = x.toNat / 4 % 8 ∧ j2 < 8 ∧ IntKind.i64.wrap (x.toNat : Int) = (x.toNat : Int) ∧ ((x.toNat : Int)).tmod 4 = (j1 : Int) ∧ IntKind.i64.wrap ((x.toNat : Int) / 4) = (x.toNat : Int) / 4 ∧ ((x.toNat : Int) / 4).tmod 8 = (j2 : Int) := by
  have := x.toNat_lt
  exact ⟨_, _, rfl, Nat.mod_lt _ (by omega), rfl, Nat.mod_lt _ (by omega), wrap_i64 (by omega), rfl, wrap_i64 (by omega), rfl⟩
theorem tab3 (x : UInt8) : ∃ j1 j2 : Nat, j1 = x.toNat % 3 ∧ j2 = x.toNat / 3 % 5 ∧ j2 < 5 ∧ IntKind.i64.wrap (x.toNat : Int) = (x.toNat : Int) ∧ ((x.toNat : Int)).tmod 3 = (j1 : Int) ∧ IntKind.i64.wrap ((x.toNat : Int) / 3) = (x.toNat : Int) / 3 ∧ ((x.toNat : Int) / 3).tmod 5 = (j2 : Int) := by
  have := x.toNat_lt
  exact ⟨_, _, rfl, rfl, Nat.mod_lt _ (by omega), wrap_i64 (by omega), rfl, wrap_i64 (by omega), rfl⟩
theorem tab1 (x : UInt8) : ∃ j1 : Nat, j1 = x.toNat % 6 ∧ j1 < 6 ∧ IntKind.i64.wrap (x.toNat : Int) = (x.toNat : Int) ∧ ((x.toNat : Int)).tmod 6 = (j1 : Int) := by
  have := x.toNat_lt
  exact ⟨_, rfl, Nat.mod_lt _ (by omega), wrap_i64 (by omega), rfl⟩
theorem getD_len {l : List Str} {n : Nat} (h : l.all (fun s => decide (s.length ≤ n)) = true) (k : Nat) : (l.getD k []).length ≤ n := by
  rw [List.getD_eq_getElem?_getD]
  cases hk : l[k]? with
  | none => simp
  | some s =>
    rw [List.all_eq_true] at h
    exact of_decide_eq_true (h s (List.mem_of_getElem? hk))
set_option maxHeartbeats 4000000 in
theorem lp32 (NS : List AV) (nl : Bool) : ∀ (k : Nat) (l : List UInt8) (i : Nat) (S : Str), Tail NS i (ofBytes l) → i + 4 * k = 40 → S.length ≤ 100 * i →
    ∃ fr', Lp ctx [] [] [0, 3, 4] b32_0 ⟨[(0, .v (encR 1 nl NS)), (3, .v (.str S)), (4, .v (.int .i64 i))], false⟩ [] (.ex 0) fr' [] ∧ fr'.lk = false ∧ getS fr'.sl 3 = .v (.str (S ++ textP (srcP k l).flatten [])) ∧ getS fr'.sl 2 = .u ∧ getS fr'.sl 93 = .u := by
  have hw3 : ∀ i : Nat, i < 41 → IntKind.i64.wrap ((i : Int) + 3) = (i : Int) + 3 := fun i hi => wrap_i64 (by omega)
  intro k
  induction k with
  | zero =>
    intro l i S h hi hS
    have hi : i = 40 := by omega
    subst hi
    have e : srcP 0 l = [] := by cases l <;> rfl
    rw [e]
    by_cases hlt : (43 : Int) < (NS.length : Int)
    · refine ⟨?_, Lp.exit ⟨0, fun N _ => ?_⟩ (by simp), ?_⟩
      rotate_left
      · have hw43 : IntKind.i64.wrap 43 = 43 := wrap_i64 (by omega)
        simp -implicitDefEqProofs [b32_0, hlt, hw43]
        rfl
      · exact ⟨by simp, by simp [textP], by simp, by simp⟩
    · refine ⟨?_, Lp.exit ⟨0, fun N _ => ?_⟩ (by simp), ?_⟩
      rotate_left
      · have hw43 : IntKind.i64.wrap 43 = 43 := wrap_i64 (by omega)
        simp -implicitDefEqProofs [b32_0, hlt, hw43]
        rfl
      · exact ⟨by simp, by simp [textP], by simp, by simp⟩
  | succ k ih =>
    intro l i S h hi hS
    have hlen := h.len
    simp only [ofBytes, List.length_map] at hlen
    have w3 := hw3 i (by omega)
    by_cases hl4 : l.length < 4
    · have e : srcP (k + 1) l = [] := srcP_nil _ _ hl4
      have hlt : ¬ (i : Int) + 3 < (NS.length : Int) := by omega
      rw [e]
      refine ⟨?_, Lp.exit ⟨0, fun N _ => ?_⟩ (by simp), ?_⟩
      rotate_left
      · simp -implicitDefEqProofs [b32_0, w3, hlt]
        rfl
      · exact ⟨by simp, by simp [textP], by simp, by simp⟩
    obtain ⟨a, b, c, d, l, rfl⟩ : ∃ a b c d l', l = a :: b :: c :: d :: l' := by
      match l, hl4 with
      | a :: b :: c :: d :: l', _ => exact ⟨a, b, c, d, l', rfl⟩
      | [], h => exact absurd (by simp) h
      | [_], h => exact absurd (by simp) h
      | [_, _], h => exact absurd (by simp) h
      | [_, _, _], h => exact absurd (by simp) h
    simp only [ofBytes, List.map_cons] at h
    obtain ⟨ga, _, ia, h1, gs⟩ := h.cons
    obtain ⟨gb, _, ib, h2, _⟩ := h1.cons
    obtain ⟨gc, _, ic, h3, _⟩ := h2.cons
    obtain ⟨gd, _, id', h4, _⟩ := h3.cons
    have g6 := gs 1 nl
    rw [g6]
    have hlt : (i : Int) + 3 < (NS.length : Int) := by simp only [List.length_cons] at hlen; omega
    have hlt2 : (i : Int) < 40 := by omega
    have w1 : IntKind.i64.wrap ((i : Int) + 1) = (i : Int) + 1 := wrap_i64 (by omega)
    have w2 : IntKind.i64.wrap ((i : Int) + 2) = (i : Int) + 2 := wrap_i64 (by omega)
    have w4 : IntKind.i64.wrap ((i : Int) + 4) = (i : Int) + 4 := wrap_i64 (by omega)
    have ib' : idxN ((i : Int) + 1) NS.length = some (i + 1) := by exact_mod_cast ib
    have ic' : idxN ((i : Int) + 2) NS.length = some (i + 2) := by
      have : ((i + 1 + 1 : Nat) : Int) = (i : Int) + 2 := by omega
      rw [this] at ic; exact ic
    have id'' : idxN ((i : Int) + 3) NS.length = some (i + 3) := by
      have : ((i + 1 + 1 + 1 : Nat) : Int) = (i : Int) + 3 := by omega
      rw [this] at id'; exact id'
    have gc' : NS[i + 2]? = some (.int .u8 c.toNat) := gc
    have gd' : NS[i + 3]? = some (.int .u8 d.toNat) := gd
    obtain ⟨j1, j2, e1, b1, e2, b2, wa, ra, qa, sa⟩ := tab6 a
    obtain ⟨j3, j4, e3, b3, e4, b4, wb, rb, qb, sb⟩ := tab4 b
    obtain ⟨j5, j6, e5, e6, b6, wc, rc, qc, sc⟩ := tab3 c
    obtain ⟨j8, e8, b8, wd, rd⟩ := tab1 d
    have t1 := s_at (l := nmT) (k := j1) b1
    have t2 := s_at (l := vS) (k := j2) b2
    have t3 := s_at (l := k1T) (k := j3) b3
    have t4 := s_at (l := a1S) (k := j4) b4
    have t6 := s_at (l := k2T) (k := j6) b6
    have t8 := s_at (l := a2S) (k := j8) b8
    have u1 := idx_at (n := 6) b1
    have u2 := idx_at (n := 4) b2
    have u3 := idx_at (n := 4) b3
    have u4 := idx_at (n := 8) b4
    have u6 := idx_at (n := 5) b6
    have u8 := idx_at (n := 6) b8
    have n1 := getD_len (l := nmT) (n := 10) (by decide) j1
    have n2 := getD_len (l := vS) (n := 10) (by decide) j2
    have n3 := getD_len (l := k1T) (n := 10) (by decide) j3
    have n4 := getD_len (l := a1S) (n := 20) (by decide) j4
    have n6 := getD_len (l := k2T) (n := 10) (by decide) j6
    have n8 := getD_len (l := a2S) (n := 20) (by decide) j8
    have hsrc : textP (srcP (k + 1) (a :: b :: c :: d :: l)).flatten [] = decS a.toNat b.toNat c.toNat d.toNat ++ textP (srcP k l).flatten [] := by
      show textP (dec4 a.toNat b.toNat c.toNat d.toNat :: srcP k l).flatten [] = _
      rw [List.flatten_cons, textP_app, dec_text]
    rw [hsrc]
    unfold decS
    rw [← e1, ← e2, ← e3, ← e4, ← e5, ← e6, ← e8]
    clear e1 e2 e3 e4 e5 e6 e8 hsrc
    generalize nmT.getD j1 [] = X1 at *
    generalize vS.getD j2 [] = X2 at *
    generalize k1T.getD j3 [] = X3 at *
    generalize a1S.getD j4 [] = X4 at *
    generalize k2T.getD j6 [] = X6 at *
    generalize a2S.getD j8 [] = X8 at *
    simp only [nmT, vS, k1T, a1S, k2T, a2S, encSs, List.map_cons, List.map_nil] at t1 t2 t3 t4 t6 t8
    obtain ⟨S1, f1, v1, s1⟩ := s_cat S [100, 97, 116, 97, 32] (by simp; omega)
    obtain ⟨S2, f2, v2, s2⟩ := s_cat S1 X1 (by simp at v1; omega)
    obtain ⟨S3, f3, v3, s3⟩ := s_cat S2 X2 (by simp at v1; omega)
    obtain ⟨S4, f4, v4, s4⟩ := s_cat S3 [32, 61, 32] (by simp at v1 ⊢; omega)
    obtain ⟨S5, f5, v5, s5⟩ := s_cat S4 X3 (by simp at v1 v4; omega)
    obtain ⟨S6, f6, v6, s6⟩ := s_cat S5 X4 (by simp at v1 v4; omega)
    simp only [List.length_cons, List.length_nil] at v1 v4
    have ih := fun S' hS' => ih l (i + 4) S' h4 (by omega) hS'
    rw [g6] at ih
    have ei : ((i + 4 : Nat) : Int) = (i : Int) + 4 := by omega
    rw [ei] at ih
    by_cases hj : (0 : Int) < (j5 : Int)
    · have hj' : 0 < j5 := by omega
      have hb : Nat.blt 0 j5 = true := by rw [Nat.blt_eq]; omega
      rw [hb]
      obtain ⟨S7, f7, v7, s7⟩ := s_cat S6 [32, 124, 32] (by simp; omega)
      obtain ⟨S8, f8, v8, s8⟩ := s_cat S7 X6 (by simp at v7; omega)
      obtain ⟨S9, f9, v9, s9⟩ := s_cat S8 X8 (by simp at v7; omega)
      obtain ⟨S0, f0, v0, s0⟩ := s_cat S9 [59, 10] (by simp at v7 ⊢; omega)
      simp only [List.length_cons, List.length_nil] at v7 v0
      obtain ⟨fr', l1, l2⟩ := ih S0 (by omega)
      have eS : S0 ++ textP (srcP k l).flatten [] = S ++ (([100, 97, 116, 97, 32] ++ (X1 ++ (X2 ++ ([32, 61, 32] ++ (X3 ++ (X4 ++ (([32, 124, 32] ++ (X6 ++ X8)) ++ [59, 10]))))))) ++ textP (srcP k l).flatten []) := by
        subst f0 f9 f8 f7 f6 f5 f4 f3 f2 f1
        simp only [List.append_assoc]
      rw [eS] at l2
      refine ⟨fr', Lp.step ⟨0, fun N hN => ?_⟩ l1, l2⟩
      clear ih hw3 h h1 h2 h3 h4 gs eS l1 l2 f0 f9 f8 f7 f6 f5 f4 f3 f2 f1
      simp -implicitDefEqProofs [b32_0, d32_0, d32_1, d32_2, d32_3, w1, w2, w3, w4, hlt, hlt2, ga, gb, gc', gd', ia, ib', ic', id'', wa, ra, qa, sa, wb, rb, qb, sb, wc, rc, qc, sc, wd, rd, t1, t2, t3, t4, t6, t8, u1, u2, u3, u4, u6, u8, s1, s2, s3, s4, s5, s6, s7, s8, s9, s0, hj', -strOp]
    · have hj' : ¬ 0 < j5 := by omega
      have hb : Nat.blt 0 j5 = false := by
        cases hb : Nat.blt 0 j5 with
        | false => rfl
        | true => rw [Nat.blt_eq] at hb; omega
      rw [hb]
      obtain ⟨S0, f0, v0, s0⟩ := s_cat S6 [59, 10] (by simp; omega)
      simp only [List.length_cons, List.length_nil] at v0
      obtain ⟨fr', l1, l2⟩ := ih S0 (by omega)
      have eS : S0 ++ textP (srcP k l).flatten [] = S ++ (([100, 97, 116, 97, 32] ++ (X1 ++ (X2 ++ ([32, 61, 32] ++ (X3 ++ (X4 ++ ([] ++ [59, 10]))))))) ++ textP (srcP k l).flatten []) := by
        subst f0 f6 f5 f4 f3 f2 f1
        simp only [List.append_assoc, List.nil_append]
      rw [eS] at l2
      refine ⟨fr', Lp.step ⟨0, fun N hN => ?_⟩ l1, l2⟩
      clear ih hw3 h h1 h2 h3 h4 gs eS l1 l2 f0 f6 f5 f4 f3 f2 f1
      simp -implicitDefEqProofs [b32_0, d32_0, d32_1, d32_2, d32_3, w1, w2, w3, w4, hlt, hlt2, ga, gb, gc', gd', ia, ib', ic', id'', wa, ra, qa, sa, wb, rb, qb, sb, wc, rc, qc, sc, wd, rd, t1, t2, t3, t4, t6, t8, u1, u2, u3, u4, u6, u8, s1, s2, s3, s4, s5, s6, s0, hj', -strOp]
theorem source12_ans (ns : List UInt8) (nl : Bool) : Ans ctx 32 [encR 1 nl (ofBytes ns)] (.str (textP (srcP 10 ns).flatten [])) := by
  obtain ⟨fr', l1, l2, l3, l4, l5⟩ := lp32 (ofBytes ns) nl 10 ns 0 [] (Tail.all _) (by omega) (by simp)
  obtain ⟨k, hk⟩ := l1.den
  refine Ans.of (σ' := []) fn32_ (by simp [AV.noRefs, nr_bytes]) (by simp) ⟨k, fun N hN => ?_⟩
  have hk := hk N hN
  simp only [Int.cast_ofNat_Int, List.nil_append] at hk l3
  simp -implicitDefEqProofs [i32, c32, hk, l2, l3, l4, l5]
def tiC : TI := ⟨.strct [(0, 9), (1, 3), (2, 62)], 3, 48, .agg [.str [], .int .i64 0, .nil], []⟩
def tiD : TI := ⟨.strct [(0, 9), (1, 3), (2, 38), (3, 59)], 4, 72, .agg [.str [], .int .i64 0, .nil, .nil], []⟩
def HiR (n m : Nat) (fr : Fr) : Prop := ∀ t, n ≤ t → t < m → getS fr.sl t = .u
theorem encR_ne {sz : Nat} {nl : Bool} {l : List AV} (h : l ≠ []) : encR sz nl l = .sl sz l := by
  cases l with
  | nil => exact absurd rfl h
  | cons x l => simp
theorem app_raw2 (te : TI) {σ : H} {q2 : Nat} {xs : List AV} {y : AV} (h : RowAt σ q2 te.size xs) (hy : y.fits te = true) (hb : (xs.length + 1) * te.bytes ≤ 2 ^ 45) (hl : xs.length + 1 ≤ 2 ^ 45) :
    ∃ q3 σ', appendH te (rowV q2 xs.length te.size) [y] σ = some (rowV q3 (xs.length + 1) te.size, σ') ∧ σ'[q3]? = some (.arr false te.size (xs ++ [y])) ∧ σ.length ≤ σ'.length ∧ (∀ j o, σ[j]? = some o → (xs ≠ [] → j ≠ q2) → σ'[j]? = some o) ∧ (∀ j, j < σ.length → (xs ≠ [] → j ≠ q2) → j ≠ q3) := by
  cases xs with
  | nil =>
    simp only [List.length_nil, Nat.zero_add, Nat.one_mul] at hb
    refine ⟨σ.length, σ ++ [.arr false te.size [y]], ?_, by simp, by simp, fun j o hj _ => ?_, fun j hj _ => by omega⟩
    · simp [rowV, appendH, hy, fitAll, hb]
    · rw [List.getElem?_append_left (List.getElem?_eq_some_iff.1 hj).1]; exact hj
  | cons x l =>
    have h1 := h (by simp)
    simp at hb hl
    have e1 : l.length + 1 + 1 ≤ 35184372088832 := by omega
    have e3 : ¬ l.length + 1 + 1 ≤ l.length + 1 := by omega
    have e4 : l.length + 1 ≤ 35184372088831 := by omega
    have e5 : l.length ≤ 35184372088830 := by omega
    have hl2 := (List.getElem?_eq_some_iff.1 h1).1
    refine ⟨q2, σ.set q2 (.arr false te.size (x :: l ++ [y])), ?_, List.getElem?_set_self hl2, by simp, fun j o hj hq => ?_, fun j _ hq => hq (by simp)⟩
    · simp [rowV, appendH, hy, fitAll, hb, e1, e3, e4, e5, arrAt, h1]
    · rw [List.getElem?_set_ne (fun e => hq (by simp) e.symm)]; exact hj
set_option maxHeartbeats 1000000 in
theorem lp9_0 (X1 X6 X9 X10 VV : AV) (S : Str) (A : Int) (cs : List Cn) (hcs : cs.length ≤ 2 ^ 30) : ∀ (n : Nat) (acc : List Cn) (q : Nat) (σ : H), n ≤ cs.length → acc.length + n = cs.length → RowAt σ q 3 (encCs acc) →
    ∃ fr' q' σ', Lp ctx [78, 84] [] [1, 6, 9, 10, 11, 12, 13] b9_0 ⟨[(1, .v X1), (6, .v X6), (9, .v X9), (10, .v X10), (11, .bx (.agg [.str S, .int .i64 A, VV, encR 3 true (encCs cs)])), (12, .v (rowV q acc.length 3)), (13, .v (.int .i64 ((n : Int) - 1)))], false⟩ σ (.ex 2) fr' σ' ∧
      RowAt σ' q' 3 (encCs (acc ++ (cs.take n).reverse)) ∧ σ.length ≤ σ'.length ∧ (∀ j o, σ[j]? = some o → (acc ≠ [] → j ≠ q) → σ'[j]? = some o) ∧
      fr'.lk = false ∧ getS fr'.sl 1 = .v X1 ∧ getS fr'.sl 6 = .v X6 ∧ getS fr'.sl 9 = .v X9 ∧ getS fr'.sl 10 = .v X10 ∧ getS fr'.sl 11 = .bx (.agg [.str S, .int .i64 A, VV, encR 3 true (encCs cs)]) ∧ getS fr'.sl 12 = .v (rowV q' cs.length 3) ∧ getS fr'.sl 47 = .u ∧ getS fr'.sl 48 = .u ∧ HiR 79 90 fr'
  | 0, acc, q, σ, hn, ha, hr => by
    refine ⟨?_, q, σ, Lp.exit ⟨0, fun N _ => ?_⟩ (by simp), ?_⟩
    rotate_left
    · simp -implicitDefEqProofs [b9_0]
      rfl
    · refine ⟨by simpa using hr, Nat.le_refl _, fun j o h _ => h, by simp, by simp, by simp, by simp, by simp, by simp, ?_, by simp, by simp, fun t h1 h2 => ?_⟩
      · simpa using congrArg (fun n => rowV q n 3) ha
      · simp only [getS]
        repeat rw [if_neg (by omega)]
  | n + 1, acc, q, σ, hn, ha, hr => by
    have hne : encCs cs ≠ [] := fun e => by
      have := congrArg List.length e
      simp at this
      rw [this] at hn; simp at hn
    have hlt : n < cs.length := by omega
    have hg : (encCs cs)[n]? = some (encC cs[n]) := by
      unfold encCs
      rw [List.getElem?_map, List.getElem?_eq_getElem hlt]; rfl
    have hi := idx_at hlt
    have ez : ((n + 1 : Nat) : Int) - 1 = (n : Int) := by omega
    have hw : IntKind.i64.wrap ((n : Int) - 1) = (n : Int) - 1 := wrap_i64 (by omega)
    have hge : (n : Int) ≥ 0 := by omega
    obtain ⟨q1, σ1, hap, hr1, hl1, hk1, hn1⟩ := app_raw2 tiC (y := encC cs[n]) hr (by simp [encC, tiC]) (by simp [tiC]; omega) (by simp; omega)
    rw [encCs_length] at hap
    unfold tiC at hap hr1
    obtain ⟨fr', q', σ', l1, l2, l3, l4, l5⟩ := lp9_0 X1 X6 X9 X10 VV S A cs hcs n (acc ++ [cs[n]]) q1 σ1 (by omega) (by simp; omega) (fun _ => by
      rw [hr1]; simp)
    have e2 : acc ++ (cs.take (n + 1)).reverse = acc ++ [cs[n]] ++ (cs.take n).reverse := by
      rw [List.take_succ_eq_append_getElem hlt]; simp
    rw [e2]
    rw [ez]
    refine ⟨fr', q', σ', Lp.step ⟨0, fun N hN => ?_⟩ l1, l2, by omega, fun j o h1 h2 => ?_, l5⟩
    · simp only [List.length_append, List.length_singleton]
      generalize cs[n] = c at *
      simp only [encC] at hg hap
      rw [encR_ne hne]
      clear l1 l2 l3 l4 l5 hr1 e2
      simp -implicitDefEqProofs [b9_0, hw, hg, hi, hap, hge, -appendH]
    · have h3 : encCs acc ≠ [] → j ≠ q := fun hx => h2 (fun e => hx (by rw [e]; rfl))
      exact l4 j o (hk1 j o h1 h3) (fun _ => hn1 j (List.getElem?_eq_some_iff.1 h1).1 h3)
def MRel (σ : H) : List AV → List Da → Prop
  | [], [] => True
  | x :: Ds, d :: ds => (∃ qc, x = .agg [.str d.s, .int .i64 d.a, encR 1 true (encSs d.vs), rowV qc d.cs.length 3] ∧ RowAt σ qc 3 (encCs d.cs)) ∧ MRel σ Ds ds
  | _, _ => False
theorem MRel.pres {σ σ' : H} (hp : Pres σ σ') : ∀ {Ds : List AV} {ds : List Da}, MRel σ Ds ds → MRel σ' Ds ds
  | [], [], _ => trivial
  | x :: Ds, d :: ds, h => by
    obtain ⟨⟨qc, h1, h3⟩, h4⟩ := h
    exact ⟨⟨qc, h1, fun hx => hp qc 3 _ (.inr rfl) (h3 hx)⟩, MRel.pres hp h4⟩
  | [], _ :: _, h => h.elim
  | _ :: _, [], h => h.elim
theorem MRel.len {σ : H} : ∀ {Ds : List AV} {ds : List Da}, MRel σ Ds ds → Ds.length = ds.length
  | [], [], _ => rfl
  | x :: Ds, d :: ds, h => by simp [MRel.len h.2]
  | [], _ :: _, h => h.elim
  | _ :: _, [], h => h.elim
theorem MRel.snoc {σ : H} {x : AV} {d : Da} (hx : ∃ qc, x = .agg [.str d.s, .int .i64 d.a, encR 1 true (encSs d.vs), rowV qc d.cs.length 3] ∧ RowAt σ qc 3 (encCs d.cs)) : ∀ {Ds : List AV} {ds : List Da}, MRel σ Ds ds → MRel σ (Ds ++ [x]) (ds ++ [d])
  | [], [], _ => ⟨hx, trivial⟩
  | y :: Ds, e :: ds, h => ⟨h.1, MRel.snoc hx h.2⟩
  | [], _ :: _, h => h.elim
  | _ :: _, [], h => h.elim
theorem snapM1 {σ : H} {x : AV} {d : Da} (h : ∃ qc, x = .agg [.str d.s, .int .i64 d.a, encR 1 true (encSs d.vs), rowV qc d.cs.length 3] ∧ RowAt σ qc 3 (encCs d.cs)) (n : Nat) : ∃ ns, snapA σ (n + 2) x = some (encD d, ns) := by
  obtain ⟨qc, rfl, h2⟩ := h
  obtain ⟨n2, w2⟩ := snapR h2 (by simp) n
  rw [encCs_length] at w2
  have hv : (encR 1 true (encSs d.vs)).noRef = true := by simp
  unfold snapA
  split
  · rename_i hnr
    simp only [AV.noRef, AV.noRefs, Bool.and_eq_true] at hnr
    have e2 := rowV_noRef hnr.2.2.2.1
    refine ⟨[], ?_⟩
    unfold encD
    rw [encR_zero (xs := encCs d.cs) (by simpa using e2), e2]
    rfl
  · refine ⟨n2, ?_⟩
    simp only [mapO2, w2, snapA_noRef (a := .str d.s) rfl, snapA_noRef (a := .int .i64 d.a) rfl, snapA_noRef hv, encD, List.append_nil, List.nil_append]
theorem snapMs {σ : H} (n : Nat) : ∀ {Ds : List AV} {ds : List Da}, MRel σ Ds ds → ∃ ns, mapO2 (snapA σ (n + 2)) Ds = some (encDs ds, ns)
  | [], [], _ => ⟨[], rfl⟩
  | x :: Ds, d :: ds, h => by
    obtain ⟨n1, w1⟩ := snapM1 h.1 n
    obtain ⟨n2, w2⟩ := snapMs n h.2
    exact ⟨n1 ++ n2, by simp only [mapO2, w1, w2, encDs_cons]⟩
  | [], _ :: _, h => h.elim
  | _ :: _, [], h => h.elim
theorem snapMV {σ : H} {qD : Nat} {Ds : List AV} {ds : List Da} (h : RowAt σ qD 4 Ds) (hd : MRel σ Ds ds) (n : Nat) : ∃ ns, snapA σ (n + 3) (rowV qD ds.length 4) = some (encR 4 true (encDs ds), ns) := by
  have hl := hd.len
  cases ds with
  | nil => exact ⟨[], snapA_noRef rfl⟩
  | cons d ds =>
    cases Ds with
    | nil => simp at hl
    | cons x Ds =>
      obtain ⟨ns, w⟩ := snapMs n hd
      refine ⟨qD :: ns, ?_⟩
      have h1 := h (by simp)
      have ht : (x :: Ds).take (ds.length + 1) = x :: Ds := List.take_of_length_le (by simpa using Nat.le_of_eq hl)
      unfold snapA
      rw [if_neg (by simp [rowV])]
      simp only [List.length_cons] at hl
      simp only [rowV, List.length_cons, arrAt, h1, hl, if_true, List.drop_zero, ht, w, Nat.zero_add, Nat.le_refl, and_self]
      simp
set_option maxHeartbeats 2000000 in
theorem lp9_1 (ds : List Da) (hL : ds.length ≤ 2 ^ 30) (hcs : ∀ d ∈ ds, d.cs.length ≤ 2 ^ 30) (t : UInt8) : ∀ (r : List Da) (i : Nat) (acc : List Da) (q : Nat) (Ms : List AV) (σ : H), i + r.length = ds.length → (∀ k d, r[k]? = some d → ds[(ds.length - 1 - (i + k) + t.toNat) % ds.length]? = some d) → acc.length = i → RowAt σ q 4 Ms → MRel σ Ms acc →
    ∃ fr' q' Ms' σ', Lp ctx [78, 84] [] [1, 6, 9, 10] b9_1 ⟨[(1, .v (.int .u8 t.toNat)), (6, .v (encR 4 true (encDs ds))), (9, .v (rowV q acc.length 4)), (10, .v (.int .i64 i))], false⟩ σ (.ex 0) fr' σ' ∧
      RowAt σ' q' 4 Ms' ∧ MRel σ' Ms' (acc ++ r.map revC) ∧
      fr'.lk = false ∧ getS fr'.sl 1 = .v (.int .u8 t.toNat) ∧ getS fr'.sl 6 = .v (encR 4 true (encDs ds)) ∧ getS fr'.sl 9 = .v (rowV q' ds.length 4) ∧ getS fr'.sl 4 = .u ∧ HiR 14 20 fr' ∧ HiR 85 134 fr'
  | [], i, acc, q, Ms, σ, hi, hr, ha, h1, h2 => by
    simp only [List.length_nil, Nat.add_zero] at hi
    subst hi
    refine ⟨?_, q, Ms, σ, Lp.exit ⟨0, fun N _ => ?_⟩ (by simp), ?_⟩
    rotate_left
    · simp -implicitDefEqProofs [b9_1]
      rfl
    · refine ⟨h1, by simpa using h2, by simp, by simp, by simp, by simp [ha], by simp, fun t h1 h2 => ?_, fun t h1 h2 => ?_⟩
      · simp only [getS]
        repeat rw [if_neg (by omega)]
      · simp only [getS]
        repeat rw [if_neg (by omega)]
  | d :: r, i, acc, q, Ms, σ, hi, hr, ha, h1, h2 => by
    simp only [List.length_cons] at hi
    have hd := hr 0 d rfl
    simp only [Nat.add_zero] at hd
    have hne : encDs ds ≠ [] := fun e => by
      have := congrArg List.length e
      simp at this
      rw [this] at hi; simp at hi
    have ht := t.toNat_lt
    have hpos : 0 < ds.length := by omega
    have hmod : (ds.length - 1 - i + t.toNat) % ds.length < ds.length := Nat.mod_lt _ hpos
    have hdm : d ∈ ds := List.mem_of_getElem? hd
    have w1 : IntKind.i64.wrap ((ds.length : Int) - 1) = (ds.length : Int) - 1 := wrap_i64 (by omega)
    have w2 : IntKind.i64.wrap ((ds.length : Int) - 1 - (i : Int)) = (ds.length : Int) - 1 - (i : Int) := wrap_i64 (by omega)
    have w3 : IntKind.i64.wrap (t.toNat : Int) = (t.toNat : Int) := wrap_i64 (by omega)
    have w4 : IntKind.i64.wrap ((ds.length : Int) - 1 - (i : Int) + (t.toNat : Int)) = (ds.length : Int) - 1 - (i : Int) + (t.toNat : Int) := wrap_i64 (by omega)
    have hrem : ((ds.length : Int) - 1 - (i : Int) + (t.toNat : Int)).tmod (ds.length : Int) = (((ds.length - 1 - i + t.toNat) % ds.length : Nat) : Int) := by
      have e : (ds.length : Int) - 1 - (i : Int) + (t.toNat : Int) = ((ds.length - 1 - i + t.toNat : Nat) : Int) := by omega
      rw [e]; rfl
    have hnz : ¬ ds = [] := fun e => by rw [e] at hpos; simp at hpos
    have hlt : (i : Int) < (ds.length : Int) := by omega
    have hw := wrap_succ (n := i) (by unfold big; omega)
    have hg : (encDs ds)[(ds.length - 1 - i + t.toNat) % ds.length]? = some (encD d) := by
      unfold encDs
      rw [List.getElem?_map, hd]; rfl
    have hidx := idx_at hmod
    generalize (ds.length - 1 - i + t.toNat) % ds.length = z at *
    obtain ⟨fr1, q1, σ1, a1, a2, a3, a4, a5, a6, a7, a8, a9, a10, a11, a12, a13, a14⟩ := lp9_0 (.int .u8 t.toNat) (.sl 4 (encDs ds)) (rowV q acc.length 4) (.int .i64 i) (encR 1 true (encSs d.vs)) d.s d.a d.cs (hcs d hdm) d.cs.length [] 0 σ (Nat.le_refl _) (by simp) (fun h => absurd rfl h)
    obtain ⟨k1, hk1⟩ := a1.den
    have a4' : ∀ j o, σ[j]? = some o → σ1[j]? = some o := fun j o h => a4 j o h (fun h => absurd rfl h)
    have hrow1 : RowAt σ1 q 4 Ms := fun hx => a4' _ _ (h1 hx)
    have hM1 : MRel σ1 Ms acc := h2.pres fun _ _ _ _ h => a4' _ _ h
    have hlen := h2.len
    obtain ⟨q2, σ2, hap, b1, b2, b3, b4⟩ := app_raw2 tiD (y := .agg [.str d.s, .int .i64 d.a, encR 1 true (encSs d.vs), rowV q1 d.cs.length 3]) hrow1 (by simp [tiD]) (by simp [tiD]; omega) (by simp; omega)
    rw [hlen] at hap
    unfold tiD at hap b1
    simp only [List.nil_append, List.take_length] at a2
    have hP2 : Pres σ1 σ2 := Pres.raw hrow1 (by omega) b3
    have hM2 : MRel σ2 (Ms ++ [.agg [.str d.s, .int .i64 d.a, encR 1 true (encSs d.vs), rowV q1 d.cs.length 3]]) (acc ++ [revC d]) := (hM1.pres hP2).snoc ⟨q1, by simp [revC], a2.raw hrow1 (by omega) b3⟩
    obtain ⟨fr', q', Ms', σ', c1, c2, c3, c4⟩ := lp9_1 ds hL hcs t r (i + 1) (acc ++ [revC d]) q2 _ σ2 (by omega) (fun k e hk => by
      have := hr (k + 1) e (by simpa using hk)
      rw [show i + 1 + k = i + (k + 1) by omega]; exact this) (by simp [ha]) (fun _ => b1) hM2
    rw [encR_ne hne] at c1 c4 ⊢
    refine ⟨fr', q', Ms', σ', Lp.step ⟨k1, fun N hN => ?_⟩ c1, c2, ?_, c4⟩
    · have hk1 := hk1 N hN
      simp only [encD] at hg
      have h84 : HiR 79 90 fr1 := a14
      have j79 := h84 79 (by omega) (by omega)
      have j80 := h84 80 (by omega) (by omega)
      have j81 := h84 81 (by omega) (by omega)
      have j82 := h84 82 (by omega) (by omega)
      have j83 := h84 83 (by omega) (by omega)
      have j84 := h84 84 (by omega) (by omega)
      have w5 : IntKind.i64.wrap ((d.cs.length : Int) - 1) = (d.cs.length : Int) - 1 := wrap_i64 (by have := hcs d hdm; omega)
      simp only [List.length_append, List.length_singleton]
      have e0 : rowV 0 0 3 = AV.nil := rfl
      simp only [List.length_nil, e0] at hk1
      clear c1 c2 c3 c4 b1 b2 b3 b4 hM1 hM2 hP2 h1 h2 hr a1 a2 a4 a4' h84 a14 hrow1
      simp -implicitDefEqProofs [b9_1, w1, w2, w3, w4, w5, hrem, hnz, hlt, hw, hg, hidx, hk1, a5, a6, a7, a8, a9, a10, a11, a12, a13, j79, j80, j81, j82, j83, j84, hap, -appendH]
    · rw [List.map_cons]
      simpa using c3
set_option maxHeartbeats 1000000 in
theorem lp9_2 (ds : List Da) (hL : ds.length ≤ 2 ^ 30) (hok : ∀ d ∈ ds, okD d) (hn : (conNames ds).Nodup) (X14 : AV) (σ : H) (i : Nat) (d : Da) (hd : ds[i]? = some d) : ∀ (r : List Cn) (k : Nat), k + r.length = d.cs.length → (∀ j c, r[j]? = some c → d.cs[k + j]? = some c) →
    ∃ fr', Lp ctx [78, 84] [] [6, 14, 16, 17] b9_2 ⟨[(6, .v (encR 4 true (encDs ds))), (14, .v X14), (16, .v (.int .i64 i)), (17, .v (.int .i64 k))], false⟩ σ (.ex 6) fr' σ ∧
      fr'.lk = false ∧ getS fr'.sl 6 = .v (encR 4 true (encDs ds)) ∧ getS fr'.sl 14 = .v X14 ∧ getS fr'.sl 16 = .v (.int .i64 i) ∧ getS fr'.sl 94 = .u ∧ getS fr'.sl 95 = .u
  | [], k, hk, hr => by
    simp only [List.length_nil, Nat.add_zero] at hk
    have hne : encDs ds ≠ [] := fun e => by
      have := congrArg List.length e
      simp at this
      rw [this] at hd; cases hd
    have hlt : i < ds.length := (List.getElem?_eq_some_iff.1 hd).1
    have hg : (encDs ds)[i]? = some (encD d) := by
      unfold encDs
      rw [List.getElem?_map, hd]; rfl
    have hidx := idx_at hlt
    rw [encR_ne hne]
    simp only [encD] at hg
    refine ⟨?_, Lp.exit ⟨0, fun N _ => ?_⟩ (by simp), ?_⟩
    rotate_left
    · simp -implicitDefEqProofs [b9_2, hg, hidx, hk]
      rfl
    · exact ⟨by simp, by simp, by simp, by simp, by simp, by simp⟩
  | c :: r, k, hk, hr => by
    simp only [List.length_cons] at hk
    have hne : encDs ds ≠ [] := fun e => by
      have := congrArg List.length e
      simp at this
      rw [this] at hd; cases hd
    have hlt : i < ds.length := (List.getElem?_eq_some_iff.1 hd).1
    have hdm : d ∈ ds := List.mem_of_getElem? hd
    have hg : (encDs ds)[i]? = some (encD d) := by
      unfold encDs
      rw [List.getElem?_map, hd]; rfl
    have hidx := idx_at hlt
    have hc := hr 0 c rfl
    simp only [Nat.add_zero] at hc
    have hklt : k < d.cs.length := by omega
    have hgc : (encCs d.cs)[k]? = some (encC c) := by
      unfold encCs
      rw [List.getElem?_map, hc]; rfl
    have hidk := idx_at hklt
    have hnc : encCs d.cs ≠ [] := fun e => by
      have := congrArg List.length e
      simp at this
      rw [this] at hklt; simp at hklt
    have hklt' : (k : Int) < (d.cs.length : Int) := by omega
    have hcl : d.cs.length ≤ 2 ^ 40 := (hok d hdm).2.1
    have hw := wrap_succ (n := k) (by unfold big; omega)
    obtain ⟨kd, hkd⟩ := dcon_ans ds true (by unfold big; omega) hok c.s
    have hf := findCon_here (i0 := 0) hd hc hn
    rw [Nat.zero_add] at hf
    rw [hf] at hkd
    simp only [conI] at hkd
    obtain ⟨fr', l1, l2⟩ := lp9_2 ds hL hok hn X14 σ i d hd r (k + 1) (by omega) (fun j e hj => by
      have := hr (j + 1) e (by simpa using hj)
      rw [show k + 1 + j = k + (j + 1) by omega]; exact this)
    rw [encR_ne hne] at l1 l2 hkd ⊢
    simp only [encD] at hg
    rw [encR_ne hnc] at hg
    simp only [encC] at hgc
    refine ⟨fr', Lp.step ⟨kd, fun N hN => ?_⟩ l1, l2⟩
    have hkd := hkd N hN
    clear l1 l2 hr hf
    simp -implicitDefEqProofs [b9_2, hg, hidx, hgc, hidk, hklt', hw, hkd]
set_option maxHeartbeats 1000000 in
theorem lp9_3 (ds : List Da) (hL : ds.length ≤ 2 ^ 30) (hok : ∀ d ∈ ds, okD d) (hn : (conNames ds).Nodup) (X14 : AV) (σ : H) : ∀ (r : List Da) (i : Nat), i + r.length = ds.length → (∀ j d, r[j]? = some d → ds[i + j]? = some d) →
    ∃ fr', Lp ctx [78, 84] [] [6, 14, 16] b9_3 ⟨[(6, .v (encR 4 true (encDs ds))), (14, .v X14), (16, .v (.int .i64 i))], false⟩ σ (.ex 4) fr' σ ∧
      fr'.lk = false ∧ getS fr'.sl 14 = .v X14 ∧ getS fr'.sl 4 = .u ∧ HiR 128 134 fr'
  | [], i, hi, hr => by
    simp only [List.length_nil, Nat.add_zero] at hi
    refine ⟨?_, Lp.exit ⟨0, fun N _ => ?_⟩ (by simp), ?_⟩
    rotate_left
    · simp -implicitDefEqProofs [b9_3, hi]
      rfl
    · refine ⟨by simp, by simp, by simp, fun t h1 h2 => ?_⟩
      simp only [getS]
      repeat rw [if_neg (by omega)]
  | d :: r, i, hi, hr => by
    simp only [List.length_cons] at hi
    have hd := hr 0 d rfl
    simp only [Nat.add_zero] at hd
    have hlt : (i : Int) < (ds.length : Int) := by omega
    have hw := wrap_succ (n := i) (by unfold big; omega)
    obtain ⟨fr1, a1, a2, a3, a4, a5, a6, a7⟩ := lp9_2 ds hL hok hn X14 σ i d hd d.cs 0 (by omega) (fun j c h => by rw [Nat.zero_add]; exact h)
    obtain ⟨k1, hk1⟩ := a1.den
    obtain ⟨fr', l1, l2⟩ := lp9_3 ds hL hok hn X14 σ r (i + 1) (by omega) (fun j e hj => by
      have := hr (j + 1) e (by simpa using hj)
      rw [show i + 1 + j = i + (j + 1) by omega]; exact this)
    refine ⟨fr', Lp.step ⟨k1, fun N hN => ?_⟩ l1, l2⟩
    have hk1 := hk1 N hN
    simp only [Int.cast_ofNat_Int] at hk1
    clear l1 l2 hr a1
    simp -implicitDefEqProofs [b9_3, hlt, hw, hk1, a2, a3, a4, a5, a6, a7]
set_option maxHeartbeats 2000000 in
theorem dataOrder_ans (ns : List UInt8) (turn : UInt8) (nl : Bool) : Ans ctx 9 [encR 1 nl (ofBytes ns), .int .u8 turn.toNat] (.bool true) := by
  obtain ⟨kw, hkw⟩ := awake12_ans
  obtain ⟨ks, hks⟩ := source12_ans ns nl
  obtain ⟨p, hp⟩ := parse_src ns
  obtain ⟨⟨kp, hkp⟩, hokp⟩ := parse_ans (textP (srcP 10 ns).flatten [])
  have hop := hokp p hp
  rw [hp] at hkp
  simp only [encPd] at hkp
  generalize textP (srcP 10 ns).flatten [] = SRC at *
  obtain ⟨hds, hcs⟩ := parse_few hp
  obtain ⟨kc, hkc⟩ := check_ans p.ds true (by unfold big; omega) hop.d
  cases hc : checkData p.ds with
  | some at_ =>
    obtain ⟨kn, hkn⟩ := num_ans 6
    rw [hc] at hkc
    simp only [chkI] at hkc
    refine Ans.of (σ' := []) fn9_ (by simp [AV.noRefs, nr_bytes]) (by simp) ⟨kw + ks + kp + kc + kn, fun N hN => ?_⟩
    have hkw := hkw N (by omega)
    have hks := hks N (by omega)
    have hkp := hkp N (by omega)
    have hkc := hkc N (by omega)
    have hkn := hkn N (by omega)
    by_cases h0 : p.ds = []
    · rw [h0] at hkp hkc
      simp only [encDs_nil, encR_tnil] at hkp hkc
      simp -implicitDefEqProofs [i9, c9, hks, hkp, hkc, hkn, hkw]
    · have he : ((p.ds.length : Int) == 0) = false := by
        rw [beq_eq_false_iff_ne]
        intro e
        exact h0 (List.length_eq_zero_iff.1 (by omega))
      simp -implicitDefEqProofs [i9, c9, hks, hkp, hkc, hkn, hkw, he]
  | none =>
    obtain ⟨kn, hkn⟩ := num_ans 0
    rw [hc] at hkc
    simp only [chkI] at hkc
    by_cases h0 : p.ds.length = 0
    · have h0' : p.ds = [] := by simpa using h0
      refine Ans.of (σ' := []) fn9_ (by simp [AV.noRefs, nr_bytes]) (by simp) ⟨kw + ks + kp + kc + kn, fun N hN => ?_⟩
      have hkw := hkw N (by omega)
      have hks := hks N (by omega)
      have hkp := hkp N (by omega)
      have hkc := hkc N (by omega)
      have hkn := hkn N (by omega)
      rw [h0'] at hkp hkc
      simp only [encDs_nil, encR_tnil] at hkp hkc
      simp -implicitDefEqProofs [i9, c9, hks, hkp, hkc, hkn, hkw]
    · have h0' : ((p.ds.length : Int) == 0) = false := by
        rw [beq_eq_false_iff_ne]; omega
      have hperm := turnL_perm p.ds turn.toNat
      obtain ⟨fr1, q', Ms', σ1, a1, a2, a3, a4, a5, a6, a7, a8, a9, a10⟩ := lp9_1 p.ds hds hcs turn (turnL p.ds turn.toNat) 0 [] 0 [] [] (by rw [hperm.length_eq]; omega) (fun k d hk => by
        have hkl : k < p.ds.length := by rw [← hperm.length_eq]; exact (List.getElem?_eq_some_iff.1 hk).1
        rw [turnL_at _ _ _ hkl] at hk
        rw [Nat.zero_add]; exact hk) rfl (fun h => absurd rfl h) trivial
      obtain ⟨k1, hk1⟩ := a1.den
      rw [List.nil_append] at a3
      have hc2 := checkData_turned hperm hc
      have hml : ((turnL p.ds turn.toNat).map revC).length = p.ds.length := by rw [List.length_map, hperm.length_eq]
      have hokM : ∀ d ∈ (turnL p.ds turn.toNat).map revC, okD d := fun d hd => by
        obtain ⟨e, he, rfl⟩ := List.mem_map.1 hd
        obtain ⟨o1, o2, o3⟩ := hop.d e (hperm.mem_iff.1 he)
        exact ⟨o1, by simpa [revC] using o2, fun c hcm => o3 c (by simpa [revC] using hcm)⟩
      generalize (turnL p.ds turn.toNat).map revC = M at *
      have hck := check_ans M true (by rw [hml]; unfold big; omega) hokM
      rw [hc2] at hck
      simp only [chkI] at hck
      obtain ⟨ns1, hsn⟩ := snapMV a2 a3 197
      rw [hml] at hsn
      have hnr2 : AV.noRefs [rowV q' p.ds.length 4] = false := by
        cases hz : p.ds.length with
        | zero => omega
        | succ n => rfl
      have hsl : snapL σ1 [rowV q' p.ds.length 4] = some ([encR 4 true (encDs M)], ns1) := by
        unfold snapL
        simp only [mapO2, hsn, List.append_nil]
      obtain ⟨kc2, hkc2⟩ := AnsH.two (σ := σ1) fn29_ al29_ hnr2 hsl (by simp [AV.noRefs]) hck
      obtain ⟨fr2, b1, b2, b3, b4, b5⟩ := lp9_3 p.ds hds hop.d ((checkData_none _).1 hc).cn (.int .i64 0) σ1 p.ds 0 (by omega) (fun j d h => by rw [Nat.zero_add]; exact h)
      obtain ⟨k2, hk2⟩ := b1.den
      refine Ans.of (σ' := σ1) fn9_ (by simp [AV.noRefs, nr_bytes]) (by simp) ⟨kw + ks + kp + kc + kn + k1 + kc2 + k2, fun N hN => ?_⟩
      have hkw := hkw N (by omega)
      have hks := hks N (by omega)
      have hkp := hkp N (by omega)
      have hkc := hkc N (by omega)
      have hkn := hkn N (by omega)
      have hk1 := hk1 N (by omega)
      have hk2 := hk2 N (by omega)
      have hkc2 := hkc2 N (by omega)
      have j14 := a9 14 (by omega) (by omega)
      have j15 := a9 15 (by omega) (by omega)
      have j16 := a9 16 (by omega) (by omega)
      have j17 := a9 17 (by omega) (by omega)
      have j18 := a9 18 (by omega) (by omega)
      have j19 := a9 19 (by omega) (by omega)
      have j85 := a10 85 (by omega) (by omega)
      have j86 := a10 86 (by omega) (by omega)
      have j87 := a10 87 (by omega) (by omega)
      have j88 := a10 88 (by omega) (by omega)
      have j89 := a10 89 (by omega) (by omega)
      have m128 := b5 128 (by omega) (by omega)
      have m129 := b5 129 (by omega) (by omega)
      have m130 := b5 130 (by omega) (by omega)
      have m131 := b5 131 (by omega) (by omega)
      have m132 := b5 132 (by omega) (by omega)
      have m133 := b5 133 (by omega) (by omega)
      have e0 : rowV 0 0 4 = AV.nil := rfl
      simp only [List.length_nil, e0, Int.cast_ofNat_Int] at hk1 hk2
      clear a1 a2 a3 a9 a10 b1 b5 hsn hsl hck
      simp -implicitDefEqProofs [i9, c9, hks, hkp, hkc, hkn, hkw, h0', hk1, a4, a5, a6, a7, a8, j14, j15, j16, j17, j18, j19, j85, j86, j87, j88, j89, hkc2, hk2, b2, b3, b4, m128, m129, m130, m131, m132, m133]
end Go.Am.Try
