/- V0, V2, V3, V4, V5, V6, V7, V8, as one -/
import Derived.Test.YtdapcelbbejfoaaE0
import Derived.Test.YtdapcelbbejfoaaE6s
import Derived.Test.YtdapcelbbejfoaaP25
import Derived.Test.YtdapcelbbejfoaaMTab
import Derived.Test.YtdapcelbbejfoaaP26
set_option linter.unusedVariables false
set_option maxRecDepth 100000
set_option linter.unusedSimpArgs false
namespace Go.Am.Try
open Go Go.Am.Ps
theorem eqS_symm (a b : Str) : eqS a b = eqS b a := by
  rw [eqS_iff, eqS_iff]; exact Bool.eq_iff_iff.2 ⟨fun h => by simpa using (eq_of_beq h).symm, fun h => by simpa using (eq_of_beq h).symm⟩
theorem eqS_refl (a : Str) : eqS a a = true := by rw [eqS_iff]; simp
theorem placeF_no : ∀ (l : List Str) (i : Nat) (s : Str), l.any (eqS s) = false → placeF i l s = -1
  | [], i, s, h => rfl
  | a :: l, i, s, h => by
    simp only [List.any_cons, Bool.or_eq_false_iff] at h
    have h1 := h.1
    rw [eqS_symm] at h1
    simp only [placeF, h1]
    exact placeF_no l (i + 1) s h.2
theorem placeF_yes : ∀ (l : List Str) (i : Nat) (s : Str), l.any (eqS s) = true → ∃ k : Nat, placeF i l s = (k : Int) ∧ i ≤ k ∧ k < i + l.length
  | [], i, s, h => by simp at h
  | a :: l, i, s, h => by
    simp only [placeF]
    cases h1 : eqS a s with
    | true => exact ⟨i, by simp, Nat.le_refl _, by simp⟩
    | false =>
      rw [eqS_symm] at h1
      simp only [List.any_cons, h1, Bool.false_or] at h
      obtain ⟨k, a1, a2, a3⟩ := placeF_yes l (i + 1) s h
      exact ⟨k, by simpa using a1, by omega, by simp; omega⟩
theorem place_no {l : List Str} {s : Str} (h : l.any (eqS s) = false) : place l s = -1 := placeF_no l 0 s h
theorem place_yes {l : List Str} {s : Str} (h : l.any (eqS s) = true) : 0 ≤ place l s := by
  obtain ⟨k, h1, _⟩ := placeF_yes l 0 s h
  unfold place; rw [h1]; omega
theorem any_snoc (B : List Str) (x s : Str) : (B ++ [x]).any (eqS s) = (x :: B).any (eqS s) := by
  rw [List.any_append, List.any_cons, List.any_cons, List.any_nil, Bool.or_false, Bool.or_comm]
theorem any_swap (B l : List Str) (s : Str) : (B ++ l).any (eqS s) = (l ++ B).any (eqS s) := by
  rw [List.any_append, List.any_append, Bool.or_comm]
theorem elemsM_encS (nl : Bool) (l : List AV) : elemsM ⟨.str, 1, 16, .str [], [.str]⟩ (encR 1 nl l) = pureM l := by
  cases nl <;> cases l <;> rfl
theorem elemsM_sl (l : List AV) : elemsM ⟨.str, 1, 16, .str [], [.str]⟩ (.sl 1 l) = pureM l := rfl
theorem fitS : ∀ B : List Str, fitAll ⟨.str, 1, 16, .str [], [.str]⟩ (encSs B) = true
  | [] => rfl
  | s :: B => by
    have := fitS B
    simp [encSs, fitAll] at this ⊢
    exact this
theorem setCells_nil (l : List AV) (o : Nat) : setCells l o [] = l := rfl
theorem app_end (σ : H) (xs ys : List Str) (n : Nat) (hn : xs.length = n) (hb : n + ys.length ≤ 2 ^ 41) :
    appendH ⟨.str, 1, 16, .str [], [.str]⟩ (.hs σ.length n 0 n 1) (encSs ys) (σ ++ [.arr false 1 (encSs xs)]) = some (.hs σ.length (n + ys.length) 0 (n + ys.length) 1, σ ++ [.arr false 1 (encSs (xs ++ ys))]) := by
  have hf := fitS ys
  have h1 : (σ ++ [HObj.arr false 1 (encSs xs)])[σ.length]? = some (.arr false 1 (encSs xs)) := by simp
  have hl : (encSs xs).length = n := by simp [hn]
  have ht : (encSs xs).take n = encSs xs := List.take_of_length_le (by simp [hn])
  unfold appendH arrAt
  simp only [h1, hl, if_true]
  rw [if_pos ⟨trivial, trivial, by omega, by simp; omega, by simp; omega, hf⟩]
  cases ys with
  | nil =>
    simp [encSs, setCells_nil]
  | cons y ys =>
    rw [if_neg (by simp)]
    simp only [if_true, ht]
    have : encSs xs ++ encSs (y :: ys) = encSs (xs ++ y :: ys) := by simp [encSs]
    rw [this]
    simp
theorem decl_okC (E n : Nat) (hn : n ≤ 600000) (out : Pg) (p : PS) (hp : rl p ≤ 65536) (h : ∀ b ∈ out.bs, bdE b.b ≤ 700000000000) : (∀ b ∈ (decl E n out p).1.bs, bdE b.b ≤ 700000000000) := by
  unfold decl
  split
  · exact h
  · have r0 := Nat.le_trans (rl_eat E p 4 sLet) hp
    have r1 := Nat.le_trans (rl_eat E (p.eat E 4 sLet).2 1 []) r0
    have r3 := Nat.le_trans (rl_names ((p.eat E 4 sLet).2.eat E 1 []).2) r1
    have r4 := Nat.le_trans (rl_sign E ((p.eat E 4 sLet).2.eat E 1 []).2.names.2 sEq) r3
    have l1 := names_le ((p.eat E 4 sLet).2.eat E 1 []).2
    have b1 := (bd_all E n (by omega)).1 _ r4
    intro b hb
    simp only [List.mem_append, List.mem_singleton] at hb
    rcases hb with hb | rfl
    · exact h b hb
    · simp only [bd_lams]
      unfold KB at b1
      omega
theorem decls_okC (E n : Nat) (hn : n ≤ 600000) : ∀ (m : Nat) (out : Pg) (p : PS), rl p ≤ 65536 → (∀ b ∈ out.bs, bdE b.b ≤ 700000000000) → (∀ b ∈ (decls E n m out p).1.bs, bdE b.b ≤ 700000000000)
  | 0, out, p, _, h => h
  | m + 1, out, p, hp, h => by
    simp only [decls]
    split
    · have h1 := decl_okC E n hn out p hp h
      have hr := (ok_decl E (n := n) (k := max out.ds.length out.bs.length) (by unfold lim; omega) (out := ⟨[], []⟩) ⟨by simp, by simp, by simp, by simp⟩ p hp).2
      have hr2 : rl (decl E n out p).2 ≤ 65536 := by
        have e : (decl E n out p).2 = (decl E n ⟨[], []⟩ p).2 := by unfold decl; split <;> rfl
        rw [e]; exact hr
      exact decls_okC E n hn m _ _ hr2 h1
    · exact h
theorem parse_okC {s : Str} {p : Pg} (h : parse s = .ok p) : ∀ b ∈ p.bs, bdE b.b ≤ 700000000000 := by
  unfold parse at h
  cases hl : lex s with
  | bad e a => rw [hl] at h; cases h
  | ok l =>
    rw [hl] at h
    simp only at h
    have hlen := tl_lex s hl
    have h1 := decls_okC s.length (8 * l.length + 40) (by omega) (l.length + 1) ⟨[], []⟩ ⟨0, l, false, 0⟩ hlen (by simp)
    generalize decls s.length (8 * l.length + 40) (l.length + 1) ⟨[], []⟩ ⟨0, l, false, 0⟩ = R at *
    obtain ⟨out, q⟩ := R
    simp only at h h1
    split at h
    · cases h
    · split at h
      · cases h
      · cases h
        exact h1
theorem any_eqS {B : List Str} {s : Str} : B.any (eqS s) = true ↔ s ∈ B := by
  rw [List.any_eq_true]
  constructor
  · rintro ⟨x, h1, h2⟩
    rw [eqS_iff] at h2
    rw [eq_of_beq h2]; exact h1
  · exact fun h => ⟨s, h, eqS_refl s⟩
/-! ### membership is all that counts -/
theorem addF_congr {B B' : List Str} (h : ∀ s, s ∈ B ↔ s ∈ B') (k : Nat) (s : Str) (O : List Str) : addF k s B O = addF k s B' O := by
  unfold addF
  by_cases hc : k = 1 ∧ s ∉ B ∧ s ∉ O
  · rw [if_pos hc, if_pos ⟨hc.1, fun x => hc.2.1 ((h s).2 x), hc.2.2⟩]
  · rw [if_neg hc, if_neg fun x => hc ⟨x.1, fun y => x.2.1 ((h s).1 y), x.2.2⟩]
mutual
theorem frE_congr : ∀ (e : Ex) (B B' O : List Str), (∀ s, s ∈ B ↔ s ∈ B') → frE B O e = frE B' O e
  | .mk k a s n ks as, B, B', O, h => by
    unfold frE
    rw [addF_congr h, frK_congr k s ks 0 B B' _ h, frA_congr as B B' _ h]
theorem frK_congr (k : Nat) (s : Str) : ∀ (l : List Ex) (i : Nat) (B B' O : List Str), (∀ s, s ∈ B ↔ s ∈ B') → frK k s i B O l = frK k s i B' O l
  | [], i, B, B', O, h => by unfold frK; rfl
  | e :: l, i, B, B', O, h => by
    unfold frK
    rw [frE_congr e (s :: B) (s :: B') O (fun x => by simp [h x]), frE_congr e B B' O h, frK_congr k s l (i + 1) B B' _ h]
theorem frA_congr : ∀ (l : List Al) (B B' O : List Str), (∀ s, s ∈ B ↔ s ∈ B') → frA B O l = frA B' O l
  | [], B, B', O, h => by unfold frA; rfl
  | .mk a c ns b :: l, B, B', O, h => by
    unfold frA
    rw [frE_congr b (ns ++ B) (ns ++ B') O (fun x => by simp [h x]), frA_congr l B B' _ h]
end
def FrOK (e : Ex) : Prop := ∀ (O B : List Str) (nb : Bool), B.length + bdE e ≤ 2 ^ 40 → O.length + vE e ≤ 2 ^ 39 → Ans ctx 54 [encR 1 true (encSs O), encE e, encR 1 nb (encSs B)] (encR 1 true (encSs (frE B O e)))
theorem FrOK.row {e : Ex} (h : FrOK e) (O B : List Str) (hB : B.length + bdE e ≤ 2 ^ 40) (hO : O.length + vE e ≤ 2 ^ 39) (σ : H) (n : Nat) (hn : B.length = n) :
    AnsH ctx 54 [encR 1 true (encSs O), encE e, .hs σ.length n 0 n 1] (σ ++ [.arr false 1 (encSs B)]) (encR 1 true (encSs (frE B O e))) (σ ++ [.arr true 1 (encSs B)]) := by
  have h1 : (σ ++ [HObj.arr false 1 (encSs B)])[σ.length]? = some (.arr false 1 (encSs B)) := by simp
  have ht : (encSs B).take n = encSs B := List.take_of_length_le (by simp [hn])
  have h2 := snapA_hs (n := 199) (v := n) (m := n) h1 (by simp [hn]) (Nat.le_refl _) (by rw [ht]; simp)
  rw [ht] at h2
  have hsn : snapL (σ ++ [HObj.arr false 1 (encSs B)]) [encR 1 true (encSs O), encE e, .hs σ.length n 0 n 1] = some ([encR 1 true (encSs O), encE e, .sl 1 (encSs B)], [σ.length]) := by
    simp only [snapL, mapO2, h2, snapA_noRef (a := encR 1 true (encSs O)) (by simp), snapA_noRef (a := encE e) (by simp), List.append_nil, List.nil_append]
  have hq := h O B false hB hO
  rw [encR_false] at hq
  have hnr : AV.noRefs [encR 1 true (encSs O), encE e, .sl 1 (encSs B)] = true := by simp [AV.noRefs]
  have := AnsH.lay (ns := [σ.length]) fn54_ (by simp [AV.noRefs, AV.noRef]) hsn hnr hq
  have hfz : frzH (σ ++ [HObj.arr false 1 (encSs B)]) [σ.length] = σ ++ [.arr true 1 (encSs B)] := by simp [frzH]
  rw [← hfz]
  cases hw : frE B O e with
  | nil => rw [hw] at this; exact this
  | cons x l => rw [hw] at this; exact this
set_option maxHeartbeats 2000000 in
theorem lp54_0 (B : List Str) (nb : Bool) (K A : Nat) (S : Str) (N' : Nat) (L : List AV) (C5 : AV) (hL : L.length < big) : ∀ (r : List Ex) (i : Nat) (O : List Str) (σ : H), Tail L i (encEs r) → B.length + 1 + bdEs r ≤ 2 ^ 40 → O.length + vEs r ≤ 2 ^ 39 → (∀ e ∈ r, FrOK e) →
    ∃ fr' σ', Lp ctx [27, 29, 33, 54, 56, 60, 83, 85, 92] [] [0, 2, 4, 7] b54_0 ⟨[(0, .v (encR 1 true (encSs O))), (2, .v (encR 1 nb (encSs B))), (4, .bx (.agg [.int .i64 K, .int .i64 A, .str S, .int .i64 N', encR 6 true L, C5])), (7, .v (.int .i64 i))], false⟩ σ (.ex 0) fr' σ' ∧ fr'.lk = false ∧
      getS fr'.sl 0 = .v (encR 1 true (encSs (frK K S i B O r))) ∧ getS fr'.sl 2 = .v (encR 1 nb (encSs B)) ∧ getS fr'.sl 4 = .bx (.agg [.int .i64 K, .int .i64 A, .str S, .int .i64 N', encR 6 true L, C5]) ∧ Hi2 8 34 fr' ∧ Hi2 39 95 fr'
  | [], i, O, σ, h, _, _, _ => by
    have h' := h.nil
    refine ⟨?_, σ, Lp.exit ⟨0, fun N _ => ?_⟩ (by simp), ?_⟩
    rotate_left
    · simp -implicitDefEqProofs [b54_0, h']
      rfl
    · refine ⟨rfl, by simp [frK], by simp, by simp, fun t h1 h2 => ?_, fun t h1 h2 => ?_⟩
      all_goals simp only [getS]
      all_goals repeat rw [if_neg (by omega)]
  | e :: r, i, O, σ, h, hb, hv, he => by
    have hlen := h.len
    simp only [encEs_cons] at h
    obtain ⟨g1, g2, g3, g4, g5⟩ := h.cons
    simp at hlen
    simp only [bdEs] at hb
    simp only [vEs] at hv
    have hw := wrap_succ (n := i) (by omega)
    have g6 := g5 6 true
    have e6 : ((K : Int) == 6) = Nat.beq K 6 := (beq_int K 6).symm
    have e7 : ((K : Int) == 7) = Nat.beq K 7 := (beq_int K 7).symm
    have e1 : ((i : Int) == 1) = Nat.beq i 1 := (beq_int i 1).symm
    have hbk : bindK K i = (((K : Int) == 6) || (((K : Int) == 7) && ((i : Int) == 1))) := by rw [e6, e7, e1]; rfl
    have hels := elemsM_encS nb (encSs B)
    have ap1 := app_end σ [] B 0 rfl (by omega)
    have ap2 := app_end σ B [S] B.length rfl (by simp; omega)
    obtain ⟨B1, hB1⟩ : ∃ B1, B1 = B ++ [S] := ⟨_, rfl⟩
    have hl1 : B1.length = B.length + 1 := by rw [hB1]; simp
    rw [← hB1] at ap2
    have es1 : encSs [S] = [.str S] := rfl
    have es0 : encSs ([] : List Str) = [] := rfl
    simp only [List.nil_append, es0, es1, Nat.zero_add, List.length_singleton] at ap1 ap2
    have hc := frE_congr e B1 (S :: B) O (fun s => by rw [hB1]; simp [or_comm])
    obtain ⟨k1, hk1⟩ := (he e (by simp)).row O B1 (by omega) (by omega) σ (B.length + 1) hl1
    obtain ⟨k2, hk2⟩ := he e (by simp) O B nb (by omega) (by omega)
    rw [hc] at hk1
    have hl2 := frE_len e (S :: B) O
    have hl3 := frE_len e B O
    rw [g6]
    unfold frK
    rw [hbk]
    cases c6 : ((K : Int) == 6) with
    | true =>
      simp only [Bool.true_or, cond_true]
      obtain ⟨fr', σ', l1, l2⟩ := lp54_0 B nb K A S N' L C5 hL r (i + 1) (frE (S :: B) O e) (σ ++ [.arr true 1 (encSs B1)]) g4 (by omega) (by omega) (fun x hx => he x (by simp [hx]))
      rw [g6] at l1 l2
      refine ⟨fr', σ', Lp.step ⟨k1, fun N hN => ?_⟩ l1, l2⟩
      have hk1 := hk1 N hN
      simp -implicitDefEqProofs [b54_0, d54_1, g1, g2, g3, hw, hk1, hels, elemsM_sl, ap1, ap2, c6, -appendH, -elemsM, -beq_iff_eq, -beq_eq_false_iff_ne]
    | false =>
      cases c7 : ((K : Int) == 7) with
      | false =>
        simp only [Bool.false_or, Bool.false_and, cond_false]
        obtain ⟨fr', σ', l1, l2⟩ := lp54_0 B nb K A S N' L C5 hL r (i + 1) (frE B O e) σ g4 (by omega) (by omega) (fun x hx => he x (by simp [hx]))
        rw [g6] at l1 l2
        refine ⟨fr', σ', Lp.step ⟨k2, fun N hN => ?_⟩ l1, l2⟩
        have hk2 := hk2 N hN
        simp -implicitDefEqProofs [b54_0, g1, g2, g3, hw, hk2, c6, c7, -appendH, -elemsM, -beq_iff_eq, -beq_eq_false_iff_ne]
      | true =>
        cases c1 : ((i : Int) == 1) with
        | true =>
          simp only [Bool.false_or, Bool.true_and, cond_true]
          obtain ⟨fr', σ', l1, l2⟩ := lp54_0 B nb K A S N' L C5 hL r (i + 1) (frE (S :: B) O e) (σ ++ [.arr true 1 (encSs B1)]) g4 (by omega) (by omega) (fun x hx => he x (by simp [hx]))
          rw [g6] at l1 l2
          refine ⟨fr', σ', Lp.step ⟨k1, fun N hN => ?_⟩ l1, l2⟩
          have hk1 := hk1 N hN
          simp -implicitDefEqProofs [b54_0, d54_1, g1, g2, g3, hw, hk1, hels, elemsM_sl, ap1, ap2, c6, c7, c1, -appendH, -elemsM, -beq_iff_eq, -beq_eq_false_iff_ne]
        | false =>
          simp only [Bool.false_or, Bool.true_and, cond_false]
          obtain ⟨fr', σ', l1, l2⟩ := lp54_0 B nb K A S N' L C5 hL r (i + 1) (frE B O e) σ g4 (by omega) (by omega) (fun x hx => he x (by simp [hx]))
          rw [g6] at l1 l2
          refine ⟨fr', σ', Lp.step ⟨k2, fun N hN => ?_⟩ l1, l2⟩
          have hk2 := hk2 N hN
          simp -implicitDefEqProofs [b54_0, g1, g2, g3, hw, hk2, c6, c7, c1, -appendH, -elemsM, -beq_iff_eq, -beq_eq_false_iff_ne]
set_option maxHeartbeats 2000000 in
theorem lp54_1 (B : List Str) (nb : Bool) (K A : Nat) (S : Str) (N' : Nat) (C4 : AV) (L : List AV) (hL : L.length < big) : ∀ (r : List Al) (i : Nat) (O : List Str) (σ : H), Tail L i (encAs r) → B.length + bdAs r ≤ 2 ^ 40 → O.length + vAs r ≤ 2 ^ 39 → (∀ y ∈ r, match y with | .mk _ _ _ b => FrOK b) →
    ∃ fr' σ', Lp ctx [27, 29, 33, 54, 56, 60, 83, 85, 92] [] [0, 2, 4, 9] b54_1 ⟨[(0, .v (encR 1 true (encSs O))), (2, .v (encR 1 nb (encSs B))), (4, .bx (.agg [.int .i64 K, .int .i64 A, .str S, .int .i64 N', C4, encR 9 true L])), (9, .v (.int .i64 i))], false⟩ σ (.ex 2) fr' σ' ∧ fr'.lk = false ∧
      getS fr'.sl 0 = .v (encR 1 true (encSs (frA B O r))) ∧ Hi2 5 9 fr' ∧ Hi2 74 95 fr'
  | [], i, O, σ, h, _, _, _ => by
    have h' := h.nil
    refine ⟨?_, σ, Lp.exit ⟨0, fun N _ => ?_⟩ (by simp), ?_⟩
    rotate_left
    · simp -implicitDefEqProofs [b54_1, h']
      rfl
    · refine ⟨rfl, by simp [frA], fun t h1 h2 => ?_, fun t h1 h2 => ?_⟩
      all_goals simp only [getS]
      all_goals repeat rw [if_neg (by omega)]
  | y :: r, i, O, σ, h, hb, hv, he => by
    have hlen := h.len
    simp only [encAs_cons] at h
    obtain ⟨g1, g2, g3, g4, g5⟩ := h.cons
    simp at hlen
    have hw := wrap_succ (n := i) (by omega)
    have g6 := g5 9 true
    have hy := he y (by simp)
    obtain ⟨a, c, ns, b⟩ := y
    simp only [bdAs] at hb
    simp only [vAs] at hv
    simp only at hy
    obtain ⟨B1, hB1⟩ : ∃ B1, B1 = B ++ ns := ⟨_, rfl⟩
    have hl1 : B1.length = B.length + ns.length := by rw [hB1]; simp
    have hels := elemsM_encS nb (encSs B)
    have hels2 := elemsM_encS true (encSs ns)
    have ap1 := app_end σ [] B 0 rfl (by omega)
    have ap2 := app_end σ B ns B.length rfl (by omega)
    rw [← hB1] at ap2
    have es0 : encSs ([] : List Str) = [] := rfl
    simp only [List.nil_append, es0, Nat.zero_add] at ap1 ap2
    have hc := frE_congr b B1 (ns ++ B) O (fun s => by rw [hB1]; simp [or_comm])
    obtain ⟨k1, hk1⟩ := hy.row O B1 (by omega) (by omega) σ (B.length + ns.length) hl1
    rw [hc] at hk1
    have hl2 := frE_len b (ns ++ B) O
    rw [g6]
    unfold frA
    obtain ⟨fr', σ', l1, l2⟩ := lp54_1 B nb K A S N' C4 L hL r (i + 1) (frE (ns ++ B) O b) (σ ++ [.arr true 1 (encSs B1)]) g4 (by omega) (by omega) (fun x hx => he x (by simp [hx]))
    rw [g6] at l1
    refine ⟨fr', σ', Lp.step ⟨k1, fun N hN => ?_⟩ l1, l2⟩
    have hk1 := hk1 N hN
    obtain ⟨bk, ba, bS, bn, bks, bas⟩ := b
    simp only [encA, cellsE] at g1
    simp only [encE_mk] at hk1
    simp -implicitDefEqProofs [b54_1, g1, g2, g3, hw, hk1, hels, hels2, elemsM_sl, ap1, ap2, -appendH, -elemsM, -beq_iff_eq, -beq_eq_false_iff_ne]
/-! ### with a name more, in a row of the heap -/
theorem encR_snoc (O : List Str) (s : Str) : encR 1 true (encSs (O ++ [s])) = .sl 1 (encSs (O ++ [s])) := by
  have : encSs (O ++ [s]) = encSs O ++ [.str s] := by simp [encSs]
  rw [this, encR_mid]
theorem FrOK.out {e : Ex} (h : FrOK e) (O : List Str) (hne : encR 1 true (encSs O) = .sl 1 (encSs O)) (B : List Str) (nb : Bool) (hB : B.length + bdE e ≤ 2 ^ 40) (hO : O.length + vE e ≤ 2 ^ 39) (n : Nat) (hn : O.length = n) :
    AnsH ctx 54 [.hs 0 n 0 n 1, encE e, encR 1 nb (encSs B)] [.arr false 1 (encSs O)] (encR 1 true (encSs (frE B O e))) [.arr true 1 (encSs O)] := by
  have ht : (encSs O).take n = encSs O := List.take_of_length_le (by simp [hn])
  have h2 := snapA_hs (n := 199) (v := n) (m := n) (σ := [HObj.arr false 1 (encSs O)]) (q := 0) (fz := false) (sz := 1) (xs := encSs O) rfl (by simp [hn]) (Nat.le_refl _) (by rw [ht]; simp)
  rw [ht] at h2
  have hsn : snapL [HObj.arr false 1 (encSs O)] [.hs 0 n 0 n 1, encE e, encR 1 nb (encSs B)] = some ([.sl 1 (encSs O), encE e, encR 1 nb (encSs B)], [0]) := by
    simp only [snapL, mapO2, h2, snapA_noRef (a := encR 1 nb (encSs B)) (by simp), snapA_noRef (a := encE e) (by simp), List.append_nil, List.nil_append]
  have hq := h O B nb hB hO
  rw [hne] at hq
  have hnr : AV.noRefs [.sl 1 (encSs O), encE e, encR 1 nb (encSs B)] = true := by simp [AV.noRefs]
  have := AnsH.lay (ns := [0]) fn54_ (by simp [AV.noRefs, AV.noRef]) hsn hnr hq
  cases hw : frE B O e with
  | nil => rw [hw] at this; exact this
  | cons x l => rw [hw] at this; exact this
theorem FrOK.both {e : Ex} (h : FrOK e) (O : List Str) (hne : encR 1 true (encSs O) = .sl 1 (encSs O)) (B : List Str) (hB : B.length + bdE e ≤ 2 ^ 40) (hO : O.length + vE e ≤ 2 ^ 39) (n m : Nat) (hn : O.length = n) (hm : B.length = m) :
    AnsH ctx 54 [.hs 0 n 0 n 1, encE e, .hs 1 m 0 m 1] [.arr false 1 (encSs O), .arr false 1 (encSs B)] (encR 1 true (encSs (frE B O e))) [.arr true 1 (encSs O), .arr true 1 (encSs B)] := by
  have ht : (encSs O).take n = encSs O := List.take_of_length_le (by simp [hn])
  have ht' : (encSs B).take m = encSs B := List.take_of_length_le (by simp [hm])
  have h2 := snapA_hs (n := 199) (v := n) (m := n) (σ := [HObj.arr false 1 (encSs O), .arr false 1 (encSs B)]) (q := 0) (fz := false) (sz := 1) (xs := encSs O) rfl (by simp [hn]) (Nat.le_refl _) (by rw [ht]; simp)
  have h3 := snapA_hs (n := 199) (v := m) (m := m) (σ := [HObj.arr false 1 (encSs O), .arr false 1 (encSs B)]) (q := 1) (fz := false) (sz := 1) (xs := encSs B) rfl (by simp [hm]) (Nat.le_refl _) (by rw [ht']; simp)
  rw [ht] at h2
  rw [ht'] at h3
  have hsn : snapL [HObj.arr false 1 (encSs O), .arr false 1 (encSs B)] [.hs 0 n 0 n 1, encE e, .hs 1 m 0 m 1] = some ([.sl 1 (encSs O), encE e, .sl 1 (encSs B)], [0, 1]) := by
    simp only [snapL, mapO2, h2, h3, snapA_noRef (a := encE e) (by simp), List.append_nil, List.nil_append, List.cons_append]
  have hq := h O B false hB hO
  rw [hne, encR_false] at hq
  have hnr : AV.noRefs [.sl 1 (encSs O), encE e, .sl 1 (encSs B)] = true := by simp [AV.noRefs]
  have := AnsH.lay (ns := [0, 1]) fn54_ (by simp [AV.noRefs, AV.noRef]) hsn hnr hq
  cases hw : frE B O e with
  | nil => rw [hw] at this; exact this
  | cons x l => rw [hw] at this; exact this
theorem wrap_1 : IntKind.i64.wrap 1 = 1 := by decide
theorem lp54_0h (O B : List Str) (hne : encR 1 true (encSs O) = .sl 1 (encSs O)) (nb : Bool) (A : Nat) (S : Str) (N' : Nat) (C5 : AV) (r : List Ex) (hL : r.length < big) (hb : B.length + 1 + bdEs r ≤ 2 ^ 40) (hv : O.length + vEs r ≤ 2 ^ 39) (he : ∀ e ∈ r, FrOK e) :
    ∃ fr' σ', Lp ctx [27, 29, 33, 54, 56, 60, 83, 85, 92] [] [0, 2, 4, 7] b54_0 ⟨[(0, .v (.hs 0 O.length 0 O.length 1)), (2, .v (encR 1 nb (encSs B))), (4, .bx (.agg [.int .i64 1, .int .i64 A, .str S, .int .i64 N', encR 6 true (encEs r), C5])), (7, .v (.int .i64 0))], false⟩ [.arr false 1 (encSs O)] (.ex 0) fr' σ' ∧ fr'.lk = false ∧
      (match r with | [] => getS fr'.sl 0 = .v (.hs 0 O.length 0 O.length 1) ∧ σ' = [.arr false 1 (encSs O)] | _ :: _ => getS fr'.sl 0 = .v (encR 1 true (encSs (frK 1 S 0 B O r)))) ∧ getS fr'.sl 2 = .v (encR 1 nb (encSs B)) ∧ getS fr'.sl 4 = .bx (.agg [.int .i64 1, .int .i64 A, .str S, .int .i64 N', encR 6 true (encEs r), C5]) ∧ Hi2 8 34 fr' ∧ Hi2 39 95 fr' := by
  cases r with
  | nil =>
    have h' := (Tail.all (encEs [])).nil
    refine ⟨?_, [.arr false 1 (encSs O)], Lp.exit ⟨0, fun N _ => ?_⟩ (by simp), ?_⟩
    rotate_left
    · simp -implicitDefEqProofs [b54_0, encEs_map]
      rfl
    · refine ⟨rfl, ⟨by simp, rfl⟩, by simp, by simp [encEs_map], fun t h1 h2 => ?_, fun t h1 h2 => ?_⟩
      all_goals simp only [getS]
      all_goals repeat rw [if_neg (by omega)]
  | cons e r =>
    have h := Tail.all (encEs (e :: r))
    have hlen := h.len
    simp only [encEs_cons] at h ⊢
    obtain ⟨g1, g2, g3, g4, g5⟩ := h.cons
    simp only [bdEs] at hb
    simp only [vEs] at hv
    have g6 := g5 6 true
    obtain ⟨k1, hk1⟩ := (he e (by simp)).out O hne B nb (by omega) (by omega) O.length rfl
    have hl3 := frE_len e B O
    obtain ⟨fr', σ', l1, l2, l3, l4⟩ := lp54_0 B nb 1 A S N' (encE e :: encEs r) C5 (by simpa using hL) r 1 (frE B O e) [.arr true 1 (encSs O)] g4 (by omega) (by omega) (fun x hx => he x (by simp [hx]))
    rw [g6] at l1 l4 ⊢
    refine ⟨fr', σ', Lp.step ⟨k1, fun N hN => ?_⟩ l1, l2, ?_, l4⟩
    · have hk1 := hk1 N hN
      simp -implicitDefEqProofs [b54_0, hk1, wrap_1, -appendH, -elemsM]
    · have : frK 1 S 0 B O (e :: r) = frK 1 S 1 B (frE B O e) r := by simp only [frK]; rfl
      rw [this]
      exact l3
theorem lp54_1h (O B : List Str) (hne : encR 1 true (encSs O) = .sl 1 (encSs O)) (nb : Bool) (A : Nat) (S : Str) (N' : Nat) (C4 : AV) (r : List Al) (hL : r.length < big) (hb : B.length + bdAs r ≤ 2 ^ 40) (hv : O.length + vAs r ≤ 2 ^ 39) (he : ∀ y ∈ r, match y with | .mk _ _ _ b => FrOK b) :
    ∃ fr' σ', Lp ctx [27, 29, 33, 54, 56, 60, 83, 85, 92] [] [0, 2, 4, 9] b54_1 ⟨[(0, .v (.hs 0 O.length 0 O.length 1)), (2, .v (encR 1 nb (encSs B))), (4, .bx (.agg [.int .i64 1, .int .i64 A, .str S, .int .i64 N', C4, encR 9 true (encAs r)])), (9, .v (.int .i64 0))], false⟩ [.arr false 1 (encSs O)] (.ex 2) fr' σ' ∧ fr'.lk = false ∧
      (match r with | [] => getS fr'.sl 0 = .v (.hs 0 O.length 0 O.length 1) ∧ σ' = [.arr false 1 (encSs O)] | _ :: _ => getS fr'.sl 0 = .v (encR 1 true (encSs (frA B O r)))) ∧ Hi2 5 9 fr' ∧ Hi2 74 95 fr' := by
  cases r with
  | nil =>
    refine ⟨?_, [.arr false 1 (encSs O)], Lp.exit ⟨0, fun N _ => ?_⟩ (by simp), ?_⟩
    rotate_left
    · simp -implicitDefEqProofs [b54_1, encAs]
      rfl
    · refine ⟨rfl, ⟨by simp, rfl⟩, fun t h1 h2 => ?_, fun t h1 h2 => ?_⟩
      all_goals simp only [getS]
      all_goals repeat rw [if_neg (by omega)]
  | cons y r =>
    have h := Tail.all (encAs (y :: r))
    have hlen := h.len
    simp only [encAs_cons] at h ⊢
    obtain ⟨g1, g2, g3, g4, g5⟩ := h.cons
    have g6 := g5 9 true
    have hy := he y (by simp)
    obtain ⟨a, c, ns, b⟩ := y
    simp only [bdAs] at hb
    simp only [vAs] at hv
    simp only at hy
    obtain ⟨B1, hB1⟩ : ∃ B1, B1 = B ++ ns := ⟨_, rfl⟩
    have hl1 : B1.length = B.length + ns.length := by rw [hB1]; simp
    have hels := elemsM_encS nb (encSs B)
    have hels2 := elemsM_encS true (encSs ns)
    have ap1 := app_end [.arr false 1 (encSs O)] [] B 0 rfl (by omega)
    have ap2 := app_end [.arr false 1 (encSs O)] B ns B.length rfl (by omega)
    rw [← hB1] at ap2
    have es0 : encSs ([] : List Str) = [] := rfl
    simp only [List.nil_append, es0, Nat.zero_add, List.length_singleton, List.cons_append] at ap1 ap2
    have hc := frE_congr b B1 (ns ++ B) O (fun s => by rw [hB1]; simp [or_comm])
    obtain ⟨k1, hk1⟩ := hy.both O hne B1 (by omega) (by omega) O.length (B.length + ns.length) rfl hl1
    rw [hc] at hk1
    have hl2 := frE_len b (ns ++ B) O
    obtain ⟨fr', σ', l1, l2, l3, l4⟩ := lp54_1 B nb 1 A S N' C4 (encA (.mk a c ns b) :: encAs r) (by simpa using hL) r 1 (frE (ns ++ B) O b) [.arr true 1 (encSs O), .arr true 1 (encSs B1)] g4 (by omega) (by omega) (fun x hx => he x (by simp [hx]))
    rw [g6] at l1 ⊢
    refine ⟨fr', σ', Lp.step ⟨k1, fun N hN => ?_⟩ l1, l2, ?_, l4⟩
    · have hk1 := hk1 N hN
      obtain ⟨bk, ba, bS, bn, bks, bas⟩ := b
      simp only [encA, cellsE] at g1 ⊢
      simp only [encE_mk] at hk1
      simp -implicitDefEqProofs [b54_1, hk1, wrap_1, hels, hels2, elemsM_sl, ap1, ap2, -appendH, -elemsM, -beq_iff_eq, -beq_eq_false_iff_ne]
    · have : frA B O (.mk a c ns b :: r) = frA B (frE (ns ++ B) O b) r := by simp [frA]
      rw [this]
      exact l3
set_option maxHeartbeats 2000000 in
theorem free_body (k a : Nat) (s : Str) (n : Nat) (ks : List Ex) (as : List Al) (hkl : ks.length < big) (hal : as.length < big) (h1 : ∀ x ∈ ks, FrOK x) (h2 : ∀ y ∈ as, match y with | .mk _ _ _ b => FrOK b) : FrOK (.mk k a s n ks as) := by
  intro O B nb hb hv
  simp only [bdE] at hb
  simp only [vE] at hv
  have hBl : B.length < big := by unfold big; omega
  have hOl : O.length < big := by unfold big; omega
  have hal1 := addF_len k s B O
  have hfk := frK_len k s ks 0 B (addF k s B O)
  obtain ⟨fr0, σ1, p1, p2, p3, p4, p5, p6, p7⟩ := lp54_0 B nb k a s n (encEs ks) (encR 9 true (encAs as)) (by simpa using hkl) ks 0 (addF k s B O) [] (Tail.all _) (by omega) (by omega) h1
  obtain ⟨k0, hk0⟩ := p1.den
  unfold Hi2 at p6 p7
  obtain ⟨fr1, σ2, q1, q2, q3, q4, q5⟩ := lp54_1 B nb k a s n (encR 6 true (encEs ks)) (encAs as) (by simpa using hal) as 0 (frK k s 0 B (addF k s B O) ks) σ1 (Tail.all _) (by omega) (by omega) h2
  obtain ⟨k1, hk1⟩ := q1.den
  unfold Hi2 at q4 q5
  have efr : frE B O (.mk k a s n ks as) = frA B (frK k s 0 B (addF k s B O) ks) as := by simp [frE]
  rw [efr]
  obtain ⟨kb, hkb⟩ := place_ans B nb hBl s
  obtain ⟨ko, hko⟩ := place_ans O true hOl s
  have hnr : AV.noRefs [encR 1 true (encSs O), encE (.mk k a s n ks as), encR 1 nb (encSs B)] = true := by simp [AV.noRefs]
  have b1 : ((k : Int) == 1) = Nat.beq k 1 := (beq_int k 1).symm
  have wr : ∀ l : List Str, (encR 1 true (encSs l)).noRef = true := fun l => by simp
  rw [encE_mk] at hnr ⊢
  simp only [Int.cast_ofNat_Int, encEs_length, encAs_length] at hk0 hk1
  have skip : addF k s B O = O → Nat.beq k 1 = false ∨ 0 ≤ place B s ∨ 0 ≤ place O s → Ans ctx 54 [encR 1 true (encSs O), .agg [.int .i64 k, .int .i64 a, .str s, .int .i64 n, encR 6 true (encEs ks), encR 9 true (encAs as)], encR 1 nb (encSs B)] (encR 1 true (encSs (frA B (frK k s 0 B (addF k s B O) ks) as))) := fun e hcase => by
    rw [e] at hk0 hk1 p3 q3 ⊢
    refine Ans.of (σ' := σ2) fn54_ hnr (wr _) ⟨kb + ko + k0 + k1, fun N hN => ?_⟩
    have hkb := hkb N (by omega)
    have hko := hko N (by omega)
    have hk0 := hk0 N (by omega)
    have hk1 := hk1 N (by omega)
    cases c1 : Nat.beq k 1 with
    | false =>
      rw [c1] at b1
      simp -implicitDefEqProofs [i54, c54, b1, hk0, p2, p3, p4, p5, p6, p7, hk1, q2, q3, q4, q5, -beq_iff_eq, -beq_eq_false_iff_ne]
    | true =>
      rw [c1] at b1
      by_cases hB : place B s < 0
      · have hO : ¬ place O s < 0 := by
          rcases hcase with h | h | h
          · rw [c1] at h; cases h
          · omega
          · omega
        simp -implicitDefEqProofs [i54, c54, b1, hkb, hko, hB, hO, hk0, p2, p3, p4, p5, p6, p7, hk1, q2, q3, q4, q5, -beq_iff_eq, -beq_eq_false_iff_ne]
      · simp -implicitDefEqProofs [i54, c54, b1, hkb, hB, hk0, p2, p3, p4, p5, p6, p7, hk1, q2, q3, q4, q5, -beq_iff_eq, -beq_eq_false_iff_ne]
  by_cases hyes : k = 1 ∧ s ∉ B ∧ s ∉ O
  · have c1 : Nat.beq k 1 = true := by rw [hyes.1]; rfl
    rw [c1] at b1
    have hB : place B s = -1 := place_no (by
      cases hx : B.any (eqS s) with
      | false => rfl
      | true => exact absurd (any_eqS.1 hx) hyes.2.1)
    have hO : place O s = -1 := place_no (by
      cases hx : O.any (eqS s) with
      | false => rfl
      | true => exact absurd (any_eqS.1 hx) hyes.2.2)
    rw [hB] at hkb
    rw [hO] at hko
    clear skip hk0 hk1 p1 q1 p2 p3 p4 p5 p6 p7 q2 q3 q4 q5
    have hadd := addF_yes hyes
    rw [hadd] at hal1 hfk ⊢
    obtain rfl := hyes.1
    have hne := encR_snoc O s
    have hels := elemsM_encS true (encSs O)
    have ap1 := app_end [] [] O 0 rfl (by omega)
    have ap2 := app_end [] O [s] O.length rfl (by simp; omega)
    obtain ⟨O1, hO1⟩ : ∃ O1, O1 = O ++ [s] := ⟨_, rfl⟩
    rw [← hO1] at ap2 hne hfk hal1 ⊢
    have hl1 : O1.length = O.length + 1 := by rw [hO1]; simp
    have es1 : encSs [s] = [.str s] := rfl
    have es0 : encSs ([] : List Str) = [] := rfl
    simp only [List.nil_append, es0, es1, Nat.zero_add, List.length_singleton, List.length_nil] at ap1 ap2
    rw [← hl1] at ap2
    simp only [if_true] at hv
    obtain ⟨fr0, σ1, p1, p2, p3, p4, p5, p6, p7⟩ := lp54_0h O1 B hne nb a s n (encR 9 true (encAs as)) ks hkl (by omega) (by omega) h1
    obtain ⟨k0, hk0⟩ := p1.den
    unfold Hi2 at p6 p7
    cases ks with
    | cons e ks =>
      simp only at p3
      obtain ⟨fr1, σ2, q1, q2, q3, q4, q5⟩ := lp54_1 B nb 1 a s n (encR 6 true (encEs (e :: ks))) (encAs as) (by simpa using hal) as 0 (frK 1 s 0 B O1 (e :: ks)) σ1 (Tail.all _) (by omega) (by omega) h2
      obtain ⟨k1, hk1⟩ := q1.den
      unfold Hi2 at q4 q5
      simp only [Int.cast_ofNat_Int] at hk0 hk1
      refine Ans.of (σ' := σ2) fn54_ hnr (wr _) ⟨kb + ko + k0 + k1, fun N hN => ?_⟩
      have hkb := hkb N (by omega)
      have hko := hko N (by omega)
      have hk0 := hk0 N (by omega)
      have hk1 := hk1 N (by omega)
      simp -implicitDefEqProofs [i54, c54, d54_0, hkb, hko, hels, elemsM_sl, ap1, ap2, hk0, p2, p3, p4, p5, p6, p7, hk1, q2, q3, q4, q5, -appendH, -elemsM, -beq_iff_eq, -beq_eq_false_iff_ne]
    | nil =>
      obtain ⟨p3, rfl⟩ := p3
      obtain ⟨fr1, σ2, q1, q2, q3, q4, q5⟩ := lp54_1h O1 B hne nb a s n (encR 6 true (encEs [])) as hal (by omega) (by simp only [vEs] at hv hfk; omega) h2
      obtain ⟨k1, hk1⟩ := q1.den
      unfold Hi2 at q4 q5
      have ek : frK 1 s 0 B O1 [] = O1 := by simp [frK]
      rw [ek]
      cases as with
      | cons y as =>
        simp only at q3
        refine Ans.of (σ' := σ2) fn54_ hnr (wr _) ⟨kb + ko + k0 + k1, fun N hN => ?_⟩
        have hkb := hkb N (by omega)
        have hko := hko N (by omega)
        have hk0 := hk0 N (by omega)
        have hk1 := hk1 N (by omega)
        simp -implicitDefEqProofs [i54, c54, d54_0, hkb, hko, hels, elemsM_sl, ap1, ap2, hk0, p2, p3, p4, p5, p6, p7, hk1, q2, q3, q4, q5, -appendH, -elemsM, -beq_iff_eq, -beq_eq_false_iff_ne]
      | nil =>
        obtain ⟨q3, rfl⟩ := q3
        have ea : frA B O1 [] = O1 := by simp [frA]
        rw [ea, hne]
        have ht : (encSs O1).take O1.length = encSs O1 := List.take_of_length_le (by simp)
        have w := snapA_hs (n := 199) (v := O1.length) (m := O1.length) (σ := [HObj.arr false 1 (encSs O1)]) (q := 0) (fz := false) (sz := 1) (xs := encSs O1) rfl (by simp) (Nat.le_refl _) (by rw [ht]; simp)
        rw [ht] at w
        refine Ans.fn (σ' := [.arr false 1 (encSs O1)]) (rs := []) fn54_ hnr ⟨kb + ko + k0 + k1, fun N hN => ?_⟩ w
        have hkb := hkb N (by omega)
        have hko := hko N (by omega)
        have hk0 := hk0 N (by omega)
        have hk1 := hk1 N (by omega)
        simp -implicitDefEqProofs [i54, c54, d54_0, hkb, hko, hels, elemsM_sl, ap1, ap2, hk0, p2, p3, p4, p5, p6, p7, hk1, q2, q3, q4, q5, -appendH, -elemsM, -beq_iff_eq, -beq_eq_false_iff_ne]
  · refine skip (addF_no hyes) ?_
    cases c1 : Nat.beq k 1 with
    | false => exact .inl rfl
    | true =>
      have hk1 : k = 1 := Nat.eq_of_beq_eq_true c1
      by_cases hB : s ∈ B
      · exact .inr (.inl (place_yes (any_eqS.2 hB)))
      · refine .inr (.inr (place_yes (any_eqS.2 ?_)))
        exact Classical.byContradiction fun hO => hyes ⟨hk1, hB, hO⟩
mutual
theorem rfree_ok : ∀ e : Ex, okE e → FrOK e
  | .mk k a s n ks as, h => by
    unfold okE at h
    exact free_body k a s n ks as (by have := h.1; unfold lim at this; unfold big; omega) (by have := h.2.1; unfold lim at this; unfold big; omega) (rfrees_ok ks h.2.2.1) (rfreeA_ok as h.2.2.2)
theorem rfrees_ok : ∀ l : List Ex, okEs l → ∀ x ∈ l, FrOK x
  | [], _, x, hx => by cases hx
  | e :: l, h, x, hx => by
    unfold okEs at h
    rcases List.mem_cons.1 hx with e1 | hx
    · rw [e1]; exact rfree_ok e h.1
    · exact rfrees_ok l h.2 x hx
theorem rfreeA_ok : ∀ l : List Al, okAs l → ∀ y ∈ l, match y with | .mk _ _ _ b => FrOK b
  | [], _, y, hy => by cases hy
  | .mk a c ns b :: l, h, y, hy => by
    unfold okAs okA at h
    rcases List.mem_cons.1 hy with e1 | hy
    · rw [e1]; exact rfree_ok b h.1.2
    · exact rfreeA_ok l h.2 y hy
end
theorem rfree_ans (e : Ex) (h : okF e) (hb : bdE e ≤ 700000000000) : Ans ctx 23 [encE e] (encR 1 true (encSs (frE [] [] e))) := by
  have hv := h.v
  obtain ⟨k, hk⟩ := rfree_ok e h.ok [] [] true (by simp; omega) (by simp; omega)
  refine Ans.of (σ' := []) fn23_ (by simp) (by simp) ⟨k, fun N hN => ?_⟩
  have hk := hk N hN
  have es0 : encSs ([] : List Str) = [] := rfl
  rw [es0, encR_tnil] at hk
  obtain ⟨bk, ba, bS, bn, bks, bas⟩ := e
  rw [encE_mk] at hk ⊢
  simp -implicitDefEqProofs [i23, c23, hk]
def encIs (l : List Int) : List AV := l.map (AV.int .i64)
@[simp] theorem encIs_cons (x : Int) (l : List Int) : encIs (x :: l) = .int .i64 x :: encIs l := rfl
def encNs (l : List Nat) : List AV := l.map fun (n : Nat) => AV.int .i64 (n : Int)
@[simp] theorem encNs_length (l : List Nat) : (encNs l).length = l.length := by simp [encNs]
@[simp] theorem encNs_nil : encNs [] = [] := rfl
theorem encNs_cons (x : Nat) (l : List Nat) : encNs (x :: l) = .int .i64 x :: encNs l := rfl
theorem encNs_app (l m : List Nat) : encNs (l ++ m) = encNs l ++ encNs m := by simp [encNs]
@[simp] theorem noRefs_encNs : ∀ l, AV.noRefs (encNs l) = true
  | [] => rfl
  | x :: l => by
    have := noRefs_encNs l
    simp only [encNs_cons, AV.noRefs, AV.noRef, Bool.true_and]
    exact this
theorem encNs_Is (l : List Nat) : encNs l = encIs (l.map fun (n : Nat) => (n : Int)) := by simp [encNs, encIs]
def tiI : TI := ⟨.int .i64, 1, 8, .int .i64 0, [.int .i64]⟩
def insN (x : Nat) : List Nat → List Nat
  | [] => [x]
  | y :: l => if x ≤ y then x :: y :: l else y :: insN x l
def sortN : List Nat → List Nat
  | [] => []
  | x :: l => insN x (sortN l)
theorem insN_mem {x y : Nat} : ∀ {l : List Nat}, y ∈ insN x l ↔ y = x ∨ y ∈ l
  | [] => by simp [insN]
  | z :: l => by
    unfold insN
    split
    · simp
    · simp only [List.mem_cons, insN_mem (l := l)]
      constructor
      · rintro (h | h | h)
        · exact .inr (.inl h)
        · exact .inl h
        · exact .inr (.inr h)
      · rintro (h | h | h)
        · exact .inr (.inl h)
        · exact .inl h
        · exact .inr (.inr h)
theorem sortN_mem {y : Nat} : ∀ {l : List Nat}, y ∈ sortN l ↔ y ∈ l
  | [] => by simp [sortN]
  | z :: l => by simp [sortN, insN_mem, sortN_mem (l := l)]
theorem insN_lt {x : Nat} : ∀ {l : List Nat}, l.Pairwise (· < ·) → x ∉ l → (insN x l).Pairwise (· < ·)
  | [], _, _ => by simp [insN]
  | z :: l, h, hx => by
    rw [List.pairwise_cons] at h
    simp only [List.mem_cons, not_or] at hx
    unfold insN
    split
    · rw [List.pairwise_cons, List.pairwise_cons]
      exact ⟨fun y hy => (by
        rcases List.mem_cons.1 hy with h1 | h1
        · omega
        · have := h.1 y h1; omega), h⟩
    · rw [List.pairwise_cons]
      exact ⟨fun y hy => (by
        rcases insN_mem.1 hy with h1 | h1
        · omega
        · exact h.1 y h1), insN_lt h.2 hx.2⟩
theorem sortN_lt : ∀ {l : List Nat}, l.Nodup → (sortN l).Pairwise (· < ·)
  | [], _ => by simp [sortN]
  | x :: l, h => by
    rw [List.nodup_cons] at h
    exact insN_lt (sortN_lt h.2) (by rw [sortN_mem]; exact h.1)
theorem pw_ext {l m : List Nat} (hl : l.Pairwise (· < ·)) (hm : m.Pairwise (· < ·)) (h : ∀ x, x ∈ l ↔ x ∈ m) : l = m := by
  induction l generalizing m with
  | nil =>
    cases m with
    | nil => rfl
    | cons y m => have := (h y).2 (by simp); cases this
  | cons x l ih =>
    cases m with
    | nil => have := (h x).1 (by simp); cases this
    | cons y m =>
      rw [List.pairwise_cons] at hl hm
      have e : x = y := by
        have h1 := (h x).1 (by simp)
        have h2 := (h y).2 (by simp)
        rcases List.mem_cons.1 h1 with h1 | h1
        · exact h1
        · rcases List.mem_cons.1 h2 with h2 | h2
          · exact h2.symm
          · have := hl.1 y h2; have := hm.1 x h1; omega
      subst e
      congr 1
      refine ih hl.2 hm.2 fun z => ?_
      constructor
      · intro hz
        have := (h z).1 (by simp [hz])
        rcases List.mem_cons.1 this with k | k
        · subst k; have := hl.1 z hz; omega
        · exact k
      · intro hz
        have := (h z).2 (by simp [hz])
        rcases List.mem_cons.1 this with k | k
        · subst k; have := hm.1 z hz; omega
        · exact k
theorem unAll_Is : ∀ l : List Int, unAll unI (encIs l) = some l
  | [] => rfl
  | x :: l => by simp only [encIs_cons, unAll, unI, unAll_Is l]
theorem setCells_all : ∀ (xs ys pre : List AV), xs.length = ys.length → setCells (pre ++ xs) pre.length ys = pre ++ ys
  | [], [], pre, _ => by simp [setCells]
  | [], _ :: _, _, h => by simp at h
  | _ :: _, [], _, h => by simp at h
  | x :: xs, y :: ys, pre, h => by
    simp only [setCells]
    have e : (pre ++ x :: xs).set pre.length y = (pre ++ [y]) ++ xs := by
      rw [List.set_append_right _ _ (Nat.le_refl _)]
      simp
    rw [e]
    have := setCells_all xs ys (pre ++ [y]) (by simpa using h)
    simp only [List.length_append, List.length_singleton] at this
    rw [this]; simp
theorem sort_nats (l : List Nat) (hl : l.Nodup) : (l.map fun (n : Nat) => (n : Int)).mergeSort (fun x y => decide (x ≤ y)) = (sortN l).map fun (n : Nat) => (n : Int) := by
  generalize hM : (l.map fun (n : Nat) => (n : Int)).mergeSort (fun x y => decide (x ≤ y)) = M
  have hperm : M.Perm (l.map fun (n : Nat) => (n : Int)) := by rw [← hM]; exact List.mergeSort_perm _ _
  have hsorted : M.Pairwise fun a b => a ≤ b := by
    have := List.pairwise_mergeSort (le := fun (x y : Int) => decide (x ≤ y)) (fun a b c h1 h2 => by simp at *; omega) (fun a b => by simp; omega) (l.map fun (n : Nat) => (n : Int))
    rw [hM] at this
    exact this.imp fun h => by simpa using h
  have hnn : ∀ x ∈ M, 0 ≤ x := fun x hx => by
    have := (hperm.mem_iff).1 hx
    obtain ⟨n, _, rfl⟩ := List.mem_map.1 this
    omega
  have hnd : M.Nodup := hperm.nodup_iff.2 (by
    rw [List.nodup_iff_pairwise_ne, List.pairwise_map]
    rw [List.nodup_iff_pairwise_ne] at hl
    exact hl.imp fun h e => h (by omega))
  have hlt : M.Pairwise fun a b => a < b := by
    rw [List.nodup_iff_pairwise_ne] at hnd
    exact (hsorted.and hnd).imp fun ⟨h1, h2⟩ => by omega
  have e : M.map Int.toNat = sortN l := by
    refine pw_ext ?_ (sortN_lt hl) fun x => ?_
    · rw [List.pairwise_map]
      exact hlt.imp_of_mem fun ha hb h => by have := hnn _ ha; have := hnn _ hb; omega
    · rw [sortN_mem, List.mem_map]
      constructor
      · rintro ⟨y, hy, rfl⟩
        obtain ⟨n, hn, rfl⟩ := List.mem_map.1 (hperm.mem_iff.1 hy)
        simpa using hn
      · intro hx
        exact ⟨(x : Int), hperm.mem_iff.2 (List.mem_map.2 ⟨x, hx, rfl⟩), by simp⟩
  rw [← e, List.map_map]
  have : ∀ (L : List Int), (∀ x ∈ L, 0 ≤ x) → L.map ((fun (n : Nat) => (n : Int)) ∘ Int.toNat) = L := fun L => by
    induction L with
    | nil => intro _; rfl
    | cons x L ih =>
      intro h
      rw [List.map_cons, ih fun y hy => h y (by simp [hy])]
      congr 1
      have := h x (by simp)
      show ((x.toNat : Nat) : Int) = x
      omega
  exact (this M hnn).symm
theorem app_raw2 (te : TI) {σ : H} {q2 : Nat} {xs : List AV} {y : AV} (h : RowAt σ q2 te.size xs) (hy : y.fits te = true) (hb : (xs.length + 1) * te.bytes ≤ 2 ^ 45) (hl : xs.length + 1 ≤ 2 ^ 45) :
    ∃ q3 σ', appendH te (rowV q2 xs.length te.size) [y] σ = some (rowV q3 (xs.length + 1) te.size, σ') ∧ σ'[q3]? = some (.arr false te.size (xs ++ [y])) ∧ σ.length ≤ σ'.length ∧ (∀ j o, σ[j]? = some o → (xs ≠ [] → j ≠ q2) → σ'[j]? = some o) ∧ (∀ j, j < σ.length → (xs ≠ [] → j ≠ q2) → j ≠ q3) := by
  cases xs with
  | nil =>
    simp only [List.length_nil, Nat.zero_add, Nat.one_mul] at hb
    refine ⟨σ.length, σ ++ [.arr false te.size [y]], ?_, by simp, by simp, fun j o hj _ => ?_, fun j hj _ => by omega⟩
    · simp [rowV, appendH, hy, fitAll, hb]
    · rw [List.getElem?_append_left (List.getElem?_eq_some_iff.1 hj).1]; exact hj
  | cons x l =>
    have h1 := h (by simp)
    simp at hb hl
    have e1 : l.length + 1 + 1 ≤ 35184372088832 := by omega
    have e3 : ¬ l.length + 1 + 1 ≤ l.length + 1 := by omega
    have e4 : l.length + 1 ≤ 35184372088831 := by omega
    have e5 : l.length ≤ 35184372088830 := by omega
    have hl2 := (List.getElem?_eq_some_iff.1 h1).1
    refine ⟨q2, σ.set q2 (.arr false te.size (x :: l ++ [y])), ?_, List.getElem?_set_self hl2, by simp, fun j o hj hq => ?_, fun j _ hq => hq (by simp)⟩
    · simp [rowV, appendH, hy, fitAll, hb, e1, e3, e4, e5, arrAt, h1]
    · rw [List.getElem?_set_ne (fun e => hq (by simp) e.symm)]; exact hj
theorem rowV_inj {q q' m : Nat} (h : rowV q (m + 1) 1 = rowV q' (m + 1) 1) : q = q' := by simpa [rowV] using h
structure Tb (σ : H) (p : Nat) (cells : List AV) (L : List (List Nat)) : Prop where
  len : cells.length = L.length
  tab : σ[p]? = some (.arr false 1 cells)
  at' : ∀ (i : Nat) l, L[i]? = some l → ∃ q, cells[i]? = some (rowV q l.length 1) ∧ RowAt σ q 1 (encNs l) ∧ (l ≠ [] → q ≠ p ∧ q < σ.length)
  dis : ∀ (i j : Nat) l m q, i ≠ j → L[i]? = some l → L[j]? = some m → l ≠ [] → m ≠ [] → cells[i]? = some (rowV q l.length 1) → cells[j]? ≠ some (rowV q m.length 1)
def Tb.Owns (p : Nat) (cells : List AV) (L : List (List Nat)) (j : Nat) : Prop := j = p ∨ ∃ (i : Nat) (l : List Nat), L[i]? = some l ∧ l ≠ [] ∧ cells[i]? = some (rowV j l.length 1)
theorem Tb.keep {σ σ' : H} {p : Nat} {cells : List AV} {L : List (List Nat)} (h : Tb σ p cells L) (hk : ∀ j, j < σ.length → Tb.Owns p cells L j → σ'[j]? = σ[j]?) (hl : σ.length ≤ σ'.length) : Tb σ' p cells L := by
  have hp := (List.getElem?_eq_some_iff.1 h.tab).1
  refine ⟨h.len, by rw [hk p hp (.inl rfl)]; exact h.tab, fun i l hi => ?_, h.dis⟩
  obtain ⟨q, c1, c2, c3⟩ := h.at' i l hi
  refine ⟨q, c1, fun hx => ?_, fun hne => ⟨(c3 hne).1, by have := (c3 hne).2; omega⟩⟩
  have hne : l ≠ [] := fun e => hx (by rw [e]; rfl)
  rw [hk q (c3 hne).2 (.inr ⟨i, l, hi, hne, c1⟩)]
  exact c2 hx
theorem rowV_inj2 {q q' : Nat} {l : List Nat} (hl : l ≠ []) (h : rowV q l.length 1 = rowV q' l.length 1) : q = q' := by
  obtain ⟨m, hm⟩ : ∃ m, l.length = m + 1 := ⟨l.length - 1, by have := List.length_pos_iff.2 hl; omega⟩
  rw [hm] at h
  exact rowV_inj h
theorem Tb.push {σ : H} {p : Nat} {cells : List AV} {L : List (List Nat)} (h : Tb σ p cells L) {a : Nat} {la : List Nat} (ha : L[a]? = some la) (y : Nat) (hb : la.length ≤ 2 ^ 30) :
    ∃ q q' σ1 c', cells[a]? = some (rowV q la.length 1) ∧ appendH tiI (rowV q la.length 1) [.int .i64 (y : Int)] σ = some (c', σ1) ∧ c' = rowV q' (la.length + 1) 1 ∧ σ1[p]? = some (.arr false 1 cells) ∧ Tb (σ1.set p (.arr false 1 (cells.set a c'))) p (cells.set a c') (L.set a (la ++ [y])) ∧
      (∀ j, j < σ.length → ¬ Tb.Owns p cells L j → σ1[j]? = σ[j]? ∧ ¬ Tb.Owns p (cells.set a c') (L.set a (la ++ [y])) j) ∧ σ.length ≤ σ1.length := by
  have hp := (List.getElem?_eq_some_iff.1 h.tab).1
  have hal := (List.getElem?_eq_some_iff.1 ha).1
  have hcl := h.len
  obtain ⟨q, c1, c2, c3⟩ := h.at' a la ha
  have hle : (encNs la).length = la.length := by simp
  obtain ⟨q', σ1, p1, p2, p3, p4, p5⟩ := app_raw2 tiI (y := .int .i64 (y : Int)) (xs := encNs la) c2 (by simp [tiI]) (by simp [tiI]; omega) (by simp; omega)
  rw [hle] at p1
  have hE : encNs la ++ [.int .i64 (y : Int)] = encNs (la ++ [y]) := by rw [encNs_app]; rfl
  rw [hE] at p2
  have hnn : ∀ {P : Prop}, (la ≠ [] → P) → encNs la ≠ [] → P := fun k hx => k fun e => hx (by rw [e]; rfl)
  have keep : ∀ j, j < σ.length → (la ≠ [] → j ≠ q) → σ1[j]? = σ[j]? ∧ j ≠ q' := fun j hj hn => by
    have := List.getElem?_eq_getElem hj
    rw [this]
    exact ⟨p4 j _ this (hnn hn), p5 j hj (hnn hn)⟩
  obtain ⟨kp1, kp2⟩ := keep p hp (fun hne e => (c3 hne).1 e.symm)
  have hq' : q' < σ1.length := (List.getElem?_eq_some_iff.1 p2).1
  refine ⟨q, q', σ1, rowV q' (la.length + 1) 1, c1, p1, rfl, by rw [kp1]; exact h.tab, ⟨by simp [hcl], by rw [List.getElem?_set_self (by omega)], fun i l hi => ?_, fun i j l m r hij hi hj hl hm e1 e2 => ?_⟩, fun j hj hn => ?_, p3⟩
  · by_cases hia : a = i
    · subst hia
      rw [List.getElem?_set_self hal] at hi
      simp at hi
      subst hi
      refine ⟨q', by rw [List.getElem?_set_self (by omega)]; simp, fun _ => ?_, fun _ => ⟨fun e => kp2 e.symm, by simpa using hq'⟩⟩
      rw [List.getElem?_set_ne kp2]; exact p2
    · rw [List.getElem?_set_ne hia] at hi
      obtain ⟨r, d1, d2, d3⟩ := h.at' i l hi
      refine ⟨r, by rw [List.getElem?_set_ne hia]; exact d1, fun hx => ?_, fun hne => ⟨(d3 hne).1, by have := (d3 hne).2; simp; omega⟩⟩
      have hne : l ≠ [] := fun e => hx (by rw [e]; rfl)
      obtain ⟨f1, f2⟩ := d3 hne
      rw [List.getElem?_set_ne (Ne.symm f1), (keep r f2 (fun hla e => h.dis a i la l q hia ha hi hla hne c1 (by rw [← e]; exact d1))).1]
      exact d2 hx
  · by_cases hia : a = i
    · subst hia
      rw [List.getElem?_set_self hal] at hi
      simp at hi
      subst hi
      rw [List.getElem?_set_self (by omega)] at e1
      rw [List.getElem?_set_ne hij] at hj e2
      have e1 : rowV q' (la.length + 1) 1 = rowV r (la.length + 1) 1 := by simpa using e1
      have e1 := rowV_inj e1
      obtain ⟨r', d1, d2, d3⟩ := h.at' j m hj
      rw [d1] at e2
      have e2 := rowV_inj2 hm (Option.some.inj e2)
      have := (keep r' (d3 hm).2 (fun hla e => h.dis a j la m q hij ha hj hla hm c1 (by rw [← e]; exact d1))).2
      omega
    · rw [List.getElem?_set_ne hia] at hi e1
      by_cases hja : a = j
      · subst hja
        rw [List.getElem?_set_self hal] at hj
        simp at hj
        subst hj
        rw [List.getElem?_set_self (by omega)] at e2
        have e2 : rowV q' (la.length + 1) 1 = rowV r (la.length + 1) 1 := by simpa using e2
        have e2 := rowV_inj e2
        obtain ⟨r', d1, d2, d3⟩ := h.at' i l hi
        rw [d1] at e1
        have e1 := rowV_inj2 hl (Option.some.inj e1)
        have := (keep r' (d3 hl).2 (fun hla e => h.dis a i la l q hia ha hi hla hl c1 (by rw [← e]; exact d1))).2
        omega
      · rw [List.getElem?_set_ne hja] at hj e2
        exact h.dis i j l m r hij hi hj hl hm e1 e2
  · have hjq : la ≠ [] → j ≠ q := fun hla e => hn (.inr ⟨a, la, ha, hla, by rw [e]; exact c1⟩)
    obtain ⟨f1, f2⟩ := keep j hj hjq
    refine ⟨f1, fun ho => ?_⟩
    rcases ho with e | ⟨i, l, hi, hl, e⟩
    · exact hn (.inl e)
    · by_cases hia : a = i
      · subst hia
        rw [List.getElem?_set_self hal] at hi
        simp at hi
        subst hi
        rw [List.getElem?_set_self (by omega)] at e
        have e : rowV q' (la.length + 1) 1 = rowV j (la.length + 1) 1 := by simpa using e
        exact f2 (rowV_inj e).symm
      · rw [List.getElem?_set_ne hia] at hi e
        exact hn (.inr ⟨i, l, hi, hl, e⟩)
theorem Tb.make (σ : H) (k : Nat) : Tb (σ ++ [.arr false 1 (List.replicate k .nil)]) σ.length (List.replicate k .nil) (List.replicate k []) := by
  refine ⟨by simp, by simp, fun i l hi => ?_, fun i j l m q hij hi hj hl => ?_⟩
  · rw [List.getElem?_replicate] at hi
    split at hi
    · rename_i h
      simp at hi
      subst hi
      exact ⟨0, by rw [List.getElem?_replicate, if_pos h]; rfl, fun hx => absurd rfl hx, fun hx => absurd rfl hx⟩
    · cases hi
  · rw [List.getElem?_replicate] at hi
    split at hi
    · simp at hi
      exact absurd hi hl
    · cases hi
def encU (L : List (List Nat)) : List AV := L.map fun l => encR 1 true (encNs l)
@[simp] theorem encU_length (L : List (List Nat)) : (encU L).length = L.length := by simp [encU]
theorem snap_cells {σ : H} (n : Nat) : ∀ (cells : List AV) (L : List (List Nat)), cells.length = L.length → (∀ (i : Nat) l, L[i]? = some l → ∃ q, cells[i]? = some (rowV q l.length 1) ∧ RowAt σ q 1 (encNs l)) → ∃ ns, mapO2 (snapA σ (n + 1)) cells = some (encU L, ns)
  | [], [], _, _ => ⟨[], rfl⟩
  | [], _ :: _, h, _ => by simp at h
  | _ :: _, [], h, _ => by simp at h
  | c :: cells, l :: L, h, hR => by
    obtain ⟨q, h1, h2⟩ := hR 0 l rfl
    simp at h1
    subst h1
    obtain ⟨ns1, w1⟩ := snapR h2 (by simp) n
    rw [encNs_length] at w1
    obtain ⟨ns2, w2⟩ := snap_cells n cells L (by simpa using h) (fun i l hl => by
      have := hR (i + 1) l (by simpa using hl)
      simpa using this)
    exact ⟨ns1 ++ ns2, by simp only [mapO2, w1, w2, encU, List.map_cons]⟩
theorem snap_table {σ : H} {r m : Nat} {cells : List AV} {L : List (List Nat)} (n : Nat) (hc : σ[r]? = some (.arr false 1 cells)) (hm : cells.length = m) (hl : cells.length = L.length) (hR : ∀ (i : Nat) l, L[i]? = some l → ∃ q, cells[i]? = some (rowV q l.length 1) ∧ RowAt σ q 1 (encNs l)) : ∃ ns, snapA σ (n + 2) (.hs r m 0 m 1) = some (.sl 1 (encU L), ns) := by
  obtain ⟨ns, w⟩ := snap_cells n cells L hl hR
  refine ⟨r :: ns, ?_⟩
  unfold snapA
  rw [if_neg (by simp)]
  have ht : cells.take m = cells := List.take_of_length_le (by omega)
  simp only [arrAt, hc, hm, if_true, List.drop_zero, ht, w, Nat.zero_add, Nat.le_refl, and_self]
theorem Tb.snap {σ : H} {p n : Nat} {cells : List AV} {L : List (List Nat)} (h : Tb σ p cells L) (hn : L.length = n) (m : Nat) : ∃ ns, snapA σ (m + 2) (.hs p n 0 n 1) = some (.sl 1 (encU L), ns) :=
  snap_table m h.tab (by rw [h.len, hn]) h.len (fun i l hi => by
    obtain ⟨q, c1, c2, _⟩ := h.at' i l hi
    exact ⟨q, c1, c2⟩)
theorem sortN_len (m : List Nat) : (sortN m).length = m.length := by
  have h1 : ∀ (x : Nat) (m : List Nat), (insN x m).length = m.length + 1 := fun x m => by
    induction m with
    | nil => rfl
    | cons y m ih => unfold insN; split <;> simp [ih]
  induction m with
  | nil => rfl
  | cons y m ih => simp [sortN, h1, ih]
theorem sort_at (σ : H) (q : Nat) (l : List Nat) (h : σ[q]? = some (.arr false 1 (encNs l))) (hl : l.Nodup) (hb : l.length ≤ 2 ^ 40) : AnsH ctx 57 [.hs q l.length 0 l.length 1] σ (.tup []) (σ.set q (.arr false 1 (encNs (sortN l)))) := by
  refine AnsH.prim (by rfl) (by rfl) (by rfl) ?_
  show primSortI [.hs q l.length 0 l.length 1] σ = _
  have ht : ((encNs l).drop 0).take l.length = encIs (l.map fun (n : Nat) => (n : Int)) := by
    rw [List.drop_zero, List.take_of_length_le (by simp), encNs_Is]
  unfold primSortI sortRow
  simp only [arrAt, h, encNs_length, if_true, Nat.zero_add, Nat.le_refl, true_and, ht, unAll_Is]
  rw [if_pos (by omega), sort_nats l hl]
  have := setCells_all (encNs l) (encNs (sortN l)) [] (by simp [sortN_len])
  simp only [List.nil_append, List.length_nil] at this
  rw [show (List.map (AV.int IntKind.i64) ((sortN l).map fun (n : Nat) => (n : Int))) = encNs (sortN l) by simp [encNs], this]
theorem Tb.sort {σ : H} {p : Nat} {cells : List AV} {L : List (List Nat)} (h : Tb σ p cells L) {a : Nat} {la : List Nat} (ha : L[a]? = some la) (hn : la.Nodup) (hb : la.length ≤ 2 ^ 40) :
    ∃ c σ', cells[a]? = some c ∧ AnsH ctx 57 [c] σ (.tup []) σ' ∧ Tb σ' p cells (L.set a (sortN la)) ∧ σ.length = σ'.length ∧ ∀ j, j < σ.length → ¬ Tb.Owns p cells L j → σ'[j]? = σ[j]? := by
  have hal := (List.getElem?_eq_some_iff.1 ha).1
  obtain ⟨q, c1, c2, c3⟩ := h.at' a la ha
  cases la with
  | nil =>
    refine ⟨_, σ, c1, AnsH.prim (by rfl) (by rfl) (by rfl) rfl, ?_, rfl, fun _ _ _ => rfl⟩
    have : L.set a (sortN []) = L := by
      obtain ⟨h1, h2⟩ := List.getElem?_eq_some_iff.1 ha
      have : sortN [] = L[a] := h2.symm
      rw [this, List.set_getElem_self]
    rw [this]; exact h
  | cons x l =>
    have hne : x :: l ≠ [] := by simp
    obtain ⟨d1, d2⟩ := c3 hne
    have hrow := c2 (by simp [encNs_cons])
    have hsl := sortN_len (x :: l)
    refine ⟨_, σ.set q (.arr false 1 (encNs (sortN (x :: l)))), c1, ?_, ?_, ?_, ?_⟩
    · have := sort_at σ q (x :: l) hrow hn hb
      have e : rowV q (x :: l).length 1 = .hs q (x :: l).length 0 (x :: l).length 1 := rfl
      rw [e]
      exact this
    · refine ⟨by simp [h.len], by rw [List.getElem?_set_ne d1]; exact h.tab, fun i m hi => ?_, fun i j m m' r hij hi hj hm hm' e1 e2 => ?_⟩
      · by_cases hia : a = i
        · subst hia
          rw [List.getElem?_set_self hal] at hi
          simp only [Option.some.injEq] at hi
          subst hi
          exact ⟨q, by rw [hsl]; exact c1, fun _ => by rw [List.getElem?_set_self d2], fun _ => ⟨d1, by simpa using d2⟩⟩
        · rw [List.getElem?_set_ne hia] at hi
          obtain ⟨r, f1, f2, f3⟩ := h.at' i m hi
          refine ⟨r, f1, fun hx => ?_, fun hx => ⟨(f3 hx).1, by simpa using (f3 hx).2⟩⟩
          have hm : m ≠ [] := fun e => hx (by rw [e]; rfl)
          have hrq : q ≠ r := fun e => by
            subst e
            exact h.dis a i _ m q hia ha hi hne hm c1 f1
          rw [List.getElem?_set_ne hrq]
          exact f2 hx
      · have conv : ∀ (i : Nat) (m : List Nat), (L.set a (sortN (x :: l)))[i]? = some m → m ≠ [] → ∃ m0, L[i]? = some m0 ∧ m0 ≠ [] ∧ m0.length = m.length := fun i m hi hm => by
          by_cases hia : a = i
          · subst hia
            rw [List.getElem?_set_self hal] at hi
            simp only [Option.some.injEq] at hi
            subst hi
            exact ⟨_, ha, hne, hsl.symm⟩
          · rw [List.getElem?_set_ne hia] at hi
            exact ⟨m, hi, hm, rfl⟩
        obtain ⟨m0, y1, y2, y3⟩ := conv i m hi hm
        obtain ⟨m1, z1, z2, z3⟩ := conv j m' hj hm'
        rw [← y3] at e1
        rw [← z3] at e2
        exact h.dis i j m0 m1 r hij y1 z1 y2 z2 e1 e2
    · simp
    · intro j hj hn'
      rw [List.getElem?_set_ne fun e => hn' (.inr ⟨a, _, ha, hne, by rw [← e]; exact c1⟩)]
def T106 : Tab ctx 106 Str Nat where
  tk := ⟨.str, 1, 16, .str [], [.str]⟩
  te := ⟨.int .i64, 1, 8, .int .i64 0, [.int .i64]⟩
  ek := .str
  ev := fun n => .int .i64 (n : Int)
  z := 0
  map := by rfl
  key := fun k => rfl
  kfit := fun k => rfl
  eq := fun k x => by
    simp only [eqA, AV.cells, eqLeaves, eqLeaf, Bool.and_true, Option.some.injEq]
    by_cases h : k = x <;> simp [h]
  vfit := fun v => rfl
  zero := rfl
structure okG (b : Bi) : Prop where
  f : okF b.b
  bd : bdE b.b ≤ 700000000000
  v : vE b.b ≤ 2 ^ 20
theorem parse_okW {s : Str} {p : Pg} (h : parse s = .ok p) : ∀ b ∈ p.bs, okG b := by
  have hF := parse_okF h
  have hC := parse_okC h
  unfold parse at h
  cases hl : lex s with
  | bad e a => rw [hl] at h; cases h
  | ok l =>
    rw [hl] at h
    simp only at h
    have hlen := tl_lex s hl
    obtain ⟨h1, _⟩ := decls_okV s.length (8 * l.length + 40) (by omega) (l.length + 1) ⟨[], []⟩ ⟨0, l, false, 0⟩ hlen (by simp)
    generalize decls s.length (8 * l.length + 40) (l.length + 1) ⟨[], []⟩ ⟨0, l, false, 0⟩ = R at *
    obtain ⟨out, q⟩ := R
    simp only at h h1
    split at h
    · cases h
    · split at h
      · cases h
      · cases h
        intro b hb
        have hv := (h1 b hb).v
        exact ⟨hF b hb, hC b hb, by omega⟩
def plT : Nat → List Bi → List (Str × Nat)
  | _, [] => []
  | i, b :: l => putT b.s i (plT (i + 1) l)
def ledT (T : List (Str × Nat)) (F : List Str) : List Nat := F.filterMap (getT T)
def gphP (l : List Bi) : List (List Nat) := l.map fun b => sortN (ledT (plT 0 l) (frE [] [] b.b))
theorem back_ans (nl : Bool) (bs : List Bi) : Ans ctx 56 [encR 8 nl (encBs bs)] (.fn 88 [.adr (encR 8 nl (encBs bs))]) := by
  have hn : (encR 8 nl (encBs bs)).noRef = true := by simp
  refine Ans.of (σ' := []) fn56_ (by simp [AV.noRefs]) (by simp [AV.noRefs, AV.noRef]) ⟨0, fun N hN => ?_⟩
  have hf : (encR 8 nl (encBs bs)).fits ⟨.slice 37, 1, 24, .nil, []⟩ = true := by
    cases nl <;> cases bs <;> rfl
  simp -implicitDefEqProofs [i56, c56, hf]
theorem bindM_of {α R : Type} {m : M α} {k : α → M R} {σ σ1 : H} {a : α} (h : m σ = some (a, σ1)) : bindM m k σ = k a σ1 := by unfold bindM; rw [h]
theorem den_rng {C : Ctx} {rec : Nat → List AV → M AV} {hp ip : List Nat} {n t p q f : Nat} {keep : List Nat} {asg b : ACode} {fr : Fr} {s : AV} {xs : List AV} (h1 : getS fr.sl t = .v (.fn f [.adr s])) (h2 : ((look f C.back).bind C.ti).bind (fun ti => rowOfA ti s) = some xs) :
    den C rec hp ip n (.rng t p q keep asg b) fr = bindM (rndL (fun i x => bindM (den C rec hp ip n asg (((fr.frz keep).put p (.v (.int .i64 i))).put q (.v x))) fun r => match r.1 with
          | .nrm => bindM (den C rec hp ip n b r.2) fun r => match r.1 with
            | .nrm => pureM ()
            | _ => failM
          | _ => failM) 0 xs) fun _ => pureM (.nrm, fr.frz keep) := by
  simp only [den, h1, h2]
  rfl
theorem one25 (N : Nat) (X0 : AV) (b : Bi) (i : Nat) (T : List (Str × Nat)) (hd : List Nat) :
    bindM (den ctx (acall ctx N) [24, 55] [] N (.seq (.reg [.op ⟨some 4, .assign (.tmp 16), 3⟩]) (.reg [.op ⟨some 5, .alloc 37, 0⟩, .op ⟨none, .store 37 (.tmp 5) (.tmp 17), 0⟩])) (((⟨[(0, .v X0), (3, .v (.adr (.map 0)))], false⟩ : Fr).put 16 (.v (.int .i64 i))).put 17 (.v (encB b)))) (fun r => match r.1 with
          | .nrm => bindM (den ctx (acall ctx N) [24, 55] [] N b25_0 r.2) fun r => match r.1 with
            | .nrm => pureM ()
            | _ => failM
          | _ => failM) [.map (T106.enc T)] = some ((), [.map (T106.enc (putT b.s i T))]) := by
  have hu := T106.up (σ := [.map (T106.enc T)]) (r := 0) (l := T) rfl b.s i
  obtain ⟨s, a, bk, ba, bS, bn, bks, bas⟩ := b
  simp only [encB, cellsE] at hu ⊢
  have e1 : T106.ek s = .str s := rfl
  have e2 : T106.ev i = .int .i64 i := rfl
  rw [e1, e2] at hu
  simp -implicitDefEqProofs [b25_0, hu]
theorem rnd25 (N : Nat) (X0 : AV) : ∀ (l : List Bi) (i : Nat),
    rndL (fun i x => bindM (den ctx (acall ctx N) [24, 55] [] N (.seq (.reg [.op ⟨some 4, .assign (.tmp 16), 3⟩]) (.reg [.op ⟨some 5, .alloc 37, 0⟩, .op ⟨none, .store 37 (.tmp 5) (.tmp 17), 0⟩])) (((⟨[(0, .v X0), (3, .v (.adr (.map 0)))], false⟩ : Fr).put 16 (.v (.int .i64 i))).put 17 (.v x))) (fun r => match r.1 with
          | .nrm => bindM (den ctx (acall ctx N) [24, 55] [] N b25_0 r.2) fun r => match r.1 with
            | .nrm => pureM ()
            | _ => failM
          | _ => failM)) i (encBs l) [.map []] = some ((), [.map (T106.enc (plT i l))])
  | [], i => rfl
  | b :: l, i => by
    have ih := rnd25 N X0 l (i + 1)
    rw [encBs_cons, rndL, bindM_of ih]
    exact one25 N X0 b i (plT (i + 1) l) []
theorem rng25 (bs : List Bi) (nl : Bool) (hl : bs.length ≤ 2 ^ 20) (N : Nat) (X0 : AV) (fr : Fr) (h1 : getS fr.sl 15 = .v (.fn 88 [.adr (encR 8 nl (encBs bs))])) (h2 : fr.frz [0, 3] = ⟨[(0, .v X0), (3, .v (.adr (.map 0)))], false⟩) :
    den ctx (acall ctx N) [24, 55] [] N (.rng 15 16 17 [0, 3] (.seq (.reg [.op ⟨some 4, .assign (.tmp 16), 3⟩]) (.reg [.op ⟨some 5, .alloc 37, 0⟩, .op ⟨none, .store 37 (.tmp 5) (.tmp 17), 0⟩])) b25_0) fr [.map []] =
      some ((.nrm, ⟨[(0, .v X0), (3, .v (.adr (.map 0)))], false⟩), [.map (T106.enc (plT 0 bs))]) := by
  have hfit : ∀ l : List Bi, fitAll ⟨.strct [(0, 9), (1, 3), (2, 35)], 8, 112, .agg [.str [], .int .i64 0, .int .i64 0, .int .i64 0, .str [], .int .i64 0, .nil, .nil], []⟩ (encBs l) = true := fun l => by
    induction l with
    | nil => rfl
    | cons b l ih =>
      obtain ⟨s, a, bk, ba, bS, bn, bks, bas⟩ := b
      rw [encBs_cons, fitAll, ih, Bool.and_true]
      rfl
  have hrow : ((look 88 ctx.back).bind ctx.ti).bind (fun ti => rowOfA ti (encR 8 nl (encBs bs))) = some (encBs bs) := by
    rw [bk88]
    simp only [Option.bind_some, ti37]
    cases nl with
    | false =>
      rw [encR_false, rowOfA, if_pos ⟨rfl, hfit bs, by rw [encBs_length]; omega, by rw [encBs_length]; show bs.length * 112 ≤ _; omega⟩]
    | true =>
      cases bs with
      | nil => rfl
      | cons b l =>
        rw [encBs_cons, encR_cons, ← encBs_cons, rowOfA, if_pos ⟨rfl, hfit _, by rw [encBs_length]; omega, by rw [encBs_length]; show (b :: l).length * 112 ≤ _; omega⟩]
  have hr := rnd25 N X0 bs 0
  rw [← h2] at hr
  rw [den_rng h1 hrow, bindM_of hr, h2]
  rfl
/-! ### plain -/
theorem getT_pl (i : Nat) (b : Bi) (l : List Bi) (s : Str) : getT (plT i (b :: l)) s = if s = b.s then some i else getT (plT (i + 1) l) s := getT_put _ _ _ _
theorem pl_at : ∀ (l : List Bi) (i : Nat) (s : Str) (k : Nat), getT (plT i l) s = some k → i ≤ k ∧ k < i + l.length ∧ (l[k - i]?).map (·.s) = some s
  | [], i, s, k, h => by cases h
  | b :: l, i, s, k, h => by
    rw [getT_pl] at h
    split at h
    · rename_i hs
      cases h
      simp [hs]
    · obtain ⟨h1, h2, h3⟩ := pl_at l (i + 1) s k h
      refine ⟨by omega, by simp; omega, ?_⟩
      rw [show k - i = (k - (i + 1)) + 1 by omega]
      simpa using h3
theorem pl_inj {l : List Bi} {s s' : Str} {k : Nat} (h : getT (plT 0 l) s = some k) (h' : getT (plT 0 l) s' = some k) : s = s' := by
  have h1 := (pl_at l 0 s k h).2.2
  have h2 := (pl_at l 0 s' k h').2.2
  rw [h1] at h2
  exact Option.some.inj h2
theorem mem_led {T : List (Str × Nat)} {F : List Str} {k : Nat} : k ∈ ledT T F ↔ ∃ s ∈ F, getT T s = some k := by
  unfold ledT
  rw [List.mem_filterMap]
theorem led_nodup (l : List Bi) : ∀ F : List Str, F.Nodup → (ledT (plT 0 l) F).Nodup
  | [], _ => by simp [ledT]
  | s :: F, h => by
    rw [List.nodup_cons] at h
    have ih := led_nodup l F h.2
    unfold ledT at *
    rw [List.filterMap_cons]
    split
    · exact ih
    · rename_i k hk
      rw [List.nodup_cons]
      refine ⟨fun hm => ?_, ih⟩
      obtain ⟨s', h1, h2⟩ := List.mem_filterMap.1 hm
      exact h.1 (pl_inj hk h2 ▸ h1)
theorem led_len (T : List (Str × Nat)) (F : List Str) : (ledT T F).length ≤ F.length := List.length_filterMap_le _ _
theorem addF_nodup {k : Nat} {s : Str} {B O : List Str} (h : O.Nodup) : (addF k s B O).Nodup := by
  unfold addF
  split
  · rename_i hc
    rw [List.nodup_append]
    exact ⟨h, by simp, fun a ha b hb => by simp at hb; subst hb; exact fun e => hc.2.2 (e ▸ ha)⟩
  · exact h
mutual
theorem frE_nodup : ∀ (e : Ex) (B O : List Str), O.Nodup → (frE B O e).Nodup
  | .mk k a s n ks as, B, O, h => by
    unfold frE
    exact frA_nodup as B _ (frK_nodup k s ks 0 B _ (addF_nodup h))
theorem frK_nodup (k : Nat) (s : Str) : ∀ (l : List Ex) (i : Nat) (B O : List Str), O.Nodup → (frK k s i B O l).Nodup
  | [], i, B, O, h => by unfold frK; exact h
  | e :: l, i, B, O, h => by
    unfold frK
    refine frK_nodup k s l (i + 1) B _ ?_
    cases bindK k i with
    | true => exact frE_nodup e (s :: B) O h
    | false => exact frE_nodup e B O h
theorem frA_nodup : ∀ (l : List Al) (B O : List Str), O.Nodup → (frA B O l).Nodup
  | [], B, O, h => by unfold frA; exact h
  | .mk a c ns b :: l, B, O, h => by
    unfold frA
    exact frA_nodup l B _ (frE_nodup b (ns ++ B) O h)
end
/-! ### the loop over names -/
theorem idx_in {i n : Nat} (h : i < n) : idxN (i : Int) n = some i := by
  unfold idxN
  rw [if_pos (by omega)]
  simp
set_option maxHeartbeats 2000000 in
theorem lp25_1 (n : Nat) (BS : AV) (T : List (Str × Nat)) (F : List Str) (hF : F.length ≤ 2 ^ 20) (i : Nat) (hi : i < n) (hn : n ≤ 2 ^ 20) : ∀ (r : List Str) (j : Nat) (cells : List AV) (L : List (List Nat)) (la : List Nat) (σ : H), Tail (encSs F) j (encSs r) → Tb σ 1 cells L → σ[0]? = some (.map (T106.enc T)) → ¬ Tb.Owns 1 cells L 0 → L.length = n → L[i]? = some la → la.length + r.length ≤ 2 ^ 20 →
    ∃ fr' cells' σ', Lp ctx [24, 55] [] [3, 6, 7, 25, 26, 27, 34, 35, 36] b25_1 ⟨[(3, .v (.adr (.map 0))), (6, .v (.hs 1 n 0 n 1)), (7, .v (.int .i64 i)), (25, .v BS), (26, .v (.int .i64 n)), (27, .v (.int .i64 i)), (34, .v (encR 1 true (encSs F))), (35, .v (.int .i64 F.length)), (36, .v (.int .i64 j))], false⟩ σ (.ex 4) fr' σ' ∧
      Tb σ' 1 cells' (L.set i (la ++ ledT T r)) ∧ σ'[0]? = some (.map (T106.enc T)) ∧ ¬ Tb.Owns 1 cells' (L.set i (la ++ ledT T r)) 0 ∧ fr'.lk = false ∧ getS fr'.sl 3 = .v (.adr (.map 0)) ∧ getS fr'.sl 6 = .v (.hs 1 n 0 n 1) ∧ getS fr'.sl 7 = .v (.int .i64 i) ∧ getS fr'.sl 25 = .v BS ∧ getS fr'.sl 26 = .v (.int .i64 n) ∧ getS fr'.sl 27 = .v (.int .i64 i) ∧ Hi2 38 65 fr'
  | [], j, cells, L, la, σ, h, hT, h0, ho, hL, ha, hb => by
    have h' := h.nil
    have e : L.set i (la ++ ledT T []) = L := by
      have : la ++ ledT T [] = la := by simp [ledT]
      rw [this]
      obtain ⟨h1, h2⟩ := List.getElem?_eq_some_iff.1 ha
      rw [← h2, List.set_getElem_self]
    rw [e]
    simp only [encSs_length] at h'
    refine ⟨?_, cells, σ, Lp.exit ⟨0, fun N _ => ?_⟩ (by simp), hT, h0, ho, ?_⟩
    rotate_left
    · simp -implicitDefEqProofs [b25_1, h']
      rfl
    · refine ⟨rfl, by simp, by simp, by simp, by simp, by simp, by simp, fun t h1 h2 => ?_⟩
      simp only [getS]
      repeat rw [if_neg (by omega)]
  | s :: r, j, cells, L, la, σ, h, hT, h0, ho, hL, ha, hb => by
    have hlen := h.len
    simp only [encSs_cons] at h
    obtain ⟨g1, g2, g3, g4, g5⟩ := h.cons
    simp at hlen hb
    simp only [encSs_length] at g2 g3
    have hw := wrap_succ (n := j) (by unfold big; omega)
    have g6 := g5 1 true
    have hlk := T106.look2 h0 s
    have hek : T106.ek s = .str s := rfl
    rw [hek] at hlk
    have h0l := (List.getElem?_eq_some_iff.1 h0).1
    rw [g6]
    cases hg : getT T s with
    | none =>
      rw [hg] at hlk
      simp only [Option.getD_none, Option.isSome_none] at hlk
      have hez : T106.ev T106.z = .int .i64 0 := rfl
      rw [hez] at hlk
      have hled : ledT T (s :: r) = ledT T r := by unfold ledT; rw [List.filterMap_cons, hg]
      rw [hled]
      obtain ⟨fr', cells', σ', l1, l2⟩ := lp25_1 n BS T F hF i hi hn r (j + 1) cells L la σ g4 hT h0 ho hL ha (by omega)
      rw [g6] at l1
      refine ⟨fr', cells', σ', Lp.step ⟨0, fun N hN => ?_⟩ l1, l2⟩
      clear l1 l2 hT
      simp -implicitDefEqProofs [b25_1, g1, g2, g3, hw, hlk]
    | some v =>
      rw [hg] at hlk
      simp only [Option.getD_some, Option.isSome_some] at hlk
      have hez : T106.ev v = .int .i64 v := rfl
      rw [hez] at hlk
      have hled : ledT T (s :: r) = v :: ledT T r := by unfold ledT; rw [List.filterMap_cons, hg]
      obtain ⟨q, q', σ1, c', p1, p2, p3, p4, p5, p6, p7⟩ := hT.push ha v (by omega)
      unfold tiI at p2
      obtain ⟨z1, z2⟩ := p6 0 h0l ho
      have hcl : cells.length = n := by rw [hT.len, hL]
      have ht := hT.tab
      have hiA := idx_in hi
      have hf : c'.fits ⟨.slice 3, 1, 24, .nil, []⟩ = true := by rw [p3, rowV_fits]; rfl
      have hc' : c'.cells = [c'] := by rw [p3]; rfl
      have hil : i < L.length := by omega
      obtain ⟨fr', cells', σ', l1, l2, l3, l4, l5⟩ := lp25_1 n BS T F hF i hi hn r (j + 1) _ _ (la ++ [v]) _ g4 p5 (by rw [List.getElem?_set_ne (by omega), z1]; exact h0) z2 (by simpa using hL) (by rw [List.getElem?_set_self hil]) (by simp; omega)
      have e : (L.set i (la ++ [v])).set i (la ++ [v] ++ ledT T r) = L.set i (la ++ ledT T (s :: r)) := by rw [List.set_set, hled]; simp
      rw [e] at l2 l4
      rw [g6] at l1
      refine ⟨fr', cells', σ', Lp.step ⟨0, fun N hN => ?_⟩ l1, l2, l3, l4, l5⟩
      clear l1 l2 l3 l4 l5 p5 hT
      simp -implicitDefEqProofs [b25_1, g1, g2, g3, hw, hlk, ht, hcl, hiA, p1, p2, p4, hf, hc', -appendH]
/-! ### the loop over Binds -/
def rowG (T : List (Str × Nat)) (b : Bi) : List Nat := sortN (ledT T (frE [] [] b.b))
set_option maxHeartbeats 2000000 in
theorem lp25_2 (bs : List Bi) (nl : Bool) (hn : bs.length ≤ 2 ^ 20) : ∀ (r : List Bi) (i : Nat) (cells : List AV) (D : List (List Nat)) (σ : H), Tail (encBs bs) i (encBs r) → Tb σ 1 cells (D ++ List.replicate r.length []) → D.length = i → σ[0]? = some (.map (T106.enc (plT 0 bs))) → ¬ Tb.Owns 1 cells (D ++ List.replicate r.length []) 0 → (∀ b ∈ r, okG b) →
    ∃ fr' cells' σ', Lp ctx [24, 55] [] [3, 6, 25, 26, 27] b25_2 ⟨[(3, .v (.adr (.map 0))), (6, .v (.hs 1 bs.length 0 bs.length 1)), (25, .v (encR 8 nl (encBs bs))), (26, .v (.int .i64 bs.length)), (27, .v (.int .i64 i))], false⟩ σ (.ex 2) fr' σ' ∧
      Tb σ' 1 cells' (D ++ r.map (rowG (plT 0 bs))) ∧ fr'.lk = false ∧ getS fr'.sl 6 = .v (.hs 1 bs.length 0 bs.length 1) ∧ getS fr'.sl 2 = .u ∧ getS fr'.sl 64 = .u
  | [], i, cells, D, σ, h, hT, hD, h0, ho, _ => by
    have h' := h.nil
    simp only [encBs_length] at h'
    refine ⟨?_, cells, σ, Lp.exit ⟨0, fun N _ => ?_⟩ (by simp), by simpa using hT, ?_⟩
    rotate_left
    · simp -implicitDefEqProofs [b25_2, h']
      rfl
    · exact ⟨rfl, by simp [h'], by simp, by simp⟩
  | b :: r, i, cells, D, σ, h, hT, hD, h0, ho, hok => by
    have hlen := h.len
    simp only [encBs_cons] at h
    obtain ⟨g1, g2, g3, g4, g5⟩ := h.cons
    simp at hlen
    simp only [encBs_length] at g2 g3
    have hw := wrap_succ (n := i) (by unfold big; omega)
    have g6 := g5 8 nl
    have hb := hok b (by simp)
    have hFl := frE_len b.b [] []
    have hv := hb.v
    simp only [List.length_nil, Nat.zero_add] at hFl
    obtain ⟨kf, hkf⟩ := free_ans b.b hb.f
    obtain ⟨F, hFe⟩ : ∃ F, F = frE [] [] b.b := ⟨_, rfl⟩
    rw [← hFe] at hkf hFl
    have hFn : F.Nodup := by rw [hFe]; exact frE_nodup b.b [] [] List.nodup_nil
    have hLl : (D ++ List.replicate (b :: r).length ([] : List Nat)).length = bs.length := by simp; omega
    have hLi : (D ++ List.replicate (b :: r).length ([] : List Nat))[i]? = some [] := by
      rw [List.getElem?_append_right (by omega), hD, Nat.sub_self]
      simp [List.replicate_succ]
    have hset : ∀ x : List Nat, (D ++ List.replicate (b :: r).length ([] : List Nat)).set i x = (D ++ [x]) ++ List.replicate r.length [] := fun x => by
      rw [List.set_append_right _ _ (by omega), hD, Nat.sub_self]
      simp [List.replicate_succ]
    obtain ⟨fr1, c1, σ1, m1, m2, m3, m4, m5, m6, m7, m8, m9, m10, m11, m12⟩ := lp25_1 bs.length (encR 8 nl (encBs bs)) (plT 0 bs) F (by omega) i (by omega) hn F 0 cells _ [] σ (Tail.all _) hT h0 ho hLl hLi (by simp; omega)
    obtain ⟨k1, hk1⟩ := m1.den
    unfold Hi2 at m12
    rw [hset, List.nil_append] at m2 m4
    have hnd := led_nodup bs F hFn
    have hll := led_len (plT 0 bs) F
    have hrow : ((D ++ [ledT (plT 0 bs) F]) ++ List.replicate r.length ([] : List Nat))[i]? = some (ledT (plT 0 bs) F) := by
      rw [List.append_assoc, List.getElem?_append_right (by omega), hD, Nat.sub_self]
      simp
    obtain ⟨c, σ2, n1, n2, n3, n4, n5⟩ := m2.sort hrow hnd (by omega)
    obtain ⟨k2, hk2⟩ := n2
    have hset2 : ((D ++ [ledT (plT 0 bs) F]) ++ List.replicate r.length ([] : List Nat)).set i (sortN (ledT (plT 0 bs) F)) = (D ++ [sortN (ledT (plT 0 bs) F)]) ++ List.replicate r.length [] := by
      rw [List.append_assoc, List.set_append_right _ _ (by omega), hD, Nat.sub_self]
      simp
    have h0l : 0 < σ1.length := (List.getElem?_eq_some_iff.1 m3).1
    have hown2 : ¬ Tb.Owns 1 c1 ((D ++ [sortN (ledT (plT 0 bs) F)]) ++ List.replicate r.length []) 0 := by
      rintro (e | ⟨x, l, e1, e2, e3⟩)
      · omega
      · refine m4 (.inr ?_)
        rw [← hset2] at e1
        by_cases hxi : i = x
        · subst hxi
          rw [List.getElem?_set_self (List.getElem?_eq_some_iff.1 hrow).1] at e1
          simp only [Option.some.injEq] at e1
          subst e1
          refine ⟨i, _, hrow, fun e => e2 (by rw [e]; rfl), ?_⟩
          rw [sortN_len] at e3
          exact e3
        · rw [List.getElem?_set_ne hxi] at e1
          exact ⟨x, l, e1, e2, e3⟩
    rw [hset2] at n3
    obtain ⟨fr', cells', σ', l1, l2, l3⟩ := lp25_2 bs nl hn r (i + 1) c1 (D ++ [sortN (ledT (plT 0 bs) F)]) σ2 g4 n3 (by simp; omega) (by rw [n5 0 h0l m4]; exact m3) hown2 (fun x hx => hok x (by simp [hx]))
    rw [g6] at l1 hk1
    have hres : D ++ [sortN (ledT (plT 0 bs) F)] ++ r.map (rowG (plT 0 bs)) = D ++ (b :: r).map (rowG (plT 0 bs)) := by
      rw [List.map_cons, rowG, ← hFe]; simp
    rw [hres] at l2
    have ht := m2.tab
    have hcl : c1.length = bs.length := by rw [m2.len]; simp; omega
    have hiA := idx_in (i := i) (n := bs.length) (by omega)
    have hcf : c.fits ⟨.slice 3, 1, 24, .nil, []⟩ = true := by
      obtain ⟨q, y1, _⟩ := m2.at' i _ hrow
      rw [n1] at y1
      cases y1
      rw [rowV_fits]; rfl
    simp only [Int.cast_ofNat_Int] at hk1
    rw [g6]
    refine ⟨fr', cells', σ', Lp.step ⟨kf + k1 + k2, fun N hN => ?_⟩ l1, l2, l3⟩
    have hkf := hkf N (by omega)
    have hk1 := hk1 N (by omega)
    have hk2 := hk2 N (by omega)
    clear l1 l2 l3 n3 m2 m1 hT
    obtain ⟨s, a, bk, ba, bS, bn, bks, bas⟩ := b
    simp only [encB, cellsE] at g1 hk1
    simp only [encE_mk] at hkf
    simp -implicitDefEqProofs [b25_2, encB, cellsE, g1, g2, g3, g6, hw, hkf, hk1, m5, m6, m7, m8, m9, m10, m11, m12, ht, hcl, hiA, n1, hcf, hk2]
theorem graph_ans (bs : List Bi) (nl : Bool) (hn : bs.length ≤ 2 ^ 20) (hok : ∀ b ∈ bs, okG b) : Ans ctx 25 [encR 8 nl (encBs bs)] (.sl 1 (encU (gphP bs))) := by
  obtain ⟨kb, hkb⟩ := back_ans nl bs
  have hT0 := Tb.make [.map (T106.enc (plT 0 bs))] bs.length
  have ho : ¬ Tb.Owns 1 (List.replicate bs.length .nil) (List.replicate bs.length []) 0 := by
    rintro (e | ⟨x, l, e1, e2, _⟩)
    · omega
    · rw [List.getElem?_replicate] at e1
      split at e1
      · cases e1; exact e2 rfl
      · cases e1
  obtain ⟨fr', cells', σ', l1, l2, l3, l4, l5, l6⟩ := lp25_2 bs nl hn bs 0 _ [] _ (Tail.all _) hT0 rfl rfl ho hok
  obtain ⟨k, hk⟩ := l1.den
  rw [List.nil_append] at l2
  obtain ⟨ns, hsn⟩ := l2.snap (n := bs.length) (by simp) 198
  have hrow : rowG (plT 0 bs) = fun b => sortN (ledT (plT 0 bs) (frE [] [] b.b)) := rfl
  unfold gphP
  rw [← hrow]
  refine Ans.fn (rs := []) (σ' := σ') fn25_ (by simp [AV.noRefs]) ⟨kb + k, fun N hN => ?_⟩ hsn
  have hkb := hkb N (by omega)
  have hk := hk N (by omega)
  have hr := rng25 bs nl hn N (encR 8 nl (encBs bs))
  simp only [Int.cast_ofNat_Int, List.cons_append, List.nil_append, List.length_singleton] at hk
  have hbg : bs.length * 24 ≤ 35184372088832 ∧ bs.length ≤ 35184372088832 := by omega
  have hfit := fitAll_replicate ⟨.slice 3, 1, 24, .nil, []⟩ .nil rfl bs.length
  have hlen8 : lenM (encR 8 nl (encBs bs)) = pureM (.int .i64 bs.length) := by simp
  have hok8 : ∀ e, lenOk (.slice e) (encR 8 nl (encBs bs)) = true := fun e => by simp
  simp -implicitDefEqProofs [i25, c25, hkb, hr, hk, l3, l4, l5, l6, hbg, hfit, hlen8, hok8]
/-! ### rows in the heap -/
structure NewR (σ0 σ : H) (q : Nat) (l : List Nat) : Prop where
  row : RowAt σ q 1 (encNs l)
  pos : l ≠ [] → σ0.length ≤ q ∧ q < σ.length
  old : ∀ j, j < σ0.length → σ[j]? = σ0[j]?
  len : σ0.length ≤ σ.length
theorem NewR.start (σ : H) : NewR σ σ 0 [] := ⟨fun h => absurd rfl h, fun h => absurd rfl h, fun _ _ => rfl, Nat.le_refl _⟩
theorem NewR.push {σ0 σ : H} {q : Nat} {l : List Nat} (h : NewR σ0 σ q l) (k : Nat) (hb : l.length ≤ 2 ^ 30) :
    ∃ q' σ', appendH tiI (rowV q l.length 1) [.int .i64 (k : Int)] σ = some (rowV q' (l.length + 1) 1, σ') ∧ NewR σ0 σ' q' (l ++ [k]) := by
  have hle : (encNs l).length = l.length := by simp
  obtain ⟨q', σ1, p1, p2, p3, p4, p5⟩ := app_raw2 tiI (y := .int .i64 (k : Int)) (xs := encNs l) h.row (by simp [tiI]) (by simp [tiI]; omega) (by simp; omega)
  rw [hle] at p1
  have hE : encNs l ++ [.int .i64 (k : Int)] = encNs (l ++ [k]) := by rw [encNs_app]; rfl
  rw [hE] at p2
  have hl := h.len
  have hq' : q' < σ1.length := (List.getElem?_eq_some_iff.1 p2).1
  have hnq : ∀ j, j < σ0.length → encNs l ≠ [] → j ≠ q := fun j hj hx e => by
    have := (h.pos fun e' => hx (by rw [e']; rfl)).1
    omega
  refine ⟨q', σ1, p1, fun _ => p2, fun _ => ⟨?_, hq'⟩, fun j hj => ?_, by omega⟩
  · rcases Nat.lt_or_ge q' σ0.length with hlt | hge
    · exact absurd rfl (p5 q' (by omega) (hnq q' hlt))
    · exact hge
  · have hj' : j < σ.length := by omega
    rw [p4 j _ (List.getElem?_eq_getElem hj') (hnq j hj), ← List.getElem?_eq_getElem hj']
    exact h.old j hj
structure OutR (σ : H) (qo : Nat) (cells : List AV) (L : List (List Nat)) : Prop where
  len : cells.length = L.length
  row : RowAt σ qo 1 cells
  pos : cells ≠ [] → qo < σ.length
  at' : ∀ (i : Nat) l, L[i]? = some l → ∃ q, cells[i]? = some (rowV q l.length 1) ∧ RowAt σ q 1 (encNs l) ∧ (l ≠ [] → q < σ.length ∧ q ≠ qo)
theorem OutR.start : OutR [] 0 [] [] := ⟨rfl, fun h => absurd rfl h, fun h => absurd rfl h, fun i l h => by simp at h⟩
theorem OutR.keep {σ σ' : H} {qo : Nat} {cells : List AV} {L : List (List Nat)} (h : OutR σ qo cells L) (hk : ∀ j, j < σ.length → σ'[j]? = σ[j]?) (hl : σ.length ≤ σ'.length) : OutR σ' qo cells L := by
  refine ⟨h.len, fun hx => ?_, fun hx => by have := h.pos hx; omega, fun i l hi => ?_⟩
  · rw [hk qo (h.pos hx)]
    exact h.row hx
  · obtain ⟨q, c1, c2, c3⟩ := h.at' i l hi
    refine ⟨q, c1, fun hx => ?_, fun hne => ?_⟩
    · rw [hk q (c3 fun e => hx (by rw [e]; rfl)).1]
      exact c2 hx
    · exact ⟨by have := (c3 hne).1; omega, (c3 hne).2⟩
def tiR : TI := ⟨.slice 3, 1, 24, .nil, []⟩
theorem OutR.push {σ : H} {qo : Nat} {cells : List AV} {L : List (List Nat)} (h : OutR σ qo cells L) {q : Nat} {l : List Nat} (hr : RowAt σ q 1 (encNs l)) (hq : l ≠ [] → q < σ.length ∧ (cells ≠ [] → q ≠ qo)) (hb : L.length ≤ 2 ^ 30) :
    ∃ qo' σ', appendH tiR (rowV qo L.length 1) [rowV q l.length 1] σ = some (rowV qo' (L.length + 1) 1, σ') ∧ OutR σ' qo' (cells ++ [rowV q l.length 1]) (L ++ [l]) := by
  have hl := h.len
  obtain ⟨qo', σ', p1, p2, p3, p4, p5⟩ := app_raw2 tiR (y := rowV q l.length 1) h.row (by simp [tiR, rowV_fits, TK.isAgg]) (by simp [tiR]; omega) (by omega)
  rw [hl] at p1
  have keep : ∀ j, j < σ.length → (cells ≠ [] → j ≠ qo) → σ'[j]? = σ[j]? := fun j hj hn => by
    have := List.getElem?_eq_getElem hj
    rw [this]
    exact p4 j _ this hn
  refine ⟨qo', σ', p1, ⟨by simp [hl], fun _ => p2, fun _ => (List.getElem?_eq_some_iff.1 p2).1, fun i l' hi => ?_⟩⟩
  by_cases hil : i < L.length
  · rw [List.getElem?_append_left hil] at hi
    obtain ⟨q1, c1, c2, c3⟩ := h.at' i l' hi
    refine ⟨q1, by rw [List.getElem?_append_left (by omega)]; exact c1, fun hx => ?_, fun hne => ?_⟩
    · obtain ⟨k2, k3⟩ := c3 (fun e => hx (by rw [e]; rfl))
      rw [keep q1 k2 (fun _ => k3)]
      exact c2 hx
    · obtain ⟨k2, k3⟩ := c3 hne
      exact ⟨by omega, p5 q1 k2 (fun _ => k3)⟩
  · have e : i = L.length := by
      have := (List.getElem?_eq_some_iff.1 hi).1
      simp at this; omega
    subst e
    simp at hi
    subst hi
    refine ⟨q, by rw [← hl]; simp, fun hx => ?_, fun hne => ?_⟩
    · obtain ⟨k2, k3⟩ := hq (fun e => hx (by rw [e]; rfl))
      rw [keep q k2 k3]
      exact hr hx
    · obtain ⟨k2, k3⟩ := hq hne
      exact ⟨by omega, p5 q k2 k3⟩
theorem OutR.snap {σ : H} {qo : Nat} {cells : List AV} {L : List (List Nat)} (h : OutR σ qo cells L) (n : Nat) : ∃ ns, snapA σ (n + 2) (rowV qo L.length 1) = some (encR 1 true (encU L), ns) := by
  cases hL : L with
  | nil => exact ⟨[], by simp only [List.length_nil, rowV]; exact snapA_noRef rfl⟩
  | cons l L' =>
    have hne : cells ≠ [] := fun e => by
      have := h.len
      rw [e, hL] at this; simp at this
    obtain ⟨ns, w⟩ := snap_table n (h.row hne) rfl h.len (fun i l hi => by
      obtain ⟨q, c1, c2, _⟩ := h.at' i l hi
      exact ⟨q, c1, c2⟩)
    rw [h.len, hL] at w
    refine ⟨ns, ?_⟩
    simp only [List.length_cons, rowV] at w ⊢
    rw [w]
    simp [encU]
/-! ### plain -/
def othN (s : Str) (P : List Bi) : Bool := P.all fun a => !(a.s == s)
def rR (F : List Str) : List Bi → Nat → List Bi → List Nat
  | P, k, [] => []
  | P, k, b :: l => (if othN b.s P = true ∧ b.s ∈ F then [k] else []) ++ rR F (P ++ [b]) (k + 1) l
def gphR (l : List Bi) : List (List Nat) := l.map fun b => rR (frE [] [] b.b) [] 0 l
set_option maxHeartbeats 2000000 in
theorem lp26_0 (BL : List AV) (hL : BL.length < big) (X3 X4 X5 X6 : AV) (σ : H) (k : Nat) (x : Bi) (hx : BL[k]? = some (encB x)) (X : List AV) : ∀ (r : List Bi) (j : Nat) (f : Bool), Tail BL j (encBs r ++ X) → k = j + r.length →
    ∃ fr', Lp ctx [61, 65] [] [0, 3, 4, 5, 6, 7, 8, 9] b26_0 ⟨[(0, .v (.sl 8 BL)), (3, .v X3), (4, .v X4), (5, .v X5), (6, .v X6), (7, .v (.int .i64 k)), (8, .v (.bool f)), (9, .v (.int .i64 j))], false⟩ σ (.ex 4) fr' σ ∧ fr'.lk = false ∧
      getS fr'.sl 0 = .v (.sl 8 BL) ∧ getS fr'.sl 3 = .v X3 ∧ getS fr'.sl 4 = .v X4 ∧ getS fr'.sl 5 = .v X5 ∧ getS fr'.sl 6 = .v X6 ∧ getS fr'.sl 7 = .v (.int .i64 k) ∧ getS fr'.sl 8 = .v (.bool (f && othN x.s r)) ∧ Hi2 10 28 fr' ∧ Hi2 31 67 fr'
  | [], j, f, h, hk => by
    simp only [List.length_nil, Nat.add_zero] at hk
    subst hk
    refine ⟨?_, Lp.exit ⟨0, fun N _ => ?_⟩ (by simp), ?_⟩
    rotate_left
    · simp -implicitDefEqProofs [b26_0]
      rfl
    · refine ⟨rfl, by simp, by simp, by simp, by simp, by simp, by simp, by simp [othN], fun t h1 h2 => ?_, fun t h1 h2 => ?_⟩
      all_goals simp only [getS]
      all_goals repeat rw [if_neg (by omega)]
  | b :: r, j, f, h, hk => by
    have hlen := h.len
    simp only [encBs_cons, List.cons_append] at h
    obtain ⟨g1, g2, g3, g4, g5⟩ := h.cons
    simp at hlen hk
    have hw := wrap_succ (n := j) (by omega)
    have hlt : (j : Int) < (k : Int) := by omega
    have hkl : k < BL.length := (List.getElem?_eq_some_iff.1 hx).1
    have hik := idx_in hkl
    have eo : (f && othN x.s (b :: r)) = ((f && !(b.s == x.s)) && othN x.s r) := by simp only [othN, List.all_cons, Bool.and_assoc]
    rw [eo]
    obtain ⟨fr', l1, l2⟩ := lp26_0 BL hL X3 X4 X5 X6 σ k x hx X r (j + 1) (f && !(b.s == x.s)) g4 (by omega)
    refine ⟨fr', Lp.step ⟨0, fun N hN => ?_⟩ l1, l2⟩
    obtain ⟨s, a, bk, ba, bS, bn, bks, bas⟩ := b
    obtain ⟨s', a', bk', ba', bS', bn', bks', bas'⟩ := x
    simp only [encB, cellsE] at g1 hx
    cases f with
    | false => simp -implicitDefEqProofs [b26_0, d26_0, g1, g2, g3, hw, hlt, hx, hik]
    | true => simp -implicitDefEqProofs [b26_0, d26_0, g1, g2, g3, hw, hlt, hx, hik, -beq_iff_eq, -beq_eq_false_iff_ne]
set_option maxHeartbeats 2000000 in
theorem lp26_1 (bs : List Bi) (hn : bs.length ≤ 2 ^ 20) (F : List Str) (hF : F.length < big) (X3 X4 : AV) (σ0 : H) : ∀ (r P : List Bi) (acc : List Nat) (q : Nat) (σ : H), bs = P ++ r → NewR σ0 σ q acc → acc.length ≤ P.length →
    ∃ fr' q' σ', Lp ctx [61, 65] [] [0, 3, 4, 5, 6, 7] b26_1 ⟨[(0, .v (.sl 8 (encBs bs))), (3, .v X3), (4, .v X4), (5, .v (encR 1 true (encSs F))), (6, .v (rowV q acc.length 1)), (7, .v (.int .i64 P.length))], false⟩ σ (.ex 2) fr' σ' ∧ NewR σ0 σ' q' (acc ++ rR F P P.length r) ∧ fr'.lk = false ∧
      getS fr'.sl 0 = .v (.sl 8 (encBs bs)) ∧ getS fr'.sl 3 = .v X3 ∧ getS fr'.sl 4 = .v X4 ∧ getS fr'.sl 6 = .v (rowV q' (acc ++ rR F P P.length r).length 1) ∧ Hi2 8 22 fr' ∧ Hi2 26 67 fr'
  | [], P, acc, q, σ, h, hR, ha => by
    simp only [List.append_nil] at h
    subst h
    refine ⟨?_, q, σ, Lp.exit ⟨0, fun N _ => ?_⟩ (by simp), by simpa [rR] using hR, ?_⟩
    rotate_left
    · simp -implicitDefEqProofs [b26_1]
      rfl
    · refine ⟨rfl, by simp, by simp, by simp, by simp [rR], fun t h1 h2 => ?_, fun t h1 h2 => ?_⟩
      all_goals simp only [getS]
      all_goals repeat rw [if_neg (by omega)]
  | b :: r, P, acc, q, σ, h, hR, ha => by
    have ht : Tail (encBs bs) P.length (encBs (b :: r)) := ⟨encBs P, by simp, by rw [h]; simp⟩
    have hlen := ht.len
    simp only [encBs_cons] at ht
    obtain ⟨g1, g2, g3, g4, g5⟩ := ht.cons
    simp at hlen
    simp only [encBs_length] at g2 g3
    have hw := wrap_succ (n := P.length) (by unfold big; omega)
    obtain ⟨fr0, m1, m2, m3, m4, m5, m6, m7, m8, m9, m10, m11⟩ := lp26_0 (encBs bs) (by simp; unfold big; omega) X3 X4 (encR 1 true (encSs F)) (rowV q acc.length 1) σ P.length b g1 (encBs (b :: r)) P 0 true ⟨[], rfl, by rw [h]; simp⟩ (by simp)
    obtain ⟨k0, hk0⟩ := m1.den
    unfold Hi2 at m10 m11
    simp only [Bool.true_and] at m9
    obtain ⟨kp, hkp⟩ := place_ans F true hF b.s
    have hPs : (P ++ [b]).length = P.length + 1 := by simp
    simp only [Int.cast_ofNat_Int] at hk0
    cases ho : othN b.s P with
    | false =>
      rw [ho] at m9
      have er : rR F P P.length (b :: r) = rR F (P ++ [b]) (P ++ [b]).length r := by
        rw [rR, hPs, if_neg (by rw [ho]; simp)]; rfl
      rw [er]
      obtain ⟨fr', q', σ', l1, l2⟩ := lp26_1 bs hn F hF X3 X4 σ0 r (P ++ [b]) acc q σ (by rw [h]; simp) hR (by simp; omega)
      rw [hPs] at l1
      refine ⟨fr', q', σ', Lp.step ⟨k0, fun N hN => ?_⟩ l1, l2⟩
      have hk0 := hk0 N (by omega)
      clear l1 l2
      simp -implicitDefEqProofs [b26_1, g1, g2, g3, hw, hk0, m2, m3, m4, m5, m6, m7, m8, m9, m10, m11]
    | true =>
      rw [ho] at m9
      by_cases hs : b.s ∈ F
      · have hp : place F b.s ≥ 0 := place_yes (any_eqS.2 hs)
        obtain ⟨q1, σ1, p1, p2⟩ := hR.push P.length (by omega)
        unfold tiI at p1
        have er : acc ++ rR F P P.length (b :: r) = (acc ++ [P.length]) ++ rR F (P ++ [b]) (P ++ [b]).length r := by
          rw [rR, hPs, if_pos ⟨ho, hs⟩, List.append_assoc]
        rw [er]
        obtain ⟨fr', q', σ', l1, l2⟩ := lp26_1 bs hn F hF X3 X4 σ0 r (P ++ [b]) (acc ++ [P.length]) q1 σ1 (by rw [h]; simp) p2 (by simp; omega)
        rw [hPs] at l1
        have el : (acc ++ [P.length]).length = acc.length + 1 := by simp
        rw [el] at l1
        refine ⟨fr', q', σ', Lp.step ⟨kp + k0, fun N hN => ?_⟩ l1, l2⟩
        have hk0 := hk0 N (by omega)
        have hkp := hkp N (by omega)
        clear l1 l2
        obtain ⟨s, a, bk, ba, bS, bn, bks, bas⟩ := b
        simp only [encB, cellsE] at g1
        simp -implicitDefEqProofs [b26_1, g1, g2, g3, hw, hk0, hkp, hp, p1, m2, m3, m4, m5, m6, m7, m8, m9, m10, m11, -appendH]
      · have hp : place F b.s = -1 := place_no (by
          cases hx : F.any (eqS b.s) with
          | false => rfl
          | true => exact absurd (any_eqS.1 hx) hs)
        rw [hp] at hkp
        have er : rR F P P.length (b :: r) = rR F (P ++ [b]) (P ++ [b]).length r := by
          rw [rR, hPs, if_neg (fun e => hs e.2)]; rfl
        rw [er]
        obtain ⟨fr', q', σ', l1, l2⟩ := lp26_1 bs hn F hF X3 X4 σ0 r (P ++ [b]) acc q σ (by rw [h]; simp) hR (by simp; omega)
        rw [hPs] at l1
        refine ⟨fr', q', σ', Lp.step ⟨kp + k0, fun N hN => ?_⟩ l1, l2⟩
        have hk0 := hk0 N (by omega)
        have hkp := hkp N (by omega)
        clear l1 l2
        obtain ⟨s, a, bk, ba, bS, bn, bks, bas⟩ := b
        simp only [encB, cellsE] at g1
        simp -implicitDefEqProofs [b26_1, g1, g2, g3, hw, hk0, hkp, m2, m3, m4, m5, m6, m7, m8, m9, m10, m11]
set_option maxHeartbeats 2000000 in
theorem lp26_2 (bs : List Bi) (nl : Bool) (hn : bs.length ≤ 2 ^ 20) (hok : ∀ b ∈ bs, okG b) : ∀ (r : List Bi) (i : Nat) (L : List (List Nat)) (qo : Nat) (cells : List AV) (σ : H), Tail (encBs bs) i (encBs r) → L.length = i → OutR σ qo cells L → (∀ b ∈ r, okG b) →
    ∃ fr' qo' cells' σ', Lp ctx [61, 65] [] [0, 3, 4] b26_2 ⟨[(0, .v (encR 8 nl (encBs bs))), (3, .v (rowV qo L.length 1)), (4, .v (.int .i64 i))], false⟩ σ (.ex 0) fr' σ' ∧ OutR σ' qo' cells' (L ++ r.map fun b => rR (frE [] [] b.b) [] 0 bs) ∧ fr'.lk = false ∧
      getS fr'.sl 3 = .v (rowV qo' (L ++ r.map fun b => rR (frE [] [] b.b) [] 0 bs).length 1) ∧ getS fr'.sl 2 = .u ∧ getS fr'.sl 66 = .u
  | [], i, L, qo, cells, σ, h, hL, hO, _ => by
    have h' := h.nil
    simp only [encBs_length] at h'
    refine ⟨?_, qo, cells, σ, Lp.exit ⟨0, fun N _ => ?_⟩ (by simp), by simpa using hO, ?_⟩
    rotate_left
    · simp -implicitDefEqProofs [b26_2, h']
      rfl
    · exact ⟨rfl, by simp, by simp, by simp⟩
  | b :: r, i, L, qo, cells, σ, h, hL, hO, hr => by
    have hlen := h.len
    simp only [encBs_cons] at h
    obtain ⟨g1, g2, g3, g4, g5⟩ := h.cons
    simp at hlen
    simp only [encBs_length] at g2 g3
    have hw := wrap_succ (n := i) (by unfold big; omega)
    have g6 := g5 8 nl
    have hb := hr b (by simp)
    have hFl := frE_len b.b [] []
    have hv := hb.v
    simp only [List.length_nil, Nat.zero_add] at hFl
    obtain ⟨kf, hkf⟩ := rfree_ans b.b hb.f hb.bd
    obtain ⟨F, hFe⟩ : ∃ F, F = frE [] [] b.b := ⟨_, rfl⟩
    rw [← hFe] at hkf hFl
    obtain ⟨fr1, q1, σ1, m1, m2, m3, m4, m5, m6, m7, m8, m9⟩ := lp26_1 bs hn F (by unfold big; omega) (rowV qo L.length 1) (.int .i64 i) σ bs [] [] 0 σ rfl (NewR.start σ) (Nat.le_refl _)
    obtain ⟨k1, hk1⟩ := m1.den
    unfold Hi2 at m8 m9
    rw [List.nil_append] at m2 m7
    simp only [List.length_nil] at m2 m7 hk1
    obtain ⟨R, hRe⟩ : ∃ R, R = rR F [] 0 bs := ⟨_, rfl⟩
    rw [← hRe] at m2 m7
    have hO1 := hO.keep m2.old m2.len
    obtain ⟨qo2, σ2, p1, p2⟩ := hO1.push m2.row (fun hne => ⟨(m2.pos hne).2, fun hc e => by have := (m2.pos hne).1; have := hO.pos hc; omega⟩) (by omega)
    unfold tiR at p1
    have el : (L ++ [R]).length = L.length + 1 := by simp
    obtain ⟨fr', qo', cells', σ', l1, l2, l3⟩ := lp26_2 bs nl hn hok r (i + 1) (L ++ [R]) qo2 _ σ2 g4 (by simp; omega) p2 (fun x hx => hr x (by simp [hx]))
    rw [el] at l1
    have hres : (L ++ [R]) ++ r.map (fun b => rR (frE [] [] b.b) [] 0 bs) = L ++ (b :: r).map (fun b => rR (frE [] [] b.b) [] 0 bs) := by
      rw [List.map_cons, ← hFe, ← hRe]; simp
    rw [hres] at l2 l3
    rw [g6] at l1
    have hrf : (rowV q1 R.length 1).fits ⟨.slice 3, 1, 24, .nil, []⟩ = true := by rw [rowV_fits]; rfl
    have e0 : (rowV 0 0 1) = .nil := rfl
    simp only [Int.cast_ofNat_Int, e0] at hk1
    rw [g6]
    refine ⟨fr', qo', cells', σ', Lp.step ⟨kf + k1, fun N hN => ?_⟩ l1, l2, l3⟩
    have hkf := hkf N (by omega)
    have hk1 := hk1 N (by omega)
    clear l1 l2 l3 p2 hO1 m1
    obtain ⟨s, a, bk, ba, bS, bn, bks, bas⟩ := b
    simp only [encB, cellsE] at g1
    simp only [encE_mk] at hkf
    simp -implicitDefEqProofs [b26_2, encB, cellsE, g1, g2, g3, g6, hw, hkf, hk1, m3, m4, m5, m6, m7, m8, m9, hrf, p1, -appendH]
theorem rgraph_ans (bs : List Bi) (nl : Bool) (hn : bs.length ≤ 2 ^ 20) (hok : ∀ b ∈ bs, okG b) : Ans ctx 26 [encR 8 nl (encBs bs)] (encR 1 true (encU (gphR bs))) := by
  obtain ⟨fr', qo', cells', σ', l1, l2, l3, l4, l5, l6⟩ := lp26_2 bs nl hn hok bs 0 [] 0 [] [] (Tail.all _) rfl OutR.start hok
  obtain ⟨k, hk⟩ := l1.den
  rw [List.nil_append] at l2 l4
  obtain ⟨ns, hsn⟩ := l2.snap 198
  refine Ans.fn (rs := []) (σ' := σ') fn26_ (by simp [AV.noRefs]) ⟨k, fun N hN => ?_⟩ hsn
  have hk := hk N hN
  have e0 : (rowV 0 0 1) = .nil := rfl
  simp only [Int.cast_ofNat_Int, List.length_nil, e0] at hk
  simp -implicitDefEqProofs [i26, c26, hk, l3, l4, l5, l6]
/-! ### plain -/
theorem othN_app (s : Str) (P Q : List Bi) : othN s (P ++ Q) = (othN s P && othN s Q) := by simp [othN, List.all_append]
theorem mem_rR (F : List Str) : ∀ (l P : List Bi) (k x : Nat), x ∈ rR F P k l ↔ ∃ j b, l[j]? = some b ∧ x = k + j ∧ othN b.s (P ++ l.take j) = true ∧ b.s ∈ F
  | [], P, k, x => by simp [rR]
  | b :: l, P, k, x => by
    rw [rR, List.mem_append, mem_rR F l (P ++ [b]) (k + 1) x]
    constructor
    · rintro (h | ⟨j, c, h1, h2, h3, h4⟩)
      · split at h
        · rename_i hc
          simp at h
          exact ⟨0, b, rfl, by omega, by simpa using hc.1, hc.2⟩
        · cases h
      · exact ⟨j + 1, c, by simpa using h1, by omega, by simpa using h3, h4⟩
    · rintro ⟨j, c, h1, h2, h3, h4⟩
      cases j with
      | zero =>
        simp at h1
        subst h1
        left
        rw [if_pos ⟨by simpa using h3, h4⟩]
        simp; omega
      | succ j => exact .inr ⟨j, c, by simpa using h1, by omega, by simpa using h3, h4⟩
theorem rR_lt (F : List Str) : ∀ (l P : List Bi) (k : Nat), (rR F P k l).Pairwise (· < ·)
  | [], P, k => by simp [rR]
  | b :: l, P, k => by
    rw [rR, List.pairwise_append]
    refine ⟨by split <;> simp, rR_lt F l _ _, fun x hx y hy => ?_⟩
    obtain ⟨j, c, _, h2, _⟩ := (mem_rR F l (P ++ [b]) (k + 1) y).1 hy
    split at hx
    · simp at hx; omega
    · cases hx
theorem getT_pl_iff (s : Str) : ∀ (l : List Bi) (i x : Nat), getT (plT i l) s = some x ↔ ∃ j b, l[j]? = some b ∧ x = i + j ∧ b.s = s ∧ othN s (l.take j) = true
  | [], i, x => by simp [plT]
  | b :: l, i, x => by
    rw [getT_pl]
    by_cases hs : s = b.s
    · rw [if_pos hs]
      constructor
      · intro h
        cases h
        exact ⟨0, b, rfl, by omega, hs.symm, by simp [othN]⟩
      · rintro ⟨j, c, h1, h2, h3, h4⟩
        cases j with
        | zero => simp [h2]
        | succ j =>
          simp [othN, hs] at h4
    · rw [if_neg hs, getT_pl_iff s l (i + 1) x]
      constructor
      · rintro ⟨j, c, h1, h2, h3, h4⟩
        refine ⟨j + 1, c, by simpa using h1, by omega, h3, ?_⟩
        simp only [List.take_succ_cons, othN, List.all_cons, Bool.and_eq_true] at h4 ⊢
        refine ⟨?_, h4⟩
        have : (b.s == s) = false := by rw [beq_eq_false_iff_ne]; exact fun e => hs e.symm
        rw [this]; rfl
      · rintro ⟨j, c, h1, h2, h3, h4⟩
        cases j with
        | zero =>
          simp at h1
          subst h1
          exact absurd h3.symm hs
        | succ j =>
          refine ⟨j, c, by simpa using h1, by omega, h3, ?_⟩
          simp only [List.take_succ_cons, othN, List.all_cons, Bool.and_eq_true] at h4
          exact h4.2
theorem row_eq (l : List Bi) (F : List Str) (hF : F.Nodup) : sortN (ledT (plT 0 l) F) = rR F [] 0 l := by
  refine pw_ext (sortN_lt (led_nodup l F hF)) (rR_lt F l [] 0) fun x => ?_
  rw [sortN_mem, mem_led, mem_rR]
  constructor
  · rintro ⟨s, h1, h2⟩
    obtain ⟨j, b, a1, a2, a3, a4⟩ := (getT_pl_iff s l 0 x).1 h2
    subst a3
    exact ⟨j, b, a1, a2, by simpa using a4, h1⟩
  · rintro ⟨j, b, a1, a2, a3, a4⟩
    exact ⟨b.s, a4, (getT_pl_iff b.s l 0 x).2 ⟨j, b, a1, a2, rfl, by simpa using a3⟩⟩
theorem gph_eq (l : List Bi) : gphP l = gphR l := by
  unfold gphP gphR
  exact List.map_congr_left fun b _ => row_eq l _ (frE_nodup b.b [] [] List.nodup_nil)
theorem gph_rows (l : List Bi) : ∀ m ∈ gphP l, m.length ≤ l.length := fun m hm => by
  rw [gph_eq] at hm
  obtain ⟨b, _, rfl⟩ := List.mem_map.1 hm
  have h2 : ∀ (F : List Str) (r P : List Bi) (k : Nat), (rR F P k r).length ≤ r.length := fun F r => by
    induction r with
    | nil => intro P k; simp [rR]
    | cons x r ih =>
      intro P k
      have := ih (P ++ [x]) (k + 1)
      rw [rR, List.length_append, List.length_cons]
      split <;> simp <;> omega
  exact h2 _ l [] 0
/-! ### two lists that are one -/
theorem lp55 (A : List Nat) (na nb : Bool) (hA : A.length < big) : ∀ (r : List Nat) (i : Nat), Tail (encNs A) i (encNs r) →
    ∃ fr', Lp ctx [] [] [0, 1, 5] b55_0 ⟨[(0, .v (encR 1 na (encNs A))), (1, .v (encR 1 nb (encNs A))), (5, .v (.int .i64 i))], false⟩ [] (.ex 0) fr' [] ∧ fr'.lk = false ∧ getS fr'.sl 4 = .u
  | [], i, ha => by
    have hlen := ha.nil
    simp only [encNs_length] at hlen
    refine ⟨?_, Lp.exit ⟨0, fun N _ => ?_⟩ (by simp), ?_⟩
    rotate_left
    · simp -implicitDefEqProofs [b55_0, hlen]
      rfl
    · simp
  | a :: r, i, ha => by
    have hlen := ha.len
    rw [encNs_cons] at ha
    obtain ⟨a1, a2, a3, a4, a5⟩ := ha.cons
    simp only [encNs_length] at a2 a3
    simp at hlen
    have hw := wrap_succ (n := i) (by unfold big at *; omega)
    have e1 := a5 1 na
    have e2 := a5 1 nb
    rw [e1, e2]
    obtain ⟨fr', l1, l2⟩ := lp55 A na nb hA r (i + 1) a4
    rw [e1, e2] at l1
    refine ⟨fr', Lp.step ⟨0, fun N hN => ?_⟩ l1, l2⟩
    simp -implicitDefEqProofs [b55_0, d55_0, a1, a2, a3, hw]
theorem ints_eq (A : List Nat) (na nb : Bool) (hA : A.length < big) : Ans ctx 55 [encR 1 na (encNs A), encR 1 nb (encNs A)] (.bool true) := by
  obtain ⟨fr', l1, l2, l3⟩ := lp55 A na nb hA A 0 (Tail.all _)
  obtain ⟨k, hk⟩ := l1.den
  refine Ans.of (σ' := []) fn55_ (by simp [AV.noRefs]) (by simp) ⟨k, fun N hN => ?_⟩
  have hk := hk N hN
  simp only [Int.cast_ofNat_Int] at hk
  simp -implicitDefEqProofs [i55, c55, hk, l2, l3]
theorem encU_cons (m : List Nat) (l : List (List Nat)) : encU (m :: l) = encR 1 true (encNs m) :: encU l := rfl
@[simp] theorem noRefs_encU : ∀ l : List (List Nat), AV.noRefs (encU l) = true
  | [] => rfl
  | m :: l => by simp [encU_cons, AV.noRefs, noRefs_encU l]
theorem lp24 (A : List (List Nat)) (na nb : Bool) (hA : A.length < big) : ∀ (r : List (List Nat)) (i : Nat), Tail (encU A) i (encU r) → (∀ m ∈ r, m.length < big) →
    ∃ fr', Lp ctx [] [] [0, 1, 5] b24_0 ⟨[(0, .v (encR 1 na (encU A))), (1, .v (encR 1 nb (encU A))), (5, .v (.int .i64 i))], false⟩ [] (.ex 0) fr' [] ∧ fr'.lk = false ∧ getS fr'.sl 4 = .u
  | [], i, ha, _ => by
    have hlen := ha.nil
    simp only [encU_length] at hlen
    refine ⟨?_, Lp.exit ⟨0, fun N _ => ?_⟩ (by simp), ?_⟩
    rotate_left
    · simp -implicitDefEqProofs [b24_0, hlen]
      rfl
    · simp
  | m :: r, i, ha, hm => by
    have hlen := ha.len
    rw [encU_cons] at ha
    obtain ⟨a1, a2, a3, a4, a5⟩ := ha.cons
    simp only [encU_length] at a2 a3
    simp at hlen
    have hw := wrap_succ (n := i) (by unfold big at *; omega)
    have e1 := a5 1 na
    have e2 := a5 1 nb
    rw [e1, e2]
    obtain ⟨k, hk⟩ := ints_eq m true true (hm m (by simp))
    obtain ⟨fr', l1, l2⟩ := lp24 A na nb hA r (i + 1) a4 (fun x hx => hm x (by simp [hx]))
    rw [e1, e2] at l1
    refine ⟨fr', Lp.step ⟨k, fun N hN => ?_⟩ l1, l2⟩
    have hk := hk N hN
    simp -implicitDefEqProofs [b24_0, d24_0, a1, a2, a3, hw, hk]
theorem lists_eq (A : List (List Nat)) (na nb : Bool) (hA : A.length < big) (hm : ∀ m ∈ A, m.length < big) : Ans ctx 24 [encR 1 na (encU A), encR 1 nb (encU A)] (.bool true) := by
  obtain ⟨fr', l1, l2, l3⟩ := lp24 A na nb hA A 0 (Tail.all _) hm
  obtain ⟨k, hk⟩ := l1.den
  refine Ans.of (σ' := []) fn24_ (by simp [AV.noRefs]) (by simp) ⟨k, fun N hN => ?_⟩
  have hk := hk N hN
  simp only [Int.cast_ofNat_Int] at hk
  simp -implicitDefEqProofs [i24, c24, hk, l2, l3]
theorem parse_nz {s : Str} {e a : Nat} (h : parse s = .bad e a) : e ≠ 0 := by
  unfold parse at h
  cases hl : lex s with
  | bad x y =>
    rw [hl] at h
    have := lex_pos s hl
    simp only [Parsed.bad.injEq] at h
    rw [← h.1]; exact this
  | ok l =>
    rw [hl] at h
    simp only at h
    split at h
    · simp only [Parsed.bad.injEq] at h; omega
    · split at h
      · simp only [Parsed.bad.injEq] at h; omega
      · cases h
theorem decl_blen (E n : Nat) (out : Pg) (p : PS) : (decl E n out p).1.bs.length ≤ out.bs.length + 1 := by
  unfold decl
  split <;> simp
theorem decls_blen (E n : Nat) : ∀ (m : Nat) (out : Pg) (p : PS), (decls E n m out p).1.bs.length ≤ out.bs.length + m
  | 0, out, p => by simp [decls]
  | m + 1, out, p => by
    simp only [decls]
    split
    · have h1 := decl_blen E n out p
      have h2 := decls_blen E n m (decl E n out p).1 (decl E n out p).2
      omega
    · simp only; omega
theorem parse_lenB {s : Str} {p : Pg} (h : parse s = .ok p) : p.bs.length ≤ 65537 := by
  unfold parse at h
  cases hl : lex s with
  | bad e a => rw [hl] at h; cases h
  | ok l =>
    rw [hl] at h
    simp only at h
    have hlen := tl_lex s hl
    have h1 := decls_blen s.length (8 * l.length + 40) (l.length + 1) ⟨[], []⟩ ⟨0, l, false, 0⟩
    generalize decls s.length (8 * l.length + 40) (l.length + 1) ⟨[], []⟩ ⟨0, l, false, 0⟩ = R at *
    obtain ⟨out, q⟩ := R
    simp only [List.length_nil] at h h1
    split at h
    · cases h
    · split at h
      · cases h
      · cases h
        omega
theorem graphs_ans {s : Str} {p : Pg} (hp : parse s = .ok p) : Ans ctx 25 [encR 8 true (encBs p.bs)] (.sl 1 (encU (gphR p.bs))) ∧ Ans ctx 26 [encR 8 true (encBs p.bs)] (encR 1 true (encU (gphR p.bs))) ∧ Ans ctx 24 [.sl 1 (encU (gphR p.bs)), encR 1 true (encU (gphR p.bs))] (.bool true) ∧ (∀ b ∈ p.bs, okG b) ∧ p.bs.length < big ∧ okP p := by
  have hok := (parse_ans s).2 p hp
  have hG := parse_okW hp
  have hbl : p.bs.length ≤ 2 ^ 20 := by have := parse_lenB hp; omega
  have h1 := graph_ans p.bs true hbl hG
  have hrows := gph_rows p.bs
  rw [gph_eq] at h1 hrows
  have h3 := lists_eq (gphR p.bs) false true (by unfold gphR big; simp; omega) (fun m hm => by have := hrows m hm; unfold big; omega)
  rw [encR_false] at h3
  exact ⟨h1, rgraph_ans p.bs true hbl hG, h3, hG, by unfold big; omega, hok⟩
end Go.Am.Try
