/- Layer 14: refs.Free. -/
import Derived.Test.YtdapcelbbejfoaaP22
set_option linter.unusedVariables false
set_option maxRecDepth 100000
set_option linter.unusedSimpArgs false
namespace Go.Am.Try
open Go Go.Am.Ps
structure FS (σ : H) (l : KL) (O : List Str) : Prop where
  m : σ[0]? = some (.map (encKL l))
  o : ∃ qO, σ[1]? = some (.arr false 2 [.agg [.map 0, rowV qO O.length 1]]) ∧ (O ≠ [] → 2 ≤ qO) ∧ RowAt σ qO 1 (encSs O)
structure KR (l : KL) (B O : List Str) : Prop where
  b : ∀ s, getK l (s, false) = (B.count s : Int)
  f : ∀ s, getK l (s, true) = if s ∈ O then 1 else 0
theorem KR.perm {l : KL} {B B' O : List Str} (h : KR l B O) (hp : ∀ s, B'.count s = B.count s) : KR l B' O := ⟨fun s => by rw [h.b s, hp s], h.f⟩
mutual
def mxE : Ex → Nat
  | .mk _ _ _ _ ks as => 1 + max (mxEs ks) (mxAs as)
def mxEs : List Ex → Nat
  | [] => 0
  | e :: l => max (mxE e) (mxEs l)
def mxAs : List Al → Nat
  | [] => 0
  | .mk _ _ ns b :: l => max (ns.length + mxE b) (mxAs l)
end
theorem FS.set {σ : H} {l l' : KL} {O : List Str} (h : FS σ l O) : FS (σ.set 0 (.map (encKL l'))) l' O := by
  have hlt := (List.getElem?_eq_some_iff.1 h.m).1
  obtain ⟨qO, h1, h2, h3⟩ := h.o
  refine ⟨List.getElem?_set_self hlt, qO, by rw [List.getElem?_set_ne (by omega)]; exact h1, h2, fun hx => ?_⟩
  have : 2 ≤ qO := h2 (by intro e; rw [e] at hx; exact hx rfl)
  rw [List.getElem?_set_ne (by omega)]
  exact h3 hx
theorem KR.inc {l : KL} {B O : List Str} (h : KR l B O) (a : Str) : KR (putK (a, false) (getK l (a, false) + 1) l) (a :: B) O := by
  refine ⟨fun s => ?_, fun s => ?_⟩
  · rw [getK_put]
    by_cases hs : s = a
    · subst hs
      rw [if_pos rfl, h.b, List.count_cons_self]; simp
    · rw [if_neg (by simpa using hs), h.b, List.count_cons_of_ne (fun e => hs e.symm)]
  · rw [getK_put, if_neg (by simp), h.f]
theorem KR.dec {l : KL} {B O : List Str} {a : Str} (h : KR l (a :: B) O) : KR (putK (a, false) (getK l (a, false) - 1) l) B O := by
  refine ⟨fun s => ?_, fun s => ?_⟩
  · rw [getK_put]
    by_cases hs : s = a
    · subst hs
      rw [if_pos rfl, h.b, List.count_cons_self]; simp
    · rw [if_neg (by simpa using hs), h.b, List.count_cons_of_ne (fun e => hs e.symm)]
  · rw [getK_put, if_neg (by simp), h.f]
theorem lp87_0 (L : List AV) (nl : Bool) (hL : L.length < big) (X5 : AV) (O : List Str) : ∀ (r : List Str) (i : Nat) (B : List Str) (l : KL) (σ : H), Tail L i (encSs r) → B.length + r.length ≤ 2 ^ 62 → FS σ l O → KR l B O →
    ∃ fr' σ' l', Lp ctx [] [] [0, 1, 5, 10, 11, 12] b87_0 ⟨[(0, .v (.ptr 1 1 0 0)), (1, .v (encR 1 nl L)), (5, .bx X5), (10, .v (encR 1 nl L)), (11, .v (.int .i64 L.length)), (12, .v (.int .i64 i))], false⟩ σ (.ex 0) fr' σ' ∧ fr'.lk = false ∧ Hi 27 fr' ∧ getS fr'.sl 0 = .v (.ptr 1 1 0 0) ∧ getS fr'.sl 1 = .v (encR 1 nl L) ∧ getS fr'.sl 5 = .bx X5 ∧ getS fr'.sl 9 = .u ∧ FS σ' l' O ∧ KR l' (r ++ B) O
  | [], i, B, l, σ, h, _, hf, hk => by
    have h' := h.nil
    refine ⟨?_, σ, l, Lp.exit ⟨0, fun N _ => ?_⟩ (by simp), ?_⟩
    rotate_left
    · simp -implicitDefEqProofs [b87_0, h']
      rfl
    · exact ⟨by simp, hi_of (by simp), by simp, by simp, by simp, by simp, hf, hk⟩
  | a :: r, i, B, l, σ, h, hb, hf, hk => by
    have hlen := h.len
    simp only [encSs_cons] at h
    obtain ⟨g1, g2, g3, g4, g5⟩ := h.cons
    simp at hlen hb
    have hw := wrap_succ (n := i) (by omega)
    have hcnt : B.count a ≤ B.length := List.count_le_length
    have hgk := hk.b a
    have hw2 : IntKind.i64.wrap (getK l (a, false) + 1) = getK l (a, false) + 1 := wrap_i64 (by rw [hgk]; omega)
    obtain ⟨fr', σ', l', q1, q2, q3, q4, q5, q6, q7, q8, q9⟩ := lp87_0 L nl hL X5 O r (i + 1) (a :: B) (putK (a, false) (getK l (a, false) + 1) l) _ g4 (by simp; omega) hf.set (hk.inc a)
    have g6 := g5 1 nl
    obtain ⟨qO, ho, _, _⟩ := hf.o
    have e1 : lookupA ctx 98 (.map 0) (.agg [.str a, .bool false]) false σ = some (.int .i64 (getK l (a, false)), σ) := look98 hf.m (a, false)
    have e2 : entryA ctx 98 (.map 0) (.agg [.str a, .bool false]) σ = some (.tup [.int .i64 (getK l (a, false)), .int .i64 (entK l (a, false)).1], σ.set 0 (.map (encKL (entK l (a, false)).2))) := ent98 hf.m (a, false)
    have hs := (hf.set (l' := (entK l (a, false)).2)).m
    have e3 : lookupA ctx 98 (.map 0) (.agg [.str a, .bool false]) false (σ.set 0 (.map (encKL (entK l (a, false)).2))) = some (.int .i64 (getK l (a, false)), σ.set 0 (.map (encKL (entK l (a, false)).2))) := by
      have := look98 hs (a, false)
      rw [getK_ent] at this
      exact this
    have e4 : entryStoreA ctx 98 (.map 0) (.int .i64 (entK l (a, false)).1) (.int .i64 (getK l (a, false) + 1)) (σ.set 0 (.map (encKL (entK l (a, false)).2))) = some ((), σ.set 0 (.map (encKL (putK (a, false) (getK l (a, false) + 1) l)))) := by
      have := store98 (a, false) hs (getK l (a, false) + 1)
      rw [List.set_set] at this
      exact this
    rw [g6] at q1 q5 ⊢
    refine ⟨fr', σ', l', Lp.step ⟨0, fun N hN => ?_⟩ q1, q2, q3, q4, q5, q6, q7, q8, q9.perm fun s => ?_⟩
    · generalize (entK l (a, false)).1 = ei at *
      generalize σ.set 0 (.map (encKL (entK l (a, false)).2)) = σa at *
      generalize σ.set 0 (.map (encKL (putK (a, false) (getK l (a, false) + 1) l))) = σb at *
      generalize getK l (a, false) = c0 at *
      simp -implicitDefEqProofs [b87_0, g1, g2, g3, hw, ho, e1, e2, e3, e4, hw2]
    · simp [List.count_append, List.count_cons]; omega
theorem lp87_1 (L : List AV) (nl : Bool) (hL : L.length < big) (O : List Str) : ∀ (r : List Str) (i : Nat) (B : List Str) (l : KL) (σ : H), Tail L i (encSs r) → B.length + r.length ≤ 2 ^ 62 → FS σ l O → KR l (r ++ B) O →
    ∃ fr' σ' l', Lp ctx [] [] [0, 30, 31, 32] b87_1 ⟨[(0, .v (.ptr 1 1 0 0)), (30, .v (encR 1 nl L)), (31, .v (.int .i64 L.length)), (32, .v (.int .i64 i))], false⟩ σ (.ex 2) fr' σ' ∧ fr'.lk = false ∧ FS σ' l' O ∧ KR l' B O
  | [], i, B, l, σ, h, _, hf, hk => by
    have h' := h.nil
    refine ⟨?_, σ, l, Lp.exit ⟨0, fun N _ => ?_⟩ (by simp), ?_⟩
    rotate_left
    · simp -implicitDefEqProofs [b87_1, h']
      rfl
    · exact ⟨by simp, hf, hk⟩
  | a :: r, i, B, l, σ, h, hb, hf, hk => by
    have hlen := h.len
    simp only [encSs_cons] at h
    obtain ⟨g1, g2, g3, g4, g5⟩ := h.cons
    simp at hlen hb
    have hw := wrap_succ (n := i) (by omega)
    have hcnt : (a :: r ++ B).count a ≤ (a :: r ++ B).length := List.count_le_length
    simp only [List.length_append, List.length_cons] at hcnt
    have hgk := hk.b a
    have hw2 : IntKind.i64.wrap (getK l (a, false) - 1) = getK l (a, false) - 1 := wrap_i64 (by rw [hgk]; omega)
    obtain ⟨fr', σ', l', q1, q2, q8, q9⟩ := lp87_1 L nl hL O r (i + 1) B (putK (a, false) (getK l (a, false) - 1) l) _ g4 (by omega) hf.set (KR.dec hk)
    have g6 := g5 1 nl
    obtain ⟨qO, ho, _, _⟩ := hf.o
    have e1 : lookupA ctx 98 (.map 0) (.agg [.str a, .bool false]) false σ = some (.int .i64 (getK l (a, false)), σ) := look98 hf.m (a, false)
    have e2 : entryA ctx 98 (.map 0) (.agg [.str a, .bool false]) σ = some (.tup [.int .i64 (getK l (a, false)), .int .i64 (entK l (a, false)).1], σ.set 0 (.map (encKL (entK l (a, false)).2))) := ent98 hf.m (a, false)
    have hs := (hf.set (l' := (entK l (a, false)).2)).m
    have e3 : lookupA ctx 98 (.map 0) (.agg [.str a, .bool false]) false (σ.set 0 (.map (encKL (entK l (a, false)).2))) = some (.int .i64 (getK l (a, false)), σ.set 0 (.map (encKL (entK l (a, false)).2))) := by
      have := look98 hs (a, false)
      rw [getK_ent] at this
      exact this
    have e4 : entryStoreA ctx 98 (.map 0) (.int .i64 (entK l (a, false)).1) (.int .i64 (getK l (a, false) - 1)) (σ.set 0 (.map (encKL (entK l (a, false)).2))) = some ((), σ.set 0 (.map (encKL (putK (a, false) (getK l (a, false) - 1) l)))) := by
      have := store98 (a, false) hs (getK l (a, false) - 1)
      rw [List.set_set] at this
      exact this
    rw [g6] at q1 ⊢
    refine ⟨fr', σ', l', Lp.step ⟨0, fun N hN => ?_⟩ q1, q2, q8, q9⟩
    generalize (entK l (a, false)).1 = ei at *
    generalize σ.set 0 (.map (encKL (entK l (a, false)).2)) = σa at *
    generalize σ.set 0 (.map (encKL (putK (a, false) (getK l (a, false) - 1) l))) = σb at *
    generalize getK l (a, false) = c0 at *
    simp -implicitDefEqProofs [b87_1, g1, g2, g3, hw, ho, e1, e2, e3, e4, hw2]
mutual
def vE : Ex → Nat
  | .mk k _ _ _ ks as => (if k = 1 then 1 else 0) + (vEs ks + vAs as)
def vEs : List Ex → Nat
  | [] => 0
  | e :: l => vE e + vEs l
def vAs : List Al → Nat
  | [] => 0
  | .mk _ _ _ b :: l => vE b + vAs l
end
theorem addF_len (k : Nat) (s : Str) (B O : List Str) : (addF k s B O).length ≤ O.length + (if k = 1 then 1 else 0) := by
  unfold addF
  split
  · rename_i h; simp [h.1]
  · omega
mutual
theorem frE_len : ∀ (e : Ex) (B O : List Str), (frE B O e).length ≤ O.length + vE e
  | .mk k a s n ks as, B, O => by
    simp only [frE, vE]
    have h1 := addF_len k s B O
    have h2 := frK_len k s ks 0 B (addF k s B O)
    have h3 := frA_len as B (frK k s 0 B (addF k s B O) ks)
    omega
theorem frK_len (k : Nat) (s : Str) : ∀ (l : List Ex) (i : Nat) (B O : List Str), (frK k s i B O l).length ≤ O.length + vEs l
  | [], i, B, O => by simp [frK, vEs]
  | e :: l, i, B, O => by
    simp only [frK, vEs]
    have h1 := frE_len e (s :: B) O
    have h2 := frE_len e B O
    have h3 := frK_len k s l (i + 1) B (cond (bindK k i) (frE (s :: B) O e) (frE B O e))
    cases hb : bindK k i <;> rw [hb] at h3 <;> simp only [cond] at h3 ⊢ <;> omega
theorem frA_len : ∀ (l : List Al) (B O : List Str), (frA B O l).length ≤ O.length + vAs l
  | [], B, O => by simp [frA, vAs]
  | .mk _ _ ns b :: l, B, O => by
    simp only [frA, vAs]
    have h1 := frE_len b (ns ++ B) O
    have h2 := frA_len l B (frE (ns ++ B) O b)
    omega
end
def FindOK (e : Ex) : Prop := ∀ B O l σ, B.length + mxE e ≤ 2 ^ 61 → O.length + vE e ≤ 2 ^ 39 → FS σ l O → KR l B O →
    ∃ σ' l', AnsH ctx 51 [.ptr 1 1 0 0, encE e] σ (.tup []) σ' ∧ FS σ' l' (frE B O e) ∧ KR l' B (frE B O e)
theorem within_ans {e : Ex} (he : FindOK e) (ns : List Str) (nl : Bool) (hns : ns.length < big) {B O : List Str} {l : KL} {σ : H} (hb : ns.length + B.length + mxE e ≤ 2 ^ 61) (hO : O.length + vE e ≤ 2 ^ 39) (hf : FS σ l O) (hk : KR l B O) :
    ∃ σ' l', AnsH ctx 87 [.ptr 1 1 0 0, encR 1 nl (encSs ns), encE e] σ (.tup []) σ' ∧ FS σ' l' (frE (ns ++ B) O e) ∧ KR l' B (frE (ns ++ B) O e) := by
  obtain ⟨fr1, σ1, l1, q1, q2, q3, q4, q5, q6, q7, q8, q9⟩ := lp87_0 (encSs ns) nl (by simpa using hns) (encE e) O ns 0 B l σ (Tail.all _) (by omega) hf hk
  obtain ⟨k1, hk1⟩ := q1.den
  unfold Hi at q3
  obtain ⟨σ2, l2, ⟨k2, hk2⟩, f2, r2⟩ := he (ns ++ B) O l1 σ1 (by simp; omega) hO q8 q9
  obtain ⟨fr2, σ3, l3, j1, j2, j3, j4⟩ := lp87_1 (encSs ns) nl (by simpa using hns) (frE (ns ++ B) O e) ns 0 B l2 σ2 (Tail.all _) (by omega) f2 r2
  obtain ⟨k3, hk3⟩ := j1.den
  refine ⟨σ3, l3, AnsH.of fn87_ (by simp) (snapPtr _ _ _) (by simp) ⟨k1 + k2 + k3, fun N hN => ?_⟩, j3, j4⟩
  have hk1 := hk1 N (by omega)
  have hk2 := hk2 N (by omega)
  have hk3 := hk3 N (by omega)
  simp only [encSs_length] at hk1 hk3
  simp -implicitDefEqProofs [i87, c87, hk1, hk2, hk3, q2, q3, q4, q5, q6, q7, j2]
theorem head51 {k : Nat} {s : Str} {B O : List Str} {l : KL} {σ : H} (hO : O.length + 1 ≤ 2 ^ 39) (hf : FS σ l O) (hk : KR l B O) (hyes : k = 1 ∧ s ∉ B ∧ s ∉ O) :
    ∃ qO q3 σ2 σ3, σ[1]? = some (.arr false 2 [.agg [.map 0, rowV qO O.length 1]]) ∧ updateA ctx 98 (.map 0) (.agg [.str s, .bool true]) (.int .i64 1) σ = some ((), σ.set 0 (.map (encKL (putK (s, true) 1 l)))) ∧
      (σ.set 0 (.map (encKL (putK (s, true) 1 l))))[1]? = some (.arr false 2 [.agg [.map 0, rowV qO O.length 1]]) ∧
      appendH ⟨.str, 1, 16, .str [], [.str]⟩ (rowV qO O.length 1) [.str s] (σ.set 0 (.map (encKL (putK (s, true) 1 l)))) = some (rowV q3 (O.length + 1) 1, σ2) ∧ σ2[1]? = some (.arr false 2 [.agg [.map 0, rowV qO O.length 1]]) ∧ σ3 = σ2.set 1 (.arr false 2 [.agg [.map 0, rowV q3 (O.length + 1) 1]]) ∧
      FS σ3 (putK (s, true) 1 l) (O ++ [s]) ∧ KR (putK (s, true) 1 l) B (O ++ [s]) := by
  obtain ⟨qO, h1, h2, h3⟩ := hf.o
  have hlt := (List.getElem?_eq_some_iff.1 hf.m).1
  have hf2 := hf.set (l' := putK (s, true) 1 l)
  obtain ⟨qO', h1', h2', h3'⟩ := hf2.o
  have e1 : (σ.set 0 (.map (encKL (putK (s, true) 1 l))))[1]? = some (.arr false 2 [.agg [.map 0, rowV qO O.length 1]]) := by
    rw [List.getElem?_set_ne (by omega)]; exact h1
  have h3'' : RowAt (σ.set 0 (.map (encKL (putK (s, true) 1 l)))) qO 1 (encSs O) := fun hx => by
    have : 2 ≤ qO := h2 (by intro e; rw [e] at hx; exact hx rfl)
    rw [List.getElem?_set_ne (by omega)]
    exact h3 hx
  obtain ⟨q3, σ2, a1, a2, a3, a4⟩ := app_raw ⟨.str, 1, 16, .str [], [.str]⟩ (y := .str s) h3'' rfl (by simp; omega) (by simp; omega)
  rw [encSs_length] at a1
  have hne1 : encSs O ≠ [] → (1 : Nat) ≠ qO := fun hx => by
    have : 2 ≤ qO := h2 (by intro e; rw [e] at hx; exact hx rfl)
    omega
  have hne0 : encSs O ≠ [] → (0 : Nat) ≠ qO := fun hx => by
    have : 2 ≤ qO := h2 (by intro e; rw [e] at hx; exact hx rfl)
    omega
  have b1 := a4 1 _ e1 hne1
  have b0 := a4 0 _ hf2.m hne0
  have hlt2 := (List.getElem?_eq_some_iff.1 b1).1
  have hq3 : 2 ≤ q3 := by
    rcases Nat.lt_or_ge q3 2 with h | h
    · exfalso
      have : q3 = 0 ∨ q3 = 1 := by omega
      rcases this with rfl | rfl
      · rw [b0] at a2; cases a2
      · rw [b1] at a2; simp at a2
    · exact h
  refine ⟨qO, q3, σ2, _, h1, up98 hf.m (s, true) 1, e1, a1, b1, rfl, ⟨?_, q3, ?_, fun _ => hq3, fun _ => ?_⟩, ⟨fun x => ?_, fun x => ?_⟩⟩
  · rw [List.getElem?_set_ne (by omega)]; exact b0
  · rw [List.getElem?_set_self hlt2]; simp
  · rw [List.getElem?_set_ne (by omega), a2]; simp
  · rw [getK_put, if_neg (by simp), hk.b]
  · rw [getK_put]
    by_cases hx : x = s
    · subst hx; simp
    · rw [if_neg (by simpa using hx), hk.f]
      simp [hx]
theorem lp51_0 (K A : Nat) (S : Str) (N' : Nat) (L : List AV) (nl : Bool) (C5 : AV) (hL : L.length < big) : ∀ (r : List Ex) (i : Nat) (B O : List Str) (l : KL) (σ : H), Tail L i (encEs r) → B.length + 1 + mxEs r ≤ 2 ^ 61 → O.length + vEs r ≤ 2 ^ 39 → (∀ e ∈ r, FindOK e) → FS σ l O → KR l B O →
    ∃ fr' σ' l', Lp ctx [48] [] [0, 3, 52, 53, 54] b51_0 ⟨[(0, .v (.ptr 1 1 0 0)), (3, .bx (.agg [.int .i64 K, .int .i64 A, .str S, .int .i64 N', encR 6 nl L, C5])), (52, .v (encR 6 nl L)), (53, .v (.int .i64 L.length)), (54, .v (.int .i64 i))], false⟩ σ (.ex 0) fr' σ' ∧ fr'.lk = false ∧ Hi 81 fr' ∧ getS fr'.sl 0 = .v (.ptr 1 1 0 0) ∧ getS fr'.sl 3 = .bx (.agg [.int .i64 K, .int .i64 A, .str S, .int .i64 N', encR 6 nl L, C5]) ∧
      FS σ' l' (frK K S i B O r) ∧ KR l' B (frK K S i B O r)
  | [], i, B, O, l, σ, h, _, _, _, hf, hk => by
    have h' := h.nil
    refine ⟨?_, σ, l, Lp.exit ⟨0, fun N _ => ?_⟩ (by simp), ?_⟩
    rotate_left
    · simp -implicitDefEqProofs [b51_0, h']
      rfl
    · exact ⟨by simp, hi_of (by simp), by simp, by simp, hf, hk⟩
  | e :: r, i, B, O, l, σ, h, hb, hv, he, hf, hk => by
    have hlen := h.len
    simp only [encEs_cons] at h
    obtain ⟨g1, g2, g3, g4, g5⟩ := h.cons
    simp at hlen
    simp only [mxEs, vEs] at hb hv
    have hw := wrap_succ (n := i) (by omega)
    have g6 := g5 6 nl
    have hl1 := frE_len e (S :: B) O
    have hl2 := frE_len e B O
    have e6 : ((K : Int) == 6) = Nat.beq K 6 := (beq_int K 6).symm
    have e7 : ((K : Int) == 7) = Nat.beq K 7 := (beq_int K 7).symm
    have e1 : ((i : Int) == 1) = Nat.beq i 1 := (beq_int i 1).symm
    have hbe : bindK K i = (Nat.beq K 6 || (Nat.beq K 7 && Nat.beq i 1)) := rfl
    have efr : frK K S i B O (e :: r) = frK K S (i + 1) B (cond (bindK K i) (frE (S :: B) O e) (frE B O e)) r := by simp [frK]
    rw [efr]
    cases hbk : bindK K i with
    | true =>
      rw [hbk] at hbe
      obtain ⟨σ1, l1, ⟨k, hk1⟩, f1, r1⟩ := within_ans (he e (by simp)) [S] false (by simp [big]) (B := B) (by simp; omega) (by omega) hf hk
      simp only [List.singleton_append] at f1 r1
      obtain ⟨fr', σ', l', q1, q2⟩ := lp51_0 K A S N' L nl C5 hL r (i + 1) B (frE (S :: B) O e) l1 σ1 g4 (by omega) (by omega) (fun x hx => he x (by simp [hx])) f1 r1
      rw [g6] at q1 q2 ⊢
      refine ⟨fr', σ', l', Lp.step ⟨k, fun N hN => ?_⟩ q1, q2⟩
      have hk1 := hk1 N hN
      simp only [encSs_cons, encSs_nil, encR_false] at hk1
      rw [← e6, ← e7, ← e1] at hbe
      cases c6 : ((K : Int) == 6) with
      | true => simp -implicitDefEqProofs [b51_0, g1, g2, g3, hw, hk1, c6, -beq_iff_eq]
      | false =>
        rw [c6] at hbe
        have c71 : ((K : Int) == 7) = true ∧ ((i : Int) == 1) = true := by
          rw [Bool.false_or] at hbe
          exact Bool.and_eq_true_iff.1 hbe.symm
        simp -implicitDefEqProofs [b51_0, g1, g2, g3, hw, hk1, c6, c71.1, c71.2, -beq_iff_eq, -beq_eq_false_iff_ne]
    | false =>
      rw [hbk] at hbe
      obtain ⟨σ1, l1, ⟨k, hk1⟩, f1, r1⟩ := he e (by simp) B O l σ (by omega) (by omega) hf hk
      obtain ⟨fr', σ', l', q1, q2⟩ := lp51_0 K A S N' L nl C5 hL r (i + 1) B (frE B O e) l1 σ1 g4 (by omega) (by omega) (fun x hx => he x (by simp [hx])) f1 r1
      rw [g6] at q1 q2 ⊢
      refine ⟨fr', σ', l', Lp.step ⟨k, fun N hN => ?_⟩ q1, q2⟩
      have hk1 := hk1 N hN
      rw [← e6, ← e7, ← e1] at hbe
      cases c6 : ((K : Int) == 6) with
      | true => rw [c6] at hbe; cases hbe
      | false =>
        rw [c6, Bool.false_or] at hbe
        cases c7 : ((K : Int) == 7) with
        | false => simp -implicitDefEqProofs [b51_0, g1, g2, g3, hw, hk1, c6, c7, -beq_iff_eq, -beq_eq_false_iff_ne]
        | true =>
          rw [c7, Bool.true_and] at hbe
          simp -implicitDefEqProofs [b51_0, g1, g2, g3, hw, hk1, c6, c7, hbe.symm, -beq_iff_eq, -beq_eq_false_iff_ne]
theorem lp51_1 (L : List AV) (nl : Bool) (hL : L.length < big) : ∀ (r : List Al) (i : Nat) (B O : List Str) (l : KL) (σ : H), Tail L i (encAs r) → B.length + mxAs r ≤ 2 ^ 61 → O.length + vAs r ≤ 2 ^ 39 → okAs r → (∀ a ∈ r, match a with | .mk _ _ _ b => FindOK b) → FS σ l O → KR l B O →
    ∃ fr' σ' l', Lp ctx [48] [] [0, 82, 83, 84] b51_1 ⟨[(0, .v (.ptr 1 1 0 0)), (82, .v (encR 9 nl L)), (83, .v (.int .i64 L.length)), (84, .v (.int .i64 i))], false⟩ σ (.ex 2) fr' σ' ∧ FS σ' l' (frA B O r) ∧ KR l' B (frA B O r)
  | [], i, B, O, l, σ, h, _, _, _, _, hf, hk => by
    have h' := h.nil
    refine ⟨?_, σ, l, Lp.exit ⟨0, fun N _ => ?_⟩ (by simp), hf, hk⟩
    rotate_left
    simp -implicitDefEqProofs [b51_1, h']
    rfl
  | .mk a c ns b :: r, i, B, O, l, σ, h, hb, hv, hok, he, hf, hk => by
    have hlen := h.len
    simp only [encAs_cons] at h
    obtain ⟨g1, g2, g3, g4, g5⟩ := h.cons
    simp at hlen
    simp only [mxAs, vAs] at hb hv
    simp only [okAs, okA] at hok
    have hw := wrap_succ (n := i) (by omega)
    have g6 := g5 9 nl
    have hl1 := frE_len b (ns ++ B) O
    have hns : ns.length < big := by have := hok.1.1; unfold lim at this; unfold big; omega
    obtain ⟨σ1, l1, ⟨k, hk1⟩, f1, r1⟩ := within_ans (he _ (List.mem_cons_self ..)) ns true hns (B := B) (by omega) (by omega) hf hk
    obtain ⟨fr', σ', l', q1, q2⟩ := lp51_1 L nl hL r (i + 1) B (frE (ns ++ B) O b) l1 σ1 g4 (by omega) (by omega) hok.2 (fun x hx => he x (by simp [hx])) f1 r1
    have efr : frA B O (.mk a c ns b :: r) = frA B (frE (ns ++ B) O b) r := by simp [frA]
    rw [efr]
    rw [g6] at q1 ⊢
    refine ⟨fr', σ', l', Lp.step ⟨k, fun N hN => ?_⟩ q1, q2⟩
    have hk1 := hk1 N hN
    obtain ⟨bk, ba, bs, bn, bks, bas⟩ := b
    simp only [encA, cellsE] at g1
    rw [encE_mk] at hk1
    simp -implicitDefEqProofs [b51_1, g1, g2, g3, hw, hk1]
theorem addF_no {k : Nat} {s : Str} {B O : List Str} (h : ¬ (k = 1 ∧ s ∉ B ∧ s ∉ O)) : addF k s B O = O := by unfold addF; rw [if_neg h]
theorem addF_yes {k : Nat} {s : Str} {B O : List Str} (h : k = 1 ∧ s ∉ B ∧ s ∉ O) : addF k s B O = O ++ [s] := by unfold addF; rw [if_pos h]
set_option maxHeartbeats 1000000
mutual
theorem find_ok : ∀ e, okE e → FindOK e
  | .mk k a s n ks as, hok => by
    intro B O l σ hb hv hf hk
    simp only [okE] at hok
    simp only [mxE, vE] at hb hv
    have hks : (encEs ks).length < big := by have := hok.1; unfold lim at this; unfold big; simp; omega
    have has : (encAs as).length < big := by have := hok.2.1; unfold lim at this; unfold big; simp; omega
    have hal := addF_len k s B O
    have hkl := frK_len k s ks 0 B (addF k s B O)
    have efr : frE B O (.mk k a s n ks as) = frA B (frK k s 0 B (addF k s B O) ks) as := by simp [frE]
    rw [efr]
    by_cases hyes : k = 1 ∧ s ∉ B ∧ s ∉ O
    · rw [if_pos hyes.1] at hv hal
      obtain ⟨qO, q3, σ2, σ3, h1, h2, h3, h4, h5, h6, f1, r1⟩ := head51 (k := k) (by omega) hf hk hyes
      rw [addF_yes hyes] at hkl ⊢
      obtain ⟨fr1, σ4, l4, j1, j2, j3, j4, j5, f2, r2⟩ := lp51_0 k a s n (encEs ks) true (encR 9 true (encAs as)) hks ks 0 B (O ++ [s]) _ σ3 (Tail.all _) (by omega) (by simp; omega) (finds_ok ks hok.2.2.1) f1 r1
      obtain ⟨k1, hk1⟩ := j1.den
      unfold Hi at j3
      simp only [List.length_append, List.length_singleton] at hkl
      obtain ⟨fr2, σ5, l5, i1, f3, r3⟩ := lp51_1 (encAs as) true has as 0 B _ _ σ4 (Tail.all _) (by omega) (by omega) hok.2.2.2 (finda_ok as hok.2.2.2) f2 r2
      obtain ⟨k2, hk2⟩ := i1.den
      refine ⟨σ5, l5, AnsH.of fn51_ (by simp) (snapPtr _ _ _) (by simp) ⟨k1 + k2, fun N hN => ?_⟩, f3, r3⟩
      have hk1 := hk1 N (by omega)
      have hk2 := hk2 N (by omega)
      have e1 : lookupA ctx 98 (.map 0) (.agg [.str s, .bool false]) false σ = some (.int .i64 0, σ) := by
        have := look98 hf.m (s, false)
        rw [hk.b, List.count_eq_zero_of_not_mem hyes.2.1] at this
        exact this
      have e2 : lookupA ctx 98 (.map 0) (.agg [.str s, .bool true]) false σ = some (.int .i64 0, σ) := by
        have := look98 hf.m (s, true)
        rw [hk.f, if_neg hyes.2.2] at this
        exact this
      have ek : (k : Int) = 1 := by omega
      have hset : ∀ x, (σ2.set 1 x)[1]? = some x := fun x => List.getElem?_set_self (List.getElem?_eq_some_iff.1 h5).1
      rw [h6] at hk1
      simp only [encEs_length, encAs_length] at hk1 hk2
      clear h6 f1 r1 f2 r2 f3 r3 hf hk
      generalize σ.set 0 (.map (encKL (putK (s, true) 1 l))) = σa at *
      rw [encE_mk]
      simp -implicitDefEqProofs [i51, c51, ek, e1, e2, h1, h2, h3, h4, h5, hk1, j2, j3, j4, j5, hk2, -appendH]
    · rw [addF_no hyes] at hkl ⊢
      obtain ⟨fr1, σ4, l4, j1, j2, j3, j4, j5, f2, r2⟩ := lp51_0 k a s n (encEs ks) true (encR 9 true (encAs as)) hks ks 0 B O _ σ (Tail.all _) (by omega) (by omega) (finds_ok ks hok.2.2.1) hf hk
      obtain ⟨k1, hk1⟩ := j1.den
      unfold Hi at j3
      obtain ⟨fr2, σ5, l5, i1, f3, r3⟩ := lp51_1 (encAs as) true has as 0 B _ _ σ4 (Tail.all _) (by omega) (by omega) hok.2.2.2 (finda_ok as hok.2.2.2) f2 r2
      obtain ⟨k2, hk2⟩ := i1.den
      refine ⟨σ5, l5, AnsH.of fn51_ (by simp) (snapPtr _ _ _) (by simp) ⟨k1 + k2, fun N hN => ?_⟩, f3, r3⟩
      have hk1 := hk1 N (by omega)
      have hk2 := hk2 N (by omega)
      obtain ⟨qO, h1, _, _⟩ := hf.o
      have e1 : lookupA ctx 98 (.map 0) (.agg [.str s, .bool false]) false σ = some (.int .i64 (B.count s : Nat), σ) := by
        have := look98 hf.m (s, false)
        rw [hk.b] at this
        exact this
      have e2 : lookupA ctx 98 (.map 0) (.agg [.str s, .bool true]) false σ = some (.int .i64 (if s ∈ O then 1 else 0), σ) := by
        have := look98 hf.m (s, true)
        rw [hk.f] at this
        exact this
      simp only [encEs_length, encAs_length] at hk1 hk2
      clear f2 r2 f3 r3
      rw [encE_mk]
      by_cases k1' : k = 1
      · have ek : (k : Int) = 1 := by omega
        by_cases hB : s ∈ B
        · have hc : 0 < B.count s := List.count_pos_iff.2 hB
          have ec : (((B.count s : Nat) : Int) == 0) = false := by simp; omega
          simp -implicitDefEqProofs [i51, c51, ek, e1, ec, h1, hk1, j2, j3, j4, j5, hk2, -beq_eq_false_iff_ne]
        · have hO : s ∈ O := by
            rcases Classical.em (s ∈ O) with h | h
            · exact h
            · exact absurd ⟨k1', hB, h⟩ hyes
          rw [List.count_eq_zero_of_not_mem hB] at e1
          rw [if_pos hO] at e2
          simp -implicitDefEqProofs [i51, c51, ek, e1, e2, h1, hk1, j2, j3, j4, j5, hk2]
      · have ek : ((k : Int) == 1) = false := by simp; omega
        simp -implicitDefEqProofs [i51, c51, ek, h1, hk1, j2, j3, j4, j5, hk2, -beq_eq_false_iff_ne]
theorem finds_ok : ∀ l, okEs l → ∀ e ∈ l, FindOK e
  | [], _, e, he => by simp at he
  | x :: l, h, e, he => by
    rcases List.mem_cons.1 he with e' | he
    · rw [e']; exact find_ok x h.1
    · exact finds_ok l h.2 e he
theorem finda_ok : ∀ l, okAs l → ∀ a ∈ l, match a with | .mk _ _ _ b => FindOK b
  | [], _, e, he => by simp at he
  | .mk a c ns b :: l, h, e, he => by
    rcases List.mem_cons.1 he with e' | he
    · rw [e']; exact find_ok b h.1.2
    · exact finda_ok l h.2 e he
end
end Go.Am.Try
