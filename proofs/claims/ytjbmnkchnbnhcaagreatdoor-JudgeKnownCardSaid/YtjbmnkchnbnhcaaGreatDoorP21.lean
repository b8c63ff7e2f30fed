/- Layers 12 to 14: the reference's Parse as a whole. -/
import Derived.Test.YtjbmnkchnbnhcaaGreatDoorP20
set_option linter.unusedVariables false
set_option maxRecDepth 100000
set_option linter.unusedSimpArgs false
namespace Go.Am.Tryz
open Go Go.Am.Ps
/-! ### rows fit into memory -/
theorem okC_con (E : Nat) (vs : List Str) {n : Nat} (hn : n < lim) (p : PS) : okC (con E vs n p).1 := by
  have h1 := len_targs E vs n (p.eat E 2 []).2
  have h2 := (ok_typ E vs n hn).2.2.2 (p.eat E 2 []).2
  simp only [con, okC]
  exact ⟨by omega, h2⟩
theorem okC_cons (E : Nat) (vs : List Str) {n : Nat} (hn : n < lim) : ∀ (m : Nat) (p : PS), (∀ c ∈ (cons E vs n m p).1, okC c) ∧ (cons E vs n m p).1.length ≤ m
  | 0, p => by simp [cons]
  | m + 1, p => by
    simp only [cons]
    split
    · obtain ⟨h1, h2⟩ := okC_cons E vs hn m (con E vs n p.next).2
      refine ⟨fun c hc => ?_, by simp only [List.length_cons]; omega⟩
      rcases List.mem_cons.1 hc with rfl | hc
      · exact okC_con E vs hn _
      · exact h1 c hc
    · simp
theorem rl_con (E : Nat) (vs : List Str) (n : Nat) (p : PS) : rl (con E vs n p).2 ≤ rl p := by
  simp only [con]
  exact Nat.le_trans ((rl_typ E vs n).2.2.2 _) (rl_eat _ _ _ _)
theorem rl_cons (E : Nat) (vs : List Str) (n : Nat) : ∀ (m : Nat) (p : PS), rl (cons E vs n m p).2 ≤ rl p
  | 0, p => Nat.le_refl _
  | m + 1, p => by
    simp only [cons]
    split
    · exact Nat.le_trans (rl_cons E vs n m _) (Nat.le_trans (rl_con E vs n _) (rl_next _))
    · exact Nat.le_refl _
structure okQ (k : Nat) (p : Pg) : Prop where
  ds : p.ds.length ≤ k
  bs : p.bs.length ≤ k
  d : ∀ d ∈ p.ds, okD d
  b : ∀ b ∈ p.bs, okB b
theorem ok_decl (E : Nat) {n k : Nat} (hn : n + 1 < lim) {out : Pg} (h : okQ k out) (p : PS) (hp : rl p ≤ 65536) : okQ (k + 1) (decl E n out p).1 ∧ rl (decl E n out p).2 ≤ 65536 := by
  obtain ⟨h1, h2, h3, h4⟩ := h
  unfold decl
  split
  · have r1 := Nat.le_trans (rl_eat E p.next 2 []) (Nat.le_trans (rl_next p) hp)
    have r2 := names_le (p.next.eat E 2 []).2
    have r3 := Nat.le_trans (rl_names (p.next.eat E 2 []).2) r1
    have r4 := Nat.le_trans (rl_sign E (p.next.eat E 2 []).2.names.2 sEq) r3
    have r5 := Nat.le_trans (rl_con E ((p.next.eat E 2 []).2.names.1.map (·.s)) n ((p.next.eat E 2 []).2.names.2.sign E sEq)) r4
    have r6 := Nat.le_trans (rl_cons E ((p.next.eat E 2 []).2.names.1.map (·.s)) n n (con E ((p.next.eat E 2 []).2.names.1.map (·.s)) n ((p.next.eat E 2 []).2.names.2.sign E sEq)).2) r5
    refine ⟨⟨by simp; omega, by simp only; omega, fun d hd => ?_, h4⟩, Nat.le_trans (rl_sign _ _ _) r6⟩
    simp only [List.mem_append, List.mem_singleton] at hd
    rcases hd with hd | rfl
    · exact h3 d hd
    · obtain ⟨o1, o2⟩ := okC_cons E ((p.next.eat E 2 []).2.names.1.map (·.s)) (by omega : n < lim) n (con E ((p.next.eat E 2 []).2.names.1.map (·.s)) n ((p.next.eat E 2 []).2.names.2.sign E sEq)).2
      refine ⟨?_, ?_, fun c hc => ?_⟩
      · simp only [List.length_map]; unfold lim; omega
      · simp only [List.length_cons]; omega
      · rcases List.mem_cons.1 hc with rfl | hc
        · exact okC_con E _ (by omega) _
        · exact o1 c hc
  · have r0 := Nat.le_trans (rl_eat E p 4 sLet) hp
    have r1 := Nat.le_trans (rl_eat E (p.eat E 4 sLet).2 1 []) r0
    have r3 := Nat.le_trans (rl_names ((p.eat E 4 sLet).2.eat E 1 []).2) r1
    have r4 := Nat.le_trans (rl_sign E ((p.eat E 4 sLet).2.eat E 1 []).2.names.2 sEq) r3
    have r5 := Nat.le_trans ((rl_all E n).1 (((p.eat E 4 sLet).2.eat E 1 []).2.names.2.sign E sEq)) r4
    refine ⟨⟨by simp only; omega, by simp; omega, h3, fun b hb => ?_⟩, Nat.le_trans (rl_sign _ _ _) r5⟩
    simp only [List.mem_append, List.mem_singleton] at hb
    rcases hb with hb | rfl
    · exact h4 b hb
    · exact ok_lams _ _ _ ((ok_all E n (by omega)).1 _ r4)
theorem ok_decls (E : Nat) {n : Nat} (hn : n + 1 < lim) : ∀ (m k : Nat) (out : Pg) (p : PS), okQ k out → rl p ≤ 65536 → okQ (k + m) (decls E n m out p).1
  | 0, k, out, p, h, _ => h
  | m + 1, k, out, p, h, hp => by
    simp only [decls]
    split
    · obtain ⟨h1, h2⟩ := ok_decl E hn h p hp
      have := ok_decls E hn m (k + 1) _ _ h1 h2
      rw [show k + (m + 1) = k + 1 + m by omega]
      exact this
    · exact ⟨by have := h.ds; simp only; omega, by have := h.bs; simp only; omega, h.d, h.b⟩
theorem okQ.okP {k : Nat} {p : Pg} (h : okQ k p) (hk : k ≤ lim) : okP p := ⟨Nat.le_trans h.ds hk, Nat.le_trans h.bs hk, h.d, h.b⟩
/-! ### what is parsed, laid out -/
theorem snapR {σ : H} {q sz : Nat} {xs : List AV} (h : RowAt σ q sz xs) (hn : AV.noRefs xs = true) (n : Nat) : ∃ ns, snapA σ (n + 1) (rowV q xs.length sz) = some (encR sz true xs, ns) := by
  obtain ⟨ns, h1, _⟩ := snap_rowV q sz xs σ n (fun hx => ⟨false, h hx⟩) hn
  exact ⟨ns, h1⟩
theorem rowV_noRef {q n sz : Nat} (h : (rowV q n sz).noRef = true) : n = 0 := by
  cases n with
  | zero => rfl
  | succ n => simp [rowV] at h
theorem encR_zero {sz : Nat} {xs : List AV} (h : xs.length = 0) : encR sz true xs = .nil := by
  rw [List.length_eq_zero_iff.1 h]; rfl
theorem snapD1 {σ : H} {x : AV} {d : Da} (h : ∃ qv qc, x = .agg [.str d.s, .int .i64 d.a, rowV qv d.vs.length 1, rowV qc d.cs.length 3] ∧ RowAt σ qv 1 (encSs d.vs) ∧ RowAt σ qc 3 (encCs d.cs)) (n : Nat) : ∃ ns, snapA σ (n + 2) x = some (encD d, ns) := by
  obtain ⟨qv, qc, rfl, h1, h2⟩ := h
  obtain ⟨n1, w1⟩ := snapR h1 (by simp) n
  obtain ⟨n2, w2⟩ := snapR h2 (by simp) n
  rw [encSs_length] at w1
  rw [encCs_length] at w2
  unfold snapA
  split
  · rename_i hnr
    simp only [AV.noRef, AV.noRefs, Bool.and_eq_true] at hnr
    have e1 := rowV_noRef hnr.2.2.1
    have e2 := rowV_noRef hnr.2.2.2.1
    refine ⟨[], ?_⟩
    unfold encD
    rw [encR_zero (by simpa using e1), encR_zero (by simpa using e2), e1, e2]
    rfl
  · refine ⟨n1 ++ n2, ?_⟩
    simp only [mapO2, w1, w2, snapA_noRef (a := .str d.s) rfl, snapA_noRef (a := .int .i64 d.a) rfl, encD, List.append_nil, List.nil_append]
theorem snapDs {σ : H} (n : Nat) : ∀ {Ds : List AV} {ds : List Da}, DRel σ Ds ds → ∃ ns, mapO2 (snapA σ (n + 2)) Ds = some (encDs ds, ns)
  | [], [], _ => ⟨[], rfl⟩
  | x :: Ds, d :: ds, h => by
    obtain ⟨n1, w1⟩ := snapD1 h.1 n
    obtain ⟨n2, w2⟩ := snapDs n h.2
    exact ⟨n1 ++ n2, by simp only [mapO2, w1, w2, encDs_cons]⟩
  | [], _ :: _, h => h.elim
  | _ :: _, [], h => h.elim
theorem snapDV {σ : H} {qD : Nat} {Ds : List AV} {ds : List Da} (h : RowAt σ qD 4 Ds) (hd : DRel σ Ds ds) (n : Nat) : ∃ ns, snapA σ (n + 3) (rowV qD ds.length 4) = some (encR 4 true (encDs ds), ns) := by
  have hl := hd.len
  cases ds with
  | nil => exact ⟨[], snapA_noRef rfl⟩
  | cons d ds =>
    cases Ds with
    | nil => simp at hl
    | cons x Ds =>
      obtain ⟨ns, w⟩ := snapDs n hd
      refine ⟨qD :: ns, ?_⟩
      have h1 := h (by simp)
      have ht : (x :: Ds).take (ds.length + 1) = x :: Ds := List.take_of_length_le (by simpa using Nat.le_of_eq hl)
      unfold snapA
      rw [if_neg (by simp [rowV])]
      simp only [List.length_cons] at hl
      simp only [rowV, List.length_cons, arrAt, h1, hl, if_true, List.drop_zero, ht, w, Nat.zero_add, Nat.le_refl, and_self]
      simp
theorem snapPg {T : List Tok} {E : Nat} {σ : H} {p : PS} {out : Pg} {DV BV : AV} (h : Inv T E σ p out DV BV) (n : Nat) : ∃ n1 n2, snapA σ (n + 3) DV = some (encR 4 true (encDs out.ds), n1) ∧ snapA σ (n + 3) BV = some (encR 8 true (encBs out.bs), n2) := by
  obtain ⟨qD, Ds, rfl, h2, h3⟩ := h.d
  obtain ⟨qB, rfl, h5⟩ := h.b
  obtain ⟨n1, w1⟩ := snapDV h2 h3 n
  obtain ⟨n2, w2⟩ := snapR h5 (by simp) (n + 2)
  rw [encBs_length] at w2
  exact ⟨n1, n2, w1, w2⟩
theorem Inv.vals {T : List Tok} {E : Nat} {σ : H} {p : PS} {out : Pg} {DV BV : AV} (h : Inv T E σ p out DV BV) : (∀ ti, DV.fits ti = (!ti.k.isAgg && ti.size == 1)) ∧ (∀ ti, BV.fits ti = (!ti.k.isAgg && ti.size == 1)) ∧ DV.cells = [DV] ∧ BV.cells = [BV] ∧ (DV.noRef = true → out.ds = [] ∧ DV = .nil) ∧ (BV.noRef = true → out.bs = [] ∧ BV = .nil) := by
  obtain ⟨qD, Ds, rfl, h2, h3⟩ := h.d
  obtain ⟨qB, rfl, h5⟩ := h.b
  refine ⟨by simp, by simp, by simp, by simp, fun hn => ?_, fun hn => ?_⟩
  · have e := rowV_noRef hn
    exact ⟨List.length_eq_zero_iff.1 e, by rw [e]; rfl⟩
  · have e := rowV_noRef hn
    exact ⟨List.length_eq_zero_iff.1 e, by rw [e]; rfl⟩
theorem tooDeep_at {T : List Tok} {E : Nat} {σ : H} {p : PS} {out : Pg} {DV BV : AV} (h : Inv T E σ p out DV BV) (ho : okP out) : AnsH ctx 83 [.agg [DV, BV]] σ (.int .i64 (atI (tooDeep out))) σ := by
  have ha := tooDeep_ans out ho
  obtain ⟨f1, f2, f3, f4, f5, f6⟩ := h.vals
  cases hn : AV.noRefs [.agg [DV, BV]] with
  | true =>
    simp only [AV.noRefs, AV.noRef, Bool.and_eq_true, and_true] at hn
    obtain ⟨e1, e2⟩ := f5 hn.1
    obtain ⟨e3, e4⟩ := f6 hn.2
    have : encPg out = .agg [DV, BV] := by
      unfold encPg
      rw [e1, e3, e2, e4]; rfl
    rw [this] at ha
    exact ha.at σ
  | false =>
    obtain ⟨n1, n2, w1, w2⟩ := snapPg h 196
    have hs : snapA σ 200 (.agg [DV, BV]) = some (encPg out, n1 ++ n2) := by
      unfold snapA
      split
      · rename_i hnr
        simp only [AV.noRefs, hnr, Bool.and_true] at hn
        cases hn
      · simp only [mapO2, w1, w2, encPg, List.append_nil]
    have hsl : snapL σ [.agg [DV, BV]] = some ([encPg out], n1 ++ n2) := by
      simp only [snapL, mapO2, hs, List.append_nil]
    exact AnsH.lay fn83_ hn hsl (by simp [encPg]) ha
def encPd : Parsed → AV
  | .ok p => .agg [encR 4 true (encDs p.ds), encR 8 true (encBs p.bs), .int .i64 0, .int .i64 0]
  | .bad e a => .agg [.nil, .nil, .int .i64 e, .int .i64 a]
theorem tl_lex (s : Str) {l : List Tok} (h : lex s = .ok l) : l.length ≤ 65536 := by
  unfold lex at h
  split at h
  · rename_i hb
    have hb := Nat.le_of_ble_eq_true hb
    obtain ⟨e, fr', σ', _, q2⟩ := lp40_3 s hb (s.length + 1) 0 s [] (ST.all s) (by omega) (by simp)
    have e0 : Lexed.app [] (lexF (s.length + 1) 0 s) = lexF (s.length + 1) 0 s := by
      cases lexF (s.length + 1) 0 s <;> simp [Lexed.app]
    rw [e0, h] at q2
    exact q2.2.2.2.2.2.2
  · cases h
theorem lex_pos (s : Str) {e a : Nat} (h : lex s = .bad e a) : e ≠ 0 := by
  have key : ∀ n i r, ∀ e a, lexF n i r = .bad e a → e = 3 := by
    intro n
    induction n with
    | zero => intro i r e a h; simp [lexF] at h; exact h.1.symm
    | succ n ih =>
      intro i r e a h
      cases r with
      | nil => simp [lexF] at h
      | cons c l =>
        simp only [lexF] at h
        split at h
        · exact ih _ _ _ _ h
        · rename_i t j q _
          cases hx : lexF n j q with
          | ok x => rw [hx] at h; simp [consT] at h
          | bad x y => rw [hx] at h; simp only [consT] at h; rw [← hx] at h; exact ih _ _ _ _ h
        · simp at h; exact h.1.symm
  unfold lex at h
  split at h
  · have := key _ _ _ _ _ h; omega
  · simp at h; omega
set_option maxHeartbeats 2000000 in
theorem parse_ans (s : Str) : Ans ctx 40 [.str s] (encPd (parse s)) ∧ (∀ p, parse s = .ok p → okP p) := by
  obtain ⟨k1, hk1⟩ := lex_ans s
  unfold parse
  cases hl : lex s with
  | bad e a =>
    rw [hl] at hk1
    have hp := lex_pos s hl
    refine ⟨?_, by simp⟩
    refine Ans.of (σ' := []) fn40_ (by simp) (by simp [encPd]) ⟨k1, fun N hN => ?_⟩
    have hk1 := hk1 N hN
    have he : ((e : Int) != 0) = true := by simp; omega
    simp only [encLx] at hk1
    simp -implicitDefEqProofs [i40, c40, hk1, he, encPd, -bne_iff_ne]
  | ok l =>
    rw [hl] at hk1
    simp only [encLx] at hk1
    have hlen := tl_lex s hl
    have hpo : PO l s.length 0 [objP l s.length ⟨0, l, false, 0⟩] ⟨0, l, false, 0⟩ := ⟨rfl, ⟨[], rfl, rfl⟩, hlen⟩
    have hinv : Inv l s.length [objP l s.length ⟨0, l, false, 0⟩] ⟨0, l, false, 0⟩ ⟨[], []⟩ .nil .nil :=
      ⟨hpo, ⟨0, [], rfl, fun h => absurd rfl h, trivial⟩, ⟨0, rfl, fun h => absurd rfl h⟩⟩
    have hmu : mu (⟨0, l, false, 0⟩ : PS) = l.length := rfl
    obtain ⟨fr', σ', DV, BV, q1, q2, q3, q4, q5, q6, q7, q8⟩ := lp18_2 l s.length (8 * l.length + 40) (l.length + 1) ⟨0, l, false, 0⟩ ⟨[], []⟩ _ .nil .nil (by rw [hmu]; omega) (by rw [hmu]; omega) (by simp; omega) (by simp; omega) hinv
    obtain ⟨k2, hk2⟩ := q1.den
    unfold Hi at q3
    have hok : okQ (0 + (l.length + 1)) (decls s.length (8 * l.length + 40) (l.length + 1) ⟨[], []⟩ ⟨0, l, false, 0⟩).1 :=
      ok_decls s.length (by unfold lim; omega) (l.length + 1) 0 ⟨[], []⟩ ⟨0, l, false, 0⟩ ⟨by simp, by simp, by simp, by simp⟩ hlen
    have hokP := hok.okP (by unfold lim; omega)
    have ho := q8.po.obj
    obtain ⟨k3, hk3⟩ := tooDeep_at q8 hokP
    obtain ⟨f1, f2, f3, f4, f5, f6⟩ := q8.vals
    obtain ⟨n1, n2, w1, w2⟩ := snapPg q8 196
    simp only
    generalize decls s.length (8 * l.length + 40) (l.length + 1) ⟨[], []⟩ ⟨0, l, false, 0⟩ = R at *
    obtain ⟨out, p⟩ := R
    simp only at *
    unfold objP encP at ho
    have e0 : objP l s.length ⟨0, l, false, 0⟩ = .arr false 5 [.agg [encR 4 true (encToks l), .int .i64 0, .int .i64 s.length, .bool false, .int .i64 0]] := rfl
    rw [e0] at hk2
    unfold frP at hk2
    have hsl : s.length < 2 ^ 63 := by
      unfold lex at hl
      split at hl
      · rename_i hb
        have := Nat.le_of_ble_eq_true hb
        omega
      · cases hl
    cases hb : p.bad with
    | true =>
      rw [hb] at ho
      refine ⟨?_, by simp⟩
      refine Ans.of (σ' := σ') fn40_ (by simp) (by simp [encPd]) ⟨k1 + k2, fun N hN => ?_⟩
      have hk1 := hk1 N (by omega)
      have hk2 := hk2 N (by omega)
      have z1 : Z2 = .agg [.nil, .nil, .int .i64 0, .int .i64 0] := rfl
      rw [z1] at hk2 q4
      simp -implicitDefEqProofs [i40, c40, hk1, hk2, q2, q3, q4, q5, q6, q7, ho, encPd]
    | false =>
      rw [hb] at ho
      cases htd : tooDeep out with
      | some a =>
        rw [htd] at hk3
        refine ⟨?_, by simp⟩
        refine Ans.of (σ' := σ') fn40_ (by simp) (by simp [encPd]) ⟨k1 + k2 + k3, fun N hN => ?_⟩
        have hk1 := hk1 N (by omega)
        have hk2 := hk2 N (by omega)
        have hk3 := hk3 N (by omega)
        have z1 : Z2 = .agg [.nil, .nil, .int .i64 0, .int .i64 0] := rfl
        rw [z1] at hk2 q4
        have ha : (0 : Int) ≤ (a : Int) := by omega
        simp only [atI] at hk3
        simp -implicitDefEqProofs [i40, c40, hk1, hk2, q2, q3, q4, q5, q6, q7, ho, encPd, hk3, ha]
      | none =>
        rw [htd] at hk3
        refine ⟨?_, fun p hp => by simp at hp; rw [← hp]; exact hokP⟩
        have hs : ∃ ns, snapA σ' 200 (.agg [DV, BV, .int .i64 0, .int .i64 0]) = some (encPd (.ok out), ns) := by
          unfold snapA
          split
          · rename_i hnr
            simp only [AV.noRefs, AV.noRef, Bool.and_eq_true] at hnr
            obtain ⟨e1, e2⟩ := f5 hnr.1
            obtain ⟨e3, e4⟩ := f6 hnr.2.1
            exact ⟨[], by simp only [encPd]; rw [e1, e3, e2, e4]; rfl⟩
          · exact ⟨n1 ++ (n2 ++ []), by simp only [mapO2, w1, w2, snapA_noRef (a := .int .i64 0) rfl, encPd, List.append_nil]⟩
        obtain ⟨ns, hs⟩ := hs
        refine Ans.fn (σ' := σ') (rs := []) fn40_ (by simp) ⟨k1 + k2 + k3, fun N hN => ?_⟩ hs
        have hk1 := hk1 N (by omega)
        have hk2 := hk2 N (by omega)
        have hk3 := hk3 N (by omega)
        have z1 : Z2 = .agg [.nil, .nil, .int .i64 0, .int .i64 0] := rfl
        rw [z1] at hk2 q4
        simp only [atI] at hk3
        simp -implicitDefEqProofs [i40, c40, hk1, hk2, q2, q3, q4, q5, q6, q7, ho, hk3]
end Go.Am.Tryz
