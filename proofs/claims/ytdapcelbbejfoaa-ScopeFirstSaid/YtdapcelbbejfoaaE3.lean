/- Layer 13: what is wrong with an expression. -/
import Derived.Test.YtdapcelbbejfoaaE2
import Derived.Test.YtdapcelbbejfoaaE0
set_option linter.unusedVariables false
set_option maxRecDepth 100000
set_option linter.unusedSimpArgs false
namespace Go.Am.Try
open Go Go.Am.Ps

/-- within: the names are bound -/
theorem lp99_0 (ds : List Da) (L : List AV) (nl : Bool) (hL : L.length < big) (X5 : AV) : ∀ (r : List Str) (i : Nat) (B : List Str) (σ : H), Tail L i (encSs r) → B.length + r.length ≤ 2 ^ 62 → SS ds σ B →
    ∃ fr' σ', Lp ctx [] [] [0, 1, 5, 12, 13, 14] b99_0 ⟨[(0, .v (.ptr 1 1 0 0)), (1, .v (encR 1 nl L)), (5, .bx X5), (12, .v (encR 1 nl L)), (13, .v (.int .i64 L.length)), (14, .v (.int .i64 i))], false⟩ σ (.ex 0) fr' σ' ∧ fr'.lk = false ∧ getS fr'.sl 0 = .v (.ptr 1 1 0 0) ∧ getS fr'.sl 1 = .v (encR 1 nl L) ∧ getS fr'.sl 5 = .bx X5 ∧ getS fr'.sl 6 = .u ∧ getS fr'.sl 9 = .u ∧ getS fr'.sl 11 = .u ∧ (∀ t, 29 ≤ t → t < 50 → getS fr'.sl t = .u) ∧ SS ds σ' (r ++ B) ∧ Kp σ σ'
  | [], i, B, σ, h, _, hs => by
    have h' := h.nil
    refine ⟨?_, σ, Lp.exit ⟨0, fun N _ => ?_⟩ (by simp), ?_⟩
    rotate_left
    · simp -implicitDefEqProofs [b99_0, h']
      rfl
    · refine ⟨by simp, by simp, by simp, by simp, by simp, by simp, by simp, fun t h1 h2 => ?_, hs, .refl _⟩
      simp only [getS]
      repeat rw [if_neg (by omega)]
  | a :: r, i, B, σ, h, hb, hs => by
    have hlen := h.len
    simp only [encSs_cons] at h
    obtain ⟨g1, g2, g3, g4, g5⟩ := h.cons
    simp at hlen hb
    have hw := wrap_succ (n := i) (by omega)
    have hcnt : B.count a ≤ B.length := List.count_le_length
    have hw2 : IntKind.i64.wrap ((B.count a : Int) + 1) = (B.count a : Int) + 1 := wrap_i64 (by omega)
    have e0 := hs.look a
    obtain ⟨ei, σa, σb, e1, e2, e3, s1, k1, _⟩ := hs.turn a ((B.count a : Int) + 1) (a :: B) (by simp) (fun x hx => List.count_cons_of_ne (Ne.symm hx))
    obtain ⟨fr', σ', q1, q2, q3, q4, q5, q6, q7, q8, q9, q10, q11⟩ := lp99_0 ds L nl hL X5 r (i + 1) (a :: B) σb g4 (by simp; omega) s1
    have g6 := g5 1 nl
    have ho := hs.o
    rw [g6] at q1 q4 ⊢
    refine ⟨fr', σ', Lp.step ⟨0, fun N hN => ?_⟩ q1, q2, q3, q4, q5, q6, q7, q8, q9, q10.perm fun s => ?_, k1.trans q11⟩
    · generalize (B.count a : Int) = c0 at *
      simp -implicitDefEqProofs [b99_0, g1, g2, g3, hw, ho, e0, e1, e2, e3, hw2]
    · simp [List.count_append, List.count_cons]; omega

/-- within: the names are bound no more -/
theorem lp99_1 (ds : List Da) (L : List AV) (nl : Bool) (hL : L.length < big) (X9 : AV) : ∀ (r : List Str) (i : Nat) (B : List Str) (σ : H), Tail L i (encSs r) → B.length + r.length ≤ 2 ^ 62 → SS ds σ (r ++ B) →
    ∃ fr' σ', Lp ctx [] [] [0, 9, 32, 33, 34] b99_1 ⟨[(0, .v (.ptr 1 1 0 0)), (9, .v X9), (32, .v (encR 1 nl L)), (33, .v (.int .i64 L.length)), (34, .v (.int .i64 i))], false⟩ σ (.ex 2) fr' σ' ∧ fr'.lk = false ∧ getS fr'.sl 9 = .v X9 ∧ getS fr'.sl 6 = .u ∧ getS fr'.sl 49 = .u ∧ SS ds σ' B ∧ Kp σ σ'
  | [], i, B, σ, h, _, hs => by
    have h' := h.nil
    refine ⟨?_, σ, Lp.exit ⟨0, fun N _ => ?_⟩ (by simp), ?_⟩
    rotate_left
    · simp -implicitDefEqProofs [b99_1, h']
      rfl
    · exact ⟨by simp, by simp, by simp, by simp, hs, .refl _⟩
  | a :: r, i, B, σ, h, hb, hs => by
    have hlen := h.len
    simp only [encSs_cons] at h
    obtain ⟨g1, g2, g3, g4, g5⟩ := h.cons
    simp at hlen hb
    have hw := wrap_succ (n := i) (by omega)
    have hcnt : (a :: r ++ B).count a ≤ (a :: r ++ B).length := List.count_le_length
    simp only [List.length_append, List.length_cons] at hcnt
    have hw2 : IntKind.i64.wrap (((a :: r ++ B).count a : Int) - 1) = ((a :: r ++ B).count a : Int) - 1 := wrap_i64 (by omega)
    have e0 := hs.look a
    obtain ⟨ei, σa, σb, e1, e2, e3, s1, k1, _⟩ := hs.turn a (((a :: r ++ B).count a : Int) - 1) (r ++ B) (by simp) (fun x hx => by rw [List.cons_append, List.count_cons_of_ne (Ne.symm hx)])
    obtain ⟨fr', σ', q1, q2, q3, q4, q5, q6, q7⟩ := lp99_1 ds L nl hL X9 r (i + 1) B σb g4 (by omega) s1
    have g6 := g5 1 nl
    have ho := hs.o
    rw [g6] at q1 ⊢
    refine ⟨fr', σ', Lp.step ⟨0, fun N hN => ?_⟩ q1, q2, q3, q4, q5, q6, k1.trans q7⟩
    generalize ((a :: r ++ B).count a : Int) = c0 at *
    simp -implicitDefEqProofs [b99_1, g1, g2, g3, hw, ho, e0, e1, e2, e3, hw2]

/-- what wrong does with an expression -/
def WrongOK (ds : List Da) (e : Ex) : Prop := ∀ B σ, B.length + bdE e ≤ 2 ^ 61 → SS ds σ B →
    ∃ σ', AnsH ctx 66 [.ptr 1 1 0 0, encE e] σ (.int .i64 (orM1 (wrE ds B e))) σ' ∧ SS ds σ' B ∧ Kp σ σ'

/-- scope.within -/
theorem swithin_ans {ds : List Da} {e : Ex} (he : WrongOK ds e) (ns : List Str) (nl : Bool) (hns : ns.length < big) {B : List Str} {σ : H} (hb : ns.length + B.length + bdE e ≤ 2 ^ 61) (hs : SS ds σ B) :
    ∃ σ', AnsH ctx 99 [.ptr 1 1 0 0, encR 1 nl (encSs ns), encE e] σ (.int .i64 (orM1 (wrE ds (ns ++ B) e))) σ' ∧ SS ds σ' B ∧ Kp σ σ' := by
  obtain ⟨fr1, σ1, q1, q2, q3, q4, q5, q6, q7, q8, q9, q10, q11⟩ := lp99_0 ds (encSs ns) nl (by simpa using hns) (encE e) ns 0 B σ (Tail.all _) (by omega) hs
  obtain ⟨k1, hk1⟩ := q1.den
  obtain ⟨σ2, ⟨k2, hk2⟩, s2, p2⟩ := he (ns ++ B) σ1 (by simp; omega) q10
  obtain ⟨fr2, σ3, j1, j2, j3, j4, j5, j6, j7⟩ := lp99_1 ds (encSs ns) nl (by simpa using hns) (.int .i64 (orM1 (wrE ds (ns ++ B) e))) ns 0 B σ2 (Tail.all _) (by omega) s2
  obtain ⟨k3, hk3⟩ := j1.den
  refine ⟨σ3, AnsH.of fn99_ (by simp) (snapPtr _ _ _) (by simp) ⟨k1 + k2 + k3, fun N hN => ?_⟩, j6, q11.trans (p2.trans j7)⟩
  have hk1 := hk1 N (by omega)
  have hk2 := hk2 N (by omega)
  have hk3 := hk3 N (by omega)
  simp only [encSs_length, Int.cast_ofNat_Int] at hk1 hk3
  simp -implicitDefEqProofs [i99, c99, hk1, hk2, hk3, q2, q3, q4, q5, q6, q7, q8, q9, j2, j3, j4, j5]

/-- which Cons were had, in the heap -/
structure HS (σ : H) (q : Nat) (had : List Str) : Prop where
  ge : 2 ≤ q
  m : ∃ l, σ[q]? = some (.map (T169.enc l)) ∧ ∀ s, (getT l s).getD false = had.any (eqS s)

theorem HS.look {σ : H} {q : Nat} {had : List Str} (h : HS σ q had) (s : Str) : lookupA ctx 169 (.map q) (.agg [.str s]) false σ = some (.bool (had.any (eqS s)), σ) := by
  obtain ⟨l, h1, h2⟩ := h.m
  have := T169.look h1 s
  have e : T169.z = false := rfl
  rw [e, h2] at this
  exact this

theorem HS.kp {σ σ' : H} {q : Nat} {had : List Str} (h : HS σ q had) (k : Kp σ σ') : HS σ' q had := by
  obtain ⟨l, h1, h2⟩ := h.m
  exact ⟨h.ge, l, by rw [k.rest q h.ge (List.getElem?_eq_some_iff.1 h1).1]; exact h1, h2⟩

theorem HS.up {ds : List Da} {B : List Str} {σ : H} {q : Nat} {had : List Str} (h : HS σ q had) (hs : SS ds σ B) (s : Str) :
    ∃ σ', updateA ctx 169 (.map q) (.agg [.str s]) (.bool true) σ = some ((), σ') ∧ HS σ' q (s :: had) ∧ SS ds σ' B ∧ σ'.length = σ.length ∧ ∀ j, j ≠ q → σ'[j]? = σ[j]? := by
  obtain ⟨l, h1, h2⟩ := h.m
  have hge := h.ge
  have hlt := (List.getElem?_eq_some_iff.1 h1).1
  obtain ⟨⟨l', m1, m2⟩, m3⟩ := hs
  refine ⟨_, T169.up h1 s true, ⟨hge, putT s true l, List.getElem?_set_self hlt, fun x => ?_⟩, ⟨⟨l', by rw [List.getElem?_set_ne (by omega)]; exact m1, m2⟩, by rw [List.getElem?_set_ne (by omega)]; exact m3⟩, by simp, fun j hj => List.getElem?_set_ne (Ne.symm hj)⟩
  rw [getT_put, List.any_cons, eqS_iff, ← h2]
  by_cases hx : x = s
  · subst hx; simp
  · have : (x == s) = false := by simpa using hx
    rw [if_neg hx, this, Bool.false_or]

theorem conN_le {ds : List Da} (hd : okDs ds) {s : Str} {n : Nat} (h : conN ds s = some n) : n < big := by
  unfold conN at h
  split at h
  · cases h
  · rename_i i j hf
    split at h
    · cases h
    · rename_i d h1
      split at h
      · cases h
      · rename_i c h2
        cases h
        have := ((hd.d d (List.mem_of_getElem? h1)).2.2 c (List.mem_of_getElem? h2)).1
        unfold lim at this; unfold big; omega

/-- the loop over alternatives -/
theorem lp100 {ds : List Da} (hd : okDs ds) (L : List AV) (nl : Bool) (hL : L.length < big) (q : Nat) (B : List Str) : ∀ (r : List Al) (i : Nat) (had : List Str) (σ : H), Tail L i (encAs r) → B.length + bdAs r ≤ 2 ^ 61 → okAs r → (∀ a ∈ r, match a with | .mk _ _ _ b => WrongOK ds b) → SS ds σ B → HS σ q had →
    ∃ e fr' σ', Lp ctx [] [] [0, 5, 12, 13, 14] b100_0 ⟨[(0, .v (.ptr 1 1 0 0)), (5, .v (.map q)), (12, .v (encR 9 nl L)), (13, .v (.int .i64 L.length)), (14, .v (.int .i64 i))], false⟩ σ e fr' σ' ∧ fr'.lk = false ∧ SS ds σ' B ∧ σ.length ≤ σ'.length ∧ (∀ j, 2 ≤ j → j < σ.length → j ≠ q → σ'[j]? = σ[j]?) ∧
      (match wrA ds B had r with
       | some x => e = .ret ∧ getS fr'.sl 4 = .v (.int .i64 x)
       | none => e = .ex 0 ∧ getS fr'.sl 4 = .u)
  | [], i, had, σ, h, _, _, _, hs, hh => by
    have h' := h.nil
    refine ⟨.ex 0, ?_, σ, Lp.exit ⟨0, fun N _ => ?_⟩ (by simp), ?_⟩
    rotate_left
    · simp -implicitDefEqProofs [b100_0, h']
      rfl
    · exact ⟨by simp, hs, Nat.le_refl _, fun _ _ _ _ => rfl, rfl, by simp⟩
  | .mk a c ns b :: r, i, had, σ, h, hb, hok, he, hs, hh => by
    have hlen := h.len
    simp only [encAs_cons] at h
    obtain ⟨g1, g2, g3, g4, g5⟩ := h.cons
    simp at hlen
    simp only [bdAs] at hb
    simp only [okAs, okA] at hok
    have hw := wrap_succ (n := i) (by omega)
    have g6 := g5 9 nl
    have hns : ns.length < big := by have := hok.1.1; unfold lim at this; unfold big; omega
    obtain ⟨kc, hkc⟩ := scon_ans hd hs c
    obtain ⟨kt, hkt⟩ := stwice_ans ns true hns
    have hlk := hh.look c
    have hwb : ∃ bk ba bs bn bks bas, b = .mk bk ba bs bn bks bas := by obtain ⟨bk, ba, bs, bn, bks, bas⟩ := b; exact ⟨_, _, _, _, _, _, rfl⟩
    have hat : (if (0 : Int) ≤ (a : Int) then true else false) = true := by simp
    rw [g6]
    have bad : altW ds had c ns = false → ∃ e fr' σ', Lp ctx [] [] [0, 5, 12, 13, 14] b100_0 ⟨[(0, .v (.ptr 1 1 0 0)), (5, .v (.map q)), (12, .v (.sl 9 L)), (13, .v (.int .i64 L.length)), (14, .v (.int .i64 i))], false⟩ σ e fr' σ' ∧ fr'.lk = false ∧ SS ds σ' B ∧ σ.length ≤ σ'.length ∧ (∀ j, 2 ≤ j → j < σ.length → j ≠ q → σ'[j]? = σ[j]?) ∧
        (match wrA ds B had (.mk a c ns b :: r) with
         | some x => e = .ret ∧ getS fr'.sl 4 = .v (.int .i64 x)
         | none => e = .ex 0 ∧ getS fr'.sl 4 = .u) := by
      intro hbad
      have e1 : wrA ds B had (.mk a c ns b :: r) = some a := by simp only [wrA, hbad]
      rw [e1]
      obtain ⟨bk, ba, bs, bn, bks, bas, rfl⟩ := hwb
      simp only [encA, cellsE] at g1
      unfold altW at hbad
      cases hc : conN ds c with
      | none =>
        rw [hc] at hkc
        simp only [conR] at hkc
        refine ⟨.ret, ?_, σ, Lp.exit ⟨kc + kt, fun N hN => ?_⟩ (by simp), ?_⟩
        rotate_left
        · have hkc := hkc N (by omega)
          have hkt := hkt N (by omega)
          simp -implicitDefEqProofs [b100_0, g1, g2, g3, hkc]
          rfl
        · exact ⟨by simp, hs, Nat.le_refl _, fun _ _ _ _ => rfl, rfl, by simp⟩
      | some n =>
        rw [hc] at hkc hbad
        simp only [conR] at hkc
        simp only at hbad
        cases hn : Nat.beq n ns.length with
        | false =>
          have hn' := beq_int n ns.length
          rw [hn] at hn'
          have hn2 : ((n : Int) != ns.length) = true := by rw [bne, ← hn']; rfl
          refine ⟨.ret, ?_, σ, Lp.exit ⟨kc + kt, fun N hN => ?_⟩ (by simp), ?_⟩
          rotate_left
          · have hkc := hkc N (by omega)
            have hkt := hkt N (by omega)
            simp -implicitDefEqProofs [b100_0, g1, g2, g3, hkc, hn2, -bne_iff_ne]
            rfl
          · exact ⟨by simp, hs, Nat.le_refl _, fun _ _ _ _ => rfl, rfl, by simp⟩
        | true =>
          have hn' := beq_int n ns.length
          rw [hn] at hn'
          have hn2 : ((n : Int) != ns.length) = false := by rw [bne, ← hn']; rfl
          cases ht : dupS ns with
          | true =>
            rw [ht] at hkt
            refine ⟨.ret, ?_, σ, Lp.exit ⟨kc + kt, fun N hN => ?_⟩ (by simp), ?_⟩
            rotate_left
            · have hkc := hkc N (by omega)
              have hkt := hkt N (by omega)
              simp -implicitDefEqProofs [b100_0, g1, g2, g3, hkc, hn2, hkt, -bne_iff_ne]
              rfl
            · exact ⟨by simp, hs, Nat.le_refl _, fun _ _ _ _ => rfl, rfl, by simp⟩
          | false =>
            rw [ht] at hkt
            cases hx : had.any (eqS c) with
            | false => rw [hn, ht, hx] at hbad; cases hbad
            | true =>
              rw [hx] at hlk
              refine ⟨.ret, ?_, σ, Lp.exit ⟨kc + kt, fun N hN => ?_⟩ (by simp), ?_⟩
              rotate_left
              · have hkc := hkc N (by omega)
                have hkt := hkt N (by omega)
                simp -implicitDefEqProofs [b100_0, g1, g2, g3, hkc, hn2, hkt, hlk, -bne_iff_ne]
                rfl
              · exact ⟨by simp, hs, Nat.le_refl _, fun _ _ _ _ => rfl, rfl, by simp⟩
    cases hal : altW ds had c ns with
    | false => exact bad hal
    | true =>
      have hgood := hal
      unfold altW at hgood
      cases hc : conN ds c with
      | none => rw [hc] at hgood; cases hgood
      | some n =>
        rw [hc] at hkc hgood
        simp only [conR] at hkc
        simp only [Bool.and_eq_true, Bool.not_eq_true'] at hgood
        obtain ⟨hn, ht, hx⟩ := hgood
        have hn' := beq_int n ns.length
        rw [hn] at hn'
        have hn2 : ((n : Int) != ns.length) = false := by rw [bne, ← hn']; rfl
        rw [ht] at hkt
        rw [hx] at hlk
        obtain ⟨σ1, hu, h1, s1, len1, ne1⟩ := hh.up hs c
        obtain ⟨σ2, ⟨kw, hkw⟩, s2, p2⟩ := swithin_ans (he _ (List.mem_cons_self ..)) ns true hns (B := B) (σ := σ1) (by omega) s1
        have hrest : ∀ j, 2 ≤ j → j < σ.length → j ≠ q → σ2[j]? = σ[j]? := fun j a1 a2 a3 => (p2.rest j a1 (by omega)).trans (ne1 j a3)
        have hlen2 : σ.length ≤ σ2.length := by have := p2.len; omega
        cases hw' : wrE ds (ns ++ B) b with
        | some x =>
          rw [hw'] at hkw
          simp only [orM1] at hkw
          have e1 : wrA ds B had (.mk a c ns b :: r) = some x := by simp only [wrA, hal, hw']
          rw [e1]
          have hx0 : (0 : Int) ≤ (x : Int) := by omega
          obtain ⟨bk, ba, bs, bn, bks, bas, rfl⟩ := hwb
          simp only [encA, cellsE] at g1
          rw [encE_mk] at hkw
          refine ⟨.ret, ?_, σ2, Lp.exit ⟨kc + kt + kw, fun N hN => ?_⟩ (by simp), ?_⟩
          rotate_left
          · have hkc := hkc N (by omega)
            have hkt := hkt N (by omega)
            have hkw := hkw N (by omega)
            simp -implicitDefEqProofs [b100_0, g1, g2, g3, hkc, hn2, hkt, hlk, hu, hkw, -bne_iff_ne]
            rfl
          · exact ⟨by simp, s2, hlen2, hrest, rfl, by simp⟩
        | none =>
          rw [hw'] at hkw
          simp only [orM1] at hkw
          have e1 : wrA ds B had (.mk a c ns b :: r) = wrA ds B (c :: had) r := by simp only [wrA, hal, hw']
          rw [e1]
          obtain ⟨e, fr', σ', l1, l2, l3, l4, l5, l6⟩ := lp100 hd L nl hL q B r (i + 1) (c :: had) σ2 g4 (by omega) hok.2 (fun x hx => he x (by simp [hx])) s2 (h1.kp p2)
          rw [g6] at l1
          obtain ⟨bk, ba, bs, bn, bks, bas, rfl⟩ := hwb
          simp only [encA, cellsE] at g1
          rw [encE_mk] at hkw
          refine ⟨e, fr', σ', Lp.step ⟨kc + kt + kw, fun N hN => ?_⟩ l1, l2, l3, by omega, fun j a1 a2 a3 => (l5 j a1 (by omega) a3).trans (hrest j a1 a2 a3), l6⟩
          have hkc := hkc N (by omega)
          have hkt := hkt N (by omega)
          have hkw := hkw N (by omega)
          simp -implicitDefEqProofs [b100_0, g1, g2, g3, hkc, hn2, hkt, hlk, hu, hkw, hw, -bne_iff_ne]

/-- scope.alts -/
theorem alts_ans {ds : List Da} (hd : okDs ds) (l : List Al) (hl : l.length < big) (B : List Str) (σ : H) (hb : B.length + bdAs l ≤ 2 ^ 61) (hok : okAs l) (he : ∀ a ∈ l, match a with | .mk _ _ _ b => WrongOK ds b) (hs : SS ds σ B) :
    ∃ σ', AnsH ctx 100 [.ptr 1 1 0 0, encR 9 true (encAs l)] σ (.int .i64 (orM1 (wrA ds B [] l))) σ' ∧ SS ds σ' B ∧ Kp σ σ' := by
  have hlen : 2 ≤ σ.length := by
    have := (List.getElem?_eq_some_iff.1 hs.o).1
    omega
  have hs1 : SS ds (σ ++ [.map []]) B := by
    obtain ⟨⟨l', h1, h2⟩, h3⟩ := hs
    exact ⟨⟨l', by rw [List.getElem?_append_left (List.getElem?_eq_some_iff.1 h1).1]; exact h1, h2⟩, by rw [List.getElem?_append_left (List.getElem?_eq_some_iff.1 h3).1]; exact h3⟩
  have hh : HS (σ ++ [.map []]) σ.length [] := ⟨hlen, [], by simp, fun s => by simp⟩
  obtain ⟨e, fr', σ', l1, l2, l3, l4, l5, l6⟩ := lp100 hd (encAs l) true (by simpa using hl) σ.length B l 0 [] _ (Tail.all _) hb hok he hs1 hh
  obtain ⟨k, hk⟩ := l1.den
  simp only [List.length_append, List.length_singleton] at l4 l5
  refine ⟨σ', ?_, l3, ⟨by omega, fun j h1 h2 => by rw [l5 j h1 (by omega) (by omega), List.getElem?_append_left h2]⟩⟩
  cases hw : wrA ds B [] l with
  | some x =>
    rw [hw] at l6
    obtain ⟨rfl, l7⟩ := l6
    refine AnsH.of fn100_ (by simp) (snapPtr _ _ _) (by simp) ⟨k, fun N hN => ?_⟩
    have hk := hk N hN
    simp only [encAs_length, Int.cast_ofNat_Int] at hk
    simp -implicitDefEqProofs [i100, c100, hk, l2, l7, orM1]
  | none =>
    rw [hw] at l6
    obtain ⟨rfl, l7⟩ := l6
    refine AnsH.of fn100_ (by simp) (snapPtr _ _ _) (by simp) ⟨k, fun N hN => ?_⟩
    have hk := hk N hN
    simp only [encAs_length, Int.cast_ofNat_Int] at hk
    simp -implicitDefEqProofs [i100, c100, hk, l2, l7, orM1]

end Go.Am.Try
