/- Layer 17: TermAll: plain facts of types that may be; the law. -/
import Derived.Test.YtmhggdoanajboaaDoorLg
import Derived.Test.YtmhggdoanajboaaDoorLj
import Derived.Test.YtmhggdoanajboaaDoorLl
import Derived.Test.YtmhggdoanajboaaDoorLn
set_option maxRecDepth 100000
set_option linter.unusedSimpArgs false
set_option linter.unusedVariables false
namespace Go.Am.Tryd
open Go
mutual
theorem may_ok : ∀ (t : Ty) (d : Nat), mayT d t = true → vok t ∧ shp t ∧ good t
  | .mk k n s nl ks, d, h => by
    simp only [mayT, Bool.and_eq_true] at h
    have h := h.2
    simp only [vok, shp, good]
    by_cases hk : k = 1
    · rw [if_pos hk] at h
      simp only [Bool.and_eq_true, decide_eq_true_eq, beq_iff_eq] at h
      obtain ⟨h1, h2, h3, h4⟩ := h
      have hks : ks = [] := List.eq_nil_of_length_eq_zero h4
      subst hks
      exact ⟨⟨fun _ => ⟨h1, rfl⟩, trivial⟩, ⟨fun _ => ⟨h1, by omega, h3, rfl⟩, fun hc => absurd hk hc, trivial⟩, fun _ => ⟨h1, by omega⟩, fun hc => absurd hk hc⟩
    · rw [if_neg hk] at h
      simp only [Bool.and_eq_true, decide_eq_true_eq, beq_iff_eq] at h
      obtain ⟨h1, h2, h3, h4⟩ := h
      obtain ⟨g1, g2, g3⟩ := mays_ok ks (d - 1) h4
      have h5 : s = sArrow → ks.length = 2 := fun hs => by
        unfold namedB at h3
        rw [if_pos hs] at h3
        simpa using h3
      exact ⟨⟨fun hc => absurd hc hk, g1⟩, ⟨fun hc => absurd hc hk, fun _ => ⟨h1, h5⟩, g2⟩, fun hc => absurd hc hk, fun _ => ⟨h5, g3⟩⟩
theorem mays_ok : ∀ (l : List Ty) (d : Nat), mayTs d l = true → voks l ∧ shps l ∧ goods l
  | [], _, _ => ⟨trivial, trivial, trivial⟩
  | t :: l, d, h => by
    simp only [mayTs, Bool.and_eq_true] at h
    obtain ⟨a1, a2, a3⟩ := may_ok t d h.1
    obtain ⟨b1, b2, b3⟩ := mays_ok l d h.2
    exact ⟨⟨a1, b1⟩, ⟨a2, b2⟩, ⟨a3, b3⟩⟩
end
mutual
theorem nds_nodes : ∀ t : Ty, nds t = nodes t
  | .mk _ _ _ _ ks => by simp only [nds, nodes, ndss_nodess ks]
theorem ndss_nodess : ∀ l : List Ty, ndss l = nodess l
  | [] => rfl
  | t :: l => by simp only [ndss, nodess, nds_nodes t, ndss_nodess l]
end
def CC : Nat := 2 ^ 38 + 40
theorem head_len : ∀ l : List Ty, (∀ t ∈ l, (textT t).length + 8 ≤ nodes t * CC) → (headT l).length ≤ nodess l * CC
  | [], _ => by simp [headT]
  | a :: l, h => by
    have := h a (by simp)
    simp only [headT, nodess, Nat.add_mul]
    omega
theorem arr_len : ∀ l : List Ty, (∀ t ∈ l, (textT t).length + 8 ≤ nodes t * CC) → (arrT l).length ≤ nodess l * CC
  | [], _ => by simp [arrT]
  | a :: l, h => by
    have h1 := h a (by simp)
    have h2 := head_len l (fun t ht => h t (by simp [ht]))
    have h3 := (brkS_len (isArr a) (textT a)).2
    simp only [arrT, nodess, Nat.add_mul, List.length_append, List.length_cons, List.length_nil]
    omega
theorem comma_le : ∀ (l : List Ty) (b : Bool), (∀ t ∈ l, (textT t).length + 8 ≤ nodes t * CC) → (commaT b l).length ≤ nodess l * CC
  | [], _, _ => by simp [commaT]
  | a :: l, b, h => by
    have h1 := h a (by simp)
    have h2 := comma_le l false (fun t ht => h t (by simp [ht]))
    simp only [commaT, nodess, Nat.add_mul, List.length_append]
    cases b <;> simp <;> omega
theorem args_le : ∀ (l : List Ty), (∀ t ∈ l, (textT t).length + 8 ≤ nodes t * CC) → (argsT l).length ≤ nodess l * CC
  | [], _ => by simp [argsT]
  | a :: l, h => by
    have h1 := h a (by simp)
    have h2 := args_le l (fun t ht => h t (by simp [ht]))
    have h3 := (brkS_len (isComp a) (textT a)).2
    simp only [argsT, nodess, Nat.add_mul, List.length_append, List.length_cons]
    omega
mutual
theorem text_le : ∀ t : Ty, cl t → (textT t).length + 8 ≤ nodes t * CC
  | .mk k n s nl ks, h => by
    simp only [cl] at h
    have hk := texts_le ks h.2.2
    have h1 := arr_len ks hk
    have h2 := comma_le ks true hk
    have h3 := args_le ks hk
    simp only [textT, nodes, Nat.add_mul]
    generalize nodess ks * CC = Z at *
    unfold CC
    split
    · have := itoa_len ((n.toNat / 26 : Nat) : Int)
      unfold varS
      split
      · simp
      · simp only [List.length_cons]; omega
    · split
      · omega
      · split
        · simp only [List.length_cons, List.length_append, List.length_nil]; omega
        · simp only [List.length_append]; omega
theorem texts_le : ∀ l : List Ty, cls l → ∀ t ∈ l, (textT t).length + 8 ≤ nodes t * CC
  | [], _, t, ht => by simp at ht
  | a :: l, h, t, ht => by
    simp only [cls] at h
    rcases List.mem_cons.1 ht with e | ht
    · rw [e]; exact text_le a h.1
    · exact texts_le l h.2 t ht
end
theorem text_lim (t : Ty) (h : cl t) (hn : nodes t ≤ 900) : (textT t).length < lim := by
  have h1 := text_le t h
  have h2 : nodes t * CC ≤ 900 * CC := Nat.mul_le_mul_right _ hn
  unfold CC at h1 h2
  unfold lim
  omega
theorem may8_ans (t : Ty) (ho : t.ok) : Ans ctx 8 [encT t] (.bool (mayT 100 t)) := by
  obtain ⟨k, hk⟩ := may15_ans t ho 100 (by omega)
  refine Ans.of (σ' := []) fn8_ (by simp) (by simp) ⟨k, fun N hN => ?_⟩
  have hk : ∀ σ, acall ctx N 37 [encT t, .int .i64 100] σ = some (.bool (mayT 100 t), σ) := hk N hN
  simp [i8, c8, hk]
theorem subD_nil : subD [] = fun _ => none := by
  funext n
  simp [subD]
theorem gp3 (A : AV) (xs : List AV) (nl : Bool) (hb : xs.length < big) : ∀ (rest : List Ty) (i : Nat), Tail xs i (encTs rest) → Ty.oks rest →
    ∃ e fr', Lp ctx [] [] [2, 3, 7] b3_0 ⟨[(2, .v (encR 4 nl xs)), (3, .bx A), (7, .v (.int .i64 i))], false⟩ [] e fr' [] ∧
      fr'.lk = false ∧ cond (rest.all fun t => mayT 100 t) (e = .ex 0 ∧ Hi 63 fr' ∧ getS fr'.sl 2 = .v (encR 4 nl xs) ∧ getS fr'.sl 3 = .bx A ∧ getS fr'.sl 6 = .u ∧ getS fr'.sl 8 = .u) (e = .ret ∧ getS fr'.sl 6 = .v (.bool true))
  | [], i, h1, _ => by
    have h1 := h1.nil
    refine ⟨.ex 0, ?_, Lp.exit ⟨0, fun N _ => ?_⟩ (by simp), ?_⟩
    rotate_left
    · simp [b3_0, h1]
      rfl
    · exact ⟨by simp, by simp only [List.all_nil, cond_true]; exact ⟨by simp, hi_of (by simp), by simp, by simp, by simp, by simp⟩⟩
  | a :: r, i, h1, ho => by
    simp only [Ty.oks] at ho
    obtain ⟨k, hk⟩ := may8_ans a ho.1
    obtain ⟨ka, hka⟩ := awake_ans
    simp only [encTs_cons] at h1
    have hl := h1.len
    obtain ⟨g1, g2, g3, g4, g5⟩ := h1.cons
    have hw := wrap_succ (n := i) (by simp at hl; omega)
    cases hab : mayT 100 a with
    | false =>
      rw [hab] at hk
      refine ⟨.ret, ?_, Lp.exit ⟨k + ka, fun N hN => ?_⟩ (by simp), ?_⟩
      rotate_left
      · have hk := hk N (by omega)
        have hka := hka N (by omega)
        simp [b3_0, g1, g2, g3, g5, hk, hka]
        rfl
      · simp [hab]
    | true =>
      rw [hab] at hk
      obtain ⟨e, fr', l1, l2, l3⟩ := gp3 A xs nl hb r (i + 1) g4 ho.2
      refine ⟨e, fr', Lp.step ⟨k, fun N hN => ?_⟩ l1, l2, ?_⟩
      · simp [b3_0, g1, g2, g3, g5, hk N hN, hw]
      · simpa [hab] using l3
set_option maxHeartbeats 4000000
theorem termAll_ans (a b : Ty) (l : List Ty) (nl : Bool) (ha : a.ok) (hb : b.ok) (hl : Ty.oks l) (hn : l.length ≤ 2 ^ 42) : Ans ctx 3 [encT a, encT b, encR 4 nl (encTs l)] (.bool true) := by
  obtain ⟨ka, hka⟩ := awake_ans
  obtain ⟨b1, ⟨k1, q1⟩, z1⟩ := great_ans [a, b] false (by simp) ⟨ha, hb, trivial⟩
  obtain ⟨b2, ⟨k2, q2⟩, z2⟩ := great_ans l nl hn hl
  have q1 : ∀ N, k1 ≤ N → ∀ σ, acall ctx N 5 [.sl 4 [encT a, encT b]] σ = some (.bool b1, σ) := by
    simpa only [encTs_cons, encTs_nil, encR_false] using q1
  by_cases hg : b1 = true ∨ b2 = true ∨ 30 < l.length
  · refine Ans.of (σ' := []) fn3_ (by simp) (by simp) ⟨ka + k1 + k2, fun N hN => ?_⟩
    have hka := hka N (by omega)
    have q1 := q1 N (by omega)
    have q2 := q2 N (by omega)
    cases b1 with
    | true => simp -implicitDefEqProofs [i3, c3, q1, hka]
    | false =>
      cases b2 with
      | true => simp -implicitDefEqProofs [i3, c3, q1, q2, hka]
      | false =>
        have c1 : (30 : Int) < l.length := by simp at hg; omega
        simp -implicitDefEqProofs [i3, c3, q1, q2, hka, c1]
  have hb1 : b1 = false := by cases b1 <;> simp_all
  have hb2 : b2 = false := by cases b2 <;> simp_all
  subst hb1 hb2
  have c1 : ¬ (30 : Int) < l.length := by simp at hg; omega
  obtain ⟨cab, nab⟩ := z1 rfl
  obtain ⟨cll, _⟩ := z2 rfl
  simp only [cls] at cab
  simp only [nodess] at nab
  have ca := cab.1
  have na : nodes a ≤ 900 := by omega
  obtain ⟨k3, e7⟩ := may_ans a ha (names_all a ha)
  obtain ⟨k4, e8⟩ := may8_ans a ha
  obtain ⟨k5, e9⟩ := size_ans a ha (by unfold lim; omega)
  obtain ⟨k6, e10⟩ := size15_ans a ha
  obtain ⟨k7, e11⟩ := same13_ans a b ha
  obtain ⟨k8, e12⟩ := same_ans a b ha
  obtain ⟨k9, e11a⟩ := same13_ans a a ha
  rw [same_refl] at e11a
  obtain ⟨e, fr', l1, l2, l3⟩ := gp3 (encT a) (encTs l) nl (by simp; unfold big; omega) l 0 (Tail.all _) hl
  obtain ⟨q, hq⟩ := l1.den
  have hq : ∀ N, q ≤ N → _ := hq
  cases hm : (l.all fun t => mayT 100 t) with
  | false =>
    rw [hm] at l3
    obtain ⟨rfl, l4⟩ := l3
    refine Ans.of (σ' := []) fn3_ (by simp) (by simp) ⟨ka + k1 + k2 + k3 + k4 + k5 + k6 + k7 + k8 + k9 + q, fun N hN => ?_⟩
    have hka := hka N (by omega)
    have q1 := q1 N (by omega)
    have q2 := q2 N (by omega)
    have e7 := e7 N (by omega)
    have e8 := e8 N (by omega)
    have e9 := e9 N (by omega)
    have e10 := e10 N (by omega)
    have e11 := e11 N (by omega)
    have e12 := e12 N (by omega)
    have e11a := e11a N (by omega)
    have hq := hq N (by omega)
    generalize ((min (nodes a) 401 : Nat) : Int) = Z at *
    generalize mayT 100 a = M at *
    generalize a.same b = U at *
    simp -implicitDefEqProofs [i3, c3, q1, q2, c1, hka, e7, e8, e9, e10, e11, e12, e11a, hq, l2, l4]
  | true =>
    rw [hm] at l3
    simp only [cond_true] at l3
    obtain ⟨rfl, l4, l5, l6, l7, l8⟩ := l3
    unfold Hi at l4
    cases hM : mayT 100 a with
    | false =>
      rw [hM] at e7 e8
      refine Ans.of (σ' := []) fn3_ (by simp) (by simp) ⟨ka + k1 + k2 + k3 + k4 + k5 + k6 + k7 + k8 + k9 + q, fun N hN => ?_⟩
      have hka := hka N (by omega)
      have q1 := q1 N (by omega)
      have q2 := q2 N (by omega)
      have e7 := e7 N (by omega)
      have e8 := e8 N (by omega)
      have e9 := e9 N (by omega)
      have e10 := e10 N (by omega)
      have e11 := e11 N (by omega)
      have e12 := e12 N (by omega)
      have e11a := e11a N (by omega)
      have hq := hq N (by omega)
      generalize ((min (nodes a) 401 : Nat) : Int) = Z at *
      generalize a.same b = U at *
      simp -implicitDefEqProofs [i3, c3, q1, q2, c1, hka, e7, e8, e9, e10, e11, e12, e11a, hq, l2, l4, l5, l6, l7, l8]
    | true =>
      obtain ⟨va, sa, ga⟩ := may_ok a 100 hM
      rw [hM] at e7 e8
      have hnd : nds a < 2 ^ 39 := by rw [nds_nodes]; omega
      obtain ⟨k10, e13n⟩ := subst15_ans [] true a ca
      obtain ⟨k11, e15⟩ := vars_ans a ha va hnd
      obtain ⟨k12, e16⟩ := Vars15_ans a ha va (by omega)
      obtain ⟨k13, e14⟩ := ints_ans (varsT [] a) true true (by have := (varsT_len a []).2; simp at this; unfold big; omega)
      obtain ⟨k14, e17⟩ := subst_ans a l nl ca cll
      obtain ⟨k15, e13⟩ := subst15_ans l nl a ca
      have cs1 : cl (turnedT (subD l) a) := cl_turned _ (cl_subD l cll) a ca
      obtain ⟨k16, s1⟩ := same_ans (turnedT (subD l) a) (turnR (subD l) a) (cl_ok _ cs1)
      rw [turn_same] at s1
      obtain ⟨k17, e18⟩ := canon_ans a ca va hnd
      obtain ⟨k18, e19⟩ := canon15_ans a ca va hnd
      have cs2 : cl (turnedT (canD (varsT [] a)) a) := cl_turned _ (fun n u h => by cases h; simp [varT, cl, cls]) a ca
      obtain ⟨k19, s2⟩ := same_ans (turnedT (canD (varsT [] a)) a) (renT (varsT [] a) a) (cl_ok _ cs2)
      rw [canon_ren] at s2
      have htl := text_lim a ca na
      obtain ⟨k20, e20⟩ := text_ans a ga ca htl
      obtain ⟨k21, e21⟩ := text15_ans a sa ha htl
      obtain ⟨k22, s3⟩ := same_ans a (turnR (subD []) a) ha
      have hs3 := turn_same (subD []) a
      rw [subD_nil, turnedT_none] at hs3
      rw [subD_nil, hs3] at s3
      rw [subD_nil] at e13n
      refine Ans.of (σ' := []) fn3_ (by simp) (by simp) ⟨ka + k1 + k2 + k3 + k4 + k5 + k6 + k7 + k8 + k9 + q + k10 + k11 + k12 + k13 + k14 + k15 + k16 + k17 + k18 + k19 + k20 + k21 + k22, fun N hN => ?_⟩
      have hka := hka N (by omega)
      have q1 := q1 N (by omega)
      have q2 := q2 N (by omega)
      have e7 := e7 N (by omega)
      have e8 := e8 N (by omega)
      have e9 := e9 N (by omega)
      have e10 := e10 N (by omega)
      have e11 := e11 N (by omega)
      have e12 := e12 N (by omega)
      have e11a := e11a N (by omega)
      have hq := hq N (by omega)
      have e13n : ∀ σ, acall ctx N 13 [encT a, .nil] σ = some (encT (turnR (fun _ => none) a), σ) := by
        have := e13n N (by omega)
        rw [encTs_nil] at this
        exact this
      have e15 := e15 N (by omega)
      have e16 := e16 N (by omega)
      have e14 := e14 N (by omega)
      have e17 := e17 N (by omega)
      have e13 := e13 N (by omega)
      have s1 := s1 N (by omega)
      have e18 := e18 N (by omega)
      have e19 := e19 N (by omega)
      have s2 := s2 N (by omega)
      have e20 := e20 N (by omega)
      have e21 := e21 N (by omega)
      have s3 := s3 N (by omega)
      generalize ((min (nodes a) 401 : Nat) : Int) = Z at *
      generalize a.same b = U at *
      generalize encR 1 true (encI (varsT [] a)) = V at *
      generalize encT (turnedT (subD l) a) = R1 at *
      generalize encT (turnR (subD l) a) = R2 at *
      generalize encT (turnedT (canD (varsT [] a)) a) = R3 at *
      generalize encT (renT (varsT [] a) a) = R4 at *
      generalize turnR (fun _ => none) a = R5 at *
      generalize textT a = S at *
      simp -implicitDefEqProofs [i3, c3, q1, q2, c1, hka, e7, e8, e9, e10, e11, e12, e11a, hq, l2, l4, l5, l6, l7, l8, e13n, e15, e16, e14, e17, e13, s1, e18, e19, s2, e20, e21, s3]
end Go.Am.Tryd
