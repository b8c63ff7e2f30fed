/- Layer 19: what comes of a scheme: plain; the reference's Deep and Inst. -/
import Derived.Test.YtmhggdoanajboaaDoorMd
set_option maxRecDepth 100000
set_option linter.unusedSimpArgs false
set_option linter.unusedVariables false
namespace Go.Am.Tryd
open Go
mutual
def deep : Ty → Nat
  | .mk _ _ _ _ ks => deeps ks + 1
def deeps : List Ty → Nat
  | [] => 0
  | t :: l => max (deep t) (deeps l)
end
mutual
def shaped : Ty → Bool
  | .mk k n s _ ks => if k = 1 then decide (0 ≤ n) && (decide (n ≤ 2147483647) && (s == [] && ks.length == 0)) else k == 2 && (n == 0 && (namedB s ks.length && shapeds ks))
def shapeds : List Ty → Bool
  | [] => true
  | t :: l => shaped t && shapeds l
end
theorem deep_pos (t : Ty) : 1 ≤ deep t := by cases t; simp [deep]
mutual
theorem may_deep : ∀ (t : Ty) (d : Nat), mayT d t = (shaped t && decide (deep t ≤ d))
  | .mk k n s nl ks, d => by
    unfold mayT shaped deep
    by_cases hk : k = 1
    · rw [if_pos hk, if_pos hk]
      cases ks with
      | nil => simp [deeps, Bool.and_comm]
      | cons a l => simp
    · rw [if_neg hk, if_neg hk, mays_deep ks (d - 1)]
      by_cases hd : 1 ≤ d
      · have e : decide (deeps ks ≤ d - 1) = decide (deeps ks + 1 ≤ d) := by
          rw [decide_eq_decide]; omega
        rw [e, decide_eq_true hd]
        cases k == 2 <;> cases n == 0 <;> cases namedB s ks.length <;> simp
      · rw [decide_eq_false hd, decide_eq_false (show ¬ deeps ks + 1 ≤ d by omega)]
        simp
theorem mays_deep : ∀ (l : List Ty) (d : Nat), mayTs d l = (shapeds l && decide (deeps l ≤ d))
  | [], d => by simp [mayTs, shapeds, deeps]
  | t :: l, d => by
    have e : decide (deeps (t :: l) ≤ d) = (decide (deep t ≤ d) && decide (deeps l ≤ d)) := by
      rw [Bool.eq_iff_iff, Bool.and_eq_true, decide_eq_true_eq, decide_eq_true_eq, decide_eq_true_eq]
      show max (deep t) (deeps l) ≤ d ↔ _
      omega
    rw [e]
    simp only [mayTs, shapeds, may_deep t d, mays_deep l d]
    cases shaped t <;> cases shapeds l <;> simp
end
mutual
theorem may_same : ∀ (a b : Ty) (d : Nat), a.same b = true → mayT d a = mayT d b
  | .mk k n s _ ks, .mk k' n' s' _ ks', d, h => by
    simp only [Ty.same, Bool.and_eq_true, beq_iff_eq] at h
    obtain ⟨rfl, rfl, rfl, h4⟩ := h
    have hl := sames_len ks ks' h4
    unfold mayT
    rw [hl, mays_same ks ks' (d - 1) h4]
theorem mays_same : ∀ (a b : List Ty) (d : Nat), Ty.sames a b = true → mayTs d a = mayTs d b
  | [], [], _, _ => rfl
  | [], _ :: _, _, h => by simp [Ty.sames] at h
  | _ :: _, [], _, h => by simp [Ty.sames] at h
  | a :: l, b :: m, d, h => by
    simp only [Ty.sames, Bool.and_eq_true] at h
    simp only [mayTs, may_same a b d h.1, mays_same l m d h.2]
theorem sames_len : ∀ (a b : List Ty), Ty.sames a b = true → a.length = b.length
  | [], [], _ => rfl
  | [], _ :: _, h => by simp [Ty.sames] at h
  | _ :: _, [], h => by simp [Ty.sames] at h
  | a :: l, b :: m, h => by
    simp only [Ty.sames, Bool.and_eq_true] at h
    simp [sames_len l m h.2]
end
mutual
theorem shaped_turn (d : Int → Option Ty) (h : ∀ n u, d n = some u → shaped u = true) : ∀ t, shaped t = true → shaped (turnR d t) = true
  | .mk k n s nl ks, hs => by
    unfold turnR
    by_cases hk : k = 1
    · rw [if_pos hk]
      cases hd : d n with
      | none => simpa using hs
      | some u => simpa using h n u hd
    · rw [if_neg hk]
      unfold shaped at hs ⊢
      rw [if_neg hk] at hs ⊢
      simp only [Bool.and_eq_true] at hs ⊢
      exact ⟨hs.1, hs.2.1, by rw [turnRs_map, List.length_map]; exact hs.2.2.1, shapeds_turn d h ks hs.2.2.2⟩
theorem shapeds_turn (d : Int → Option Ty) (h : ∀ n u, d n = some u → shaped u = true) : ∀ l, shapeds l = true → shapeds (turnRs d l) = true
  | [], _ => rfl
  | t :: l, hs => by
    simp only [shapeds, turnRs, Bool.and_eq_true] at hs ⊢
    exact ⟨shaped_turn d h t hs.1, shapeds_turn d h l hs.2⟩
end
mutual
theorem deep_nodes : ∀ t : Ty, deep t ≤ nodes t
  | .mk _ _ _ _ ks => by have := deeps_nodes ks; simp only [deep, nodes]; omega
theorem deeps_nodes : ∀ l : List Ty, deeps l ≤ nodess l
  | [] => by simp [deeps, nodess]
  | t :: l => by have := deep_nodes t; have := deeps_nodes l; simp only [deeps, nodess]; omega
end
theorem subD_nodes (l : List Ty) (n : Int) (u : Ty) (h : subD l n = some u) : nodes u ≤ nodess l := by
  unfold subD at h
  split at h
  · exact nodess_mem u l (List.mem_of_getElem? h)
  · simp at h
mutual
theorem nodes_turn (l : List Ty) : ∀ t : Ty, nodes (turnR (subD l) t) ≤ nodes t * (nodess l + 1)
  | .mk k n s nl ks => by
    unfold turnR
    by_cases hk : k = 1
    · rw [if_pos hk]
      cases hd : subD l n with
      | none => simp only [Option.getD_none]; exact Nat.le_mul_of_pos_right _ (by omega)
      | some u =>
        have := subD_nodes l n u hd
        simp only [Option.getD_some, nodes, Nat.add_mul]
        omega
    · rw [if_neg hk]
      have := nodess_turn l ks
      simp only [nodes, Nat.add_mul]
      omega
theorem nodess_turn (l : List Ty) : ∀ ks : List Ty, nodess (turnRs (subD l) ks) ≤ nodess ks * (nodess l + 1)
  | [] => by simp [turnRs, nodess]
  | t :: ks => by
    have := nodes_turn l t
    have := nodess_turn l ks
    simp only [turnRs, nodess, Nat.add_mul] at *
    omega
end
theorem mm_max (m n : Nat) : mmA .gtr (.int .i64 (m : Int)) (.int .i64 (n : Int)) = some (.int .i64 ((max m n : Nat) : Int)) := by
  simp only [mmA, if_pos]
  split <;> congr 2 <;> omega
theorem lp57d (K N0 S : AV) (xs : List AV) (nl : Bool) (hb : xs.length < big) : ∀ (rest : List Ty) (i n : Nat), Tail xs i (encTs rest) → (∀ a ∈ rest, Ans ctx 57 [encT a] (.int .i64 (deep a : Nat))) →
    ∃ fr', Lp ctx [] [] [1, 3, 4] b57_0 ⟨[(1, .bx (.agg [K, N0, S, encR 4 nl xs])), (3, .v (.int .i64 n)), (4, .v (.int .i64 i))], false⟩ [] (.ex 0) fr' [] ∧
      fr'.lk = false ∧ getS fr'.sl 3 = .v (.int .i64 ((max n (deeps rest) : Nat) : Int)) ∧ getS fr'.sl 20 = .u ∧ getS fr'.sl 21 = .u ∧ getS fr'.sl 2 = .u
  | [], i, n, h1, _ => by
    have h1 := h1.nil
    refine ⟨?_, Lp.exit ⟨0, fun N _ => ?_⟩ (by simp), ?_⟩
    rotate_left
    · simp [b57_0, h1]
      rfl
    · simp [deeps]
  | a :: r, i, n, h1, ha => by
    simp only [encTs_cons] at h1
    have hlen := h1.len
    obtain ⟨g1, g2, g3, g4, g5⟩ := h1.cons
    have hw := wrap_succ (n := i) (by simp at hlen; omega)
    obtain ⟨k, hk⟩ := ha a (by simp)
    obtain ⟨fr', q1, q2, q3, q4⟩ := lp57d K N0 S xs nl hb r (i + 1) (max n (deep a)) g4 (fun x hx => ha x (by simp [hx]))
    have hm := mm_max n (deep a)
    refine ⟨fr', Lp.step ⟨k, fun N hN => ?_⟩ q1, q2, by rw [q3]; simp only [deeps, Nat.max_assoc], q4⟩
    have hk := hk N hN
    clear q1 q2 q3 q4
    generalize max n (deep a) = z at *
    generalize deep a = y at *
    simp -implicitDefEqProofs [b57_0, g1, g2, g3, g5, hk, hw, hm, -mmA]
mutual
theorem deep_ans : ∀ t : Ty, t.ok → nodes t < lim → Ans ctx 57 [encT t] (.int .i64 (deep t : Nat))
  | .mk k n s nl ks, ho, hl => by
    have hd := deep_nodes (.mk k n s nl ks)
    simp only [Ty.ok] at ho
    simp only [nodes] at hl hd
    simp only [deep] at hd
    obtain ⟨fr', h1, h2, h3, h4, h5, h6⟩ := lp57d (.int .i64 k) (.int .i64 n) (.str s) (encTs ks) nl (by simpa using ho.2.1) ks 0 0 (Tail.all _) (deep_all ks ho.2.2 (by omega))
    obtain ⟨q, hq⟩ := h1.den
    have e : max 0 (deeps ks) = deeps ks := by omega
    rw [e] at h3
    have hw : IntKind.i64.wrap ((deeps ks : Int) + 1) = ((deeps ks + 1 : Nat) : Int) := by rw [wrap_i64 (by unfold lim at hl; omega)]; omega
    refine Ans.of (σ' := []) fn57_ (by simp) (by simp) ⟨q, fun N hN => ?_⟩
    have hq := hq N hN
    unfold deep
    generalize deeps ks + 1 = z at *
    generalize deeps ks = y at *
    simp -implicitDefEqProofs [i57, c57, encT, hq, h2, h3, h4, h5, h6, hw]
theorem deep_all : ∀ l : List Ty, Ty.oks l → nodess l < lim → ∀ a ∈ l, Ans ctx 57 [encT a] (.int .i64 (deep a : Nat))
  | [], _, _, a, ha => by simp at ha
  | t :: l, ho, hl, a, ha => by
    simp only [Ty.oks] at ho
    simp only [nodess] at hl
    rcases List.mem_cons.1 ha with h | ha
    · rw [h]; exact deep_ans t ho.1 (by omega)
    · exact deep_all l ho.2 (by omega) a ha
end
def encO (e : Int) : Ty → AV
  | .mk k n s nl ks => .agg [.int .i64 k, .int .i64 n, .str s, encR 4 nl (encTs ks), .int .i64 e]
theorem lp28 (A Z : AV) (xs : List AV) (nl : Bool) (hb : xs.length < big) : ∀ (rest : List Ty) (i : Nat), Tail xs i (encTs rest) → Ty.oks rest →
    ∃ e fr', Lp ctx [] [] [1, 2, 4, 5] b28_0 ⟨[(1, .v (encR 4 nl xs)), (2, .bx A), (4, .bx (encO 0 noTy)), (5, .v (.int .i64 i))], false⟩ [] e fr' [] ∧
      fr'.lk = false ∧ cond (rest.all fun t => mayT 100 t) (e = .ex 0 ∧ Hi 26 fr' ∧ getS fr'.sl 1 = .v (encR 4 nl xs) ∧ getS fr'.sl 2 = .bx A ∧ getS fr'.sl 4 = .bx (encO 0 noTy) ∧ getS fr'.sl 6 = .u) (e = .ret ∧ getS fr'.sl 4 = .bx (encO 1 noTy))
  | [], i, h1, _ => by
    have h1 := h1.nil
    refine ⟨.ex 0, ?_, Lp.exit ⟨0, fun N _ => ?_⟩ (by simp), ?_⟩
    rotate_left
    · simp [b28_0, h1]
      rfl
    · exact ⟨by simp, by simp only [List.all_nil, cond_true]; exact ⟨by simp, hi_of (by simp), by simp, by simp, by simp, by simp⟩⟩
  | a :: r, i, h1, ho => by
    simp only [Ty.oks] at ho
    obtain ⟨k, hk⟩ := may8_ans a ho.1
    simp only [encTs_cons] at h1
    have hl := h1.len
    obtain ⟨g1, g2, g3, g4, g5⟩ := h1.cons
    have hw := wrap_succ (n := i) (by simp at hl; omega)
    cases hab : mayT 100 a with
    | false =>
      rw [hab] at hk
      refine ⟨.ret, ?_, Lp.exit ⟨k, fun N hN => ?_⟩ (by simp), ?_⟩
      rotate_left
      · have hk := hk N (by omega)
        simp -implicitDefEqProofs [b28_0, g1, g2, g3, g5, hk, encO, noTy]
        rfl
      · simp [hab, encO, noTy]
    | true =>
      rw [hab] at hk
      obtain ⟨e, fr', l1, l2, l3⟩ := lp28 A Z xs nl hb r (i + 1) g4 ho.2
      refine ⟨e, fr', Lp.step ⟨k, fun N hN => ?_⟩ l1, l2, ?_⟩
      · simp -implicitDefEqProofs [b28_0, g1, g2, g3, g5, hk N hN, hw]
      · simpa [hab] using l3
def inst15 (n : Int) (t : Ty) (l : List Ty) : Ty × Int :=
  if (l.length : Int) = n ∧ (l.all fun t => mayT 100 t) = true then (if nodes (turnR (subD l) t) ≤ 400 ∧ deep (turnR (subD l) t) ≤ 100 then (turnR (subD l) t, 0) else (noTy, 9)) else (noTy, 1)
set_option maxHeartbeats 4000000
theorem inst15_ans (n : Int) (t : Ty) (l : List Ty) (nl : Bool) (ht : Fine t) (hl : cls l) (hn : nodess l ≤ 900) : Ans ctx 28 [encS n t, encR 4 nl (encTs l)] (encO (inst15 n t l).2 (inst15 n t l).1) := by
  have hol := cls_oks l hl
  have hln := len_nodess l
  have hnl := encTs_length l
  unfold inst15
  by_cases h0 : (l.length : Int) = n
  · obtain ⟨e, fr', l1, l2, l3⟩ := lp28 (encS n t) .nil (encTs l) nl (by simp; unfold big; omega) l 0 (Tail.all _) hol
    obtain ⟨q, hq⟩ := l1.den
    cases hm : (l.all fun t => mayT 100 t) with
    | false =>
      rw [hm] at l3
      obtain ⟨rfl, l4⟩ := l3
      simp only [Bool.false_eq_true, and_false, if_false]
      refine Ans.of (σ' := []) fn28_ (by obtain ⟨_, _, _, _, _⟩ := t; simp [encS]) (by simp [encO, noTy]) ⟨q, fun N hN => ?_⟩
      have hq := hq N hN
      obtain ⟨k, m, s, nk, ks⟩ := t
      simp only [encO, noTy, encS] at hq l4 ⊢
      simp -implicitDefEqProofs [i28, c28, h0, hq, l2, l4]
    | true =>
      rw [hm] at l3
      simp only [cond_true] at l3
      obtain ⟨rfl, l4, l5, l6, l7, l8⟩ := l3
      unfold Hi at l4
      rw [if_pos ⟨h0, rfl⟩]
      obtain ⟨k1, e13⟩ := subst15_ans l nl t ht.cl
      have hc : cl (turnR (subD l) t) := cl_turnR _ (cl_subD l hl) t ht.cl
      have hno : nodes (turnR (subD l) t) < lim := by
        have h1 := nodes_turn l t
        have h2 : nodes t * (nodess l + 1) ≤ 900 * 901 := Nat.mul_le_mul ht.n (by omega)
        unfold lim
        omega
      obtain ⟨k2, e10⟩ := size15_ans (turnR (subD l) t) (cl_ok _ hc)
      obtain ⟨k3, e57⟩ := deep_ans (turnR (subD l) t) (cl_ok _ hc) hno
      obtain ⟨z, hz⟩ : ∃ z, z = turnR (subD l) t := ⟨_, rfl⟩
      rw [← hz] at e13 e10 e57 hc hno ⊢
      clear hz
      have hs : (400 : Int) < ((min (nodes z) 401 : Nat) : Int) ↔ ¬ nodes z ≤ 400 := by omega
      obtain ⟨k, m, s, nk, ks⟩ := t
      obtain ⟨Z, hZ⟩ : ∃ Z, Z = ((min (nodes z) 401 : Nat) : Int) := ⟨_, rfl⟩
      rw [← hZ] at e10 hs
      clear hZ
      by_cases hs4 : nodes z ≤ 400
      · have hs5 : ¬ (400 : Int) < Z := by rw [hs]; simpa using hs4
        by_cases hd : deep z ≤ 100
        · have hd' : ¬ (100 : Int) < (deep z : Int) := by omega
          rw [if_pos ⟨hs4, hd⟩]
          refine Ans.of (σ' := []) fn28_ (by simp [encS]) (by obtain ⟨_, _, _, _, _⟩ := z; simp [encO]) ⟨q + k1 + k2 + k3, fun N hN => ?_⟩
          have hq := hq N (by omega)
          have e13 := e13 N (by omega)
          have e10 := e10 N (by omega)
          have e57 := e57 N (by omega)
          generalize deep z = D at *
          obtain ⟨k', m', s', nk', ks'⟩ := z
          simp only [encO, noTy, encS, encT] at *
          simp -implicitDefEqProofs [i28, c28, h0, hq, l2, l4, l5, l6, l7, l8, e13, e10, e57, hs5, hd']
        · have hd' : (100 : Int) < (deep z : Int) := by omega
          rw [if_neg (fun h => hd h.2)]
          refine Ans.of (σ' := []) fn28_ (by simp [encS]) (by simp [encO, noTy]) ⟨q + k1 + k2 + k3, fun N hN => ?_⟩
          have hq := hq N (by omega)
          have e13 := e13 N (by omega)
          have e10 := e10 N (by omega)
          have e57 := e57 N (by omega)
          generalize deep z = D at *
          obtain ⟨k', m', s', nk', ks'⟩ := z
          simp only [encO, noTy, encS, encT] at *
          simp -implicitDefEqProofs [i28, c28, h0, hq, l2, l4, l5, l6, l7, l8, e13, e10, e57, hs5, hd']
      · have hs5 : (400 : Int) < Z := by rw [hs]; exact hs4
        rw [if_neg (fun h => hs4 h.1)]
        refine Ans.of (σ' := []) fn28_ (by simp [encS]) (by simp [encO, noTy]) ⟨q + k1 + k2 + k3, fun N hN => ?_⟩
        have hq := hq N (by omega)
        have e13 := e13 N (by omega)
        have e10 := e10 N (by omega)
        obtain ⟨k', m', s', nk', ks'⟩ := z
        simp only [encO, noTy, encS, encT] at *
        simp -implicitDefEqProofs [i28, c28, h0, hq, l2, l4, l5, l6, l7, l8, e13, e10, hs5]
  · rw [if_neg (fun h => h0 h.1)]
    have h0' : ((l.length : Int) == n) = false := by simpa using h0
    refine Ans.of (σ' := []) fn28_ (by obtain ⟨_, _, _, _, _⟩ := t; simp [encS]) (by simp [encO, noTy]) ⟨0, fun N hN => ?_⟩
    obtain ⟨k, m, s, nk, ks⟩ := t
    simp only [encO, noTy, encS]
    simp -implicitDefEqProofs [i28, c28, h0', bne]
end Go.Am.Tryd
