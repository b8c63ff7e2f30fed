/- Layer 19: SchemeAll. -/
import Derived.Test.YtmhggdoanajboaaDoorMg
set_option maxRecDepth 100000
set_option linter.unusedSimpArgs false
set_option linter.unusedVariables false
namespace Go.Am.Tryd
open Go
theorem all_shaped (l : List Ty) (h : (l.all fun t => mayT 100 t) = true) : ∀ n u, subD l n = some u → shaped u = true := fun n u hu => by
  unfold subD at hu
  split at hu
  · have := List.all_eq_true.1 h u (List.mem_of_getElem? hu)
    rw [may_deep, Bool.and_eq_true] at this
    exact this.1
  · simp at hu
theorem inst_eq (n : Int) (a : Ty) (l : List Ty) (h : mayT 100 a = true) : (instP n a l).1.same (inst15 n a l).1 = true ∧ (instP n a l).2 = (inst15 n a l).2 := by
  unfold instP inst15
  split
  · rename_i hc
    have e1 : mayT 100 (turnedT (subD l) a) = decide (deep (turnR (subD l) a) ≤ 100) := by
      rw [may_same _ _ 100 (turn_same (subD l) a), may_deep, shaped_turn (subD l) (all_shaped l hc.2) a (by
        rw [may_deep, Bool.and_eq_true] at h; exact h.1), Bool.true_and]
    rw [e1]
    by_cases h1 : nodes (turnR (subD l) a) ≤ 400
    · by_cases h2 : deep (turnR (subD l) a) ≤ 100
      · simp [h1, h2, turn_same]
      · simp [h1, h2, same_refl]
    · simp [h1, same_refl]
  · exact ⟨same_refl _, rfl⟩
theorem instP_ok (n : Int) (a : Ty) (l : List Ty) (ha : cl a) (hl : cls l) : (instP n a l).1.ok := by
  have h0 : noTy.ok := by simp [noTy, Ty.ok, Ty.oks, big]
  unfold instP
  split
  · split
    · split
      · exact cl_ok _ (cl_turned _ (cl_subD l hl) a ha)
      · exact h0
    · exact h0
  · exact h0
theorem canon_eq (l : List Nat) (a : Ty) : (turnedT (canD l) a).same a = (renT l a).same a := by
  have h := canon_ren l a
  rw [Bool.eq_iff_iff]
  exact ⟨fun h1 => same_trans _ _ _ (same_symm _ _ h) h1, fun h1 => same_trans _ _ _ h h1⟩
theorem mayS_eq (n : Int) (a : Ty) (ha : Fine a) : Ans ctx 24 [encS n a] (.bool (maySch n a)) := by
  have h := mayS15_ans n a ha
  unfold maySch
  rw [canon_eq]
  have e : (((varsT [] a).length : Int) == n) = (n == ((varsT [] a).length : Int)) := by
    rw [Bool.eq_iff_iff, beq_iff_eq, beq_iff_eq]
    exact eq_comm
  rw [e]
  exact h
set_option maxHeartbeats 8000000
theorem schemeAll_ans (n m : Int) (a b : Ty) (l : List Ty) (nl : Bool) (ha : a.ok) (hb : b.ok) (hl : Ty.oks l) (hn : l.length ≤ 2 ^ 42) : Ans ctx 4 [encS n a, encS m b, encR 4 nl (encTs l)] (.bool true) := by
  obtain ⟨ka, hka⟩ := awake19_ans
  obtain ⟨b1, ⟨k1, q1⟩, z1⟩ := great_ans [a, b] false (by simp) ⟨ha, hb, trivial⟩
  obtain ⟨b2, ⟨k2, q2⟩, z2⟩ := great_ans l nl hn hl
  have q1 : ∀ N, k1 ≤ N → ∀ σ, acall ctx N 5 [.sl 4 [encT a, encT b]] σ = some (.bool b1, σ) := by
    simpa only [encTs_cons, encTs_nil, encR_false] using q1
  by_cases hg : b1 = true ∨ b2 = true
  · obtain ⟨k, m1, s, nk, ks⟩ := a
    obtain ⟨k', m', s', nk', ks'⟩ := b
    simp only [encS, encT] at *
    refine Ans.of (σ' := []) fn4_ (by simp) (by simp) ⟨ka + k1 + k2, fun N hN => ?_⟩
    have hka := hka N (by omega)
    have q1 := q1 N (by omega)
    have q2 := q2 N (by omega)
    cases b1 with
    | true => simp -implicitDefEqProofs [i4, c4, q1, hka]
    | false =>
      have hb2 : b2 = true := by simpa using hg
      subst hb2
      simp -implicitDefEqProofs [i4, c4, q1, q2, hka]
  have hb1 : b1 = false := by cases b1 <;> simp_all
  have hb2 : b2 = false := by cases b2 <;> simp_all
  subst hb1 hb2
  obtain ⟨cab, nab⟩ := z1 rfl
  obtain ⟨cll, nl9⟩ := z2 rfl
  simp only [cls] at cab
  simp only [nodess] at nab
  have fa : Fine a := ⟨ha, cab.1, by omega⟩
  have fb : Fine b := ⟨hb, cab.2.1, by omega⟩
  obtain ⟨k3, e23⟩ := mayS_ans n a fa
  obtain ⟨k4, e24⟩ := mayS_eq n a fa
  obtain ⟨k5, e25⟩ := sameS_ans n m a b ha
  obtain ⟨k6, e26⟩ := sameS15_ans n m a b ha
  obtain ⟨k7, e24b⟩ := mayS_eq m b fb
  by_cases hM : maySch n a = true ∧ maySch m b = true
  · rw [hM.1] at e23 e24
    rw [hM.2] at e24b
    have hma : mayT 100 a = true := by
      have := hM.1
      unfold maySch at this
      rw [Bool.and_eq_true] at this
      exact this.1
    obtain ⟨va, sa, ga⟩ := may_ok a 100 hma
    have htl := text_lim a fa.cl fa.n
    obtain ⟨k8, e29⟩ := le_ans n m a b _ (match_ans a b ha hb (by have := fa.n; omega))
    obtain ⟨k9, e30⟩ := le15_ans n m a b _ (match15_ans a b ha va hb (by have := fa.n; omega))
    obtain ⟨k10, e31⟩ := textS_ans n a ga fa.cl htl
    obtain ⟨k11, e21⟩ := text15_ans a sa ha htl
    obtain ⟨k12, e27⟩ := inst_ans n a l nl fa va cll nl9
    obtain ⟨k13, e28⟩ := inst15_ans n a l nl fa cll nl9
    obtain ⟨g1, g2⟩ := inst_eq n a l hma
    obtain ⟨k14, e12⟩ := same_ans (instP n a l).1 (inst15 n a l).1 (instP_ok n a l fa.cl cll)
    rw [g1] at e12
    rw [← g2] at e28
    obtain ⟨k15, e32⟩ := num_ans (instP n a l).2
    clear z1 z2 g1 g2 cab
    generalize go (nodes a + 1) [(a, b)] [] = G at *
    generalize (instP n a l).2 = E at *
    generalize (instP n a l).1 = Z1 at *
    generalize (inst15 n a l).1 = Z2 at *
    generalize textT a = S at *
    generalize a.same b = U at *
    clear hM hma fa fb va sa ga htl nab cll hl ha hb
    obtain ⟨k, m1, s, nk, ks⟩ := a
    obtain ⟨k', m', s', nk', ks'⟩ := b
    obtain ⟨zk, zm, zs, znk, zks⟩ := Z1
    obtain ⟨yk, ym, ys, ynk, yks⟩ := Z2
    simp only [encS, encT, encO] at *
    refine Ans.of (σ' := []) fn4_ (by simp) (by simp) ⟨ka + k1 + k2 + k3 + k4 + k5 + k6 + k7 + k8 + k9 + k10 + k11 + k12 + k13 + k14 + k15, fun N hN => ?_⟩
    have hka := hka N (by omega)
    have q1 := q1 N (by omega)
    have q2 := q2 N (by omega)
    have e23 := e23 N (by omega)
    have e24 := e24 N (by omega)
    have e25 := e25 N (by omega)
    have e26 := e26 N (by omega)
    have e24b := e24b N (by omega)
    have e29 := e29 N (by omega)
    have e30 := e30 N (by omega)
    have e31 := e31 N (by omega)
    have e21 := e21 N (by omega)
    have e27 := e27 N (by omega)
    have e28 := e28 N (by omega)
    have e12 := e12 N (by omega)
    have e32 := e32 N (by omega)
    simp -implicitDefEqProofs [i4, c4, q1, q2, hka, e23, e24, e25, e26, e24b, e29, e30, e31, e21, e27, e28, e12, e32]
  · clear z1 z2 cab nab
    generalize a.same b = U at *
    generalize hA : maySch n a = A at *
    generalize hB : maySch m b = B at *
    clear hA hB fa fb
    obtain ⟨k, m1, s, nk, ks⟩ := a
    obtain ⟨k', m', s', nk', ks'⟩ := b
    simp only [encS, encT] at *
    refine Ans.of (σ' := []) fn4_ (by simp) (by simp) ⟨ka + k1 + k2 + k3 + k4 + k5 + k6 + k7, fun N hN => ?_⟩
    have hka := hka N (by omega)
    have q1 := q1 N (by omega)
    have q2 := q2 N (by omega)
    have e23 := e23 N (by omega)
    have e24 := e24 N (by omega)
    have e25 := e25 N (by omega)
    have e26 := e26 N (by omega)
    have e24b := e24b N (by omega)
    cases A with
    | false => simp -implicitDefEqProofs [i4, c4, q1, q2, hka, e23, e24, e25, e26]
    | true =>
      have hB : B = false := by cases B <;> simp_all
      subst hB
      simp -implicitDefEqProofs [i4, c4, q1, q2, hka, e23, e24, e25, e26, e24b]
end Go.Am.Tryd
