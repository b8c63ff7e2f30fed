/- Layer 19: whether a scheme may be; whether two are alike; text. -/
import Derived.Test.YtmhggdoanajboaaDoorLo
set_option maxRecDepth 100000
set_option linter.unusedSimpArgs false
set_option linter.unusedVariables false
namespace Go.Am.Tryd
open Go
def encS (n : Int) : Ty → AV
  | .mk k m s nl ks => .agg [.int .i64 n, .int .i64 k, .int .i64 m, .str s, encR 4 nl (encTs ks)]
def maySch (n : Int) (t : Ty) : Bool := mayT 100 t && (decide (nodes t ≤ 400) && ((turnedT (canD (varsT [] t)) t).same t && ((varsT [] t).length : Int) == n))
structure Fine (t : Ty) : Prop where
  ok : t.ok
  cl : cl t
  n : nodes t ≤ 900
theorem encR_len (l : List Nat) : True := trivial
theorem min_gt (n : Nat) : (400 : Int) < ((min n 401 : Nat) : Int) ↔ ¬ n ≤ 400 := by omega
mutual
theorem ren_turnR (l : List Nat) : ∀ t, renT l t = turnR (canD l) t
  | .mk k n s nl ks => by
    unfold renT turnR
    rw [rens_turnR l ks]
    simp [canD]
theorem rens_turnR (l : List Nat) : ∀ r, renTs l r = turnRs (canD l) r
  | [] => rfl
  | t :: r => by simp [renTs, turnRs, ren_turnR l t, rens_turnR l r]
end
theorem cl_renT (l : List Nat) (t : Ty) (h : cl t) : cl (renT l t) := by
  rw [ren_turnR]
  exact cl_turnR _ (fun n u h => by cases h; simp [varT, cl, cls]) t h
theorem sameS_ans (n m : Int) (a b : Ty) (ha : a.ok) : Ans ctx 25 [encS n a, encS m b] (.bool (n == m && a.same b)) := by
  obtain ⟨k, e⟩ := same13_ans a b ha
  generalize a.same b = r at *
  obtain ⟨k1, n1, s1, l1, q1⟩ := a
  obtain ⟨k2, n2, s2, l2, q2⟩ := b
  simp only [encT] at e
  refine Ans.of (σ' := []) fn25_ (by simp [encS]) (by simp [encS]) ⟨k, fun N hN => ?_⟩
  cases hnm : n == m <;> simp -implicitDefEqProofs [i25, c25, encS, e N hN, hnm]
theorem sameS15_ans (n m : Int) (a b : Ty) (ha : a.ok) : Ans ctx 26 [encS n a, encS m b] (.bool (n == m && a.same b)) := by
  obtain ⟨k, e⟩ := same_ans a b ha
  generalize a.same b = r at *
  obtain ⟨k1, n1, s1, l1, q1⟩ := a
  obtain ⟨k2, n2, s2, l2, q2⟩ := b
  simp only [encT] at e
  refine Ans.of (σ' := []) fn26_ (by simp [encS]) (by simp [encS]) ⟨k, fun N hN => ?_⟩
  cases hnm : n == m <;> simp -implicitDefEqProofs [i26, c26, encS, e N hN, hnm]
set_option maxHeartbeats 1000000 in
theorem mayS_ans (n : Int) (t : Ty) (hf : Fine t) : Ans ctx 23 [encS n t] (.bool (maySch n t)) := by
  have hl : nodes t < lim := by have := hf.n; unfold lim; omega
  obtain ⟨k1, e7⟩ := may_ans t hf.ok (names_all t hf.ok)
  obtain ⟨k2, e9⟩ := size_ans t hf.ok hl
  unfold maySch
  cases hm : mayT 100 t with
  | false =>
    rw [hm] at e7
    obtain ⟨k, m, s, nl, ks⟩ := t
    simp only [encT] at e7
    refine Ans.of (σ' := []) fn23_ (by simp [encS]) (by simp [encS]) ⟨k1, fun N hN => ?_⟩
    simp -implicitDefEqProofs [i23, c23, encS, e7 N hN]
  | true =>
    rw [hm] at e7
    obtain ⟨va, sa, ga⟩ := may_ok t 100 hm
    have hnd : nds t < 2 ^ 39 := by have := hf.n; rw [nds_nodes]; omega
    obtain ⟨k3, e18⟩ := canon_ans t hf.cl va hnd
    have cs2 : cl (turnedT (canD (varsT [] t)) t) := cl_turned _ (fun n u h => by cases h; simp [varT, cl, cls]) t hf.cl
    obtain ⟨k4, e11⟩ := same13_ans (turnedT (canD (varsT [] t)) t) t (cl_ok _ cs2)
    obtain ⟨k5, e15⟩ := vars_ans t hf.ok va hnd
    by_cases hs : nodes t ≤ 400
    · have hs' : ¬ (400 : Int) < ((min (nodes t) 401 : Nat) : Int) := by rw [min_gt]; simpa using hs
      generalize ((min (nodes t) 401 : Nat) : Int) = Z at *
      generalize encT (turnedT (canD (varsT [] t)) t) = R at *
      generalize (turnedT (canD (varsT [] t)) t).same t = B at *
      generalize varsT [] t = V at *
      rw [decide_eq_true hs]
      obtain ⟨k, m, s, nl, ks⟩ := t
      simp only [encT] at e7 e9 e11 e15 e18
      refine Ans.of (σ' := []) fn23_ (by simp [encS]) (by simp [encS]) ⟨k1 + k2 + k3 + k4 + k5, fun N hN => ?_⟩
      have e7 := e7 N (by omega)
      have e9 := e9 N (by omega)
      have e11 := e11 N (by omega)
      have e15 := e15 N (by omega)
      have e18 := e18 N (by omega)
      have hlen : (encI V).length = V.length := by simp [encI]
      cases B <;> simp -implicitDefEqProofs [i23, c23, encS, e7, e9, e11, e15, e18, hs', hlen]
    · have hs' : (400 : Int) < ((min (nodes t) 401 : Nat) : Int) := by rw [min_gt]; exact hs
      generalize ((min (nodes t) 401 : Nat) : Int) = Z at *
      rw [decide_eq_false hs]
      obtain ⟨k, m, s, nl, ks⟩ := t
      simp only [encT] at e7 e9
      refine Ans.of (σ' := []) fn23_ (by simp [encS]) (by simp [encS]) ⟨k1 + k2, fun N hN => ?_⟩
      simp -implicitDefEqProofs [i23, c23, encS, e7 N (by omega), e9 N (by omega), hs']
set_option maxHeartbeats 1000000 in
theorem mayS15_ans (n : Int) (t : Ty) (hf : Fine t) : Ans ctx 24 [encS n t] (.bool (mayT 100 t && (decide (nodes t ≤ 400) && ((renT (varsT [] t) t).same t && n == ((varsT [] t).length : Int))))) := by
  obtain ⟨k1, e8⟩ := may8_ans t hf.ok
  obtain ⟨k2, e10⟩ := size15_ans t hf.ok
  cases hm : mayT 100 t with
  | false =>
    rw [hm] at e8
    obtain ⟨k, m, s, nl, ks⟩ := t
    simp only [encT] at e8
    refine Ans.of (σ' := []) fn24_ (by simp [encS]) (by simp [encS]) ⟨k1, fun N hN => ?_⟩
    simp -implicitDefEqProofs [i24, c24, encS, e8 N hN]
  | true =>
    rw [hm] at e8
    obtain ⟨va, sa, ga⟩ := may_ok t 100 hm
    have hnd : nds t < 2 ^ 39 := by have := hf.n; rw [nds_nodes]; omega
    obtain ⟨k3, e19⟩ := canon15_ans t hf.cl va hnd
    have cs2 : cl (turnedT (canD (varsT [] t)) t) := cl_turned _ (fun n u h => by cases h; simp [varT, cl, cls]) t hf.cl
    obtain ⟨k4, e12⟩ := same_ans (renT (varsT [] t) t) t (cl_ok _ (cl_renT _ t hf.cl))
    obtain ⟨k5, e16⟩ := Vars15_ans t hf.ok va (by omega)
    by_cases hs : nodes t ≤ 400
    · have hs' : ((min (nodes t) 401 : Nat) : Int) ≤ 400 := by omega
      generalize ((min (nodes t) 401 : Nat) : Int) = Z at *
      generalize encT (renT (varsT [] t) t) = R at *
      generalize (renT (varsT [] t) t).same t = B at *
      generalize varsT [] t = V at *
      rw [decide_eq_true hs]
      obtain ⟨k, m, s, nl, ks⟩ := t
      simp only [encT] at e8 e10 e12 e16 e19
      refine Ans.of (σ' := []) fn24_ (by simp [encS]) (by simp [encS]) ⟨k1 + k2 + k3 + k4 + k5, fun N hN => ?_⟩
      have e8 := e8 N (by omega)
      have e10 := e10 N (by omega)
      have e12 := e12 N (by omega)
      have e16 := e16 N (by omega)
      have e19 := e19 N (by omega)
      have hlen : (encI V).length = V.length := by simp [encI]
      cases B <;> simp -implicitDefEqProofs [i24, c24, encS, e8, e10, e12, e16, e19, hs', hlen]
    · have hs' : ¬ ((min (nodes t) 401 : Nat) : Int) ≤ 400 := by omega
      generalize ((min (nodes t) 401 : Nat) : Int) = Z at *
      rw [decide_eq_false hs]
      obtain ⟨k, m, s, nl, ks⟩ := t
      simp only [encT] at e8 e10
      refine Ans.of (σ' := []) fn24_ (by simp [encS]) (by simp [encS]) ⟨k1 + k2, fun N hN => ?_⟩
      simp -implicitDefEqProofs [i24, c24, encS, e8 N (by omega), e10 N (by omega), hs']
theorem textS_ans (n : Int) (t : Ty) (hg : good t) (hc : cl t) (hl : (textT t).length < lim) : Ans ctx 31 [encS n t] (.str (textT t)) := by
  obtain ⟨k1, e⟩ := text_ans t hg hc hl
  generalize textT t = S at *
  obtain ⟨k, m, s, nl, ks⟩ := t
  simp only [encT] at e
  refine Ans.of (σ' := []) fn31_ (by simp [encS]) (by simp [encS]) ⟨k1, fun N hN => ?_⟩
  simp -implicitDefEqProofs [i31, c31, encS, e N hN]
theorem num_ans (n : Int) : Ans ctx 32 [.int .i64 n] (.int .i64 n) :=
  Ans.of (σ' := []) fn32_ (by simp) (by simp) ⟨0, fun N hN => by simp [i32, c32]⟩
theorem le_ans (n m : Int) (a b : Ty) (r : Bool) (h : Ans ctx 58 [encT a, encT b] (.bool r)) : Ans ctx 29 [encS n a, encS m b] (.bool r) := by
  obtain ⟨k, e⟩ := h
  obtain ⟨k1, n1, s1, l1, q1⟩ := a
  obtain ⟨k2, n2, s2, l2, q2⟩ := b
  simp only [encT] at e
  refine Ans.of (σ' := []) fn29_ (by simp [encS]) (by simp [encS]) ⟨k, fun N hN => ?_⟩
  simp -implicitDefEqProofs [i29, c29, encS, e N hN]
theorem le15_ans (n m : Int) (a b : Ty) (r : Bool) (h : Ans ctx 59 [encT a, encT b] (.bool r)) : Ans ctx 30 [encS n a, encS m b] (.bool r) := by
  obtain ⟨k, e⟩ := h
  obtain ⟨k1, n1, s1, l1, q1⟩ := a
  obtain ⟨k2, n2, s2, l2, q2⟩ := b
  simp only [encT] at e
  refine Ans.of (σ' := []) fn30_ (by simp [encS]) (by simp [encS]) ⟨k, fun N hN => ?_⟩
  simp -implicitDefEqProofs [i30, c30, encS, e N hN]
end Go.Am.Tryd
