/- Layer 19: scheme.Inst; SchemeAll. -/
import Derived.Test.YtmhggdoanajboaaDoorMf
set_option maxRecDepth 100000
set_option linter.unusedSimpArgs false
set_option linter.unusedVariables false
namespace Go.Am.Tryd
open Go
theorem fnil : AV.fits ⟨.func, 1, 8, .nilf, []⟩ AV.nilf = true := by rfl
theorem ffn (g : Nat) (caps : List AV) : AV.fits ⟨.func, 1, 8, .nilf, []⟩ (AV.fn g caps) = true := by rfl
theorem not55_ans (a : Ty) (ho : a.ok) : Ans ctx 55 [encT a] (.bool (!mayT 100 a)) := by
  obtain ⟨k, hk⟩ := may_ans a ho (names_all a ho)
  refine Ans.of (σ' := []) fn55_ (by simp) (by simp) ⟨k, fun N hN => ?_⟩
  simp [i55, c55, hk N hN]
theorem any_not (l : List Ty) : (l.any fun t => !mayT 100 t) = !(l.all fun t => mayT 100 t) := by
  rw [List.any_eq_not_all_not]
  simp
def instP (n : Int) (t : Ty) (l : List Ty) : Ty × Int :=
  if (l.length : Int) = n ∧ (l.all fun t => mayT 100 t) = true then (if nodes (turnR (subD l) t) ≤ 400 then (if mayT 100 (turnedT (subD l) t) = true then (turnedT (subD l) t, 0) else (noTy, 9)) else (noTy, 9)) else (noTy, 1)
theorem encT_noTy : encT noTy = .agg [.int .i64 0, .int .i64 0, .str [], .nil] := by
  unfold noTy
  simp only [encT]
  rw [encTs_nil]
  rfl
set_option maxHeartbeats 4000000
theorem inst_ans (n : Int) (t : Ty) (l : List Ty) (nl : Bool) (ht : Fine t) (hv : vok t) (hl : cls l) (hn : nodess l ≤ 900) : Ans ctx 27 [encS n t, encR 4 nl (encTs l)] (.tup [encT (instP n t l).1, .int .i64 (instP n t l).2]) := by
  have hol := cls_oks l hl
  have hln := len_nodess l
  have hll : (encTs l).length = l.length := by simp
  have hoa : ∀ a ∈ l, a.ok := fun a ha => by
    obtain ⟨i, hi⟩ := List.getElem?_of_mem ha
    exact cl_ok _ (cls_get l i a hl hi)
  unfold instP
  by_cases h0 : (l.length : Int) = n
  · obtain ⟨k1, e54⟩ := any_ans 55 [] (by simp) (fun a => !mayT 100 a) l nl (by unfold big; omega) (fun a ha => not55_ans a (hoa a ha))
    rw [any_not] at e54
    cases hm : (l.all fun t => mayT 100 t) with
    | false =>
      rw [hm] at e54
      simp only [Bool.false_eq_true, and_false, if_false, encT_noTy]
      refine Ans.of (σ' := []) fn27_ (by obtain ⟨_, _, _, _, _⟩ := t; simp [encS]) (by simp) ⟨k1, fun N hN => ?_⟩
      have e54 := e54 N hN
      obtain ⟨k, m, s, nk, ks⟩ := t
      simp only [encS]
      simp -implicitDefEqProofs [i27, c27, h0, e54]
    | true =>
      rw [hm] at e54
      rw [if_pos ⟨h0, rfl⟩]
      obtain ⟨k2, e56⟩ := cnt_ans l nl hl hn t ht.ok hv 0 (by omega)
      obtain ⟨_, hc⟩ := cnt_spec l t 0 hv
      rw [Nat.zero_add] at hc
      obtain ⟨C, hC⟩ : ∃ C, C = cntT l 0 t := ⟨_, rfl⟩
      rw [← hC] at hc e56
      clear hC
      have e56 : ∀ N, k2 ≤ N → acall ctx N 56 [encT t, .ptr 0 1 0 0, .adr (encR 4 nl (encTs l)), .ptr 1 1 0 0] [.arr false 1 [.int .i64 0], .arr false 1 [.fn 56 [.ptr 0 1 0 0, .adr (encR 4 nl (encTs l)), .ptr 1 1 0 0]]] = some (.tup [], hs l nl C) := e56
      by_cases hs4 : nodes (turnR (subD l) t) ≤ 400
      · have c4 : ¬ (400 : Int) < (C : Int) := by omega
        rw [if_pos hs4]
        obtain ⟨k3, e17⟩ := subst_ans t l nl ht.cl hl
        have hct : cl (turnedT (subD l) t) := cl_turned _ (cl_subD l hl) t ht.cl
        obtain ⟨k4, e7⟩ := may_ans (turnedT (subD l) t) (cl_ok _ hct) (names_all _ (cl_ok _ hct))
        clear hct hs4 hc
        generalize turnedT (subD l) t = z at *
        cases hz : mayT 100 z with
        | true =>
          rw [hz] at e7
          simp only [if_true]
          refine Ans.of (σ' := hs l nl C) fn27_ (by obtain ⟨_, _, _, _, _⟩ := t; simp [encS]) (by simp) ⟨k1 + k2 + k3 + k4, fun N hN => ?_⟩
          have e54 := e54 N (by omega)
          have e56 := e56 N (by omega)
          have e17 := e17 N (by omega)
          have e7 := e7 N (by omega)
          unfold hs at *
          obtain ⟨k, m, s, nk, ks⟩ := t
          obtain ⟨k', m', s', nk', ks'⟩ := z
          simp only [encS, encT] at *
          simp -implicitDefEqProofs [i27, c27, h0, e54, e56, e17, e7, c4, t74, fnil, ffn]
        | false =>
          rw [hz] at e7
          simp only [Bool.false_eq_true, if_false, encT_noTy]
          refine Ans.of (σ' := hs l nl C) fn27_ (by obtain ⟨_, _, _, _, _⟩ := t; simp [encS]) (by simp) ⟨k1 + k2 + k3 + k4, fun N hN => ?_⟩
          have e54 := e54 N (by omega)
          have e56 := e56 N (by omega)
          have e17 := e17 N (by omega)
          have e7 := e7 N (by omega)
          unfold hs at *
          obtain ⟨k, m, s, nk, ks⟩ := t
          obtain ⟨k', m', s', nk', ks'⟩ := z
          simp only [encS, encT] at *
          simp -implicitDefEqProofs [i27, c27, h0, e54, e56, e17, e7, c4, t74, fnil, ffn]
      · have c4 : (400 : Int) < (C : Int) := by omega
        rw [if_neg hs4]
        simp only [encT_noTy]
        refine Ans.of (σ' := hs l nl C) fn27_ (by obtain ⟨_, _, _, _, _⟩ := t; simp [encS]) (by simp) ⟨k1 + k2, fun N hN => ?_⟩
        have e54 := e54 N (by omega)
        have e56 := e56 N (by omega)
        unfold hs at *
        obtain ⟨k, m, s, nk, ks⟩ := t
        simp only [encS, encT] at *
        simp -implicitDefEqProofs [i27, c27, h0, e54, e56, c4, t74, fnil, ffn]
  · rw [if_neg (fun h => h0 h.1)]
    have h0' : ((l.length : Int) == n) = false := by simpa using h0
    simp only [encT_noTy]
    refine Ans.of (σ' := []) fn27_ (by obtain ⟨_, _, _, _, _⟩ := t; simp [encS]) (by simp) ⟨0, fun N hN => ?_⟩
    obtain ⟨k, m, s, nk, ks⟩ := t
    simp only [encS]
    simp -implicitDefEqProofs [i27, c27, h0', bne]
end Go.Am.Tryd
