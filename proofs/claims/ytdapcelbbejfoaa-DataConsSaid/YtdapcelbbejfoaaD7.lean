/- Layer 12: types copied; what a Con has, and what it makes. -/
import Derived.Test.YtdapcelbbejfoaaDA
set_option linter.unusedVariables false
set_option maxRecDepth 100000
set_option linter.unusedSimpArgs false
namespace Go.Am.Try
open Go Go.Am.Ps
theorem pr97 : look 97 ctx.prim = some (primOf types i97) := by rfl
def tiY : TI := ⟨.strct [(0, 3), (1, 3), (2, 9), (3, 62)], 4, 56, .agg [.int .i64 0, .int .i64 0, .str [], .nil], []⟩
theorem fitAll_encYs : ∀ l : List Ps.Ty, fitAll tiY (encYs l) = true
  | [] => rfl
  | t :: l => by
    have := fitAll_encYs l
    simp [fitAll, tiY] at this ⊢
    exact this
theorem clone97 (σ : H) (t : Ps.Ty) (ts : List Ps.Ty) (hl : (t :: ts).length ≤ 2 ^ 38) : primOf types i97 [.sl 4 (encYs (t :: ts))] σ = some (.hs σ.length (t :: ts).length 0 (t :: ts).length 4, σ ++ [.arr false 4 (encYs (t :: ts))]) := by
  show runFn tyc (fun _ _ => failM) 1 i97 [.sl 4 (encYs (t :: ts))] σ = _
  have hf := fitAll_encYs ts
  unfold tiY at hf
  simp at hl
  have h1 : (ts.length + 1) * 56 ≤ 35184372088832 := by omega
  have h2 : ts.length ≤ 35184372088831 := by omega
  simp [i97, c97, tyc_ti, hf, h1, h2]
theorem clone97_nil (σ : H) : primOf types i97 [.nil] σ = some (.nil, σ) := by
  show runFn tyc (fun _ _ => failM) 1 i97 [.nil] σ = _
  simp [i97, c97, tyc_ti]
theorem setSame {α : Type} {l : List α} {i : Nat} {x : α} (h : l[i]? = some x) : l.set i x = l := by
  apply List.ext_getElem?
  intro j
  rw [List.getElem?_set]
  split
  · rename_i hj
    subst hj
    rw [if_pos (List.getElem?_eq_some_iff.1 h).1]; exact h.symm
  · rfl
theorem lp65 (K : Nat) (M : Int) (S : Str) (ks : List Ps.Ty) (hL : ks.length < big) (h0 : 0 < ks.length) (Z : AV) : ∀ (r : List Ps.Ty) (i : Nat), Tail (encYs ks) i (encYs r) → (∀ t ∈ r, Ans ctx 65 [encY t] (encY t)) →
    ∃ fr', Lp ctx [] [] [1, 2, 10, 11, 12] b65_0 ⟨[(1, .bx (.agg [.int .i64 K, .int .i64 M, .str S, .hs 0 ks.length 0 ks.length 4])), (2, .bx Z), (10, .v (.hs 0 ks.length 0 ks.length 4)), (11, .v (.int .i64 ks.length)), (12, .v (.int .i64 i))], false⟩ [.arr false 4 (encYs ks)] (.ex 0) fr' [.arr false 4 (encYs ks)] ∧
      fr'.lk = false ∧ getS fr'.sl 1 = .bx (.agg [.int .i64 K, .int .i64 M, .str S, .hs 0 ks.length 0 ks.length 4]) ∧ getS fr'.sl 2 = .bx Z ∧ getS fr'.sl 24 = .u
  | [], i, h, hc => by
    have h' := h.nil
    simp only [encYs_length] at h'
    subst h'
    refine ⟨?_, Lp.exit ⟨0, fun N _ => ?_⟩ (by simp), ?_⟩
    rotate_left
    · simp -implicitDefEqProofs [b65_0]
      rfl
    · exact ⟨by simp, by simp, by simp, by simp⟩
  | t :: r, i, h, hc => by
    have hlen := h.len
    simp only [encYs_cons] at h
    obtain ⟨g1, g2, g3, g4, g5⟩ := h.cons
    simp only [encYs_length] at hlen g2 g3
    have hw := wrap_succ (n := i) (by simp at hlen; omega)
    obtain ⟨k, hk⟩ := hc t (by simp)
    obtain ⟨fr', l1, l2⟩ := lp65 K M S ks hL h0 Z r (i + 1) g4 (fun x hx => hc x (by simp [hx]))
    have hset : (encYs ks).set i (encY t) = encYs ks := setSame g1
    refine ⟨fr', Lp.step ⟨k, fun N hN => ?_⟩ l1, l2⟩
    have hk := hk N hN
    simp -implicitDefEqProofs [b65_0, g1, g2, g3, hw, hk, hset]
set_option maxHeartbeats 1000000 in
theorem copied_body (k : Nat) (n : Int) (s : Str) (ks : List Ps.Ty) (hks : ks.length ≤ 2 ^ 38) (h : ∀ t ∈ ks, Ans ctx 65 [encY t] (encY t)) : Ans ctx 65 [encY (.mk k n s ks)] (encY (.mk k n s ks)) := by
  rw [encY_mk]
  cases ks with
  | nil =>
    obtain ⟨k1, hk1⟩ := AnsH.prim fn97_ pr97 rfl (clone97_nil [])
    refine Ans.of (σ' := []) fn65_ (by simp) (by simp) ⟨k1 + 1, fun N hN => ?_⟩
    have hk1 := hk1 N (by omega)
    obtain ⟨M, rfl⟩ : ∃ M, N = M + 1 := ⟨N - 1, by omega⟩
    simp -implicitDefEqProofs [i65, c65, hk1, den.eq_8, iter, b65_0]
  | cons t ts =>
    obtain ⟨k1, hk1⟩ := AnsH.prim fn97_ pr97 rfl (clone97 [] t ts hks)
    obtain ⟨fr', l1, l2, l3, l4, l5⟩ := lp65 k n s (t :: ts) (by simp only [List.length_cons] at hks ⊢; unfold big; omega) (by simp) (.agg [.int .i64 0, .int .i64 0, .str [], .nil]) (t :: ts) 0 (Tail.all _) h
    obtain ⟨k2, hk2⟩ := l1.den
    generalize hT : t :: ts = L at *
    have hne : encYs L ≠ [] := by rw [← hT]; simp
    have hs : snapA [HObj.arr false 4 (encYs L)] 200 (.agg [.int .i64 k, .int .i64 n, .str s, .hs 0 L.length 0 L.length 4]) = some (.agg [.int .i64 k, .int .i64 n, .str s, encR 4 true (encYs L)], [0]) := by
      have hr : snapA [HObj.arr false 4 (encYs L)] 199 (.hs 0 L.length 0 L.length 4) = some (encR 4 true (encYs L), [0]) := by
        obtain ⟨ns, w, hw⟩ := snap_rowV 0 4 (encYs L) [HObj.arr false 4 (encYs L)] 198 (fun _ => ⟨false, rfl⟩) (by simp)
        have e : rowV 0 (encYs L).length 4 = .hs 0 L.length 0 L.length 4 := by rw [← hT]; simp [rowV]
        rw [e] at w
        rcases hw with rfl | rfl
        · exfalso
          unfold snapA at w
          rw [if_neg (by simp)] at w
          simp only at w
          split at w <;> try (cases w; done)
          split at w <;> try (cases w; done)
          split at w <;> simp at w
        · exact w
      unfold snapA
      rw [if_neg (by simp)]
      simp only [mapO2, hr, snapA_noRef (a := .int .i64 k) rfl, snapA_noRef (a := .int .i64 n) rfl, snapA_noRef (a := .str s) rfl]
      rfl
    refine Ans.fn (σ' := [.arr false 4 (encYs L)]) (rs := []) fn65_ (by simp) ⟨k1 + k2, fun N hN => ?_⟩ hs
    have hk1 := hk1 N (by omega)
    have hk2 := hk2 N (by omega)
    simp only [List.length_nil, List.nil_append] at hk1
    simp only [Int.cast_ofNat_Int] at hk2
    have he : encR 4 true (encYs L) = .sl 4 (encYs L) := by rw [← hT]; simp
    rw [he]
    simp -implicitDefEqProofs [i65, c65, hk1, hk2, l2, l3, l4, l5]
mutual
def wideT : Ps.Ty → Prop
  | .mk _ _ _ ks => ks.length ≤ 2 ^ 38 ∧ wideTs ks
def wideTs : List Ps.Ty → Prop
  | [] => True
  | t :: l => wideT t ∧ wideTs l
end
mutual
theorem copied_ans : ∀ t : Ps.Ty, wideT t → Ans ctx 65 [encY t] (encY t)
  | .mk k n s ks, h => by
    unfold wideT at h
    exact copied_body k n s ks h.1 (copieds_ans ks h.2)
theorem copieds_ans : ∀ ts : List Ps.Ty, wideTs ts → ∀ t ∈ ts, Ans ctx 65 [encY t] (encY t)
  | [], _, t, ht => by cases ht
  | u :: us, h, t, ht => by
    unfold wideTs at h
    rcases List.mem_cons.1 ht with e | ht
    · rw [e]; exact copied_ans u h.1
    · exact copieds_ans us h.2 t ht
end
def makes (d : Da) : Ps.Ty := .mk 2 0 d.s ((List.range d.vs.length).map fun (i : Nat) => Ps.Ty.mk 1 (i : Int) [] [])
theorem lp34_0 (X0 X1 X7 : AV) (AS : List AV) (hA : AS.length < big) : ∀ (r : List Ps.Ty) (i : Nat) (acc : List Ps.Ty), Tail AS i (encYs r) → (∀ t ∈ r, Ans ctx 65 [encY t] (encY t)) → acc.length + r.length ≤ 2 ^ 38 →
    ∃ fr', Lp ctx [52, 74] [] [0, 1, 6, 7, 42, 43, 44] b34_0 ⟨[(0, .v X0), (1, .v X1), (6, .v (rowV 0 acc.length 4)), (7, .bx X7), (42, .v (encR 4 true AS)), (43, .v (.int .i64 AS.length)), (44, .v (.int .i64 i))], false⟩ (stH 4 (encYs acc)) (.ex 0) fr' (stH 4 (encYs (acc ++ r))) ∧
      fr'.lk = false ∧ getS fr'.sl 0 = .v X0 ∧ getS fr'.sl 1 = .v X1 ∧ getS fr'.sl 6 = .v (rowV 0 (acc ++ r).length 4) ∧ getS fr'.sl 7 = .bx X7 ∧ (∀ t, 54 ≤ t → t < 79 → getS fr'.sl t = .u)
  | [], i, acc, h, hc, hl => by
    have h' := h.nil
    refine ⟨?_, Lp.exit ⟨0, fun N _ => ?_⟩ (by simp), ?_⟩
    rotate_left
    · simp -implicitDefEqProofs [b34_0, h']
      rfl
    · refine ⟨by simp, by simp, by simp, by simp, by simp, fun t h1 h2 => ?_⟩
      simp only [getS]
      repeat rw [if_neg (by omega)]
  | t :: r, i, acc, h, hc, hl => by
    have hlen := h.len
    simp only [encYs_cons] at h
    obtain ⟨g1, g2, g3, g4, g5⟩ := h.cons
    simp at hlen hl
    have hw := wrap_succ (n := i) (by omega)
    obtain ⟨k, hk⟩ := hc t (by simp)
    have happ := app_own tiY (encYs acc) (encY t) (by simp [tiY]) (by simp [tiY]; omega) (by simp; omega)
    unfold tiY at happ
    simp only [encYs_length] at happ
    have e1 : encYs acc ++ [encY t] = encYs (acc ++ [t]) := by simp
    rw [e1] at happ
    simp only [encYs_length] at happ
    obtain ⟨fr', l1, l2⟩ := lp34_0 X0 X1 X7 AS hA r (i + 1) (acc ++ [t]) g4 (fun x hx => hc x (by simp [hx])) (by simp; omega)
    have g6 := g5 4 true
    simp only [List.append_assoc, List.singleton_append] at l1 l2
    rw [g6] at l1 ⊢
    refine ⟨fr', Lp.step ⟨k, fun N hN => ?_⟩ l1, l2⟩
    have hk := hk N hN
    simp -implicitDefEqProofs [b34_0, g1, g2, g3, hw, hk, happ, -appendH]
end Go.Am.Try
