/- Layer 14: the library's iterator over a row from its end on: what the machine takes it to be. -/
import Derived.RangeFuncBox
import Derived.RangeFuncLeaves
import Derived.Shelf.Abstract
import Derived.WalkKit
import Derived.OwnWalkIn
import Derived.TacticsInMore
import Derived.LoopNIn
import Derived.LoopIn
import Derived.Test.YtdapcelbbejfoaaMFacts
import Derived.Test.YtdapcelbbejfoaaMKnow
set_option linter.unusedVariables false
set_option linter.unusedSimpArgs false
namespace Go.Am.Try
open Go Go.Proofs Go.RowKit Go.Shelf
attribute [local go_sem] Oper.semAt_some
theorem fn88_p : Try.prog.funcs[88]? = some Try.f88 := by kernel_rfl
theorem nt88 : Try.f88.ntmps = 19 := by kernel_rfl
set_option maxRecDepth 100000 in
set_option maxHeartbeats 2000000 in
theorem walk88 (g0 : G) (l pb po b off len cap : Nat) (J : Nat → World → Prop) (W : World) (ce : Nat → Nat → Value)
    (h1 : ∀ k W, J k W → W.cell? ⟨pb, po, none⟩ = some (.slice (some ⟨b, off, none⟩) len cap))
    (h2 : ∀ k W, J k W → ∀ i, i < len → ∀ j, j < 8 → W.cell? ⟨b, off + i * 8 + j, none⟩ = some (ce i j))
    (h3 : ∀ k W, k < len → J k W → YieldAt Fence.wide 0 Try.prog l #[.int .i64 ((len - 1 - k : Nat) : Int), .agg #[ce (len - 1 - k) 0, ce (len - 1 - k) 1, ce (len - 1 - k) 2, ce (len - 1 - k) 3, ce (len - 1 - k) 4, ce (len - 1 - k) 5, ce (len - 1 - k) 6, ce (len - 1 - k) 7]] W fun e W' => e = .returned (.bool true) ∧ J (k + 1) W')
    (hlen : len ≤ 2 ^ 40) (h0 : J 0 W) :
    CallsIn Fence.wide 0 Try.prog 88 (#[.func (.yield l) #[] #[]] ++ #[.pointer (some ⟨pb, po, none⟩)]) W fun e W' => (∃ r, e = .returned r) ∧ J len W' := by
  refine callsIn_of_wp fn88_p rfl trivial ?_ rfl
  simp only [nt88, List.size_toArray, List.length_cons, List.length_nil, Nat.reduceAdd, Nat.reduceSub, Array.replicate_succ, Array.replicate_zero, List.push_toArray, List.append_toArray, List.nil_append, List.cons_append]
  have hc0 := h1 0 W h0
  gi_wp2
  gi_loopw [3] (fun i wr => ∃ k : Nat, k ≤ len ∧ i = .int .i64 ((len : Int) - 1 - k) ∧ J k wr) (fun i _ => (intOf i + 1).toNat)
  case atStart => exact ⟨0, Nat.zero_le _, by simp, h0⟩
  case round =>
    obtain ⟨k, hk, rfl, hJs⟩ := hrel
    have hcx := h1 k wr hJs
    by_cases hlt : k < len
    · obtain ⟨fn, tmps, assign, body, hy, hR⟩ := h3 k wr hlt hJs
      have hc := h2 k wr hJs (len - 1 - k) (by omega)
      have c0 : wr.cell? ⟨b, off + (len - 1 - k) * 8, none⟩ = some (ce (len - 1 - k) 0) := hc 0 (by decide)
      have c1 := hc 1 (by decide)
      have c2 := hc 2 (by decide)
      have c3 := hc 3 (by decide)
      have c4 := hc 4 (by decide)
      have c5 := hc 5 (by decide)
      have c6 := hc 6 (by decide)
      have c7 := hc 7 (by decide)
      clear hc
      have e1 : ((len - 1 - k : Nat) : Int) = (len : Int) - 1 - k := by omega
      rw [e1] at hy
      gi_wp2
      refine ⟨rfl, hR.mono ?_⟩
      rintro e W3 ⟨rfl, hJ3⟩
      gi_wp2
      go_roundw
      case rel => exact ⟨k + 1, by omega, by congr 1; omega, hJ3⟩
      case measure => simp [intOf]; omega
    · obtain rfl : k = len := by omega
      gi_wp2
      go_end0
      exact ⟨⟨_, rfl⟩, hJs⟩
set_option maxRecDepth 100000 in
set_option maxHeartbeats 2000000 in
theorem walk88_nil (l pb po : Nat) (J : Nat → World → Prop) (W : World) (h1 : ∀ k W, J k W → W.cell? ⟨pb, po, none⟩ = some (.slice none 0 0)) (h0 : J 0 W) :
    CallsIn Fence.wide 0 Try.prog 88 (#[.func (.yield l) #[] #[]] ++ #[.pointer (some ⟨pb, po, none⟩)]) W fun e W' => (∃ r, e = .returned r) ∧ J 0 W' := by
  refine callsIn_of_wp fn88_p rfl trivial ?_ rfl
  simp only [nt88, List.size_toArray, List.length_cons, List.length_nil, Nat.reduceAdd, Nat.reduceSub, Array.replicate_succ, Array.replicate_zero, List.push_toArray, List.append_toArray, List.nil_append, List.cons_append]
  have hc0 := h1 0 W h0
  gi_wp2
  gi_loopw [3] (fun i wr => i = .int .i64 (-1) ∧ J 0 wr) (fun i _ => 0)
  case atStart => exact ⟨rfl, h0⟩
  case round =>
    obtain ⟨rfl, hJs⟩ := hrel
    gi_wp2
    go_end0
    exact ⟨⟨_, rfl⟩, hJs⟩
set_option maxRecDepth 100000 in
set_option maxHeartbeats 2000000 in
theorem walk88_none (l pb po cap : Nat) (ad : Addr) (J : Nat → World → Prop) (W : World) (h1 : ∀ k W, J k W → W.cell? ⟨pb, po, none⟩ = some (.slice (some ad) 0 cap)) (h0 : J 0 W) :
    CallsIn Fence.wide 0 Try.prog 88 (#[.func (.yield l) #[] #[]] ++ #[.pointer (some ⟨pb, po, none⟩)]) W fun e W' => (∃ r, e = .returned r) ∧ J 0 W' := by
  refine callsIn_of_wp fn88_p rfl trivial ?_ rfl
  simp only [nt88, List.size_toArray, List.length_cons, List.length_nil, Nat.reduceAdd, Nat.reduceSub, Array.replicate_succ, Array.replicate_zero, List.push_toArray, List.append_toArray, List.nil_append, List.cons_append]
  have hc0 := h1 0 W h0
  gi_wp2
  gi_loopw [3] (fun i wr => i = .int .i64 (-1) ∧ J 0 wr) (fun i _ => 0)
  case atStart => exact ⟨rfl, h0⟩
  case round =>
    obtain ⟨rfl, hJs⟩ := hrel
    gi_wp2
    go_end0
    exact ⟨⟨_, rfl⟩, hJs⟩
theorem agg8 {vs : Array Value} (h : vs.size = 8) (ce : Nat → Value) (hc : ∀ j, j < 8 → vs[j]? = some (ce j)) : vs = #[ce 0, ce 1, ce 2, ce 3, ce 4, ce 5, ce 6, ce 7] := by
  apply Array.ext_getElem?
  intro i
  match i with
  | 0 => exact hc 0 (by decide)
  | 1 => exact hc 1 (by decide)
  | 2 => exact hc 2 (by decide)
  | 3 => exact hc 3 (by decide)
  | 4 => exact hc 4 (by decide)
  | 5 => exact hc 5 (by decide)
  | 6 => exact hc 6 (by decide)
  | 7 => exact hc 7 (by decide)
  | n + 8 => rw [Array.getElem?_eq_none (by omega), Array.getElem?_eq_none (by simp)]
theorem back88 : BackOK Try.prog ctx 88 37 := by
  refine ⟨fun args w => by simp [callFunc, fn88_p]; rfl, fun ti hti g0 v xs s hrow hv l J W hJ hY h0 => ?_⟩
  obtain ⟨pb, po, rfl, hm⟩ := VR_adr.1 hv
  rw [ti37] at hti
  cases hti
  cases s <;> simp only [rowOfA, reduceCtorEq] at hrow
  case nil =>
    cases hrow
    obtain ⟨u, k1, k2, k3⟩ := hm 0 .nil rfl
    rw [VR_nil] at k3
    subst k3
    exact walk88_nil l pb po J W (fun k W hj => hJ k W hj _ _ _ k1) h0
  case sl sz ys =>
    split at hrow <;> simp only [reduceCtorEq, Option.some.injEq] at hrow
    rename_i hc
    subst hrow
    obtain ⟨rfl, hfit, hl1, hl2⟩ := hc
    obtain ⟨u, k1, k2, k3⟩ := hm 0 (.sl 8 ys) rfl
    obtain ⟨ad, cap, rfl, hcap, hel⟩ := VR_sl.1 k3
    rcases hel with rfl | ⟨b, off, rfl, hel⟩
    · exact walk88_none l pb po cap ad J W (fun k W hj => hJ k W hj _ _ _ k1) h0
    · have hcell : ∀ i, i < ys.length → ∀ j, j < 8 → ∃ c, g0.im b (off + i * 8 + j) = some c ∧ ∃ x y, ys[i]? = some x ∧ x.cells[j]? = some y ∧ c.oneCell' = true ∧ VR g0 y c := fun i hi j hj => by
        obtain ⟨e1, e2⟩ := hel i ys[i] (List.getElem?_eq_getElem hi)
        obtain ⟨c, e3, e4, e5⟩ := e2 j (ys[i].cells[j]'(by omega)) (List.getElem?_eq_getElem _)
        exact ⟨c, e3, ys[i], _, List.getElem?_eq_getElem hi, List.getElem?_eq_getElem _, e4, e5⟩
      let ce : Nat → Nat → Value := fun i j => (g0.im b (off + i * 8 + j)).getD undef
      have hce : ∀ i, i < ys.length → ∀ j, j < 8 → g0.im b (off + i * 8 + j) = some (ce i j) := fun i hi j hj => by
        obtain ⟨c, e1, _⟩ := hcell i hi j hj
        simp only [ce, e1, Option.getD_some]
      refine walk88 g0 l pb po b off ys.length cap J W ce (fun k W hj => hJ k W hj _ _ _ k1) (fun k W hj i hi j hjj => hJ k W hj _ _ _ (hce i hi j hjj)) (fun k W hk hj => ?_) hl1 h0
      have hi : ys.length - 1 - k < ys.length := by omega
      refine hY k ys[ys.length - 1 - k] _ W hk (List.getElem?_eq_getElem hi) ?_ hj
      have hf := fitAll_get hfit _ _ (List.getElem?_eq_getElem hi)
      obtain ⟨e1, e2⟩ := hel _ _ (List.getElem?_eq_getElem hi)
      generalize ys[ys.length - 1 - k] = x at hf e1 e2 ⊢
      cases x <;> simp [AV.fits, TK.isAgg] at hf
      rename_i cs
      rw [VR_agg]
      refine ⟨_, rfl, by simp [hf], fun j c hj => ?_⟩
      have hj8 : j < 8 := by
        have := (List.getElem?_eq_some_iff.1 hj).1
        omega
      obtain ⟨c', e3, e4, e5⟩ := e2 j c hj
      rw [hce _ hi j hj8] at e3
      cases e3
      refine ⟨ce (ys.length - 1 - k) j, ?_, e4, e5⟩
      match j, hj8 with
      | 0, _ => rfl
      | 1, _ => rfl
      | 2, _ => rfl
      | 3, _ => rfl
      | 4, _ => rfl
      | 5, _ => rfl
      | 6, _ => rfl
      | 7, _ => rfl
theorem backs : ∀ f te, look f ctx.back = some te → BackOK Try.prog ctx f te := by
  intro f te h
  have : ctx.back = [(88, 37)] := rfl
  rw [this] at h
  simp only [look] at h
  split at h
  · subst_vars
    cases h
    exact back88
  · cases h
end Go.Am.Try
