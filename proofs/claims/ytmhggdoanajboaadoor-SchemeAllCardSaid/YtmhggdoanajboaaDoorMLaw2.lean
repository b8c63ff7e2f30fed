/- The abstract machine and the model: arguments as they lie in memory: texts, rows of rows of bytes. -/
import Derived.Test.YtmhggdoanajboaaDoorMLaw
import Derived.ChangeMaps5
import Derived.ChangeSlices
set_option linter.unusedVariables false
namespace Go.Am
open Go
theorem str_arg {H : Type} {enc : TypeId × Value → H} {P : Program} {w : World} {t : TypeId} {v : Value} {d : DataW H} {p : List MemPlace} {r : Reach} {base : Nat} (ht : P.underlying t = some .string)
    (hok : Value.okWide P w r base t v) (h : DataW.Trod enc P w 0 (fun _ => true) true t v d p) : ∃ s : List UInt8, VR (G0 w) (.str s) v := by
  obtain ⟨s, rfl, _⟩ := ChangeMaps.open_string ht hok h
  exact ⟨s.data.toList, VR_str.2 ⟨s, rfl, rfl⟩⟩
theorem pick_list {α : Type} (Q : Nat → α → Prop) : ∀ n : Nat, (∀ i, i < n → ∃ q, Q i q) → ∃ L : List α, L.length = n ∧ ∀ i q, L[i]? = some q → Q i q
  | 0, _ => ⟨[], rfl, fun i q h => by simp at h⟩
  | n + 1, h => by
    obtain ⟨L, h1, h2⟩ := pick_list Q n (fun i hi => h i (by omega))
    obtain ⟨q, hq⟩ := h n (by omega)
    refine ⟨L ++ [q], by simp [h1], fun i x hx => ?_⟩
    by_cases hi : i < L.length
    · rw [List.getElem?_append_left hi] at hx; exact h2 i x hx
    · rw [List.getElem?_append_right (by omega)] at hx
      have : i - L.length = 0 := by
        have := (List.getElem?_eq_some_iff.1 hx).1
        simp at this; omega
      rw [this] at hx
      simp at hx
      have e : i = n := by omega
      rw [e, ← hx]; exact hq
theorem rows_arg {H : Type} {enc : TypeId × Value → H} {P : Program} {w : World} {t e e2 : TypeId} {v : Value} {d : DataW H} {p : List MemPlace} {r : Reach} {base : Nat} (ht : P.underlying t = some (.slice e)) (he : P.underlying e = some (.slice e2)) (he2 : P.underlying e2 = some (.int .u8)) (hc : P.cellsOf e = 1) (hc2 : P.cellsOf e2 = 1)
    (hok : Value.okWide P w r base t v) (h : DataW.Trod enc P w 0 (fun _ => true) true t v d p) : ∃ (nl : Bool) (L : List (Bool × List UInt8)), VR (G0 w) (encR 1 nl (L.map fun q => encR 1 q.1 (ofBytes q.2))) v := by
  obtain ⟨a0, len0, cap0, rfl⟩ := WideShapes.okWide_slice ht hok
  obtain ⟨fuel, h⟩ := h
  rcases DataW.trod_slice ht h with ⟨h1, _⟩ | ⟨a, len, cap, elems, rest, n, _, hcs, hx, hb, hl, hm, hlen, hel, hsp⟩
  · refine ⟨true, [], ?_⟩
    simp [Value.cells] at h1
    obtain ⟨rfl, rfl, rfl⟩ := h1
    exact VR_nil.2 rfl
  · simp [Value.cells] at hcs
    obtain ⟨rfl, rfl, rfl⟩ := hcs
    have each : ∀ i, i < len0 → ∃ q : Bool × List UInt8, ∃ u, w.cell? (a.add i) = some u ∧ u.oneCell' = true ∧ VR (G0 w) (encR 1 q.1 (ofBytes q.2)) u := fun i hi => by
      have hE := hel i hi
      rw [hc, Nat.mul_one] at hE
      have hi' : i < elems.length := by rw [hlen]; exact hi
      rw [List.getElem?_eq_getElem hi'] at hE
      rw [Option.bind_eq_some_iff] at hE
      obtain ⟨cs', hcs, hy⟩ := hE
      rcases ChangeShapes.open_ints he he2 hc2 hy with ⟨h1, _⟩ | ⟨a2, len2, cap2, zs, h1, _, hl2, _, hz, _, hcell, hwf⟩
      · rw [h1] at hcs
        exact ⟨(true, []), _, ChangeShapes.cell_of_cells?_one hcs, rfl, VR_nil.2 rfl⟩
      · rw [h1] at hcs
        refine ⟨(false, bytesOfInts (zs.take len2)), _, ChangeShapes.cell_of_cells?_one hcs, rfl, ?_⟩
        rw [encR_false]
        exact VR_bytes (by simp at hz; omega) hl2 hcell hwf
    obtain ⟨L, hL1, hL2⟩ := pick_list _ len0 each
    refine ⟨false, L, ?_⟩
    rw [encR_false]
    refine VR_sl.2 ⟨a, cap0, by simp [hL1], by simp [hL1]; exact hl, ?_⟩
    by_cases h0 : len0 = 0
    · left
      have : L = [] := List.eq_nil_of_length_eq_zero (by omega)
      rw [this]; rfl
    right
    obtain ⟨q0, u0, hu0, _⟩ := each 0 (by omega)
    have ha := cell_spot (by simpa [Addr.add] using hu0)
    refine ⟨a.block, a.off, ha, fun i x hx => ?_⟩
    simp only [List.getElem?_map, Option.map_eq_some_iff] at hx
    obtain ⟨q, hq, rfl⟩ := hx
    obtain ⟨u, hu1, hu2, hu3⟩ := hL2 i q hq
    refine ⟨by simp, fun j c hj => ?_⟩
    cases j with
    | succ j => simp at hj
    | zero =>
      simp at hj
      subst hj
      rw [ha, cells_add] at hu1
      exact ⟨u, by simpa [G0] using hu1, hu2, hu3⟩
end Go.Am
