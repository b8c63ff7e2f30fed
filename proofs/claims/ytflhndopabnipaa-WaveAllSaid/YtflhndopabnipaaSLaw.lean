/- Arguments: rows of rows of numbers, numbers. -/
import Derived.Test.YtflhndopabnipaaMLaw2
import Derived.SizedLaws
set_option linter.unusedVariables false
namespace Go.Am
open Go
theorem weightsAll_in {H : Type} {P : Program} {e : TypeId} : ∀ {l : List (DataW H)} {d : DataW H}, d ∈ l → ∀ n ∈ d.weights P e, n ∈ DataW.weightsAll P e l
  | d' :: r, d, hd, n, hn => by
    simp only [DataW.weightsAll, List.mem_append]
    rcases List.mem_cons.1 hd with rfl | h
    · exact Or.inl hn
    · exact Or.inr (weightsAll_in h n hn)
theorem VR_ints {w : World} {a : Addr} {len cap : Nat} {zs : List Int} (hl : len ≤ zs.length) (hc : len ≤ cap) (h : ∀ i, i < zs.length → w.cell? (a.add i) = some (.int .i64 (zs.getD i 0))) :
    VR (G0 w) (.sl 1 ((zs.take len).map (AV.int .i64))) (.slice (some a) len cap) := by
  have hlen : (zs.take len).length = len := by simp; omega
  refine VR_sl.2 ⟨a, cap, by rw [List.length_map, hlen], by rw [List.length_map, hlen]; exact hc, ?_⟩
  by_cases h0 : len = 0
  · subst h0; simp
  right
  have hz := h 0 (by omega)
  have ha := cell_spot (by simpa [Addr.add] using hz)
  refine ⟨a.block, a.off, ha, fun i x hx => ?_⟩
  obtain ⟨z, hz, rfl⟩ : ∃ z, (zs.take len)[i]? = some z ∧ x = .int .i64 z := by
    simp only [List.getElem?_map, Option.map_eq_some_iff] at hx
    obtain ⟨z, h1, h2⟩ := hx
    exact ⟨z, h1, h2.symm⟩
  have hi : i < len := by
    have := (List.getElem?_eq_some_iff.1 hz).1
    omega
  rw [List.getElem?_take_of_lt hi] at hz
  refine ⟨rfl, fun j c hj => ?_⟩
  cases j with
  | succ j => simp [AV.cells] at hj
  | zero =>
    simp [AV.cells] at hj
    subst hj
    have := h i (by omega)
    rw [ha, cells_add, List.getD_eq_getElem?_getD, hz] at this
    exact ⟨_, by simpa [G0] using this, rfl, VR_int.2 rfl⟩
theorem irows_arg {H : Type} {enc : TypeId × Value → H} {P : Program} {w : World} {t e e2 : TypeId} {v : Value} {d : DataW H} {p : List MemPlace} {r : Reach} {base : Nat} (ht : P.underlying t = some (.slice e)) (he : P.underlying e = some (.slice e2)) (he2 : P.underlying e2 = some (.int .i64)) (hc : P.cellsOf e = 1) (hc2 : P.cellsOf e2 = 1) (hb : P.bytesOf e = 24) (hb2 : P.bytesOf e2 = 8)
    (hok : Value.okWide P w r base t v) (h : DataW.Trod enc P w 0 (fun _ => true) true t v d p) (hsz : ∀ n ∈ d.weights P t, n ≤ reachBytes) : ∃ (nl : Bool) (L : List (Bool × List Int)), L.length < 2 ^ 60 ∧ (∀ q ∈ L, q.2.length ≤ 2 ^ 48) ∧ VR (G0 w) (encR 1 nl (L.map fun q => encR 1 q.1 (q.2.map (AV.int .i64)))) v := by
  have hR := reachBytes_lt
  obtain ⟨a0, len0, cap0, rfl⟩ := WideShapes.okWide_slice ht hok
  obtain ⟨fuel, h⟩ := h
  rcases DataW.trod_slice ht h with ⟨h1, _⟩ | ⟨a, len, cap, elems, rest, n, _, hcs, hx, hbb, hl, hm, hlen, hel, hsp⟩
  · refine ⟨true, [], by simp, by simp, ?_⟩
    simp [Value.cells] at h1
    obtain ⟨rfl, rfl, rfl⟩ := h1
    exact VR_nil.2 rfl
  · simp [Value.cells] at hcs
    obtain ⟨rfl, rfl, rfl⟩ := hcs
    have hd : d = .slice (elems.map (·.1)) (rest.map (·.1)) := congrArg Prod.fst hx
    have hw1 : (elems.length + rest.length) * 24 ≤ reachBytes := by
      refine hsz _ ?_
      rw [hd]
      simp [DataW.weights, ht, hb]
    have each : ∀ i, i < len0 → ∃ q : Bool × List Int, q.2.length ≤ 2 ^ 48 ∧ ∃ u, w.cell? (a.add i) = some u ∧ u.oneCell' = true ∧ VR (G0 w) (encR 1 q.1 (q.2.map (AV.int .i64))) u := fun i hi => by
      have hE := hel i hi
      rw [hc, Nat.mul_one] at hE
      have hi' : i < elems.length := by rw [hlen]; exact hi
      rw [List.getElem?_eq_getElem hi'] at hE
      rw [Option.bind_eq_some_iff] at hE
      obtain ⟨cs', hcs, hy⟩ := hE
      rcases ChangeShapes.open_ints he he2 hc2 hy with ⟨h1, _⟩ | ⟨a2, len2, cap2, zs, h1, _, hl2, _, hz, hxx, hcell, hwf⟩
      · rw [h1] at hcs
        exact ⟨(true, []), by simp, _, ChangeShapes.cell_of_cells?_one hcs, rfl, VR_nil.2 rfl⟩
      · rw [h1] at hcs
        have hlz : len2 ≤ zs.length := by simp at hz; omega
        have hel2 : (elems[i]).1 = .slice (ChangeShapes.lits .i64 (zs.take len2)) (ChangeShapes.lits .i64 (zs.drop len2)) := by rw [hxx]
        have hw2 : ((zs.take len2).length + (zs.drop len2).length) * 8 ≤ reachBytes := by
          refine hsz _ ?_
          rw [hd]
          simp only [DataW.weights, ht]
          refine List.mem_cons_of_mem _ (List.mem_append_left _ (weightsAll_in (d := (elems[i]).1) (List.mem_map.2 ⟨elems[i], List.getElem_mem hi', rfl⟩) _ ?_))
          rw [hel2]
          simp [DataW.weights, he, hb2, ChangeShapes.lits]
        refine ⟨(false, zs.take len2), by simp only; omega, _, ChangeShapes.cell_of_cells?_one hcs, rfl, ?_⟩
        rw [encR_false]
        exact VR_ints hlz hl2 hcell
    obtain ⟨L, hL1, hL2⟩ := pick_list _ len0 each
    refine ⟨false, L, by rw [hL1]; omega, fun q hq => ?_, ?_⟩
    · obtain ⟨i, hi⟩ := List.getElem?_of_mem hq
      exact (hL2 i q hi).1
    rw [encR_false]
    refine VR_sl.2 ⟨a, cap0, by simp [hL1], by simp [hL1]; exact hl, ?_⟩
    by_cases h0 : len0 = 0
    · left
      have : L = [] := List.eq_nil_of_length_eq_zero (by omega)
      rw [this]; rfl
    right
    obtain ⟨q0, _, u0, hu0, _⟩ := each 0 (by omega)
    have ha := cell_spot (by simpa [Addr.add] using hu0)
    refine ⟨a.block, a.off, ha, fun i x hx => ?_⟩
    simp only [List.getElem?_map, Option.map_eq_some_iff] at hx
    obtain ⟨q, hq, rfl⟩ := hx
    obtain ⟨_, u, hu1, hu2, hu3⟩ := hL2 i q hq
    refine ⟨by simp, fun j c hj => ?_⟩
    cases j with
    | succ j => simp at hj
    | zero =>
      simp at hj
      subst hj
      rw [ha, cells_add] at hu1
      exact ⟨u, by simpa [G0] using hu1, hu2, hu3⟩
theorem int_arg {H : Type} {enc : TypeId × Value → H} {P : Program} {w : World} {t : TypeId} {v : Value} {d : DataW H} {p : List MemPlace} {r : Reach} {base : Nat} (ht : P.underlying t = some (.int .i64))
    (hok : Value.okWide P w r base t v) (h : DataW.Trod enc P w 0 (fun _ => true) true t v d p) : ∃ n : Int, VR (G0 w) (.int .i64 n) v := by
  obtain ⟨n, rfl, _, _, hw⟩ := ChangeShapes.open_int ht hok h
  exact ⟨n, VR_int.2 rfl⟩
theorem arg_sized {H : Type} {P : Program} {ts : List TypeId} {ds : List (DataW H)} (h : (DataW.weightsEach P ts ds).all (· ≤ reachBytes) = true) {j : Nat} {t : TypeId} {d : DataW H} (ht : ts[j]? = some t) (hd : ds[j]? = some d) : ∀ n ∈ d.weights P t, n ≤ reachBytes := fun n hn => by
  simpa using List.all_eq_true.1 h n (DataW.weights_mem_each ht hd n hn)
end Go.Am
