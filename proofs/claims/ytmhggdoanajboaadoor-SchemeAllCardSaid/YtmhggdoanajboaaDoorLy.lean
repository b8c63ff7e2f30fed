/- Arguments: schemes, as they lie in memory. -/
import Derived.Test.YtmhggdoanajboaaDoorLx
import Derived.Test.YtmhggdoanajboaaDoorMa
import Derived.ChangeSame
set_option linter.unusedVariables false
namespace Go.Am.Tryd
open Go
theorem struct_two {H : Type} {enc : TypeId × Value → H} {P : Program} {w : World} {C T : TypeId} {K : TypeId} {f0 f1 : Field} (hC : P.underlying C = some (.struct #[f0, f1])) (h0 : f0.type = K) (o0 : f0.offset = 0) (h1 : f1.type = T) (o1 : f1.offset = 1) (hk : P.cellsOf K = 1) (ht : P.cellsOf T = 4) (hc : P.cellsOf C = 5)
    {n : Nat} {cs : List Value} {x : DataW H × List MemPlace} (h : DataW.trod enc P w 0 (fun _ => true) true n C cs = some x) :
    ∃ (c : Value) (r : List Value) (y0 y1 : DataW H × List MemPlace) (m : Nat), cs = c :: r ∧ r.length = 4 ∧ x.1 = .agg [y0.1, y1.1] ∧ DataW.trod enc P w 0 (fun _ => true) true m K [c] = some y0 ∧ DataW.trod enc P w 0 (fun _ => true) true m T r = some y1 := by
  obtain ⟨xs, m, hn, hx, hl, hxl, hf⟩ := DataW.trod_struct hC h
  rw [hc] at hl
  obtain ⟨c, r, rfl⟩ : ∃ c r, cs = c :: r := by
    cases cs with
    | nil => simp at hl
    | cons c r => exact ⟨c, r, rfl⟩
  have hr : r.length = 4 := by simpa using hl
  obtain ⟨y0, y1, rfl⟩ : ∃ y0 y1, xs = [y0, y1] := by
    match xs, hxl with
    | [a, b], _ => exact ⟨a, b, rfl⟩
  have g0 := hf 0 f0 (by simp)
  have g1 := hf 1 f1 (by simp)
  rw [h0, o0, hk] at g0
  rw [h1, o1, ht] at g1
  simp at g0 g1
  rw [List.take_of_length_le (by omega)] at g1
  exact ⟨c, r, y0, y1, m, rfl, hr, by rw [hx]; simp, g0, g1⟩
theorem sch_arg {H : Type} {enc : TypeId × Value → H} {P : Program} {w : World} {C T S K N Z : TypeId} (hP : TyP P T S K N Z) {f0 f1 : Field} (hC : P.underlying C = some (.struct #[f0, f1])) (h0 : f0.type = K) (o0 : f0.offset = 0) (h1 : f1.type = T) (o1 : f1.offset = 1) (hc : P.cellsOf C = 5) {v : Value} {d : DataW H} {p : List MemPlace} {r : Reach} {base : Nat}
    (hok : Value.okWide P w r base C v) (h : DataW.Trod enc P w 0 (fun _ => true) true C v d p) (hsz : ∀ n ∈ d.weights P C, n ≤ reachBytes) : ∃ (n : Int) (t : Ty), t.ok ∧ VR (G0 w) (encS n t) v := by
  obtain ⟨vs, rfl, _⟩ := WideShapes.okWide_struct hC hok
  obtain ⟨fuel, h⟩ := h
  obtain ⟨c, rr, y0, y1, m, hcs, hr, hx, g0, g1⟩ := struct_two hC h0 o0 h1 o1 hP.ck hP.ct hc h
  obtain ⟨k, hk, _, _⟩ := DataW.trod_int hP.k g0
  simp at hk
  subst hk
  obtain ⟨t, ht, hR1, hR2⟩ := ty_R hP m rr y1 g1 (fun q hq => hsz q (by
    have hx : d = .agg [y0.1, y1.1] := hx
    rw [hx]
    simp only [DataW.weights, hC]
    simp [DataW.weightsEach, h0, h1]
    simp [hq]))
  refine ⟨k, t, ht, ?_⟩
  simp only [Value.cells] at hcs
  have hvl : vs.size = 5 := by
    have := congrArg List.length hcs
    simp at this
    omega
  have hget : ∀ j, vs[j]? = (Value.int .i64 k :: rr)[j]? := fun j => by rw [← hcs, Array.getElem?_toList]
  obtain ⟨k', m', s, nl, ks⟩ := t
  simp only [encS]
  refine VR_agg.2 ⟨vs, rfl, by simpa using hvl, fun j c hj => ?_⟩
  rcases j with _ | j
  · simp at hj
    subst hj
    exact ⟨.int .i64 k, by rw [hget]; rfl, rfl, VR_int.2 rfl⟩
  · obtain ⟨u, h4, h5, h6⟩ := hR2 j c (by simp only [encT, AV.cells]; simpa using hj)
    exact ⟨u, by rw [hget]; simpa using h4, h5, h6⟩
end Go.Am.Tryd
