/- Arguments: types, rows of types, as they lie in memory. -/
import Derived.Test.YtmhggdoanajboaaDoorMLaw2
import Derived.SizedLaws
set_option linter.unusedVariables false
namespace Go.Am
open Go
def TyR (w : World) (cs : List Value) (t : Ty) : Prop := cs.length = 4 ∧ ∀ (j : Nat) (c : AV), (encT t).cells[j]? = some c → ∃ u, cs[j]? = some u ∧ u.oneCell' = true ∧ VR (G0 w) c u
structure TyP (P : Program) (T S K N Z : TypeId) : Prop where
  st : ∃ f0 f1 f2 f3 : Field, P.underlying T = some (.struct #[f0, f1, f2, f3]) ∧ f0.type = K ∧ f0.offset = 0 ∧ f1.type = N ∧ f1.offset = 1 ∧ f2.type = Z ∧ f2.offset = 2 ∧ f3.type = S ∧ f3.offset = 3
  k : P.underlying K = some (.int .i64)
  n : P.underlying N = some (.int .i64)
  z : P.underlying Z = some .string
  s : P.underlying S = some (.slice T)
  ck : P.cellsOf K = 1
  cn : P.cellsOf N = 1
  cz : P.cellsOf Z = 1
  cs : P.cellsOf S = 1
  ct : P.cellsOf T = 4
  b : P.bytesOf T = 56
theorem Tys_oks : ∀ L : List Ty, (∀ t ∈ L, t.ok) → Ty.oks L
  | [], _ => trivial
  | t :: l, h => ⟨h t (by simp), Tys_oks l fun x hx => h x (by simp [hx])⟩
theorem encTs_get : ∀ (L : List Ty) (i : Nat) (x : AV), (encTs L)[i]? = some x → ∃ t, L[i]? = some t ∧ x = encT t
  | [], i, x, h => by rw [encTs_nil] at h; simp at h
  | t :: l, 0, x, h => by rw [encTs_cons] at h; simp at h; exact ⟨t, by simp, h.symm⟩
  | t :: l, i + 1, x, h => by
    rw [encTs_cons] at h
    simp at h
    obtain ⟨u, h1, h2⟩ := encTs_get l i x h
    exact ⟨u, by simpa using h1, h2⟩
theorem weightsAll_mem {H : Type} {P : Program} {e : TypeId} : ∀ {l : List (DataW H)} {d : DataW H}, d ∈ l → ∀ n ∈ d.weights P e, n ∈ DataW.weightsAll P e l
  | d' :: r, d, hd, n, hn => by
    simp only [DataW.weightsAll, List.mem_append]
    rcases List.mem_cons.1 hd with rfl | h
    · exact Or.inl hn
    · exact Or.inr (weightsAll_mem h n hn)
theorem row_R {H : Type} {enc : TypeId × Value → H} {P : Program} {w : World} {T S K N Z : TypeId} (hP : TyP P T S K N Z) (n : Nat)
    (ih : ∀ m, m < n → ∀ cs x, DataW.trod enc P w 0 (fun _ => true) true m T cs = some x → (∀ k ∈ x.1.weights P T, k ≤ reachBytes) → ∃ t : Ty, t.ok ∧ TyR w cs t)
    (v : Value) (x : DataW H × List MemPlace) (h : DataW.trod enc P w 0 (fun _ => true) true n S [v] = some x) (hsz : ∀ k ∈ x.1.weights P S, k ≤ reachBytes) :
    v.oneCell' = true ∧ ∃ (nl : Bool) (ks : List Ty), Ty.oks ks ∧ ks.length * 56 ≤ reachBytes ∧ VR (G0 w) (encR 4 nl (encTs ks)) v := by
  rcases DataW.trod_slice hP.s h with ⟨h1, _⟩ | ⟨a, len, cap, elems, rest, m, hnm, hcs, hx, hbb, hl, hm, hlen, hel, hsp⟩
  · simp at h1
    subst h1
    exact ⟨rfl, true, [], trivial, by simp, by rw [encTs_nil]; exact VR_nil.2 rfl⟩
  · simp at hcs
    subst hcs
    have hd : x.1 = .slice (elems.map (·.1)) (rest.map (·.1)) := congrArg Prod.fst hx
    have hw1 : (elems.length + rest.length) * 56 ≤ reachBytes := by
      refine hsz _ ?_
      rw [hd]
      simp [DataW.weights, hP.s, hP.b]
    have each : ∀ i, i < len → ∃ t : Ty, t.ok ∧ ∃ cs, w.cells? 0 (a.add (i * 4)) 4 = some cs ∧ TyR w cs t := fun i hi => by
      have hE := hel i hi
      rw [hP.ct] at hE
      have hi' : i < elems.length := by rw [hlen]; exact hi
      rw [List.getElem?_eq_getElem hi', Option.bind_eq_some_iff] at hE
      obtain ⟨cs', hcs, hy⟩ := hE
      obtain ⟨t, h1, h2⟩ := ih m (by omega) cs' _ hy (fun k hk => hsz k (by
        rw [hd]
        simp only [DataW.weights, hP.s]
        exact List.mem_cons_of_mem _ (List.mem_append_left _ (weightsAll_mem (List.mem_map.2 ⟨elems[i], List.getElem_mem hi', rfl⟩) _ hk))))
      exact ⟨t, h1, cs', hcs, h2⟩
    obtain ⟨L, hL1, hL2⟩ := pick_list _ len each
    refine ⟨rfl, false, L, Tys_oks L (fun t ht => ?_), by rw [hL1, ← hlen]; omega, ?_⟩
    · obtain ⟨i, hi⟩ := List.getElem?_of_mem ht
      exact (hL2 i t hi).1
    rw [encR_false]
    refine VR_sl.2 ⟨a, cap, by simp [hL1], by simp [hL1]; exact hl, ?_⟩
    by_cases h0 : len = 0
    · left
      have : L = [] := List.eq_nil_of_length_eq_zero (by omega)
      rw [this, encTs_nil]
    right
    obtain ⟨q0, _, c0, hc0, hR0⟩ := each 0 (by omega)
    have hcell := (World.cells?_some hc0).2.2 0 (by omega)
    have hlc := (World.cells?_some hc0).2.1
    rw [List.getElem?_eq_getElem (by omega)] at hcell
    have ha := cell_spot (by simpa [Addr.add] using hcell)
    refine ⟨a.block, a.off, ha, fun i y hy => ?_⟩
    obtain ⟨t, ht, rfl⟩ := encTs_get L i y hy
    obtain ⟨_, cs, h1, h2, h3⟩ := hL2 i t ht
    refine ⟨by cases t; simp [encT], fun j c hj => ?_⟩
    obtain ⟨u, h4, h5, h6⟩ := h3 j c hj
    refine ⟨u, ?_, h5, h6⟩
    have hj4 : j < 4 := by
      have := (List.getElem?_eq_some_iff.1 h4).1
      omega
    have h7 := (World.cells?_some h1).2.2 j hj4
    rw [h4, ha, cells_add, cells_add] at h7
    simpa [G0] using h7
theorem reach_big {k : Nat} (h : k ≤ reachBytes) : k < big := by
  unfold reachBytes at h
  unfold big
  omega
theorem ty_R {H : Type} {enc : TypeId × Value → H} {P : Program} {w : World} {T S K N Z : TypeId} (hP : TyP P T S K N Z) : ∀ (n : Nat) (cs : List Value) (x : DataW H × List MemPlace),
    DataW.trod enc P w 0 (fun _ => true) true n T cs = some x → (∀ k ∈ x.1.weights P T, k ≤ reachBytes) → ∃ t : Ty, t.ok ∧ TyR w cs t := by
  intro n
  induction n using Nat.strongRecOn with
  | _ n ih =>
    intro cs x h hsz
    obtain ⟨f0, f1, f2, f3, hT, e0, o0, e1, o1, e2, o2, e3, o3⟩ := hP.st
    obtain ⟨xs, m, hn, hx, hl, hxl, hf⟩ := DataW.trod_struct hT h
    rw [hP.ct] at hl
    obtain ⟨c0, c1, c2, c3, rfl⟩ : ∃ c0 c1 c2 c3, cs = [c0, c1, c2, c3] := by
      match cs, hl with
      | [a, b, c, d], _ => exact ⟨a, b, c, d, rfl⟩
    obtain ⟨y0, y1, y2, y3, rfl⟩ : ∃ y0 y1 y2 y3, xs = [y0, y1, y2, y3] := by
      match xs, hxl with
      | [a, b, c, d], _ => exact ⟨a, b, c, d, rfl⟩
    have g0 := hf 0 f0 (by simp)
    have g1 := hf 1 f1 (by simp)
    have g2 := hf 2 f2 (by simp)
    have g3 := hf 3 f3 (by simp)
    rw [e0, o0, hP.ck] at g0
    rw [e1, o1, hP.cn] at g1
    rw [e2, o2, hP.cz] at g2
    rw [e3, o3, hP.cs] at g3
    simp at g0 g1 g2 g3
    obtain ⟨k, hk, _, _⟩ := DataW.trod_int hP.k g0
    obtain ⟨z, hz, _, _⟩ := DataW.trod_int hP.n g1
    obtain ⟨s, hs, hs2, _⟩ := DataW.trod_string hP.z g2
    have hwt : ∀ q : Nat, q ∈ y2.1.weights P Z ∨ q ∈ y3.1.weights P S → q ≤ reachBytes := fun q hq => hsz q (by
      rw [hx]
      simp only [DataW.weights, hT]
      simp [DataW.weightsEach, e0, e1, e2, e3]
      rcases hq with hq | hq <;> simp [hq])
    obtain ⟨b3, nl, ks, h1, h2, h3⟩ := row_R hP m (fun q hq => ih q (by omega)) c3 y3 g3 (fun q hq => hwt q (.inr hq))
    simp at hk hz hs
    subst hk hz hs
    refine ⟨.mk k z s.data.toList nl ks, ?_, by simp, ?_⟩
    · simp only [Ty.ok]
      refine ⟨?_, ?_, h1⟩
      · refine reach_big (hwt _ (.inl ?_))
        rw [hs2]
        simp [DataW.weights]
      · have := reach_big h2
        omega
    · intro j c hj
      simp only [encT, AV.cells] at hj
      rcases j with _ | _ | _ | _ | j
      · simp at hj; subst hj; exact ⟨_, rfl, rfl, VR_int.2 rfl⟩
      · simp at hj; subst hj; exact ⟨_, rfl, rfl, VR_int.2 rfl⟩
      · simp at hj; subst hj; exact ⟨_, rfl, rfl, VR_str.2 ⟨s, rfl, rfl⟩⟩
      · simp at hj; subst hj; exact ⟨_, rfl, b3, h3⟩
      · simp at hj
theorem arg_sized {H : Type} {P : Program} {ts : List TypeId} {ds : List (DataW H)} (h : (DataW.weightsEach P ts ds).all (· ≤ reachBytes) = true) {j : Nat} {t : TypeId} {d : DataW H} (ht : ts[j]? = some t) (hd : ds[j]? = some d) : ∀ n ∈ d.weights P t, n ≤ reachBytes := fun n hn => by
  simpa using List.all_eq_true.1 h n (DataW.weights_mem_each ht hd n hn)
theorem ty_arg {H : Type} {enc : TypeId × Value → H} {P : Program} {w : World} {T S K N Z : TypeId} (hP : TyP P T S K N Z) {v : Value} {d : DataW H} {p : List MemPlace} {r : Reach} {base : Nat}
    (hok : Value.okWide P w r base T v) (h : DataW.Trod enc P w 0 (fun _ => true) true T v d p) (hsz : ∀ n ∈ d.weights P T, n ≤ reachBytes) : ∃ t : Ty, t.ok ∧ VR (G0 w) (encT t) v := by
  obtain ⟨f0, f1, f2, f3, hT, _⟩ := hP.st
  obtain ⟨vs, rfl, _⟩ := WideShapes.okWide_struct hT hok
  obtain ⟨fuel, h⟩ := h
  obtain ⟨t, h1, h2, h3⟩ := ty_R hP fuel _ _ h hsz
  refine ⟨t, h1, ?_⟩
  obtain ⟨k, n, s, nl, ks⟩ := t
  simp only [encT]
  simp only [Value.cells] at h2 h3
  refine VR_agg.2 ⟨vs, rfl, by simpa using h2, fun j c hj => ?_⟩
  obtain ⟨u, h4, h5, h6⟩ := h3 j c (by simpa [encT, AV.cells] using hj)
  exact ⟨u, by simpa using h4, h5, h6⟩
theorem tys_arg {H : Type} {enc : TypeId × Value → H} {P : Program} {w : World} {T S K N Z : TypeId} (hP : TyP P T S K N Z) {v : Value} {d : DataW H} {p : List MemPlace} {r : Reach} {base : Nat}
    (hok : Value.okWide P w r base S v) (h : DataW.Trod enc P w 0 (fun _ => true) true S v d p) (hsz : ∀ n ∈ d.weights P S, n ≤ reachBytes) : ∃ (nl : Bool) (L : List Ty), Ty.oks L ∧ L.length ≤ 2 ^ 42 ∧ VR (G0 w) (encR 4 nl (encTs L)) v := by
  obtain ⟨a0, len0, cap0, rfl⟩ := WideShapes.okWide_slice hP.s hok
  obtain ⟨fuel, h⟩ := h
  obtain ⟨_, nl, ks, h1, h2, h3⟩ := row_R hP fuel (fun m _ => ty_R hP m) _ _ (by simpa [Value.cells] using h) hsz
  exact ⟨nl, ks, h1, by unfold reachBytes at h2; omega, h3⟩
end Go.Am
