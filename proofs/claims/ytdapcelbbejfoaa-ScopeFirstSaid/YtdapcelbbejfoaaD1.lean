/- Layer 12: slices.IndexFunc and ContainsFunc, of closures. -/
import Derived.Test.YtdapcelbbejfoaaP16
set_option linter.unusedVariables false
set_option maxRecDepth 100000
set_option linter.unusedSimpArgs false
namespace Go.Am.Try
open Go Go.Am.Ps

/-- a closure answers truths of some values, in a heap -/
def Cl (σ : H) (f : Nat) (caps : List AV) (x : AV) (b : Bool) : Prop := AnsH ctx f (x :: caps) σ (.bool b) σ

/-- the place of the first that is so -/
def idxB : Nat → List Bool → Int
  | _, [] => -1
  | i, b :: l => match b with | true => (i : Int) | false => idxB (i + 1) l

theorem idxB_ge (i : Nat) : ∀ l : List Bool, decide (0 ≤ idxB i l) = l.any id
  | [] => by simp [idxB]
  | true :: l => by simp [idxB]
  | false :: l => by simp [idxB]; exact idxB_ge (i + 1) l

theorem snapFn (σ : H) (a : AV) (f : Nat) (caps : List AV) (h : AV.noRefs caps = false) : snapL σ [a, .fn f caps] = none := by
  have h1 : (AV.fn f caps).noRef = false := by simpa [AV.noRef] using h
  have h2 : snapA σ 200 (.fn f caps) = none := by
    unfold snapA
    simp [h]
  unfold snapL
  simp only [mapO2, h2]
  cases snapA σ 200 a <;> rfl

theorem lp94 (σ : H) (f : Nat) (caps : List AV) (L : List AV) (nl : Bool) (hL : L.length < big) : ∀ (r : List (AV × Bool)) (i : Nat), Tail L i (r.map (·.1)) → (∀ q ∈ r, Cl σ f caps q.1 q.2) → (∀ q ∈ r, ∀ ti : TI, q.1.fits ti = (ti.k.isAgg && 4 == ti.size)) →
    ∃ e fr', Lp ctx [] [] [0, 1, 7, 8] b94_0 ⟨[(0, .v (encR 4 nl L)), (1, .v (.fn f caps)), (7, .v (.int .i64 L.length)), (8, .v (.int .i64 i))], false⟩ σ e fr' σ ∧ fr'.lk = false ∧
      ((e = .ex 0 ∧ getS fr'.sl 4 = .u ∧ idxB i (r.map (·.2)) = -1) ∨ (e = .ret ∧ getS fr'.sl 4 = .v (.int .i64 (idxB i (r.map (·.2))))))
  | [], i, h, hc, hf => by
    have h' := h.nil
    refine ⟨.ex 0, ?_, Lp.exit ⟨0, fun N _ => ?_⟩ (by simp), ?_⟩
    rotate_left
    · simp -implicitDefEqProofs [b94_0, h']
      rfl
    · exact ⟨by simp, .inl ⟨rfl, by simp, rfl⟩⟩
  | (x, b) :: r, i, h, hc, hf => by
    have hlen := h.len
    obtain ⟨g1, g2, g3, g4, g5⟩ := h.cons
    simp at hlen
    have hw := wrap_succ (n := i) (by omega)
    have g6 := g5 4 nl
    obtain ⟨k, hk⟩ := hc (x, b) (by simp)
    have hx := hf (x, b) (by simp)
    simp only at hk hx g1
    cases b with
    | true =>
      refine ⟨.ret, ?_, Lp.exit ⟨k, fun N hN => ?_⟩ (by simp), ?_⟩
      rotate_left
      · have hk := hk N hN
        rw [g6]
        simp -implicitDefEqProofs [b94_0, g1, g2, g3, hk, hx]
        rfl
      · exact ⟨by simp, .inr ⟨rfl, by simp [idxB]⟩⟩
    | false =>
      obtain ⟨e, fr', l1, l2, l3⟩ := lp94 σ f caps L nl hL r (i + 1) g4 (fun q hq => hc q (by simp [hq])) (fun q hq => hf q (by simp [hq]))
      refine ⟨e, fr', Lp.step ⟨k, fun N hN => ?_⟩ l1, l2, by simpa [idxB] using l3⟩
      have hk := hk N hN
      rw [g6]
      simp -implicitDefEqProofs [b94_0, g1, g2, g3, hk, hw, hx]

/-- slices.IndexFunc of types, in a heap -/
theorem run94 (σ : H) (f : Nat) (caps : List AV) (L : List (AV × Bool)) (nl : Bool) (hL : L.length < big) (hc : ∀ q ∈ L, Cl σ f caps q.1 q.2) (hf : ∀ q ∈ L, ∀ ti : TI, q.1.fits ti = (ti.k.isAgg && 4 == ti.size)) :
    ∃ k, ∀ N, k ≤ N → runFn ctx (acall ctx N) N i94 [encR 4 nl (L.map (·.1)), .fn f caps] σ = some (.int .i64 (idxB 0 (L.map (·.2))), σ) := by
  obtain ⟨e, fr', l1, l2, l3⟩ := lp94 σ f caps (L.map (·.1)) nl (by simpa using hL) L 0 (Tail.all _) hc hf
  obtain ⟨k, hk⟩ := l1.den
  refine ⟨k, fun N hN => ?_⟩
  have hk := hk N hN
  rcases l3 with ⟨rfl, l4, l5⟩ | ⟨rfl, l4⟩
  · rw [l5]
    simp -implicitDefEqProofs [i94, c94, hk, l2, l4]
  · simp -implicitDefEqProofs [i94, c94, hk, l2, l4]

/-- slices.IndexFunc: where the first is for which a closure is true -/
theorem idx94_ans (f : Nat) (caps : List AV) (L : List (AV × Bool)) (nl : Bool) (hL : L.length < big) (hn : AV.noRefs (L.map (·.1)) = true) (hcp : AV.noRefs caps = true) (hc : ∀ q ∈ L, Ans ctx f (q.1 :: caps) (.bool q.2)) (hf : ∀ q ∈ L, ∀ ti : TI, q.1.fits ti = (ti.k.isAgg && 4 == ti.size)) :
    Ans ctx 94 [encR 4 nl (L.map (·.1)), .fn f caps] (.int .i64 (idxB 0 (L.map (·.2)))) :=
  Ans.of (σ' := []) fn94_ (by simp [hn, hcp]) (by simp) (run94 [] f caps L nl hL (fun q hq => (hc q hq).at []) hf)

theorem idx94_at (σ : H) (f : Nat) (caps : List AV) (L : List (AV × Bool)) (nl : Bool) (hL : L.length < big) (hcp : AV.noRefs caps = false) (hc : ∀ q ∈ L, Cl σ f caps q.1 q.2) (hf : ∀ q ∈ L, ∀ ti : TI, q.1.fits ti = (ti.k.isAgg && 4 == ti.size)) :
    AnsH ctx 94 [encR 4 nl (L.map (·.1)), .fn f caps] σ (.int .i64 (idxB 0 (L.map (·.2)))) σ :=
  AnsH.of fn94_ (by simp [hcp]) (snapFn _ _ _ _ hcp) (by simp) (run94 σ f caps L nl hL hc hf)

theorem lp117 (σ : H) (f : Nat) (caps : List AV) (L : List AV) (nl : Bool) (hL : L.length < big) : ∀ (r : List (AV × Bool)) (i : Nat), Tail L i (r.map (·.1)) → (∀ q ∈ r, Cl σ f caps q.1 q.2) → (∀ q ∈ r, ∀ ti : TI, q.1.fits ti = (ti.k.isAgg && 4 == ti.size)) →
    ∃ e fr', Lp ctx [] [] [0, 1, 7, 8] b117_0 ⟨[(0, .v (encR 4 nl L)), (1, .v (.fn f caps)), (7, .v (.int .i64 L.length)), (8, .v (.int .i64 i))], false⟩ σ e fr' σ ∧ fr'.lk = false ∧
      ((e = .ex 0 ∧ getS fr'.sl 4 = .u ∧ idxB i (r.map (·.2)) = -1) ∨ (e = .ret ∧ getS fr'.sl 4 = .v (.int .i64 (idxB i (r.map (·.2))))))
  | [], i, h, hc, hf => by
    have h' := h.nil
    refine ⟨.ex 0, ?_, Lp.exit ⟨0, fun N _ => ?_⟩ (by simp), ?_⟩
    rotate_left
    · simp -implicitDefEqProofs [b117_0, h']
      rfl
    · exact ⟨by simp, .inl ⟨rfl, by simp, rfl⟩⟩
  | (x, b) :: r, i, h, hc, hf => by
    have hlen := h.len
    obtain ⟨g1, g2, g3, g4, g5⟩ := h.cons
    simp at hlen
    have hw := wrap_succ (n := i) (by omega)
    have g6 := g5 4 nl
    obtain ⟨k, hk⟩ := hc (x, b) (by simp)
    have hx := hf (x, b) (by simp)
    simp only at hk hx g1
    cases b with
    | true =>
      refine ⟨.ret, ?_, Lp.exit ⟨k, fun N hN => ?_⟩ (by simp), ?_⟩
      rotate_left
      · have hk := hk N hN
        rw [g6]
        simp -implicitDefEqProofs [b117_0, g1, g2, g3, hk, hx]
        rfl
      · exact ⟨by simp, .inr ⟨rfl, by simp [idxB]⟩⟩
    | false =>
      obtain ⟨e, fr', l1, l2, l3⟩ := lp117 σ f caps L nl hL r (i + 1) g4 (fun q hq => hc q (by simp [hq])) (fun q hq => hf q (by simp [hq]))
      refine ⟨e, fr', Lp.step ⟨k, fun N hN => ?_⟩ l1, l2, by simpa [idxB] using l3⟩
      have hk := hk N hN
      rw [g6]
      simp -implicitDefEqProofs [b117_0, g1, g2, g3, hk, hw, hx]

/-- slices.IndexFunc of types, in a heap -/
theorem run117 (σ : H) (f : Nat) (caps : List AV) (L : List (AV × Bool)) (nl : Bool) (hL : L.length < big) (hc : ∀ q ∈ L, Cl σ f caps q.1 q.2) (hf : ∀ q ∈ L, ∀ ti : TI, q.1.fits ti = (ti.k.isAgg && 4 == ti.size)) :
    ∃ k, ∀ N, k ≤ N → runFn ctx (acall ctx N) N i117 [encR 4 nl (L.map (·.1)), .fn f caps] σ = some (.int .i64 (idxB 0 (L.map (·.2))), σ) := by
  obtain ⟨e, fr', l1, l2, l3⟩ := lp117 σ f caps (L.map (·.1)) nl (by simpa using hL) L 0 (Tail.all _) hc hf
  obtain ⟨k, hk⟩ := l1.den
  refine ⟨k, fun N hN => ?_⟩
  have hk := hk N hN
  rcases l3 with ⟨rfl, l4, l5⟩ | ⟨rfl, l4⟩
  · rw [l5]
    simp -implicitDefEqProofs [i117, c117, hk, l2, l4]
  · simp -implicitDefEqProofs [i117, c117, hk, l2, l4]

/-- slices.IndexFunc: where the first is for which a closure is true -/
theorem idx117_ans (f : Nat) (caps : List AV) (L : List (AV × Bool)) (nl : Bool) (hL : L.length < big) (hn : AV.noRefs (L.map (·.1)) = true) (hcp : AV.noRefs caps = true) (hc : ∀ q ∈ L, Ans ctx f (q.1 :: caps) (.bool q.2)) (hf : ∀ q ∈ L, ∀ ti : TI, q.1.fits ti = (ti.k.isAgg && 4 == ti.size)) :
    Ans ctx 117 [encR 4 nl (L.map (·.1)), .fn f caps] (.int .i64 (idxB 0 (L.map (·.2)))) :=
  Ans.of (σ' := []) fn117_ (by simp [hn, hcp]) (by simp) (run117 [] f caps L nl hL (fun q hq => (hc q hq).at []) hf)

theorem idx117_at (σ : H) (f : Nat) (caps : List AV) (L : List (AV × Bool)) (nl : Bool) (hL : L.length < big) (hcp : AV.noRefs caps = false) (hc : ∀ q ∈ L, Cl σ f caps q.1 q.2) (hf : ∀ q ∈ L, ∀ ti : TI, q.1.fits ti = (ti.k.isAgg && 4 == ti.size)) :
    AnsH ctx 117 [encR 4 nl (L.map (·.1)), .fn f caps] σ (.int .i64 (idxB 0 (L.map (·.2)))) σ :=
  AnsH.of fn117_ (by simp [hcp]) (snapFn _ _ _ _ hcp) (by simp) (run117 σ f caps L nl hL hc hf)

theorem lp63 (σ : H) (f : Nat) (caps : List AV) (L : List AV) (nl : Bool) (hL : L.length < big) : ∀ (r : List (AV × Bool)) (i : Nat), Tail L i (r.map (·.1)) → (∀ q ∈ r, Cl σ f caps q.1 q.2) → (∀ q ∈ r, ∀ ti : TI, q.1.fits ti = (ti.k.isAgg && 3 == ti.size)) →
    ∃ e fr', Lp ctx [] [] [0, 1, 7, 8] b63_0 ⟨[(0, .v (encR 3 nl L)), (1, .v (.fn f caps)), (7, .v (.int .i64 L.length)), (8, .v (.int .i64 i))], false⟩ σ e fr' σ ∧ fr'.lk = false ∧
      ((e = .ex 0 ∧ getS fr'.sl 4 = .u ∧ idxB i (r.map (·.2)) = -1) ∨ (e = .ret ∧ getS fr'.sl 4 = .v (.int .i64 (idxB i (r.map (·.2))))))
  | [], i, h, hc, hf => by
    have h' := h.nil
    refine ⟨.ex 0, ?_, Lp.exit ⟨0, fun N _ => ?_⟩ (by simp), ?_⟩
    rotate_left
    · simp -implicitDefEqProofs [b63_0, h']
      rfl
    · exact ⟨by simp, .inl ⟨rfl, by simp, rfl⟩⟩
  | (x, b) :: r, i, h, hc, hf => by
    have hlen := h.len
    obtain ⟨g1, g2, g3, g4, g5⟩ := h.cons
    simp at hlen
    have hw := wrap_succ (n := i) (by omega)
    have g6 := g5 3 nl
    obtain ⟨k, hk⟩ := hc (x, b) (by simp)
    have hx := hf (x, b) (by simp)
    simp only at hk hx g1
    cases b with
    | true =>
      refine ⟨.ret, ?_, Lp.exit ⟨k, fun N hN => ?_⟩ (by simp), ?_⟩
      rotate_left
      · have hk := hk N hN
        rw [g6]
        simp -implicitDefEqProofs [b63_0, g1, g2, g3, hk, hx]
        rfl
      · exact ⟨by simp, .inr ⟨rfl, by simp [idxB]⟩⟩
    | false =>
      obtain ⟨e, fr', l1, l2, l3⟩ := lp63 σ f caps L nl hL r (i + 1) g4 (fun q hq => hc q (by simp [hq])) (fun q hq => hf q (by simp [hq]))
      refine ⟨e, fr', Lp.step ⟨k, fun N hN => ?_⟩ l1, l2, by simpa [idxB] using l3⟩
      have hk := hk N hN
      rw [g6]
      simp -implicitDefEqProofs [b63_0, g1, g2, g3, hk, hw, hx]

/-- slices.IndexFunc of types, in a heap -/
theorem run63 (σ : H) (f : Nat) (caps : List AV) (L : List (AV × Bool)) (nl : Bool) (hL : L.length < big) (hc : ∀ q ∈ L, Cl σ f caps q.1 q.2) (hf : ∀ q ∈ L, ∀ ti : TI, q.1.fits ti = (ti.k.isAgg && 3 == ti.size)) :
    ∃ k, ∀ N, k ≤ N → runFn ctx (acall ctx N) N i63 [encR 3 nl (L.map (·.1)), .fn f caps] σ = some (.int .i64 (idxB 0 (L.map (·.2))), σ) := by
  obtain ⟨e, fr', l1, l2, l3⟩ := lp63 σ f caps (L.map (·.1)) nl (by simpa using hL) L 0 (Tail.all _) hc hf
  obtain ⟨k, hk⟩ := l1.den
  refine ⟨k, fun N hN => ?_⟩
  have hk := hk N hN
  rcases l3 with ⟨rfl, l4, l5⟩ | ⟨rfl, l4⟩
  · rw [l5]
    simp -implicitDefEqProofs [i63, c63, hk, l2, l4]
  · simp -implicitDefEqProofs [i63, c63, hk, l2, l4]

/-- slices.IndexFunc: where the first is for which a closure is true -/
theorem idx63_ans (f : Nat) (caps : List AV) (L : List (AV × Bool)) (nl : Bool) (hL : L.length < big) (hn : AV.noRefs (L.map (·.1)) = true) (hcp : AV.noRefs caps = true) (hc : ∀ q ∈ L, Ans ctx f (q.1 :: caps) (.bool q.2)) (hf : ∀ q ∈ L, ∀ ti : TI, q.1.fits ti = (ti.k.isAgg && 3 == ti.size)) :
    Ans ctx 63 [encR 3 nl (L.map (·.1)), .fn f caps] (.int .i64 (idxB 0 (L.map (·.2)))) :=
  Ans.of (σ' := []) fn63_ (by simp [hn, hcp]) (by simp) (run63 [] f caps L nl hL (fun q hq => (hc q hq).at []) hf)

theorem idx63_at (σ : H) (f : Nat) (caps : List AV) (L : List (AV × Bool)) (nl : Bool) (hL : L.length < big) (hcp : AV.noRefs caps = false) (hc : ∀ q ∈ L, Cl σ f caps q.1 q.2) (hf : ∀ q ∈ L, ∀ ti : TI, q.1.fits ti = (ti.k.isAgg && 3 == ti.size)) :
    AnsH ctx 63 [encR 3 nl (L.map (·.1)), .fn f caps] σ (.int .i64 (idxB 0 (L.map (·.2)))) σ :=
  AnsH.of fn63_ (by simp [hcp]) (snapFn _ _ _ _ hcp) (by simp) (run63 σ f caps L nl hL hc hf)

/-- slices.ContainsFunc of types -/
theorem has60_ans (f : Nat) (caps : List AV) (L : List (AV × Bool)) (nl : Bool) (hL : L.length < big) (hn : AV.noRefs (L.map (·.1)) = true) (hcp : AV.noRefs caps = true) (hc : ∀ q ∈ L, Ans ctx f (q.1 :: caps) (.bool q.2)) (hf : ∀ q ∈ L, ∀ ti : TI, q.1.fits ti = (ti.k.isAgg && 4 == ti.size)) :
    Ans ctx 60 [encR 4 nl (L.map (·.1)), .fn f caps] (.bool ((L.map (·.2)).any id)) := by
  obtain ⟨k, hk⟩ := idx94_ans f caps L nl hL hn hcp hc hf
  refine Ans.of (σ' := []) fn60_ (by simp [hn, hcp]) (by simp) ⟨k, fun N hN => ?_⟩
  have hk := hk N hN
  have := idxB_ge 0 (L.map (·.2))
  simp -implicitDefEqProofs [i60, c60, hk, -List.any_map]
  simpa using this

theorem has60_at (σ : H) (f : Nat) (caps : List AV) (L : List (AV × Bool)) (nl : Bool) (hL : L.length < big) (hcp : AV.noRefs caps = false) (hc : ∀ q ∈ L, Cl σ f caps q.1 q.2) (hf : ∀ q ∈ L, ∀ ti : TI, q.1.fits ti = (ti.k.isAgg && 4 == ti.size)) :
    AnsH ctx 60 [encR 4 nl (L.map (·.1)), .fn f caps] σ (.bool ((L.map (·.2)).any id)) σ := by
  obtain ⟨k, hk⟩ := idx94_at σ f caps L nl hL hcp hc hf
  refine AnsH.of fn60_ (by simp [hcp]) (snapFn _ _ _ _ hcp) (by simp) ⟨k, fun N hN => ?_⟩
  have hk := hk N hN
  have := idxB_ge 0 (L.map (·.2))
  simp -implicitDefEqProofs [i60, c60, hk, -List.any_map]
  simpa using this

end Go.Am.Try
