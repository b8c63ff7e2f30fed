/- D1, D2, D3, D4, D5, D6, D9n, as one -/
import Derived.Test.YtdapcelbbejfoaaP16
import Derived.Test.YtdapcelbbejfoaaP17
import Derived.Test.YtdapcelbbejfoaaPData
import Derived.Test.YtdapcelbbejfoaaMTab
import Derived.Test.YtdapcelbbejfoaaP21
set_option linter.unusedVariables false
set_option maxRecDepth 100000
set_option linter.unusedSimpArgs false
namespace Go.Am.Try
open Go Go.Am.Ps
def Cl (σ : H) (f : Nat) (caps : List AV) (x : AV) (b : Bool) : Prop := AnsH ctx f (x :: caps) σ (.bool b) σ
def idxB : Nat → List Bool → Int
 | _, [] => -1
 | i, b :: l => match b with | true => (i : Int) | false => idxB (i + 1) l
theorem idxB_ge (i : Nat) : ∀ l : List Bool, decide (0 ≤ idxB i l) = l.any id
 | [] => by simp [idxB]
 | true :: l => by simp [idxB]
 | false :: l => by simp [idxB]; exact idxB_ge (i + 1) l
theorem snapFn (σ : H) (a : AV) (f : Nat) (caps : List AV) (h : AV.noRefs caps = false) : snapL σ [a, .fn f caps] = none := by
 have h1 : (AV.fn f caps).noRef = false := by simpa [AV.noRef] using h
 have h2 : snapA σ 200 (.fn f caps) = none := by
  unfold snapA
  simp [h]
 unfold snapL
 simp only [mapO2, h2]
 cases snapA σ 200 a <;> rfl
theorem lp94 (σ : H) (f : Nat) (caps : List AV) (L : List AV) (nl : Bool) (hL : L.length < big) : ∀ (r : List (AV × Bool)) (i : Nat), Tail L i (r.map (·.1)) → (∀ q ∈ r, Cl σ f caps q.1 q.2) → (∀ q ∈ r, ∀ ti : TI, q.1.fits ti = (ti.k.isAgg && 4 == ti.size)) →
  ∃ e fr', Lp ctx [] [] [0, 1, 7, 8] b94_0 ⟨[(0, .v (encR 4 nl L)), (1, .v (.fn f caps)), (7, .v (.int .i64 L.length)), (8, .v (.int .i64 i))], false⟩ σ e fr' σ ∧ fr'.lk = false ∧
   ((e = .ex 0 ∧ getS fr'.sl 4 = .u ∧ idxB i (r.map (·.2)) = -1) ∨ (e = .ret ∧ getS fr'.sl 4 = .v (.int .i64 (idxB i (r.map (·.2))))))
 | [], i, h, hc, hf => by
  have h' := h.nil
  refine ⟨.ex 0, ?_, Lp.exit ⟨0, fun N _ => ?_⟩ (by simp), ?_⟩
  rotate_left
  ·simp -implicitDefEqProofs [b94_0, h']
   rfl
  ·exact ⟨by simp, .inl ⟨rfl, by simp, rfl⟩⟩
 | (x, b) :: r, i, h, hc, hf => by
  have hlen := h.len
  obtain ⟨g1, g2, g3, g4, g5⟩ := h.cons
  simp at hlen
  have hw := wrap_succ (n := i) (by omega)
  have g6 := g5 4 nl
  obtain ⟨k, hk⟩ := hc (x, b) (by simp)
  have hx := hf (x, b) (by simp)
  simp only at hk hx g1
  cases b with
  | true =>
   refine ⟨.ret, ?_, Lp.exit ⟨k, fun N hN => ?_⟩ (by simp), ?_⟩
   rotate_left
   ·have hk := hk N hN
    rw [g6]
    simp -implicitDefEqProofs [b94_0, g1, g2, g3, hk, hx]
    rfl
   ·exact ⟨by simp, .inr ⟨rfl, by simp [idxB]⟩⟩
  | false =>
   obtain ⟨e, fr', l1, l2, l3⟩ := lp94 σ f caps L nl hL r (i + 1) g4 (fun q hq => hc q (by simp [hq])) (fun q hq => hf q (by simp [hq]))
   refine ⟨e, fr', Lp.step ⟨k, fun N hN => ?_⟩ l1, l2, by simpa [idxB] using l3⟩
   have hk := hk N hN
   rw [g6]
   simp -implicitDefEqProofs [b94_0, g1, g2, g3, hk, hw, hx]
theorem run94 (σ : H) (f : Nat) (caps : List AV) (L : List (AV × Bool)) (nl : Bool) (hL : L.length < big) (hc : ∀ q ∈ L, Cl σ f caps q.1 q.2) (hf : ∀ q ∈ L, ∀ ti : TI, q.1.fits ti = (ti.k.isAgg && 4 == ti.size)) :
  ∃ k, ∀ N, k ≤ N → runFn ctx (acall ctx N) N i94 [encR 4 nl (L.map (·.1)), .fn f caps] σ = some (.int .i64 (idxB 0 (L.map (·.2))), σ) := by
 obtain ⟨e, fr', l1, l2, l3⟩ := lp94 σ f caps (L.map (·.1)) nl (by simpa using hL) L 0 (Tail.all _) hc hf
 obtain ⟨k, hk⟩ := l1.den
 refine ⟨k, fun N hN => ?_⟩
 have hk := hk N hN
 rcases l3 with ⟨rfl, l4, l5⟩ | ⟨rfl, l4⟩
 ·rw [l5]
  simp -implicitDefEqProofs [i94, c94, hk, l2, l4]
 ·simp -implicitDefEqProofs [i94, c94, hk, l2, l4]
theorem idx94_ans (f : Nat) (caps : List AV) (L : List (AV × Bool)) (nl : Bool) (hL : L.length < big) (hn : AV.noRefs (L.map (·.1)) = true) (hcp : AV.noRefs caps = true) (hc : ∀ q ∈ L, Ans ctx f (q.1 :: caps) (.bool q.2)) (hf : ∀ q ∈ L, ∀ ti : TI, q.1.fits ti = (ti.k.isAgg && 4 == ti.size)) :
  Ans ctx 94 [encR 4 nl (L.map (·.1)), .fn f caps] (.int .i64 (idxB 0 (L.map (·.2)))) :=
 Ans.of (σ' := []) fn94_ (by simp [hn, hcp]) (by simp) (run94 [] f caps L nl hL (fun q hq => (hc q hq).at []) hf)
theorem idx94_at (σ : H) (f : Nat) (caps : List AV) (L : List (AV × Bool)) (nl : Bool) (hL : L.length < big) (hcp : AV.noRefs caps = false) (hc : ∀ q ∈ L, Cl σ f caps q.1 q.2) (hf : ∀ q ∈ L, ∀ ti : TI, q.1.fits ti = (ti.k.isAgg && 4 == ti.size)) :
  AnsH ctx 94 [encR 4 nl (L.map (·.1)), .fn f caps] σ (.int .i64 (idxB 0 (L.map (·.2)))) σ :=
 AnsH.of fn94_ (by simp [hcp]) (snapFn _ _ _ _ hcp) (by simp) (run94 σ f caps L nl hL hc hf)
theorem lp117 (σ : H) (f : Nat) (caps : List AV) (L : List AV) (nl : Bool) (hL : L.length < big) : ∀ (r : List (AV × Bool)) (i : Nat), Tail L i (r.map (·.1)) → (∀ q ∈ r, Cl σ f caps q.1 q.2) → (∀ q ∈ r, ∀ ti : TI, q.1.fits ti = (ti.k.isAgg && 4 == ti.size)) →
  ∃ e fr', Lp ctx [] [] [0, 1, 7, 8] b117_0 ⟨[(0, .v (encR 4 nl L)), (1, .v (.fn f caps)), (7, .v (.int .i64 L.length)), (8, .v (.int .i64 i))], false⟩ σ e fr' σ ∧ fr'.lk = false ∧
   ((e = .ex 0 ∧ getS fr'.sl 4 = .u ∧ idxB i (r.map (·.2)) = -1) ∨ (e = .ret ∧ getS fr'.sl 4 = .v (.int .i64 (idxB i (r.map (·.2))))))
 | [], i, h, hc, hf => by
  have h' := h.nil
  refine ⟨.ex 0, ?_, Lp.exit ⟨0, fun N _ => ?_⟩ (by simp), ?_⟩
  rotate_left
  ·simp -implicitDefEqProofs [b117_0, h']
   rfl
  ·exact ⟨by simp, .inl ⟨rfl, by simp, rfl⟩⟩
 | (x, b) :: r, i, h, hc, hf => by
  have hlen := h.len
  obtain ⟨g1, g2, g3, g4, g5⟩ := h.cons
  simp at hlen
  have hw := wrap_succ (n := i) (by omega)
  have g6 := g5 4 nl
  obtain ⟨k, hk⟩ := hc (x, b) (by simp)
  have hx := hf (x, b) (by simp)
  simp only at hk hx g1
  cases b with
  | true =>
   refine ⟨.ret, ?_, Lp.exit ⟨k, fun N hN => ?_⟩ (by simp), ?_⟩
   rotate_left
   ·have hk := hk N hN
    rw [g6]
    simp -implicitDefEqProofs [b117_0, g1, g2, g3, hk, hx]
    rfl
   ·exact ⟨by simp, .inr ⟨rfl, by simp [idxB]⟩⟩
  | false =>
   obtain ⟨e, fr', l1, l2, l3⟩ := lp117 σ f caps L nl hL r (i + 1) g4 (fun q hq => hc q (by simp [hq])) (fun q hq => hf q (by simp [hq]))
   refine ⟨e, fr', Lp.step ⟨k, fun N hN => ?_⟩ l1, l2, by simpa [idxB] using l3⟩
   have hk := hk N hN
   rw [g6]
   simp -implicitDefEqProofs [b117_0, g1, g2, g3, hk, hw, hx]
theorem run117 (σ : H) (f : Nat) (caps : List AV) (L : List (AV × Bool)) (nl : Bool) (hL : L.length < big) (hc : ∀ q ∈ L, Cl σ f caps q.1 q.2) (hf : ∀ q ∈ L, ∀ ti : TI, q.1.fits ti = (ti.k.isAgg && 4 == ti.size)) :
  ∃ k, ∀ N, k ≤ N → runFn ctx (acall ctx N) N i117 [encR 4 nl (L.map (·.1)), .fn f caps] σ = some (.int .i64 (idxB 0 (L.map (·.2))), σ) := by
 obtain ⟨e, fr', l1, l2, l3⟩ := lp117 σ f caps (L.map (·.1)) nl (by simpa using hL) L 0 (Tail.all _) hc hf
 obtain ⟨k, hk⟩ := l1.den
 refine ⟨k, fun N hN => ?_⟩
 have hk := hk N hN
 rcases l3 with ⟨rfl, l4, l5⟩ | ⟨rfl, l4⟩
 ·rw [l5]
  simp -implicitDefEqProofs [i117, c117, hk, l2, l4]
 ·simp -implicitDefEqProofs [i117, c117, hk, l2, l4]
theorem idx117_ans (f : Nat) (caps : List AV) (L : List (AV × Bool)) (nl : Bool) (hL : L.length < big) (hn : AV.noRefs (L.map (·.1)) = true) (hcp : AV.noRefs caps = true) (hc : ∀ q ∈ L, Ans ctx f (q.1 :: caps) (.bool q.2)) (hf : ∀ q ∈ L, ∀ ti : TI, q.1.fits ti = (ti.k.isAgg && 4 == ti.size)) :
  Ans ctx 117 [encR 4 nl (L.map (·.1)), .fn f caps] (.int .i64 (idxB 0 (L.map (·.2)))) :=
 Ans.of (σ' := []) fn117_ (by simp [hn, hcp]) (by simp) (run117 [] f caps L nl hL (fun q hq => (hc q hq).at []) hf)
theorem idx117_at (σ : H) (f : Nat) (caps : List AV) (L : List (AV × Bool)) (nl : Bool) (hL : L.length < big) (hcp : AV.noRefs caps = false) (hc : ∀ q ∈ L, Cl σ f caps q.1 q.2) (hf : ∀ q ∈ L, ∀ ti : TI, q.1.fits ti = (ti.k.isAgg && 4 == ti.size)) :
  AnsH ctx 117 [encR 4 nl (L.map (·.1)), .fn f caps] σ (.int .i64 (idxB 0 (L.map (·.2)))) σ :=
 AnsH.of fn117_ (by simp [hcp]) (snapFn _ _ _ _ hcp) (by simp) (run117 σ f caps L nl hL hc hf)
theorem lp63 (σ : H) (f : Nat) (caps : List AV) (L : List AV) (nl : Bool) (hL : L.length < big) : ∀ (r : List (AV × Bool)) (i : Nat), Tail L i (r.map (·.1)) → (∀ q ∈ r, Cl σ f caps q.1 q.2) → (∀ q ∈ r, ∀ ti : TI, q.1.fits ti = (ti.k.isAgg && 3 == ti.size)) →
  ∃ e fr', Lp ctx [] [] [0, 1, 7, 8] b63_0 ⟨[(0, .v (encR 3 nl L)), (1, .v (.fn f caps)), (7, .v (.int .i64 L.length)), (8, .v (.int .i64 i))], false⟩ σ e fr' σ ∧ fr'.lk = false ∧
   ((e = .ex 0 ∧ getS fr'.sl 4 = .u ∧ idxB i (r.map (·.2)) = -1) ∨ (e = .ret ∧ getS fr'.sl 4 = .v (.int .i64 (idxB i (r.map (·.2))))))
 | [], i, h, hc, hf => by
  have h' := h.nil
  refine ⟨.ex 0, ?_, Lp.exit ⟨0, fun N _ => ?_⟩ (by simp), ?_⟩
  rotate_left
  ·simp -implicitDefEqProofs [b63_0, h']
   rfl
  ·exact ⟨by simp, .inl ⟨rfl, by simp, rfl⟩⟩
 | (x, b) :: r, i, h, hc, hf => by
  have hlen := h.len
  obtain ⟨g1, g2, g3, g4, g5⟩ := h.cons
  simp at hlen
  have hw := wrap_succ (n := i) (by omega)
  have g6 := g5 3 nl
  obtain ⟨k, hk⟩ := hc (x, b) (by simp)
  have hx := hf (x, b) (by simp)
  simp only at hk hx g1
  cases b with
  | true =>
   refine ⟨.ret, ?_, Lp.exit ⟨k, fun N hN => ?_⟩ (by simp), ?_⟩
   rotate_left
   ·have hk := hk N hN
    rw [g6]
    simp -implicitDefEqProofs [b63_0, g1, g2, g3, hk, hx]
    rfl
   ·exact ⟨by simp, .inr ⟨rfl, by simp [idxB]⟩⟩
  | false =>
   obtain ⟨e, fr', l1, l2, l3⟩ := lp63 σ f caps L nl hL r (i + 1) g4 (fun q hq => hc q (by simp [hq])) (fun q hq => hf q (by simp [hq]))
   refine ⟨e, fr', Lp.step ⟨k, fun N hN => ?_⟩ l1, l2, by simpa [idxB] using l3⟩
   have hk := hk N hN
   rw [g6]
   simp -implicitDefEqProofs [b63_0, g1, g2, g3, hk, hw, hx]
theorem run63 (σ : H) (f : Nat) (caps : List AV) (L : List (AV × Bool)) (nl : Bool) (hL : L.length < big) (hc : ∀ q ∈ L, Cl σ f caps q.1 q.2) (hf : ∀ q ∈ L, ∀ ti : TI, q.1.fits ti = (ti.k.isAgg && 3 == ti.size)) :
  ∃ k, ∀ N, k ≤ N → runFn ctx (acall ctx N) N i63 [encR 3 nl (L.map (·.1)), .fn f caps] σ = some (.int .i64 (idxB 0 (L.map (·.2))), σ) := by
 obtain ⟨e, fr', l1, l2, l3⟩ := lp63 σ f caps (L.map (·.1)) nl (by simpa using hL) L 0 (Tail.all _) hc hf
 obtain ⟨k, hk⟩ := l1.den
 refine ⟨k, fun N hN => ?_⟩
 have hk := hk N hN
 rcases l3 with ⟨rfl, l4, l5⟩ | ⟨rfl, l4⟩
 ·rw [l5]
  simp -implicitDefEqProofs [i63, c63, hk, l2, l4]
 ·simp -implicitDefEqProofs [i63, c63, hk, l2, l4]
theorem idx63_ans (f : Nat) (caps : List AV) (L : List (AV × Bool)) (nl : Bool) (hL : L.length < big) (hn : AV.noRefs (L.map (·.1)) = true) (hcp : AV.noRefs caps = true) (hc : ∀ q ∈ L, Ans ctx f (q.1 :: caps) (.bool q.2)) (hf : ∀ q ∈ L, ∀ ti : TI, q.1.fits ti = (ti.k.isAgg && 3 == ti.size)) :
  Ans ctx 63 [encR 3 nl (L.map (·.1)), .fn f caps] (.int .i64 (idxB 0 (L.map (·.2)))) :=
 Ans.of (σ' := []) fn63_ (by simp [hn, hcp]) (by simp) (run63 [] f caps L nl hL (fun q hq => (hc q hq).at []) hf)
theorem idx63_at (σ : H) (f : Nat) (caps : List AV) (L : List (AV × Bool)) (nl : Bool) (hL : L.length < big) (hcp : AV.noRefs caps = false) (hc : ∀ q ∈ L, Cl σ f caps q.1 q.2) (hf : ∀ q ∈ L, ∀ ti : TI, q.1.fits ti = (ti.k.isAgg && 3 == ti.size)) :
  AnsH ctx 63 [encR 3 nl (L.map (·.1)), .fn f caps] σ (.int .i64 (idxB 0 (L.map (·.2)))) σ :=
 AnsH.of fn63_ (by simp [hcp]) (snapFn _ _ _ _ hcp) (by simp) (run63 σ f caps L nl hL hc hf)
theorem has60_ans (f : Nat) (caps : List AV) (L : List (AV × Bool)) (nl : Bool) (hL : L.length < big) (hn : AV.noRefs (L.map (·.1)) = true) (hcp : AV.noRefs caps = true) (hc : ∀ q ∈ L, Ans ctx f (q.1 :: caps) (.bool q.2)) (hf : ∀ q ∈ L, ∀ ti : TI, q.1.fits ti = (ti.k.isAgg && 4 == ti.size)) :
  Ans ctx 60 [encR 4 nl (L.map (·.1)), .fn f caps] (.bool ((L.map (·.2)).any id)) := by
 obtain ⟨k, hk⟩ := idx94_ans f caps L nl hL hn hcp hc hf
 refine Ans.of (σ' := []) fn60_ (by simp [hn, hcp]) (by simp) ⟨k, fun N hN => ?_⟩
 have hk := hk N hN
 have := idxB_ge 0 (L.map (·.2))
 simp -implicitDefEqProofs [i60, c60, hk, -List.any_map]
 simpa using this
theorem has60_at (σ : H) (f : Nat) (caps : List AV) (L : List (AV × Bool)) (nl : Bool) (hL : L.length < big) (hcp : AV.noRefs caps = false) (hc : ∀ q ∈ L, Cl σ f caps q.1 q.2) (hf : ∀ q ∈ L, ∀ ti : TI, q.1.fits ti = (ti.k.isAgg && 4 == ti.size)) :
  AnsH ctx 60 [encR 4 nl (L.map (·.1)), .fn f caps] σ (.bool ((L.map (·.2)).any id)) σ := by
 obtain ⟨k, hk⟩ := idx94_at σ f caps L nl hL hcp hc hf
 refine AnsH.of fn60_ (by simp [hcp]) (snapFn _ _ _ _ hcp) (by simp) ⟨k, fun N hN => ?_⟩
 have hk := hk N hN
 have := idxB_ge 0 (L.map (·.2))
 simp -implicitDefEqProofs [i60, c60, hk, -List.any_map]
 simpa using this
theorem cl118 (s : Str) (d : Da) : Ans ctx 118 [encD d, .adr (.str s)] (.bool (eqS d.s s)) := by
 refine Ans.of (σ' := []) fn118_ (by simp) (by simp) ⟨0, fun N _ => ?_⟩
 simp only [eqS_iff, encD]
 simp -implicitDefEqProofs [i118, c118, -beq_iff_eq]
theorem idxB_D (s : Str) : ∀ (l : List Da) (i : Nat) (m : List Da), (∃ d j, findD s l = some d ∧ idxB i (l.map fun d => eqS d.s s) = ((i + j : Nat) : Int) ∧ l[j]? = some d) ∨ (findD s l = none ∧ idxB i (l.map fun d => eqS d.s s) = -1)
 | [], i, m => .inr ⟨rfl, rfl⟩
 | d :: l, i, m => by
  simp only [findD, List.map_cons, idxB]
  cases h : eqS d.s s with
  | true => exact .inl ⟨d, 0, rfl, rfl, rfl⟩
  | false =>
   rcases idxB_D s l (i + 1) m with ⟨d', j, h1, h2, h3⟩ | ⟨h1, h2⟩
   ·exact .inl ⟨d', j + 1, h1, by simp only [h2]; omega, by simpa using h3⟩
   ·exact .inr ⟨h1, h2⟩
theorem map_pair {α : Type} (f : α → AV) (g : α → Bool) (l : List α) : (l.map fun x => (f x, g x)).map (·.1) = l.map f ∧ (l.map fun x => (f x, g x)).map (·.2) = l.map g := by
 constructor <;> simp [Function.comp_def]
theorem arity_ans (l : List Da) (nl : Bool) (hl : l.length < big) (s : Str) : Ans ctx 96 [encR 4 nl (encDs l), .str s] (.int .i64 (arity l s)) := by
 obtain ⟨e1, e2⟩ := map_pair encD (fun d => eqS d.s s) l
 obtain ⟨k, hk⟩ := idx117_ans 118 [.adr (.str s)] (l.map fun d => (encD d, eqS d.s s)) nl (by simpa using hl) (by rw [e1]; exact noRefs_encDs l) (by simp)
  (fun q hq => by obtain ⟨d, _, rfl⟩ := List.mem_map.1 hq; exact cl118 s d) (fun q hq ti => by obtain ⟨d, _, rfl⟩ := List.mem_map.1 hq; exact encD_fits d ti)
 rw [e1, e2] at hk
 have e3 : l.map encD = encDs l := rfl
 rw [e3] at hk
 refine Ans.of (σ' := []) fn96_ (by simp) (by simp) ⟨k, fun N hN => ?_⟩
 have hk := hk N hN
 unfold arity
 simp only [eqS_iff, sInt, sBool]
 cases h1 : s == [73, 110, 116] with
 | true => simp -implicitDefEqProofs [i96, c96, h1, -beq_iff_eq]
 | false =>
  cases h2 : s == [66, 111, 111, 108] with
  | true => simp -implicitDefEqProofs [i96, c96, h1, h2, -beq_iff_eq, -beq_eq_false_iff_ne]
  | false =>
   rcases idxB_D s l 0 l with ⟨d, j, q1, q2, q3⟩ | ⟨q1, q2⟩
   ·rw [q2] at hk
    rw [q1]
    have hj : j < l.length := (List.getElem?_eq_some_iff.1 q3).1
    have g1 : (encDs l)[j]? = some (encD d) := by simp [encDs, q3]
    have g2 : idxN (j : Int) l.length = some j := by unfold idxN; rw [if_pos (by omega)]; simp
    have g3 : encR 4 nl (encDs l) = .sl 4 (encDs l) := by
     cases l with
     | nil => simp at hj
     | cons a l => simp
    rw [g3] at hk ⊢
    simp only [Nat.zero_add] at hk
    have g4 : ¬ (j : Int) < 0 := by omega
    unfold encD at g1
    simp -implicitDefEqProofs [i96, c96, h1, h2, hk, g1, g2, g4, -beq_iff_eq, -beq_eq_false_iff_ne]
   ·rw [q2] at hk
    rw [q1]
    simp -implicitDefEqProofs [i96, c96, h1, h2, hk, -beq_iff_eq, -beq_eq_false_iff_ne]
theorem any_right (l : List Da) (v : Int) : ∀ ts : List Ps.Ty, (ts.map fun t => !rightT l v t).any id = !rightTs l v ts
 | [] => rfl
 | t :: ts => by
  have := any_right l v ts
  simp only [List.map_cons, List.any_cons, rightTs, this, id, Bool.not_and]
theorem cl95 {l : List Da} {nl : Bool} {v : Int} {t : Ps.Ty} (h : Ans ctx 62 [encR 4 nl (encDs l), encY t, .int .i64 v] (.bool (rightT l v t))) :
  Ans ctx 95 [encY t, .adr (encR 4 nl (encDs l)), .adr (.int .i64 v)] (.bool (!rightT l v t)) := by
 obtain ⟨k, hk⟩ := h
 refine Ans.of (σ' := []) fn95_ (by simp) (by simp) ⟨k, fun N hN => ?_⟩
 have hk := hk N hN
 simp -implicitDefEqProofs [i95, c95, hk]
set_option maxHeartbeats 2000000 in
theorem right_body {l : List Da} {nl : Bool} (hl : l.length < big) {v : Int} (k : Nat) (n : Int) (s : Str) (ks : List Ps.Ty) (hks : ks.length < big) (h : ∀ t ∈ ks, Ans ctx 62 [encR 4 nl (encDs l), encY t, .int .i64 v] (.bool (rightT l v t))) :
  Ans ctx 62 [encR 4 nl (encDs l), encY (.mk k n s ks), .int .i64 v] (.bool (rightT l v (.mk k n s ks))) := by
 obtain ⟨e1, e2⟩ := map_pair encY (fun t => !rightT l v t) ks
 obtain ⟨k1, hk1⟩ := has60_ans 95 [.adr (encR 4 nl (encDs l)), .adr (.int .i64 v)] (ks.map fun t => (encY t, !rightT l v t)) true (by simpa using hks) (by rw [e1, ← encYs_map]; exact noRefs_encYs ks) (by simp)
  (fun q hq => by obtain ⟨t, ht, rfl⟩ := List.mem_map.1 hq; exact cl95 (h t ht)) (fun q hq ti => by obtain ⟨t, _, rfl⟩ := List.mem_map.1 hq; exact encY_fits t ti)
 rw [e1, e2, any_right, ← encYs_map] at hk1
 obtain ⟨k2, hk2⟩ := arity_ans l nl hl s
 refine Ans.of (σ' := []) fn62_ (by simp) (by simp) ⟨k1 + k2, fun N hN => ?_⟩
 have hk1 := hk1 N (by omega)
 have hk2 := hk2 N (by omega)
 rw [encY_mk]
 unfold rightT
 cases hr : rightTs l v ks with
 | false =>
  rw [hr] at hk1
  simp -implicitDefEqProofs [i62, c62, hk1]
 | true =>
  rw [hr] at hk1
  unfold rightH
  simp only [Bool.true_and]
  have hb1 := beq_int k 1
  have hb2 := beq_int k 2
  have hm0 := beq_int ks.length 0
  have hm2 := beq_int ks.length 2
  simp only [eqS_iff, sArr, sComma]
  cases h1 : Nat.beq k 1 with
  | true =>
   rw [h1] at hb1
   simp only [Int.cast_ofNat_Int] at hb1
   have hb1 := hb1.symm
   cases h0 : Nat.beq ks.length 0 with
   | false =>
    rw [h0] at hm0
    simp only [Int.cast_ofNat_Int] at hm0
    have hm0 := hm0.symm
    simp -implicitDefEqProofs [i62, c62, hk1, hb1, hm0, -beq_iff_eq, -beq_eq_false_iff_ne]
   | true =>
    rw [h0] at hm0
    simp only [Int.cast_ofNat_Int] at hm0
    have hm0 := hm0.symm
    by_cases hn : 0 ≤ n
    ·simp -implicitDefEqProofs [i62, c62, hk1, hb1, hm0, hn, -beq_iff_eq, -beq_eq_false_iff_ne]
    ·simp -implicitDefEqProofs [i62, c62, hk1, hb1, hm0, hn, -beq_iff_eq, -beq_eq_false_iff_ne]
  | false =>
   rw [h1] at hb1
   simp only [Int.cast_ofNat_Int] at hb1
   have hb1 := hb1.symm
   cases h2 : Nat.beq k 2 with
   | false =>
    rw [h2] at hb2
    simp only [Int.cast_ofNat_Int] at hb2
    have hb2 : ((k : Int) != 2) = true := by rw [bne, ← hb2]; rfl
    simp -implicitDefEqProofs [i62, c62, hk1, hb1, hb2, -beq_iff_eq, -beq_eq_false_iff_ne, -bne_iff_ne]
   | true =>
    rw [h2] at hb2
    simp only [Int.cast_ofNat_Int] at hb2
    have hb2 : ((k : Int) != 2) = false := by rw [bne, ← hb2]; rfl
    cases h3 : s == [45, 62] with
    | true =>
     rw [hm2]
     simp -implicitDefEqProofs [i62, c62, hk1, hb1, hb2, h3, -beq_iff_eq, -beq_eq_false_iff_ne, -bne_iff_ne]
    | false =>
     cases h4 : s == [44] with
     | true =>
      have hle1 := ble_int 2 ks.length
      have hle2 := ble_int ks.length 8
      simp only [Int.cast_ofNat_Int] at hle1 hle2
      rw [hle1, hle2]
      by_cases h5 : (2 : Int) ≤ (ks.length : Int)
      ·simp -implicitDefEqProofs [i62, c62, hk1, hb1, hb2, h3, h4, h5, -beq_iff_eq, -beq_eq_false_iff_ne, -bne_iff_ne]
      ·simp -implicitDefEqProofs [i62, c62, hk1, hb1, hb2, h3, h4, h5, -beq_iff_eq, -beq_eq_false_iff_ne, -bne_iff_ne]
     | false =>
      simp -implicitDefEqProofs [i62, c62, hk1, hk2, hb1, hb2, h3, h4, -beq_iff_eq, -beq_eq_false_iff_ne, -bne_iff_ne]
      try rfl
mutual
theorem right_ans (l : List Da) (nl : Bool) (hl : l.length < big) (v : Int) : ∀ t : Ps.Ty, okT t → Ans ctx 62 [encR 4 nl (encDs l), encY t, .int .i64 v] (.bool (rightT l v t))
 | .mk k n s ks, h => by
  unfold okT at h
  exact right_body hl k n s ks (by have := h.1; unfold lim at this; unfold big; omega) (rights_ans l nl hl v ks h.2)
theorem rights_ans (l : List Da) (nl : Bool) (hl : l.length < big) (v : Int) : ∀ ts : List Ps.Ty, okTs ts → ∀ t ∈ ts, Ans ctx 62 [encR 4 nl (encDs l), encY t, .int .i64 v] (.bool (rightT l v t))
 | [], _, t, ht => by cases ht
 | u :: us, h, t, ht => by
  unfold okTs at h
  rcases List.mem_cons.1 ht with e | ht
  ·rw [e]; exact right_ans l nl hl v u h.1
  ·exact rights_ans l nl hl v us h.2 t ht
end
/-! ### what is twice in a row that is sorted -/
theorem squash_le_ {α : Type} [DecidableEq α] : ∀ zs : List α, (squash zs).length ≤ zs.length
 | [] => Nat.le_refl _
 | [a] => Nat.le_refl _
 | a :: b :: l => by
  have := squash_le_ (b :: l)
  simp only [squash]
  split
  ·simp at this ⊢; omega
  ·simp at this ⊢; omega
theorem squash_lt {α : Type} [DecidableEq α] : ∀ zs : List α, (squash zs).length < zs.length ↔ ∃ i, ∃ x, zs[i]? = some x ∧ zs[i + 1]? = some x
 | [] => by simp [squash]
 | [a] => by simp [squash]
 | a :: b :: l => by
  have ih := squash_lt (b :: l)
  have hle : (squash (b :: l)).length ≤ (b :: l).length := squash_le_ (b :: l)
  simp only [squash]
  split
  ·rename_i h
   subst h
   exact ⟨fun _ => ⟨0, a, rfl, rfl⟩, fun _ => by simp only [List.length_cons] at hle ⊢; omega⟩
  ·rename_i h
   simp only [List.length_cons] at ih ⊢
   constructor
   ·intro hlt
    obtain ⟨i, x, h1, h2⟩ := ih.1 (by omega)
    exact ⟨i + 1, x, by simpa using h1, by simpa using h2⟩
   ·rintro ⟨i, x, h1, h2⟩
    cases i with
    | zero =>
     simp only [List.getElem?_cons_zero, Option.some.injEq, Nat.zero_add, List.getElem?_cons_succ] at h1 h2
     exact absurd (h1.trans h2.symm) h
    | succ i =>
     have := ih.2 ⟨i, x, by simpa using h1, by simpa using h2⟩
     omega
theorem leS_trans (a b c : Str) (h1 : decide (a ≤ b) = true) (h2 : decide (b ≤ c) = true) : decide (a ≤ c) = true := by
 simp only [decide_eq_true_eq] at *
 exact List.le_trans h1 h2
theorem leS_total (a b : Str) : (decide (a ≤ b) || decide (b ≤ a)) = true := by
 simp only [Bool.or_eq_true, decide_eq_true_eq]
 exact List.le_total a b
theorem leS_anti {a b : Str} (h1 : a ≤ b) (h2 : b ≤ a) : a = b := List.le_antisymm h1 h2
theorem dupS_iff : ∀ l : List Str, dupS l = true ↔ ¬ l.Nodup
 | [] => by simp [dupS]
 | s :: l => by
  simp only [dupS, Bool.or_eq_true, List.any_eq_true, eqS_iff, beq_iff_eq, dupS_iff l, List.nodup_cons]
  constructor
  ·rintro (⟨x, h1, rfl⟩ | h)
   ·exact fun h => h.1 h1
   ·exact fun h' => h h'.2
  ·intro h
   by_cases hs : s ∈ l
   ·exact .inl ⟨s, hs, rfl⟩
   ·exact .inr fun h' => h ⟨hs, h'⟩
theorem sorted_dup {zs : List Str} (hs : zs.Pairwise fun a b => decide (a ≤ b) = true) : (∃ i, ∃ x, zs[i]? = some x ∧ zs[i + 1]? = some x) ↔ ¬ zs.Nodup := by
 constructor
 ·rintro ⟨i, x, h1, h2⟩ hnd
  rw [List.nodup_iff_pairwise_ne, List.pairwise_iff_getElem] at hnd
  have hi := (List.getElem?_eq_some_iff.1 h1)
  have hj := (List.getElem?_eq_some_iff.1 h2)
  exact hnd i (i + 1) hi.1 hj.1 (by omega) (hi.2.trans hj.2.symm)
 ·intro hnd
  rw [List.nodup_iff_pairwise_ne, List.pairwise_iff_getElem] at hnd
  apply Classical.byContradiction
  intro hno
  apply hnd
  intro i j hi hj hij he
  apply hno
  refine ⟨i, zs[i], List.getElem?_eq_getElem hi, ?_⟩
  rw [List.pairwise_iff_getElem] at hs
  have h1 : zs[i] ≤ zs[i + 1] := by
   have := hs i (i + 1) hi (by omega) (by omega)
   simpa using this
  have h2 : zs[i + 1] ≤ zs[j] := by
   by_cases e : i + 1 = j
   ·subst e; exact List.le_refl _
   ·have := hs (i + 1) j (by omega) hj (by omega)
    simpa using this
  rw [← he] at h2
  rw [List.getElem?_eq_getElem (by omega), leS_anti h1 h2]
theorem squash_sort (l : List Str) : decide ((squash (l.mergeSort fun x y => decide (x ≤ y))).length < l.length) = dupS l := by
 have h1 := squash_lt (l.mergeSort fun x y => decide (x ≤ y))
 rw [List.length_mergeSort] at h1
 have hs := List.pairwise_mergeSort (le := fun x y : Str => decide (x ≤ y)) leS_trans leS_total l
 have h2 := sorted_dup hs
 have h3 : (l.mergeSort fun x y => decide (x ≤ y)).Nodup ↔ l.Nodup := (List.mergeSort_perm l _).nodup_iff
 rw [h3, ← dupS_iff] at h2
 have : (squash (l.mergeSort fun x y => decide (x ≤ y))).length < l.length ↔ dupS l = true := h1.trans h2
 cases h : dupS l with
 | true => simp [this.2 h]
 | false =>
  have : ¬ (squash (l.mergeSort fun x y => decide (x ≤ y))).length < l.length := fun h' => by rw [this.1 h'] at h; cases h
  simp [this]
def tyc : Ctx := ⟨types, [], [], []⟩
theorem tyc_ti (t : Nat) : tyc.ti t = ctx.ti t := rfl
def tiS : TI := ⟨.str, 1, 16, .str [], [.str]⟩
theorem fitAll_encSs : ∀ l : List Str, fitAll tiS (encSs l) = true
 | [] => rfl
 | s :: l => by
  have := fitAll_encSs l
  simp [fitAll, tiS] at this ⊢
  exact this
theorem clone91 (σ : H) (vs : List Str) (hl : vs.length ≤ 2 ^ 40) : primOf types i91 [.sl 1 (encSs vs)] σ = some (.hs σ.length vs.length 0 vs.length 1, σ ++ [.arr false 1 (encSs vs)]) := by
 show runFn tyc (fun _ _ => failM) 1 i91 [.sl 1 (encSs vs)] σ = _
 cases vs with
 | nil => simp [i91, c91, tyc_ti]
 | cons s l =>
  have hf := fitAll_encSs l
  unfold tiS at hf
  simp at hl
  have h1 : (l.length + 1) * 16 ≤ 35184372088832 := by omega
  have h2 : l.length ≤ 35184372088831 := by omega
  simp [i91, c91, tyc_ti, hf, h1, h2]
theorem unAll_str : ∀ l : List Str, unAll unS (encSs l) = some l
 | [] => rfl
 | s :: l => by
  have := unAll_str l
  simp [unAll, unS, this]
theorem setCells_all {xs ys : List AV} (h : ys.length = xs.length) : setCells xs 0 ys = ys := by
 rw [setCells_splice (by omega)]
 simp [h]
theorem map_str (l : List Str) : l.map AV.str = encSs l := rfl
theorem sort92 (vs : List Str) (hl : vs.length ≤ 2 ^ 40) : primSort [.hs 0 vs.length 0 vs.length 1] [.arr false 1 (encSs vs)] = some (.tup [], [.arr false 1 (encSs (vs.mergeSort fun x y => decide (x ≤ y)))]) := by
 have h0 : arrAt [HObj.arr false 1 (encSs vs)] 0 vs.length = some (false, 1, encSs vs) := by simp [arrAt]
 have h1 : ((encSs vs).drop 0).take vs.length = encSs vs := by simp [List.take_of_length_le]
 have h2 : 0 + vs.length ≤ (encSs vs).length := by simp
 have h3 : vs.length < 2 ^ 62 := by omega
 simp only [primSort, sortRow, h0, h2, h3, and_self, if_true, h1, unAll_str]
 rw [setCells_all (by simp), map_str]
 rfl
theorem comp93 (ws : List Str) (hl : ws.length ≤ 2 ^ 40) : ∃ σ', primCompact [.hs 0 ws.length 0 ws.length 1] [.arr false 1 (encSs ws)] = some (.hs 0 ws.length 0 (squash ws).length 1, σ') := by
 have h0 : arrAt [HObj.arr false 1 (encSs ws)] 0 ws.length = some (false, 1, encSs ws) := by simp [arrAt]
 have h1 : ((encSs ws).drop 0).take ws.length = encSs ws := by simp [List.take_of_length_le]
 have h2 : 0 + ws.length ≤ (encSs ws).length := by simp
 have h3 : ws.length < 2 ^ 62 := by omega
 simp only [primCompact, compactRow, h0, h2, h3, and_self, if_true, h1, unAll_str]
 exact ⟨_, rfl⟩
theorem pr91 : look 91 ctx.prim = some (primOf types i91) := by rfl
theorem pr92 : look 92 ctx.prim = some primSort := by rfl
theorem pr93 : look 93 ctx.prim = some primCompact := by rfl
theorem twice_ans (vs : List Str) (nl : Bool) (hl : vs.length ≤ lim) : Ans ctx 59 [encR 1 nl (encSs vs)] (.bool (dupS vs)) := by
 unfold lim at hl
 by_cases hn : nl = true ∧ vs = []
 ·obtain ⟨rfl, rfl⟩ := hn
  have c1 : primOf types i91 [.nil] [] = some (.nil, []) := by
   show runFn tyc (fun _ _ => failM) 1 i91 [.nil] [] = _
   simp [i91, c91, tyc_ti]
  obtain ⟨k1, hk1⟩ := AnsH.prim fn91_ pr91 rfl c1
  obtain ⟨k2, hk2⟩ := AnsH.prim (C := ctx) (l := [.nil]) (r := .tup []) (σ := []) (σ' := []) fn92_ pr92 rfl rfl
  obtain ⟨k3, hk3⟩ := AnsH.prim (C := ctx) (l := [.nil]) (r := .nil) (σ := []) (σ' := []) fn93_ pr93 rfl rfl
  refine Ans.of (σ' := []) fn59_ (by simp) (by simp) ⟨k1 + k2 + k3, fun N hN => ?_⟩
  have hk1 := hk1 N (by omega)
  have hk2 := hk2 N (by omega)
  have hk3 := hk3 N (by omega)
  simp -implicitDefEqProofs [i59, c59, hk1, hk2, hk3, dupS]
 ·have e : encR 1 nl (encSs vs) = .sl 1 (encSs vs) := by
   cases vs with
   | nil => cases nl with
    | true => exact absurd ⟨rfl, rfl⟩ hn
    | false => rfl
   | cons s l => simp
  rw [e]
  obtain ⟨k1, hk1⟩ := AnsH.prim fn91_ pr91 rfl (clone91 [] vs hl)
  obtain ⟨k2, hk2⟩ := AnsH.prim fn92_ pr92 rfl (sort92 vs hl)
  have hlm : (vs.mergeSort fun x y => decide (x ≤ y)).length = vs.length := List.length_mergeSort _
  obtain ⟨σ', hc⟩ := comp93 (vs.mergeSort fun x y => decide (x ≤ y)) (by rw [hlm]; exact hl)
  rw [hlm] at hc
  obtain ⟨k3, hk3⟩ := AnsH.prim fn93_ pr93 rfl hc
  refine Ans.of (σ' := σ') fn59_ (by simp) (by simp) ⟨k1 + k2 + k3, fun N hN => ?_⟩
  have hk1 := hk1 N (by omega)
  have hk2 := hk2 N (by omega)
  have hk3 := hk3 N (by omega)
  have hd := squash_sort vs
  rw [← hd]
  simp only [List.length_nil, List.nil_append] at hk1
  generalize (squash (vs.mergeSort fun x y => decide (x ≤ y))).length = m at *
  generalize (vs.mergeSort fun x y => decide (x ≤ y)) = ws at *
  have hm : decide ((m : Int) < (vs.length : Int)) = decide (m < vs.length) := by simp
  simp -implicitDefEqProofs [i59, c59, hk1, hk2, hk3]
theorem cl64 (s : Str) (c : Cn) : Ans ctx 64 [encC c, .adr (.str s)] (.bool (eqS c.s s)) := by
 refine Ans.of (σ' := []) fn64_ (by simp) (by simp) ⟨0, fun N _ => ?_⟩
 simp only [eqS_iff, encC]
 simp -implicitDefEqProofs [i64, c64, -beq_iff_eq]
def orM1 : Option Nat → Int
 | some k => (k : Int)
 | none => -1
theorem idxB_C (s : Str) : ∀ (l : List Cn) (i : Nat), idxB i (l.map fun c => eqS c.s s) = orM1 (findC s i l)
 | [], i => rfl
 | c :: l, i => by
  simp only [List.map_cons, idxB, findC]
  cases eqS c.s s with
  | true => rfl
  | false => exact idxB_C s l (i + 1)
def conI : Option (Nat × Nat) → Int × Int
 | some (i, k) => ((i : Int), (k : Int))
 | none => (-1, -1)
theorem lp33 (s : Str) (L : List AV) (nl : Bool) (hL : L.length < big) : ∀ (r : List Da) (i : Nat), Tail L i (encDs r) → (∀ d ∈ r, okD d) →
  ∃ e fr', Lp ctx [] [3] [3, 9, 10, 11] b33_0 ⟨[(3, .v (.adr (.str s))), (9, .v (encR 4 nl L)), (10, .v (.int .i64 L.length)), (11, .v (.int .i64 i))], false⟩ [] e fr' [] ∧ fr'.lk = false ∧
   ((e = .ex 0 ∧ getS fr'.sl 4 = .u ∧ getS fr'.sl 5 = .u ∧ findCon s i r = none) ∨ (e = .ret ∧ ∃ p, findCon s i r = some p ∧ getS fr'.sl 4 = .v (.int .i64 p.1) ∧ getS fr'.sl 5 = .v (.int .i64 p.2)))
 | [], i, h, hd => by
  have h' := h.nil
  refine ⟨.ex 0, ?_, Lp.exit ⟨0, fun N _ => ?_⟩ (by simp), ?_⟩
  rotate_left
  ·simp -implicitDefEqProofs [b33_0, h']
   rfl
  ·exact ⟨by simp, .inl ⟨rfl, by simp, by simp, rfl⟩⟩
 | d :: r, i, h, hd => by
  have hlen := h.len
  simp only [encDs_cons] at h
  obtain ⟨g1, g2, g3, g4, g5⟩ := h.cons
  simp at hlen
  have hw := wrap_succ (n := i) (by omega)
  have g6 := g5 4 nl
  have hdk := hd d (by simp)
  obtain ⟨e1, e2⟩ := map_pair encC (fun c => eqS c.s s) d.cs
  obtain ⟨k, hk⟩ := idx63_ans 64 [.adr (.str s)] (d.cs.map fun c => (encC c, eqS c.s s)) true (by have := hdk.2.1; unfold lim at this; simp [big]; omega) (by rw [e1]; exact noRefs_encCs d.cs) (by simp)
   (fun q hq => by obtain ⟨c, _, rfl⟩ := List.mem_map.1 hq; exact cl64 s c) (fun q hq ti => by obtain ⟨c, _, rfl⟩ := List.mem_map.1 hq; exact encC_fits c ti)
  rw [e1, e2, idxB_C] at hk
  have e3 : d.cs.map encC = encCs d.cs := rfl
  rw [e3] at hk
  unfold encD at g1
  cases hf : findC s 0 d.cs with
  | some c =>
   rw [hf] at hk
   simp only [orM1] at hk
   have hge : (0 : Int) ≤ (c : Int) := by omega
   refine ⟨.ret, ?_, Lp.exit ⟨k, fun N hN => ?_⟩ (by simp), ?_⟩
   rotate_left
   ·have hk := hk N hN
    rw [g6]
    simp -implicitDefEqProofs [b33_0, g1, g2, g3, hk]
    rfl
   ·exact ⟨by simp, .inr ⟨rfl, (i, c), by simp [findCon, hf], by simp, by simp⟩⟩
  | none =>
   rw [hf] at hk
   simp only [orM1] at hk
   obtain ⟨e, fr', l1, l2, l3⟩ := lp33 s L nl hL r (i + 1) g4 (fun x hx => hd x (by simp [hx]))
   have e4 : findCon s i (d :: r) = findCon s (i + 1) r := by simp [findCon, hf]
   rw [e4]
   refine ⟨e, fr', Lp.step ⟨k, fun N hN => ?_⟩ l1, l2, l3⟩
   have hk := hk N hN
   rw [g6]
   simp -implicitDefEqProofs [b33_0, g1, g2, g3, hk, hw]
theorem dcon_ans (l : List Da) (nl : Bool) (hl : l.length < big) (hd : ∀ d ∈ l, okD d) (s : Str) : Ans ctx 33 [encR 4 nl (encDs l), .str s] (.tup [.int .i64 (conI (findCon s 0 l)).1, .int .i64 (conI (findCon s 0 l)).2]) := by
 obtain ⟨e, fr', l1, l2, l3⟩ := lp33 s (encDs l) nl (by simpa using hl) l 0 (Tail.all _) hd
 obtain ⟨k, hk⟩ := l1.den
 refine Ans.of (σ' := []) fn33_ (by simp) (by simp) ⟨k, fun N hN => ?_⟩
 have hk := hk N hN
 rw [encDs_length] at hk
 rcases l3 with ⟨rfl, l4, l5, l6⟩ | ⟨rfl, p, l4, l5, l6⟩
 ·rw [l6]
  simp -implicitDefEqProofs [i33, c33, hk, l2, l4, l5, conI]
 ·rw [l4]
  simp -implicitDefEqProofs [i33, c33, hk, l2, l5, l6, conI]
theorem eqK_iff (a b : Key) : eqK a b = decide (a = b) := by
 obtain ⟨a1, a2⟩ := a
 obtain ⟨b1, b2⟩ := b
 simp only [eqK, eqS_iff, Prod.mk.injEq]
 by_cases h1 : a1 = b1
 ·subst h1; cases a2 <;> cases b2 <;> simp
 ·have : (a1 == b1) = false := by simpa using h1
  simp [this, h1]
def T115 : Tab ctx 115 Key Bool where
 tk := ⟨.strct [(0, 9), (1, 4)], 2, 24, .agg [.str [], .bool false], [.str, .bool]⟩
 te := ⟨.bool, 1, 1, .bool false, [.bool]⟩
 ek := fun k => .agg [.str k.1, .bool k.2]
 ev := .bool
 z := false
 map := by rfl
 key := fun k => rfl
 kfit := fun k => rfl
 eq := fun k x => by
  obtain ⟨k1, k2⟩ := k
  obtain ⟨x1, x2⟩ := x
  simp only [eqA, AV.cells, eqLeaves, eqLeaf, Prod.mk.injEq, Bool.and_true]
  by_cases h1 : k1 = x1
  ·subst h1
   cases k2 <;> cases x2 <;> simp
  ·have : (k1 == x1) = false := by simpa using h1
   simp [this, h1]
 vfit := fun v => rfl
 zero := rfl
structure KH (had : List Key) (σ : H) : Prop where
 it : ∃ l, σ[0]? = some (.map (T115.enc l)) ∧ ∀ k, (getT l k).getD false = memK had k
theorem KH.look {had : List Key} {σ : H} (h : KH had σ) (s : Str) (b : Bool) : lookupA ctx 115 (.map 0) (.agg [.str s, .bool b]) false σ = some (.bool (memK had (s, b)), σ) := by
 obtain ⟨l, h1, h2⟩ := h.it
 have := T115.look h1 (s, b)
 have e : T115.z = false := rfl
 rw [e, h2] at this
 exact this
theorem KH.up {had : List Key} {σ : H} (h : KH had σ) (s : Str) (b : Bool) : ∃ σ', updateA ctx 115 (.map 0) (.agg [.str s, .bool b]) (.bool true) σ = some ((), σ') ∧ KH ((s, b) :: had) σ' ∧ σ'.length = σ.length ∧ ∀ j, j ≠ 0 → σ'[j]? = σ[j]? := by
 obtain ⟨l, h1, h2⟩ := h.it
 refine ⟨_, T115.up h1 (s, b) true, ⟨⟨putT (s, b) true l, ?_, fun k => ?_⟩⟩, by simp, fun j hj => List.getElem?_set_ne (Ne.symm hj)⟩
 ·have := (List.getElem?_eq_some_iff.1 h1).1
  simp [this]
 ·rw [getT_put]
  have : memK ((s, b) :: had) k = (eqK k (s, b) || memK had k) := by simp [memK]
  rw [this, eqK_iff, ← h2]
  split
  ·rename_i h; simp [h]
  ·rename_i h; simp [h]
theorem KH.app {had : List Key} {σ : H} (h : KH had σ) (o : HObj) : KH had (σ ++ [o]) := by
 obtain ⟨l, h1, h2⟩ := h.it
 exact ⟨⟨l, by rw [List.getElem?_append_left (List.getElem?_eq_some_iff.1 h1).1]; exact h1, h2⟩⟩
theorem cl61 {l : List Da} {nl : Bool} (hl : l.length < big) (d : Da) (hd : okD d) (σ : H) (q : Nat) (hq : σ[q]? = some (.arr false 4 [encD d])) (t : Ps.Ty) (ht : okT t) :
  Cl σ 61 [.adr (encR 4 nl (encDs l)), .ptr q 1 0 0] (encY t) (!rightT l d.vs.length t) := by
 obtain ⟨k, hk⟩ := right_ans l nl hl d.vs.length t ht
 have hs : snapL σ [encY t, .adr (encR 4 nl (encDs l)), .ptr q 1 0 0] = none := by
  have h : snapA σ 200 (.ptr q 1 0 0) = none := by
   unfold snapA
   rw [if_neg (by simp)]
  unfold snapL
  simp only [mapO2, h]
  cases snapA σ 200 (encY t) <;> cases snapA σ 200 (.adr (encR 4 nl (encDs l))) <;> rfl
 unfold encD at hq
 refine AnsH.of fn61_ (by simp) hs (by simp) ⟨k, fun N hN => ?_⟩
 have hk := hk N hN
 simp -implicitDefEqProofs [i61, c61, hk, hq]
theorem any_cl {l : List Da} {v : Int} (ts : List Ps.Ty) : (ts.map fun t => !rightT l v t).any id = !rightTs l v ts := any_right l v ts
theorem has61 {l : List Da} {nl : Bool} (hl : l.length < big) (d : Da) (hd : okD d) (σ : H) (q : Nat) (hq : σ[q]? = some (.arr false 4 [encD d])) (ts : List Ps.Ty) (hts : okTs ts) (hb : ts.length ≤ lim) :
  AnsH ctx 60 [encR 4 true (encYs ts), .fn 61 [.adr (encR 4 nl (encDs l)), .ptr q 1 0 0]] σ (.bool (!rightTs l d.vs.length ts)) σ := by
 have hm : ∀ ts : List Ps.Ty, okTs ts → ∀ t ∈ ts, okT t := by
  intro ts
  induction ts with
  | nil => intro _ t ht; cases ht
  | cons u us ih =>
   intro h t ht
   unfold okTs at h
   rcases List.mem_cons.1 ht with e | ht
   ·rw [e]; exact h.1
   ·exact ih h.2 t ht
 obtain ⟨e1, e2⟩ := map_pair encY (fun t => !rightT l d.vs.length t) ts
 have := has60_at σ 61 [.adr (encR 4 nl (encDs l)), .ptr q 1 0 0] (ts.map fun t => (encY t, !rightT l d.vs.length t)) true (by unfold lim at hb; simp [big]; omega) (by simp)
  (fun p hp => by obtain ⟨t, ht, rfl⟩ := List.mem_map.1 hp; exact cl61 hl d hd σ q hq t (hm ts hts t ht)) (fun p hp ti => by obtain ⟨t, _, rfl⟩ := List.mem_map.1 hp; exact encY_fits t ti)
 rw [e1, e2, any_right, ← encYs_map] at this
 exact this
theorem lp29_0a {l : List Da} {nl : Bool} (hl : l.length < big) (d : Da) (hd : okD d) (q : Nat) (hq0 : q ≠ 0) (X13 X14 X15 : AV) : ∀ (r : List Cn) (j : Nat) (had : List Key) (σ : H), Tail (encCs d.cs) j (encCs r) → (∀ c ∈ r, okC c) → KH had σ → σ[q]? = some (.arr false 4 [encD d]) →
  ∃ e fr' σ', Lp ctx [6] [1] [1, 4, 6, 13, 14, 15, 36, 37, 38] b29_0a ⟨[(1, .v (.adr (encR 4 nl (encDs l)))), (4, .v (.map 0)), (6, .v (.ptr q 1 0 0)), (13, .v X13), (14, .v X14), (15, .v X15), (36, .v (encR 3 true (encCs d.cs))), (37, .v (.int .i64 d.cs.length)), (38, .v (.int .i64 j))], false⟩ σ e fr' σ' ∧ fr'.lk = false ∧ σ'.length = σ.length ∧
   (match chkC l d.vs.length had r with
   | .error a => e = .ret ∧ getS fr'.sl 2 = .v (.int .i64 6) ∧ getS fr'.sl 3 = .v (.int .i64 a)
   | .ok had' => e = .ex 2 ∧ KH had' σ' ∧ getS fr'.sl 1 = .v (.adr (encR 4 nl (encDs l))) ∧ getS fr'.sl 4 = .v (.map 0) ∧ getS fr'.sl 13 = .v X13 ∧ getS fr'.sl 14 = .v X14 ∧ getS fr'.sl 15 = .v X15 ∧ getS fr'.sl 60 = .u)
 | [], j, had, σ, h, hc, hk, hq => by
  have h' := h.nil
  simp only [encCs_length] at h'
  refine ⟨.ex 2, ?_, σ, Lp.exit ⟨0, fun N _ => ?_⟩ (by simp), ?_⟩
  rotate_left
  ·simp -implicitDefEqProofs [b29_0a, h']
   rfl
  ·exact ⟨by simp, rfl, rfl, hk, by simp, by simp, by simp, by simp, by simp, by simp⟩
 | c :: r, j, had, σ, h, hc, hk, hq => by
  have hlen := h.len
  simp only [encCs_cons] at h
  obtain ⟨g1, g2, g3, g4, g5⟩ := h.cons
  simp only [encCs_length] at hlen g2 g3
  have hcl : d.cs.length < big := by have := hd.2.1; unfold lim at this; unfold big; omega
  have hw := wrap_succ (n := j) (by simp at hlen; omega)
  have g6 := g5 3 true
  have hck := hc c (by simp)
  unfold encC at g1
  have hlk := hk.look c.s true
  rw [g6]
  unfold chkC
  cases hm : memK had (c.s, true) with
  | true =>
   rw [hm] at hlk
   simp only [Bool.true_or]
   refine ⟨.ret, ?_, σ, Lp.exit ⟨0, fun N hN => ?_⟩ (by simp), ?_⟩
   rotate_left
   ·simp -implicitDefEqProofs [b29_0a, g1, g2, g3, hlk]
    rfl
   ·exact ⟨by simp, rfl, rfl, by simp, by simp⟩
  | false =>
   rw [hm] at hlk
   obtain ⟨k, hkk⟩ := has61 (nl := nl) hl d hd σ q hq c.as hck.2 hck.1
   cases hr : rightTs l d.vs.length c.as with
   | false =>
    rw [hr] at hkk
    simp only [Bool.not_false, Bool.or_true]
    refine ⟨.ret, ?_, σ, Lp.exit ⟨k, fun N hN => ?_⟩ (by simp), ?_⟩
    rotate_left
    ·have hkk := hkk N hN
     simp -implicitDefEqProofs [b29_0a, g1, g2, g3, hlk, hkk]
     rfl
    ·exact ⟨by simp, rfl, rfl, by simp, by simp⟩
   | true =>
    rw [hr] at hkk
    obtain ⟨σ1, hu, hk1, hl1, hne⟩ := hk.up c.s true
    obtain ⟨e, fr', σ', l1, l2, l3, l4⟩ := lp29_0a (nl := nl) hl d hd q hq0 X13 X14 X15 r (j + 1) ((c.s, true) :: had) σ1 g4 (fun x hx => hc x (by simp [hx])) hk1 (by rw [hne q hq0]; exact hq)
    rw [g6] at l1
    simp only [Bool.not_true, Bool.or_false]
    refine ⟨e, fr', σ', Lp.step ⟨k, fun N hN => ?_⟩ l1, l2, by rw [l3, hl1], l4⟩
    have hkk := hkk N hN
    simp -implicitDefEqProofs [b29_0a, g1, g2, g3, hlk, hkk, hu, hw]
theorem lp29_1a {l : List Da} {nl : Bool} (hl : l.length < big) : ∀ (r : List Da) (i : Nat) (had : List Key) (σ : H), Tail (encDs l) i (encDs r) → (∀ d ∈ r, okD d) → KH had σ → 
  ∃ e fr' σ', Lp ctx [6] [1] [1, 4, 13, 14, 15] b29_1a ⟨[(1, .v (.adr (encR 4 nl (encDs l)))), (4, .v (.map 0)), (13, .v (encR 4 nl (encDs l))), (14, .v (.int .i64 l.length)), (15, .v (.int .i64 i))], false⟩ σ e fr' σ' ∧ fr'.lk = false ∧
   (match chkD l had r with
   | some a => e = .ret ∧ getS fr'.sl 2 = .v (.int .i64 6) ∧ getS fr'.sl 3 = .v (.int .i64 a)
   | none => e = .ex 0 ∧ getS fr'.sl 2 = .u ∧ getS fr'.sl 3 = .u)
 | [], i, had, σ, h, hc, hk => by
  have h' := h.nil
  simp only [encDs_length] at h'
  refine ⟨.ex 0, ?_, σ, Lp.exit ⟨0, fun N _ => ?_⟩ (by simp), ?_⟩
  rotate_left
  ·simp -implicitDefEqProofs [b29_1a, h']
   rfl
  ·exact ⟨by simp, rfl, by simp, by simp⟩
 | d :: r, i, had, σ, h, hc, hk => by
  have hlen := h.len
  simp only [encDs_cons] at h
  obtain ⟨g1, g2, g3, g4, g5⟩ := h.cons
  simp only [encDs_length] at hlen g2 g3
  have hw := wrap_succ (n := i) (by simp at hlen; omega)
  have g6 := g5 4 nl
  have hd := hc d (by simp)
  have hs0 : σ.length ≠ 0 := by
   obtain ⟨l', h1, _⟩ := hk.it
   have := (List.getElem?_eq_some_iff.1 h1).1
   omega
  have hk0 := hk.app (.arr false 4 [encD d])
  have hlk := hk0.look d.s false
  have hq : (σ ++ [.arr false 4 [encD d]])[σ.length]? = some (.arr false 4 [encD d]) := by simp
  generalize hτ : σ ++ [HObj.arr false 4 [encD d]] = τ at hk0 hlk hq
  obtain ⟨k, hkk⟩ := twice_ans d.vs true hd.1
  have l0 := fun h' => lp29_1a (nl := nl) hl r (i + 1) h'
  rw [g6] at l0 ⊢
  unfold encD at g1 hq hτ
  unfold chkD
  cases hm : memK had (d.s, false) with
  | true =>
   rw [hm] at hlk
   simp only [Bool.true_or]
   refine ⟨.ret, ?_, τ, Lp.exit ⟨0, fun N hN => ?_⟩ (by simp), ?_⟩
   rotate_left
   ·simp -implicitDefEqProofs [b29_1a, g1, g2, g3, hlk, hq, hτ]
    rfl
   ·exact ⟨by simp, rfl, by simp, by simp⟩
  | false =>
   rw [hm] at hlk
   cases hr : dupS d.vs with
   | true =>
    rw [hr] at hkk
    simp only [Bool.or_true]
    refine ⟨.ret, ?_, τ, Lp.exit ⟨k, fun N hN => ?_⟩ (by simp), ?_⟩
    rotate_left
    ·have hkk := hkk N hN
     simp -implicitDefEqProofs [b29_1a, g1, g2, g3, hlk, hq, hτ, hkk]
     rfl
    ·exact ⟨by simp, rfl, by simp, by simp⟩
   | false =>
    rw [hr] at hkk
    simp only [Bool.or_false]
    obtain ⟨σ1, hu, hk1, hl1, hne⟩ := hk0.up d.s false
    have hq1 : σ1[σ.length]? = some (.arr false 4 [encD d]) := by rw [hne _ hs0]; exact hq
    obtain ⟨e1, fr1, σ2, m1, m2, m3, m4⟩ := lp29_0a (nl := nl) hl d hd σ.length hs0 (.sl 4 (encDs l)) (.int .i64 l.length) (.int .i64 i) d.cs 0 ((d.s, false) :: had) σ1 (Tail.all _) hd.2.2 hk1 hq1
    rw [g6] at m1
    obtain ⟨k2, hk2⟩ := m1.den
    unfold encD at hq1
    cases hcc : chkC l d.vs.length ((d.s, false) :: had) d.cs with
    | error a =>
     rw [hcc] at m4
     obtain ⟨rfl, m5, m6⟩ := m4
     refine ⟨.ret, fr1, σ2, Lp.exit ⟨k + k2, fun N hN => ?_⟩ (by simp), m2, rfl, m5, m6⟩
     have hkk := hkk N (by omega)
     have hk2 := hk2 N (by omega)
     simp only [Int.cast_ofNat_Int] at hk2
     simp -implicitDefEqProofs [b29_1a, g1, g2, g3, hlk, hq, hτ, hkk, hu, hq1, hk2]
    | ok had' =>
     rw [hcc] at m4
     obtain ⟨rfl, m5, m6, m7, m8, m9, m10, m11⟩ := m4
     obtain ⟨e, fr', σ', l1, l2, l3⟩ := l0 had' σ2 g4 (fun x hx => hc x (by simp [hx])) m5
     simp only
     refine ⟨e, fr', σ', Lp.step ⟨k + k2, fun N hN => ?_⟩ l1, l2, l3⟩
     have hkk := hkk N (by omega)
     have hk2 := hk2 N (by omega)
     simp only [g6] at m6
     simp only [Int.cast_ofNat_Int] at hk2
     simp -implicitDefEqProofs [b29_1a, g1, g2, g3, hlk, hq, hτ, hkk, hu, hq1, hk2, hw, m2, m6, m7, m8, m9, m10, m11]
theorem lp29_0b {l : List Da} {nl : Bool} (hl : l.length < big) (d : Da) (hd : okD d) (q : Nat) (hq0 : q ≠ 0) (X13 X14 X15 : AV) : ∀ (r : List Cn) (j : Nat) (had : List Key) (σ : H), Tail (encCs d.cs) j (encCs r) → (∀ c ∈ r, okC c) → KH had σ → σ[q]? = some (.arr false 4 [encD d]) →
  ∃ e fr' σ', Lp ctx [6] [1] [1, 4, 6, 13, 14, 15, 36, 37, 38] b29_0b ⟨[(1, .v (.adr (encR 4 nl (encDs l)))), (4, .v (.map 0)), (6, .v (.ptr q 1 0 0)), (13, .v X13), (14, .v X14), (15, .v X15), (36, .v (encR 3 true (encCs d.cs))), (37, .v (.int .i64 d.cs.length)), (38, .v (.int .i64 j))], false⟩ σ e fr' σ' ∧ fr'.lk = false ∧ σ'.length = σ.length ∧
   (match chkC l d.vs.length had r with
   | .error a => e = .ret ∧ getS fr'.sl 2 = .v (.int .i64 6) ∧ getS fr'.sl 3 = .v (.int .i64 a)
   | .ok had' => e = .ex 2 ∧ KH had' σ' ∧ getS fr'.sl 1 = .v (.adr (encR 4 nl (encDs l))) ∧ getS fr'.sl 4 = .v (.map 0) ∧ getS fr'.sl 13 = .v X13 ∧ getS fr'.sl 14 = .v X14 ∧ getS fr'.sl 15 = .v X15 ∧ getS fr'.sl 60 = .u)
 | [], j, had, σ, h, hc, hk, hq => by
  have h' := h.nil
  simp only [encCs_length] at h'
  refine ⟨.ex 2, ?_, σ, Lp.exit ⟨0, fun N _ => ?_⟩ (by simp), ?_⟩
  rotate_left
  ·simp -implicitDefEqProofs [b29_0b, h']
   rfl
  ·exact ⟨by simp, rfl, rfl, hk, by simp, by simp, by simp, by simp, by simp, by simp⟩
 | c :: r, j, had, σ, h, hc, hk, hq => by
  have hlen := h.len
  simp only [encCs_cons] at h
  obtain ⟨g1, g2, g3, g4, g5⟩ := h.cons
  simp only [encCs_length] at hlen g2 g3
  have hcl : d.cs.length < big := by have := hd.2.1; unfold lim at this; unfold big; omega
  have hw := wrap_succ (n := j) (by simp at hlen; omega)
  have g6 := g5 3 true
  have hck := hc c (by simp)
  unfold encC at g1
  have hlk := hk.look c.s true
  rw [g6]
  unfold chkC
  cases hm : memK had (c.s, true) with
  | true =>
   rw [hm] at hlk
   simp only [Bool.true_or]
   refine ⟨.ret, ?_, σ, Lp.exit ⟨0, fun N hN => ?_⟩ (by simp), ?_⟩
   rotate_left
   ·simp -implicitDefEqProofs [b29_0b, g1, g2, g3, hlk]
    rfl
   ·exact ⟨by simp, rfl, rfl, by simp, by simp⟩
  | false =>
   rw [hm] at hlk
   obtain ⟨k, hkk⟩ := has61 (nl := nl) hl d hd σ q hq c.as hck.2 hck.1
   cases hr : rightTs l d.vs.length c.as with
   | false =>
    rw [hr] at hkk
    simp only [Bool.not_false, Bool.or_true]
    refine ⟨.ret, ?_, σ, Lp.exit ⟨k, fun N hN => ?_⟩ (by simp), ?_⟩
    rotate_left
    ·have hkk := hkk N hN
     simp -implicitDefEqProofs [b29_0b, g1, g2, g3, hlk, hkk]
     rfl
    ·exact ⟨by simp, rfl, rfl, by simp, by simp⟩
   | true =>
    rw [hr] at hkk
    obtain ⟨σ1, hu, hk1, hl1, hne⟩ := hk.up c.s true
    obtain ⟨e, fr', σ', l1, l2, l3, l4⟩ := lp29_0b (nl := nl) hl d hd q hq0 X13 X14 X15 r (j + 1) ((c.s, true) :: had) σ1 g4 (fun x hx => hc x (by simp [hx])) hk1 (by rw [hne q hq0]; exact hq)
    rw [g6] at l1
    simp only [Bool.not_true, Bool.or_false]
    refine ⟨e, fr', σ', Lp.step ⟨k, fun N hN => ?_⟩ l1, l2, by rw [l3, hl1], l4⟩
    have hkk := hkk N hN
    simp -implicitDefEqProofs [b29_0b, g1, g2, g3, hlk, hkk, hu, hw]
theorem lp29_1b {l : List Da} {nl : Bool} (hl : l.length < big) : ∀ (r : List Da) (i : Nat) (had : List Key) (σ : H), Tail (encDs l) i (encDs r) → (∀ d ∈ r, okD d) → KH had σ → 
  ∃ e fr' σ', Lp ctx [6] [1] [1, 4, 13, 14, 15] b29_1b ⟨[(1, .v (.adr (encR 4 nl (encDs l)))), (4, .v (.map 0)), (13, .v (encR 4 nl (encDs l))), (14, .v (.int .i64 l.length)), (15, .v (.int .i64 i))], false⟩ σ e fr' σ' ∧ fr'.lk = false ∧
   (match chkD l had r with
   | some a => e = .ret ∧ getS fr'.sl 2 = .v (.int .i64 6) ∧ getS fr'.sl 3 = .v (.int .i64 a)
   | none => e = .ex 0 ∧ getS fr'.sl 2 = .u ∧ getS fr'.sl 3 = .u)
 | [], i, had, σ, h, hc, hk => by
  have h' := h.nil
  simp only [encDs_length] at h'
  refine ⟨.ex 0, ?_, σ, Lp.exit ⟨0, fun N _ => ?_⟩ (by simp), ?_⟩
  rotate_left
  ·simp -implicitDefEqProofs [b29_1b, h']
   rfl
  ·exact ⟨by simp, rfl, by simp, by simp⟩
 | d :: r, i, had, σ, h, hc, hk => by
  have hlen := h.len
  simp only [encDs_cons] at h
  obtain ⟨g1, g2, g3, g4, g5⟩ := h.cons
  simp only [encDs_length] at hlen g2 g3
  have hw := wrap_succ (n := i) (by simp at hlen; omega)
  have g6 := g5 4 nl
  have hd := hc d (by simp)
  have hs0 : σ.length ≠ 0 := by
   obtain ⟨l', h1, _⟩ := hk.it
   have := (List.getElem?_eq_some_iff.1 h1).1
   omega
  have hk0 := hk.app (.arr false 4 [encD d])
  have hlk := hk0.look d.s false
  have hq : (σ ++ [.arr false 4 [encD d]])[σ.length]? = some (.arr false 4 [encD d]) := by simp
  generalize hτ : σ ++ [HObj.arr false 4 [encD d]] = τ at hk0 hlk hq
  obtain ⟨k, hkk⟩ := twice_ans d.vs true hd.1
  have l0 := fun h' => lp29_1b (nl := nl) hl r (i + 1) h'
  rw [g6] at l0 ⊢
  unfold encD at g1 hq hτ
  unfold chkD
  cases hm : memK had (d.s, false) with
  | true =>
   rw [hm] at hlk
   simp only [Bool.true_or]
   refine ⟨.ret, ?_, τ, Lp.exit ⟨0, fun N hN => ?_⟩ (by simp), ?_⟩
   rotate_left
   ·simp -implicitDefEqProofs [b29_1b, g1, g2, g3, hlk, hq, hτ]
    rfl
   ·exact ⟨by simp, rfl, by simp, by simp⟩
  | false =>
   rw [hm] at hlk
   cases hr : dupS d.vs with
   | true =>
    rw [hr] at hkk
    simp only [Bool.or_true]
    refine ⟨.ret, ?_, τ, Lp.exit ⟨k, fun N hN => ?_⟩ (by simp), ?_⟩
    rotate_left
    ·have hkk := hkk N hN
     simp -implicitDefEqProofs [b29_1b, g1, g2, g3, hlk, hq, hτ, hkk]
     rfl
    ·exact ⟨by simp, rfl, by simp, by simp⟩
   | false =>
    rw [hr] at hkk
    simp only [Bool.or_false]
    obtain ⟨σ1, hu, hk1, hl1, hne⟩ := hk0.up d.s false
    have hq1 : σ1[σ.length]? = some (.arr false 4 [encD d]) := by rw [hne _ hs0]; exact hq
    obtain ⟨e1, fr1, σ2, m1, m2, m3, m4⟩ := lp29_0b (nl := nl) hl d hd σ.length hs0 (.sl 4 (encDs l)) (.int .i64 l.length) (.int .i64 i) d.cs 0 ((d.s, false) :: had) σ1 (Tail.all _) hd.2.2 hk1 hq1
    rw [g6] at m1
    obtain ⟨k2, hk2⟩ := m1.den
    unfold encD at hq1
    cases hcc : chkC l d.vs.length ((d.s, false) :: had) d.cs with
    | error a =>
     rw [hcc] at m4
     obtain ⟨rfl, m5, m6⟩ := m4
     refine ⟨.ret, fr1, σ2, Lp.exit ⟨k + k2, fun N hN => ?_⟩ (by simp), m2, rfl, m5, m6⟩
     have hkk := hkk N (by omega)
     have hk2 := hk2 N (by omega)
     simp only [Int.cast_ofNat_Int] at hk2
     simp -implicitDefEqProofs [b29_1b, g1, g2, g3, hlk, hq, hτ, hkk, hu, hq1, hk2]
    | ok had' =>
     rw [hcc] at m4
     obtain ⟨rfl, m5, m6, m7, m8, m9, m10, m11⟩ := m4
     obtain ⟨e, fr', σ', l1, l2, l3⟩ := l0 had' σ2 g4 (fun x hx => hc x (by simp [hx])) m5
     simp only
     refine ⟨e, fr', σ', Lp.step ⟨k + k2, fun N hN => ?_⟩ l1, l2, l3⟩
     have hkk := hkk N (by omega)
     have hk2 := hk2 N (by omega)
     simp only [g6] at m6
     simp only [Int.cast_ofNat_Int] at hk2
     simp -implicitDefEqProofs [b29_1b, g1, g2, g3, hlk, hq, hτ, hkk, hu, hq1, hk2, hw, m2, m6, m7, m8, m9, m10, m11]
def chkI : Option Nat → Int × Int
 | some a => (6, (a : Int))
 | none => (0, 0)
theorem run29a (l : List Da) (nl : Bool) (hl : l.length < big) (hd : ∀ d ∈ l, okD d) : ∃ σ', ∃ k, ∀ N, k ≤ N → runFn ctx (acall ctx N) N j29a [encR 4 nl (encDs l)] [] = some (.tup [.int .i64 (chkI (checkData l)).1, .int .i64 (chkI (checkData l)).2], σ') := by
 have hu1 : updateA ctx 115 (.map 0) (.agg [.str [73, 110, 116], .bool false]) (.bool true) [.map []] = some ((), [.map (T115.enc [(([73, 110, 116], false), true)])]) := T115.up (σ := [.map []]) (l := []) rfl ([73, 110, 116], false) true
 have hu2 : updateA ctx 115 (.map 0) (.agg [.str [66, 111, 111, 108], .bool false]) (.bool true) [.map (T115.enc [(([73, 110, 116], false), true)])] = some ((), [.map (T115.enc [(([73, 110, 116], false), true), (([66, 111, 111, 108], false), true)])]) := T115.up (σ := [.map (T115.enc [(([73, 110, 116], false), true)])]) (l := [(([73, 110, 116], false), true)]) rfl ([66, 111, 111, 108], false) true
 have hk : KH [(sInt, false), (sBool, false)] [.map (T115.enc [(([73, 110, 116], false), true), (([66, 111, 111, 108], false), true)])] := ⟨⟨_, rfl, fun k => by
  simp only [memK, List.any_cons, List.any_nil, eqK_iff, getT_cons, getT_nil, Bool.or_false, sInt, sBool]
  split
  ·rename_i h; simp [h]
  ·rename_i h
   split
   ·rename_i h'; simp [h']
   ·rename_i h'; simp [h, h']⟩⟩
 generalize T115.enc [(([73, 110, 116], false), true), (([66, 111, 111, 108], false), true)] = M2 at hu2 hk
 generalize T115.enc [(([73, 110, 116], false), true)] = M1 at hu1 hu2
 obtain ⟨e, fr', σ', l1, l2, l3⟩ := lp29_1a (nl := nl) hl l 0 _ _ (Tail.all _) hd hk
 obtain ⟨k, hk⟩ := l1.den
 refine ⟨σ', k, fun N hN => ?_⟩
 have hk := hk N hN
 simp only [Int.cast_ofNat_Int] at hk
 unfold checkData
 cases hc : chkD l [(sInt, false), (sBool, false)] l with
 | some a =>
  rw [hc] at l3
  obtain ⟨rfl, l4, l5⟩ := l3
  simp -implicitDefEqProofs [j29a, c29z, c29a, hu1, hu2, hk, l2, l4, l5, chkI]
 | none =>
  rw [hc] at l3
  obtain ⟨rfl, l4, l5⟩ := l3
  simp -implicitDefEqProofs [j29a, c29z, c29a, hu1, hu2, hk, l2, l4, l5, chkI]
theorem run29b (l : List Da) (nl : Bool) (hl : l.length < big) (hd : ∀ d ∈ l, okD d) : ∃ σ', ∃ k, ∀ N, k ≤ N → runFn ctx (acall ctx N) N j29b [encR 4 nl (encDs l)] [] = some (.tup [.int .i64 (chkI (checkData l)).1, .int .i64 (chkI (checkData l)).2], σ') := by
 have hu1 : updateA ctx 115 (.map 0) (.agg [.str [66, 111, 111, 108], .bool false]) (.bool true) [.map []] = some ((), [.map (T115.enc [(([66, 111, 111, 108], false), true)])]) := T115.up (σ := [.map []]) (l := []) rfl ([66, 111, 111, 108], false) true
 have hu2 : updateA ctx 115 (.map 0) (.agg [.str [73, 110, 116], .bool false]) (.bool true) [.map (T115.enc [(([66, 111, 111, 108], false), true)])] = some ((), [.map (T115.enc [(([66, 111, 111, 108], false), true), (([73, 110, 116], false), true)])]) := T115.up (σ := [.map (T115.enc [(([66, 111, 111, 108], false), true)])]) (l := [(([66, 111, 111, 108], false), true)]) rfl ([73, 110, 116], false) true
 have hk : KH [(sInt, false), (sBool, false)] [.map (T115.enc [(([66, 111, 111, 108], false), true), (([73, 110, 116], false), true)])] := ⟨⟨_, rfl, fun k => by
  simp only [memK, List.any_cons, List.any_nil, eqK_iff, getT_cons, getT_nil, Bool.or_false, sInt, sBool]
  split
  ·rename_i h; simp [h]
  ·rename_i h
   split
   ·rename_i h'; simp [h']
   ·rename_i h'; simp [h, h']⟩⟩
 generalize T115.enc [(([66, 111, 111, 108], false), true), (([73, 110, 116], false), true)] = M2 at hu2 hk
 generalize T115.enc [(([66, 111, 111, 108], false), true)] = M1 at hu1 hu2
 obtain ⟨e, fr', σ', l1, l2, l3⟩ := lp29_1b (nl := nl) hl l 0 _ _ (Tail.all _) hd hk
 obtain ⟨k, hk⟩ := l1.den
 refine ⟨σ', k, fun N hN => ?_⟩
 have hk := hk N hN
 simp only [Int.cast_ofNat_Int] at hk
 unfold checkData
 cases hc : chkD l [(sInt, false), (sBool, false)] l with
 | some a =>
  rw [hc] at l3
  obtain ⟨rfl, l4, l5⟩ := l3
  simp -implicitDefEqProofs [j29b, c29z, c29b, hu1, hu2, hk, l2, l4, l5, chkI]
 | none =>
  rw [hc] at l3
  obtain ⟨rfl, l4, l5⟩ := l3
  simp -implicitDefEqProofs [j29b, c29z, c29b, hu1, hu2, hk, l2, l4, l5, chkI]
theorem check_ans (l : List Da) (nl : Bool) (hl : l.length < big) (hd : ∀ d ∈ l, okD d) : Ans ctx 29 [encR 4 nl (encDs l)] (.tup [.int .i64 (chkI (checkData l)).1, .int .i64 (chkI (checkData l)).2]) := by
 obtain ⟨σ1, h1⟩ := run29a l nl hl hd
 obtain ⟨σ2, h2⟩ := run29b l nl hl hd
 exact Ans.two fn29_ al29_ (by simp) (by simp) (by simp [AV.scalars]) h1 h2
theorem num_ans (n : Int) : Ans ctx 30 [.int .i64 n] (.int .i64 n) := by
 refine Ans.of (σ' := []) fn30_ (by simp) (by simp) ⟨0, fun N hN => ?_⟩
 simp -implicitDefEqProofs [i30, c30]
theorem idx_at {i n : Nat} (h : i < n) : idxN (i : Int) n = some i := by unfold idxN; rw [if_pos (by omega)]; simp
end Go.Am.Try
