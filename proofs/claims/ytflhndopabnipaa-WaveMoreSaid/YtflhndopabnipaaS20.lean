/- SccMore. -/
import Derived.Test.YtflhndopabnipaaS19
set_option linter.unusedVariables false
set_option linter.unusedSimpArgs false
set_option maxRecDepth 100000
namespace Go.Am.Try
open Go Go.Am.Sc
theorem frz_at : ∀ (ns : List Nat) {σ : H} {j sz : Nat} {fz : Bool} {xs : List AV}, σ[j]? = some (.arr fz sz xs) → ∃ fz', (frzH σ ns)[j]? = some (.arr fz' sz xs)
  | [], _, _, _, _, _, h => ⟨_, h⟩
  | r :: ns, σ, j, sz, fz, xs, h => by
    rw [frzH]
    by_cases e : r = j
    · subst e
      rw [h]
      exact frz_at ns (fz := true) (by
        show (σ.set r (.arr true sz xs))[r]? = _
        rw [List.getElem?_set_self (List.getElem?_eq_some_iff.1 h).1])
    · refine frz_at ns (fz := fz) ?_
      split
      · rw [List.getElem?_set_ne e]; exact h
      · exact h
theorem mapO2_get {f : AV → Option (AV × List Nat)} : ∀ (cs vs : List AV), cs.length = vs.length → (∀ (i : Nat) v, vs[i]? = some v → ∃ c ns, cs[i]? = some c ∧ f c = some (v, ns)) → ∃ ns, mapO2 f cs = some (vs, ns)
  | [], [], _, _ => ⟨[], rfl⟩
  | [], _ :: _, h, _ => by simp at h
  | _ :: _, [], h, _ => by simp at h
  | c :: cs, v :: vs, h, k => by
    obtain ⟨c', n1, e1, e2⟩ := k 0 v rfl
    simp at e1
    subst e1
    obtain ⟨n2, e3⟩ := mapO2_get (f := f) cs vs (by simpa using h) fun i w hw => by
      obtain ⟨c', n, a, b⟩ := k (i + 1) w (by simpa using hw)
      exact ⟨c', n, by simpa using a, b⟩
    exact ⟨n1 ++ n2, by simp only [mapO2, e2, e3]⟩
theorem snap_any {σ : H} {r m : Nat} {fz : Bool} {cells V : List AV} (n : Nat) (hc : σ[r]? = some (.arr fz 1 cells)) (hm : cells.length = m) (hV : cells.length = V.length) (h : ∀ (i : Nat) v, V[i]? = some v → ∃ c ns, cells[i]? = some c ∧ snapA σ (n + 1) c = some (v, ns)) : ∃ ns, snapA σ (n + 2) (.hs r m 0 m 1) = some (.sl 1 V, ns) := by
  obtain ⟨ns, e⟩ := mapO2_get cells V hV h
  refine ⟨r :: ns, ?_⟩
  unfold snapA
  rw [if_neg (by simp)]
  have ht : cells.take m = cells := List.take_of_length_le (by omega)
  simp [arrAt, hc, hm, ht, e]
theorem tab_lay {f : Nat} {fi : FnI} {σ : H} {q k : Nat} {V : List AV} {r : AV} (hf : ctx.fn f = some fi) (hsn : ∃ ns, snapA σ 200 (.hs q k 0 k 1) = some (.sl 1 V, ns)) (hV : AV.noRefs V = true) (h : Ans ctx f [.sl 1 V] r) (hr : r.scalars = false) : ∃ ns, AnsH ctx f [.hs q k 0 k 1] σ r (frzH σ ns) := by
  obtain ⟨ns, hsn⟩ := hsn
  have hl : snapL σ [.hs q k 0 k 1] = some ([.sl 1 V], ns ++ []) := by
    unfold snapL mapO2
    rw [hsn]
    rfl
  have := AnsH.lay hf (by simp [AV.noRefs, AV.noRef]) hl (by simp [AV.noRefs, AV.noRef, hV]) h
  rw [hr] at this
  exact ⟨_, this⟩
/-! ### in plain Lean -/
def dbl (Gr : List (List Nat)) (k : Nat) (more : List Int) : List (Bool × List Int) := (List.range Gr.length).map fun j => (false, ((Gr.getD j [] ++ Gr.getD j []).map fun (n : Nat) => (n : Int)) ++ if j = k then more else [])
theorem dbl_get (Gr : List (List Nat)) (k : Nat) (more : List Int) {j : Nat} {l : List Nat} (h : Gr[j]? = some l) : (dbl Gr k more)[j]? = some (false, ((l ++ l).map fun (n : Nat) => (n : Int)) ++ if j = k then more else []) := by
  unfold dbl
  rw [List.getElem?_map, List.getElem?_range (List.getElem?_eq_some_iff.1 h).1]
  have : Gr.getD j [] = l := by rw [List.getD_eq_getElem?_getD, h]; rfl
  simp only [Option.map_some, this]
theorem dbl_len (Gr : List (List Nat)) (k : Nat) (more : List Int) : (dbl Gr k more).length = Gr.length := by simp [dbl]
theorem toI_get {Gr : List (List Nat)} {j : Nat} {l : List Nat} (h : Gr[j]? = some l) : (toI Gr)[j]? = some (true, l.map fun (n : Nat) => (n : Int)) := by
  unfold toI
  rw [List.getElem?_map, h]; rfl
theorem toI_ed {Gr : List (List Nat)} {K c : Nat} (hG : OkT K c Gr) {x y : Nat} (hx : x < K) : Ed (outG (toI Gr)) x y ↔ y ∈ Gr.getD x [] := by
  obtain ⟨l, hl⟩ : ∃ l, Gr[x]? = some l := ⟨_, List.getElem?_eq_getElem (by rw [hG.1]; exact hx)⟩
  have e : Gr.getD x [] = l := by rw [List.getD_eq_getElem?_getD, hl]; rfl
  unfold Ed
  rw [outs_at (toI_get hl), cl_mem, e, toI_length, hG.1]
  constructor
  · rintro ⟨h1, h2⟩
    obtain ⟨n, hn, e⟩ := List.mem_map.1 h2
    have : n = y := by omega
    rw [← this]; exact hn
  · intro h
    exact ⟨(hG.2 l (List.mem_of_getElem? hl)).2 y h, List.mem_map.2 ⟨y, h, rfl⟩⟩
theorem dbl_ed {Gr : List (List Nat)} {K c : Nat} (hG : OkT K c Gr) {x y k : Nat} (hx : x < K) (hk : k < K) : Ed (outG (dbl Gr k [(k : Int), -1, (K : Int)])) x y ↔ y ∈ Gr.getD x [] ∨ (x = k ∧ y = k) := by
  obtain ⟨l, hl⟩ : ∃ l, Gr[x]? = some l := ⟨_, List.getElem?_eq_getElem (by rw [hG.1]; exact hx)⟩
  have e : Gr.getD x [] = l := by rw [List.getD_eq_getElem?_getD, hl]; rfl
  unfold Ed
  rw [outs_at (dbl_get Gr k _ hl), cl_mem, e, dbl_len, hG.1, List.mem_append]
  constructor
  · rintro ⟨h1, h2 | h2⟩
    · obtain ⟨n, hn, e⟩ := List.mem_map.1 h2
      have : n = y := by omega
      left
      rw [← this]
      rcases List.mem_append.1 hn with h | h <;> exact h
    · by_cases hxk : x = k
      · rw [if_pos hxk] at h2
        simp at h2
        right
        exact ⟨hxk, by omega⟩
      · rw [if_neg hxk] at h2
        cases h2
  · rintro (h | ⟨rfl, rfl⟩)
    · exact ⟨(hG.2 l (List.mem_of_getElem? hl)).2 y h, .inl (List.mem_map.2 ⟨y, by simp [h], rfl⟩)⟩
    · exact ⟨hk, .inr (by simp)⟩
theorem rch_self {E F : Nat → Nat → Prop} {n k : Nat} (hE : ∀ a b, a < n → (F a b ↔ E a b ∨ (a = k ∧ b = k))) (hlt : ∀ a b, a < n → E a b → b < n) (hk : k < n) {a b : Nat} (ha : a < n) : Rch F a b ↔ Rch E a b := by
  constructor
  · intro h
    have : Rch E a b ∧ b < n := by
      induction h with
      | refl => exact ⟨.refl _, ha⟩
      | @step x y _ e ih =>
        rcases (hE x y ih.2).1 e with h1 | ⟨h1, h2⟩
        · exact ⟨ih.1.step h1, hlt x y ih.2 h1⟩
        · subst h1
          subst h2
          exact ih
    exact this.1
  · intro h
    have : Rch F a b ∧ b < n := by
      induction h with
      | refl => exact ⟨.refl _, ha⟩
      | @step x y _ e ih => exact ⟨ih.1.step ((hE x y ih.2).2 (.inl e)), hlt x y ih.2 e⟩
    exact this.1
theorem rch_turn {E F : Nat → Nat → Prop} {n : Nat} (hE : ∀ a b, a < n → b < n → (F a b ↔ E b a)) (hlt : ∀ a b, a < n → E a b → b < n) (hlt' : ∀ a b, a < n → F a b → b < n) {a b : Nat} (ha : a < n) (hb : b < n) : Rch F a b ↔ Rch E b a := by
  have key : ∀ {E F : Nat → Nat → Prop}, (∀ a b, a < n → b < n → (F a b ↔ E b a)) → (∀ a b, a < n → F a b → b < n) → ∀ {a b : Nat}, a < n → Rch F a b → Rch E b a ∧ b < n := by
    intro E F hE hlt a b ha h
    induction h with
    | refl => exact ⟨.refl _, ha⟩
    | @step x y _ e ih =>
      have hy := hlt x y ih.2 e
      exact ⟨(Rch.one ((hE x y ih.2 hy).1 e)).trans ih.1, hy⟩
  exact ⟨fun h => (key hE hlt' ha h).1, fun h => (key (fun a b h1 h2 => (hE b a h2 h1).symm) hlt hb h).1⟩
theorem backN_len (Gr : List (List Nat)) : ∀ (f i : Nat) (B : List (List Nat)), (backN Gr f i B).length = B.length
  | 0, _, _ => rfl
  | f + 1, i, B => by rw [backN, backN_len, back1_len]
theorem backN_mem {Gr : List (List Nat)} {K c : Nat} (hG : OkT K c Gr) : ∀ (f i : Nat) (B : List (List Nat)) (y x : Nat), i + f = K → B.length = K → (x ∈ (backN Gr f i B).getD y [] ↔ x ∈ B.getD y [] ∨ (i ≤ x ∧ x < K ∧ y ∈ Gr.getD x []))
  | 0, i, B, y, x, hi, hB => by
    simp only [backN]
    constructor
    · exact .inl
    · rintro (h | h)
      · exact h
      · omega
  | f + 1, i, B, y, x, hi, hB => by
    obtain ⟨l, hl⟩ : ∃ l, Gr[i]? = some l := ⟨_, List.getElem?_eq_getElem (by rw [hG.1]; omega)⟩
    have e : Gr.getD i [] = l := by rw [List.getD_eq_getElem?_getD, hl]; rfl
    rw [backN, backN_mem hG f (i + 1) _ y x (by omega) (by rw [back1_len]; exact hB), back1_mem i _ B y x (fun z hz => by
      rw [e] at hz
      rw [hB]
      exact (hG.2 l (List.mem_of_getElem? hl)).2 z hz)]
    constructor
    · rintro ((h | ⟨rfl, h⟩) | h)
      · exact .inl h
      · exact .inr ⟨Nat.le_refl _, by omega, h⟩
      · exact .inr ⟨by omega, h.2⟩
    · rintro (h | ⟨h1, h2, h3⟩)
      · exact .inl (.inl h)
      · by_cases e : x = i
        · subst e
          exact .inl (.inr ⟨rfl, h3⟩)
        · exact .inr ⟨by omega, h2, h3⟩
end Go.Am.Try
