/- The reference: Groups, whole. -/
import Derived.Test.YtflhndopabnipaaS6
set_option linter.unusedVariables false
set_option linter.unusedSimpArgs false
set_option maxRecDepth 100000
namespace Go.Am.Try
open Go Go.Am.Sc
structure OutAt (σ : H) (p qo : Nat) (cells : List AV) (L : List (List Nat)) : Prop where
  len : cells.length = L.length
  row : RowAt σ qo 1 cells
  pos : cells ≠ [] → p < qo ∧ qo < σ.length
  at' : ∀ (i : Nat) l, L[i]? = some l → ∃ q, cells[i]? = some (rowV q l.length 1) ∧ RowAt σ q 1 (encNs l) ∧ (l ≠ [] → p < q ∧ q < σ.length ∧ q ≠ qo)
@[simp] theorem rowV_fits (q n : Nat) (ti : TI) : (rowV q n 1).fits ti = (!ti.k.isAgg && ti.size == 1) := by cases n <;> rfl
theorem OutAt.push {σ : H} {p qo : Nat} {cells : List AV} {L : List (List Nat)} (h : OutAt σ p qo cells L) {q : Nat} {l : List Nat} (hr : RowAt σ q 1 (encNs l)) (hq : l ≠ [] → p < q ∧ q < σ.length ∧ (cells ≠ [] → q ≠ qo)) (hp : p < σ.length) (hb : L.length ≤ 2 ^ 30) :
    ∃ qo' σ', appendH tiR (rowV qo L.length 1) [rowV q l.length 1] σ = some (rowV qo' (L.length + 1) 1, σ') ∧ OutAt σ' p qo' (cells ++ [rowV q l.length 1]) (L ++ [l]) ∧ (∀ j, j ≤ p → σ'[j]? = σ[j]?) ∧ σ.length ≤ σ'.length := by
  have hl := h.len
  obtain ⟨qo', σ', p1, p2, p3, p4, p5⟩ := app_raw2 tiR (y := rowV q l.length 1) h.row (by simp [tiR, TK.isAgg]) (by simp [tiR]; omega) (by omega)
  rw [hl] at p1
  have keep : ∀ j, j < σ.length → (cells ≠ [] → j ≠ qo) → σ'[j]? = σ[j]? := fun j hj hn => by
    have := List.getElem?_eq_getElem hj
    rw [this]
    exact p4 j _ this hn
  have hpo : p < qo' := Nat.lt_of_not_le fun hle => p5 qo' (by omega) (fun hx e => by have := (h.pos hx).1; omega) rfl
  refine ⟨qo', σ', p1, ⟨by simp [hl], fun _ => p2, fun _ => ⟨hpo, (List.getElem?_eq_some_iff.1 p2).1⟩, fun i l' hi => ?_⟩, fun j hj => keep j (by omega) (fun hx e => by have := (h.pos hx).1; omega), p3⟩
  by_cases hil : i < L.length
  · rw [List.getElem?_append_left hil] at hi
    obtain ⟨q1, c1, c2, c3⟩ := h.at' i l' hi
    refine ⟨q1, by rw [List.getElem?_append_left (by omega)]; exact c1, fun hx => ?_, fun hne => ?_⟩
    · obtain ⟨k1, k2, k3⟩ := c3 (fun e => hx (by rw [e]; rfl))
      rw [keep q1 k2 (fun _ => k3)]
      exact c2 hx
    · obtain ⟨k1, k2, k3⟩ := c3 hne
      exact ⟨k1, by omega, p5 q1 k2 (fun _ => k3)⟩
  · have e : i = L.length := by
      have := (List.getElem?_eq_some_iff.1 hi).1
      simp at this; omega
    subst e
    simp at hi
    subst hi
    refine ⟨q, by rw [← hl]; simp, fun hx => ?_, fun hne => ?_⟩
    · obtain ⟨k1, k2, k3⟩ := hq (fun e => hx (by rw [e]; rfl))
      rw [keep q k2 k3]
      exact hr hx
    · obtain ⟨k1, k2, k3⟩ := hq hne
      exact ⟨k1, by omega, p5 q k2 k3⟩
theorem OutAt.keep {σ σ' : H} {p qo B : Nat} {cells : List AV} {L : List (List Nat)} (h : OutAt σ p qo cells L) (hB : σ.length = B) (hk : ∀ j, j < B → j ≠ p → σ'[j]? = σ[j]?) (hl : σ.length ≤ σ'.length) : OutAt σ' p qo cells L := by
  refine ⟨h.len, fun hx => ?_, fun hx => ⟨(h.pos hx).1, by have := (h.pos hx).2; omega⟩, fun i l hi => ?_⟩
  · obtain ⟨k1, k2⟩ := h.pos hx
    rw [hk qo (by omega) (by omega)]
    exact h.row hx
  · obtain ⟨q, c1, c2, c3⟩ := h.at' i l hi
    refine ⟨q, c1, fun hx => ?_, fun hne => ?_⟩
    · obtain ⟨k1, k2, k3⟩ := c3 (fun e => hx (by rw [e]; rfl))
      rw [hk q (by omega) (by omega)]
      exact c2 hx
    · obtain ⟨k1, k2, k3⟩ := c3 hne
      exact ⟨k1, by omega, k3⟩
theorem OutAt.snap {σ : H} {p qo : Nat} {cells : List AV} {L : List (List Nat)} (h : OutAt σ p qo cells L) (n : Nat) : ∃ ns, snapA σ (n + 2) (rowV qo L.length 1) = some (encR 1 true (encU L), ns) := by
  cases hL : L with
  | nil => exact ⟨[], by simp only [List.length_nil, rowV]; exact snapA_noRef rfl⟩
  | cons l L' =>
    have hne : cells ≠ [] := fun e => by
      have := h.len
      rw [e, hL] at this; simp at this
    obtain ⟨ns, w⟩ := snap_table n (h.row hne) rfl h.len (fun i l hi => by
      obtain ⟨q, c1, c2, _⟩ := h.at' i l hi
      exact ⟨q, c1, c2⟩)
    rw [h.len, hL] at w
    refine ⟨ns, ?_⟩
    simp only [List.length_cons, rowV] at w ⊢
    rw [w]
    simp [encU]
set_option maxHeartbeats 1000000 in
theorem lp19_2 (g : List (Bool × List Int)) (ng : Bool) (hg : g.length ≤ 2 ^ 30) (m : List (List Bool)) (hm : m.length = g.length) (hml : ∀ x, x < g.length → (m.getD x []).length = g.length) (q0 p : Nat) (hq0 : q0 < p) : ∀ (f i : Nat) (ins : List Bool) (L : List (List Nat)) (qo : Nat) (cells : List AV) (σ : H), i + f = g.length → L.length ≤ i → ins.length = g.length → σ[q0]? = some (.arr false 1 (encM m)) → σ[p]? = some (.arr false 1 (encBo ins)) → OutAt σ p qo cells L →
    ∃ fr' qo' cells' σ', Lp ctx [21, 24, 61, 68] [] [0, 3, 5, 6, 7] b19_2 ⟨[(0, .v (encR 1 ng (encG g))), (3, .v (.hs q0 g.length 0 g.length 1)), (5, .v (rowV qo L.length 1)), (6, .v (.hs p g.length 0 g.length 1)), (7, .v (.int .i64 i))], false⟩ σ (.ex 2) fr' σ' ∧
      OutAt σ' p qo' cells' (L ++ grps m f i ins) ∧ fr'.lk = false ∧ getS fr'.sl 5 = .v (rowV qo' (L ++ grps m f i ins).length 1) ∧ getS fr'.sl 2 = .u ∧ getS fr'.sl 69 = .u
  | 0, i, ins, L, qo, cells, σ, hi, hL, hins, h0, hp, hO => by
    simp only [Nat.add_zero] at hi
    subst hi
    refine ⟨?_, qo, cells, σ, Lp.exit ⟨0, fun N _ => ?_⟩ (by simp), ?_⟩
    rotate_left
    · simp -implicitDefEqProofs [b19_2]
      rfl
    · exact ⟨by simpa [grps] using hO, by simp, by simp [grps], by simp, by simp⟩
  | f + 1, i, ins, L, qo, cells, σ, hi, hL, hins, h0, hp, hO => by
    have hil : i < g.length := by omega
    have hlt : (i : Int) < (g.length : Int) := by omega
    have hw := wrap_succ (n := i) (by unfold big; omega)
    have ii := idx_at hil
    have e5 := encBo_get (l := ins) (i := i) (by omega)
    have hinb : (encBo ins).length = g.length := by simp [hins]
    have hpl : p < σ.length := (List.getElem?_eq_some_iff.1 hp).1
    cases hb : ins.getD i false with
    | true =>
      rw [hb] at e5
      have eg : grps m (f + 1) i ins = grps m f (i + 1) ins := by rw [grps, if_pos hb]
      rw [eg]
      obtain ⟨fr', qo', cells', σ', l1, l2⟩ := lp19_2 g ng hg m hm hml q0 p hq0 f (i + 1) ins L qo cells σ (by omega) (by omega) hins h0 hp hO
      refine ⟨fr', qo', cells', σ', Lp.step ⟨0, fun N hN => ?_⟩ l1, l2⟩
      clear l1 l2
      simp -implicitDefEqProofs [b19_2, hlt, hw, ii, hp, e5, hinb]
    | false =>
      rw [hb] at e5
      have eg : grps m (f + 1) i ins = mates m i (f + 1) i :: grps m f (i + 1) (ons ins (mates m i (f + 1) i)) := by rw [grps, if_neg (by rw [hb]; simp)]
      obtain ⟨fr1, ql, σ1, a1, a2, a3, a4, a5, a6, a7, a8, a9, a10, a11, a12, a13, a14, a15, a16, a17⟩ := lp19_1 g ng hg m hm hml q0 p hq0 (rowV qo L.length 1) i hil σ.length hpl (f + 1) i [] 0 ins σ hi (by simp) hins h0 hp (fun h => absurd rfl h) (fun h => absurd rfl h) (Nat.le_refl _)
      obtain ⟨k1, hk1⟩ := a1.den
      rw [List.nil_append] at a4 a5 a14
      have hO1 := hO.keep rfl a6 a7
      obtain ⟨qo1, σ2, p1, p2, p3, p4⟩ := hO1.push a4 (fun hne => ⟨by have := a5 hne; omega, (List.getElem?_eq_some_iff.1 (a4 (fun e => hne (by
          have := congrArg List.length e
          simpa using this)))).1, fun hx e => by
        have h1 := a5 hne
        have h2 := (hO.pos hx).2
        omega⟩) (by omega) (by omega)
      unfold tiR at p1
      obtain ⟨fr', qo', cells', σ', l1, l2⟩ := lp19_2 g ng hg m hm hml q0 p hq0 f (i + 1) (ons ins (mates m i (f + 1) i)) (L ++ [mates m i (f + 1) i]) qo1 _ σ2 (by omega) (by simp; omega) (by rw [ons_len]; exact hins) (by rw [p3 q0 (by omega)]; exact a2) (by rw [p3 p (Nat.le_refl _)]; exact a3) p2
      rw [eg]
      have ea : L ++ mates m i (f + 1) i :: grps m f (i + 1) (ons ins (mates m i (f + 1) i)) = L ++ [mates m i (f + 1) i] ++ grps m f (i + 1) (ons ins (mates m i (f + 1) i)) := by simp
      rw [ea]
      refine ⟨fr', qo', cells', σ', Lp.step ⟨k1, fun N hN => ?_⟩ l1, l2⟩
      have hk1 := hk1 N hN
      have e0 : rowV 0 0 1 = AV.nil := rfl
      simp only [List.length_nil, e0] at hk1
      have j65 := a17 65 (by omega) (by omega)
      have j66 := a17 66 (by omega) (by omega)
      have j67 := a17 67 (by omega) (by omega)
      have j68 := a17 68 (by omega) (by omega)
      simp only [List.length_append, List.length_singleton]
      clear l1 l2 a1
      simp -implicitDefEqProofs [b19_2, hlt, hw, ii, hp, e5, hinb, hk1, a8, a9, a10, a11, a12, a13, a14, a15, a16, j65, j66, j67, j68, p1, -appendH]
theorem lp19_2z (ng : Bool) (p : Nat) (σ : H) : ∃ fr', Lp ctx [21, 24, 61, 68] [] [0, 3, 5, 6, 7] b19_2 ⟨[(0, .v (encR 1 ng [])), (3, .v .nil), (5, .v .nil), (6, .v (.hs p 0 0 0 1)), (7, .v (.int .i64 0))], false⟩ σ (.ex 2) fr' σ ∧
      fr'.lk = false ∧ getS fr'.sl 5 = .v .nil ∧ getS fr'.sl 2 = .u ∧ getS fr'.sl 69 = .u := by
  refine ⟨?_, Lp.exit ⟨0, fun N _ => ?_⟩ (by simp), ?_⟩
  rotate_left
  · simp -implicitDefEqProofs [b19_2]
    rfl
  · exact ⟨by simp, by simp, by simp, by simp⟩
set_option maxHeartbeats 1000000 in
theorem groups_ans (g : List (Bool × List Int)) (ng : Bool) (hg : g.length ≤ 2 ^ 30) (hr : ∀ q ∈ g, q.2.length < big) : ∃ L, Grp g.length (Rch (Ed (outG g))) L ∧ (L.Pairwise fun l l' => Sc.hd l < Sc.hd l') ∧ Ans ctx 19 [encR 1 ng (encG g)] (encR 1 true (encU L)) := by
  obtain ⟨fr1, q1, m, σ1, a1, a2, a3, a4, a5, a6, a7, a8, a9, a10⟩ := lp19_0 g ng hg hr g.length 0 [] 0 [] (by omega) rfl (fun h => absurd rfl h) (fun x hx => by omega)
  obtain ⟨k1, hk1⟩ := a1.den
  have hat : ∀ a b, a < g.length → b < g.length → (at2 m a b = true ↔ Rch (Ed (outG g)) a b) := fun a b ha _ => (a4 a ha).2 b
  have hlt : ∀ a b, a < g.length → Rch (Ed (outG g)) a b → b < g.length := fun a b ha h => by
    refine h.inv (p := fun x => x < g.length) (fun x y _ e => ?_) ha
    have := ed_ok g x y e
    rw [outG_len] at this; exact this
  obtain ⟨hG1, hG2⟩ := grps_grp (m := m) hat hlt
  refine ⟨grps m g.length 0 (List.replicate g.length false), hG1, hG2, ?_⟩
  have hrep : encBo (List.replicate g.length false) = List.replicate g.length (.bool false) := by simp [encBo]
  have hbg : g.length ≤ 35184372088832 := by omega
  have hfit := fitAll_replicate ⟨.bool, 1, 1, .bool false, [.bool]⟩ (.bool false) rfl g.length
  have j5 := a9 5 (by omega) (by omega)
  have j6 := a9 6 (by omega) (by omega)
  have j7 := a9 7 (by omega) (by omega)
  have j22 := a10 22 (by omega) (by omega)
  have j23 := a10 23 (by omega) (by omega)
  have j24 := a10 24 (by omega) (by omega)
  have e0 : rowV 0 0 1 = AV.nil := rfl
  by_cases hz : g.length = 0
  · -- no node
    have hgz : g = [] := List.length_eq_zero_iff.1 hz
    subst hgz
    obtain ⟨fr', b1, b2, b3, b4, b5⟩ := lp19_2z ng σ1.length (σ1 ++ [.arr false 1 []])
    obtain ⟨k2, hk2⟩ := b1.den
    refine Ans.of (σ' := σ1 ++ [.arr false 1 []]) fn19_ (by simp [AV.noRefs]) (by simp [grps, encU, AV.noRef]) ⟨k1 + k2, fun N hN => ?_⟩
    have hk1 := hk1 N (by omega)
    have hk2 := hk2 N (by omega)
    have e0' : ∀ q, rowV q 0 1 = AV.nil := fun q => rfl
    simp only [List.length_nil, e0, e0', encG_nil, Int.cast_ofNat_Int] at hk1 a6 a7
    simp -implicitDefEqProofs [i19, c19, hk1, hk2, b2, b3, b4, b5, a5, a6, a7, a8, j5, j6, j7, j22, j23, j24, grps, encU, fitAll]
  · obtain ⟨n, hn⟩ : ∃ n, g.length = n + 1 := ⟨g.length - 1, by omega⟩
    have hMne : encM m ≠ [] := fun e => by
      have := congrArg List.length e
      simp at this
      rw [this] at a2; simp at a2; omega
    have h0 := a3 hMne
    have hq1 : q1 < σ1.length := (List.getElem?_eq_some_iff.1 h0).1
    obtain ⟨fr', qo', cells', σ', b1, b2, b3, b4, b5, b6⟩ := lp19_2 g ng hg m a2 (fun x hx => (a4 x hx).1) q1 σ1.length hq1 g.length 0 (List.replicate g.length false) [] 0 [] (σ1 ++ [.arr false 1 (encBo (List.replicate g.length false))]) (by omega) (by simp) (by simp) (by rw [List.getElem?_append_left hq1]; exact h0) (by simp) ⟨rfl, fun h => absurd rfl h, fun h => absurd rfl h, fun i l h => by simp at h⟩
    obtain ⟨k2, hk2⟩ := b1.den
    rw [List.nil_append] at b2 b4
    obtain ⟨ns, hsn⟩ := b2.snap 198
    refine Ans.fn (rs := []) (σ' := σ') fn19_ (by simp [AV.noRefs]) ⟨k1 + k2, fun N hN => ?_⟩ hsn
    have hk1 := hk1 N (by omega)
    have hk2 := hk2 N (by omega)
    simp only [List.length_nil, e0, Int.cast_ofNat_Int] at hk1 hk2
    have er : rowV q1 g.length 1 = .hs q1 g.length 0 g.length 1 := by rw [hn]; rfl
    rw [er] at a7
    rw [hrep] at hk2
    clear b1 a1
    simp -implicitDefEqProofs [i19, c19, hk1, hk2, a5, a6, a7, a8, j5, j6, j7, j22, j23, j24, b3, b4, b5, b6, hbg, hfit]
end Go.Am.Try
