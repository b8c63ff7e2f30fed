/- SccMore: rows doubled, edges turned round. -/
import Derived.Test.YtflhndopabnipaaS14
set_option linter.unusedVariables false
set_option linter.unusedSimpArgs false
set_option maxRecDepth 100000
namespace Go.Am.Try
open Go Go.Am.Sc
theorem fitAll_Ns : ∀ l : List Nat, fitAll tiI (encNs l) = true
  | [] => rfl
  | a :: l => by rw [encNs_cons, fitAll, fitAll_Ns l]; rfl
theorem app_last (σ : H) (xs ys : List AV) (n : Nat) (hn : xs.length = n) (hb : n + ys.length ≤ 2 ^ 40) (hf : fitAll tiI ys = true) :
    appendH tiI (.hs σ.length n 0 n 1) ys (σ ++ [.arr false 1 xs]) = some (.hs σ.length (n + ys.length) 0 (n + ys.length) 1, σ ++ [.arr false 1 (xs ++ ys)]) := by
  have hs : (σ ++ [HObj.arr false 1 xs])[σ.length]? = some (.arr false 1 xs) := by simp
  have hc : True ∧ True ∧ 0 + n ≤ n ∧ (n + ys.length) * 8 ≤ 2 ^ 45 ∧ n + ys.length ≤ 2 ^ 45 ∧ fitAll ⟨.int .i64, 1, 8, .int .i64 0, [.int .i64]⟩ ys = true := ⟨trivial, trivial, by omega, by omega, by omega, hf⟩
  unfold tiI
  simp only [appendH, arrAt, hs, hn, if_true]
  rw [if_pos hc]
  by_cases hy : ys = []
  · subst hy
    rw [if_pos (by simp)]
    simp [setCells]
  · have : 0 < ys.length := List.length_pos_iff.2 hy
    rw [if_neg (by omega)]
    have ht : xs.take n = xs := List.take_of_length_le (by omega)
    simp [ht]
def back1 (i : Nat) (B : List (List Nat)) : List Nat → List (List Nat)
  | [] => B
  | y :: r => back1 i (B.set y (B.getD y [] ++ [i])) r
theorem back1_len (i : Nat) : ∀ (r : List Nat) (B : List (List Nat)), (back1 i B r).length = B.length
  | [], _ => rfl
  | y :: r, B => by rw [back1, back1_len]; simp
theorem back1_mem (i : Nat) : ∀ (r : List Nat) (B : List (List Nat)) (y x : Nat), (∀ z ∈ r, z < B.length) → (x ∈ (back1 i B r).getD y [] ↔ x ∈ B.getD y [] ∨ (x = i ∧ y ∈ r))
  | [], B, y, x, _ => by simp [back1]
  | z :: r, B, y, x, h => by
    have hz := h z (by simp)
    rw [back1, back1_mem i r _ y x (fun w hw => by simpa using h w (by simp [hw])), getD_set _ _ _ _ _ hz]
    by_cases e : z = y
    · subst e
      rw [if_pos rfl]
      simp only [List.mem_append, List.mem_singleton, List.mem_cons]
      constructor
      · rintro ((h1 | h1) | h1)
        · exact .inl h1
        · exact .inr ⟨by simpa using h1, .inl trivial⟩
        · exact .inr ⟨h1.1, .inr h1.2⟩
      · rintro (h1 | h1)
        · exact .inl (.inl h1)
        · exact .inl (.inr (by simpa using h1.1))
    · rw [if_neg e]
      simp only [List.mem_cons]
      constructor
      · rintro (h1 | h1)
        · exact .inl h1
        · exact .inr ⟨h1.1, .inr h1.2⟩
      · rintro (h1 | ⟨h1, h2⟩)
        · exact .inl h1
        · exact .inr ⟨h1, h2.resolve_left fun k => e k.symm⟩
set_option maxHeartbeats 4000000 in
theorem lp3_0 (Gr : List (List Nat)) (K i : Nat) (hK : K ≤ 300) (hi : i < K) (l : List Nat) (hg : Gr[i]? = some l) (hll : l.length ≤ 300) (hlt : ∀ y ∈ l, y < K) (X8 X9 : AV) : ∀ (r : List Nat) (k c : Nat) (B : List (List Nat)) (bc : List AV) (σ : H), Tail (encNs l) k (encNs r) → Tb σ 1 bc B → OkT K c B → c + r.length ≤ 2 ^ 20 →
    ∃ fr' bc' σ', Lp ctx [28, 31, 40, 45, 50, 81, 93] [] [7, 8, 9, 10, 11, 12] b3_0 ⟨[(7, .v (.sl 1 (encU Gr))), (8, .v X8), (9, .v X9), (10, .v (.hs 1 K 0 K 1)), (11, .v (.int .i64 i)), (12, .v (.int .i64 k))], false⟩ σ (.ex 2) fr' σ' ∧ Tb σ' 1 bc' (back1 i B r) ∧ OkT K (c + r.length) (back1 i B r) ∧
      (∀ j, j < σ.length → ¬ Tb.Owns 1 bc B j → σ'[j]? = σ[j]? ∧ ¬ Tb.Owns 1 bc' (back1 i B r) j) ∧ σ.length ≤ σ'.length ∧ fr'.lk = false ∧ getS fr'.sl 7 = .v (.sl 1 (encU Gr)) ∧ getS fr'.sl 8 = .v X8 ∧ getS fr'.sl 9 = .v X9 ∧ getS fr'.sl 10 = .v (.hs 1 K 0 K 1) ∧ getS fr'.sl 11 = .v (.int .i64 i) ∧ getS fr'.sl 36 = .u ∧ getS fr'.sl 37 = .u
  | [], k, c, B, bc, σ, ht, hT, hO, hc => by
    have hlen := ht.nil
    simp only [encNs_length] at hlen
    have hgi := encU_at hg
    have hix := idx_at (List.getElem?_eq_some_iff.1 hg).1
    have hkl : ¬ (k : Int) < (l.length : Int) := by omega
    refine ⟨?_, bc, σ, Lp.exit ⟨0, fun N _ => ?_⟩ (by simp), ?_⟩
    rotate_left
    · simp -implicitDefEqProofs [b3_0, ↓hgi, hix, hkl]
      rfl
    · exact ⟨hT, hO, fun j _ hn => ⟨rfl, hn⟩, Nat.le_refl _, by simp, by simp, by simp, by simp, by simp, by simp, by simp, by simp⟩
  | y :: r, k, c, B, bc, σ, ht, hT, hO, hc => by
    have hlk := tail_get ht
    rw [encNs_cons] at ht
    obtain ⟨a1, a2, a3, a4, a5⟩ := ht.cons
    simp only [encNs_length] at a2 a3
    simp only [List.length_cons] at hc
    have hkn : k < l.length := (List.getElem?_eq_some_iff.1 hlk).1
    have hw := wrap_succ (n := k) (by unfold big; omega)
    have hy : y < K := hlt y (List.mem_of_getElem? hlk)
    have hgi := encU_at hg
    have hrow : encR 1 true (encNs l) = .sl 1 (encNs l) := encR_ne (fun e => by
      have := congrArg List.length e
      simp at this
      rw [this] at hkn; simp at hkn)
    rw [hrow] at hgi
    have hix := idx_at (List.getElem?_eq_some_iff.1 hg).1
    have hiy := idx_at hy
    obtain ⟨la, ha⟩ : ∃ la, B[y]? = some la := ⟨_, List.getElem?_eq_getElem (by rw [hO.1]; exact hy)⟩
    have hla : B.getD y [] = la := by rw [List.getD_eq_getElem?_getD, ha]; rfl
    obtain ⟨q, q', σ1, c', p1, p2, p3, p4, p5, p6, p7⟩ := hT.push ha i (by have := (hO.2 la (List.mem_of_getElem? ha)).1; omega)
    unfold tiI at p2
    have htab := hT.tab
    have hbl : bc.length = K := by rw [hT.len, hO.1]
    have hf : c'.fits ⟨.slice 3, 1, 24, .nil, []⟩ = true := by rw [p3, rowV_fits]; rfl
    have hc' : c'.cells = [c'] := by rw [p3]; rfl
    have h1σ : 1 < σ.length := (List.getElem?_eq_some_iff.1 htab).1
    obtain ⟨fr', bc', σ', l1, l2, l3, l4, l5, l6⟩ := lp3_0 Gr K i hK hi l hg hll hlt X8 X9 r (k + 1) (c + 1) _ _ _ a4 p5 (hO.push ha hi) (by omega)
    have ee : back1 i B (y :: r) = back1 i (B.set y (la ++ [i])) r := by rw [back1, hla]
    rw [ee]
    refine ⟨fr', bc', σ', Lp.step ⟨0, fun N hN => ?_⟩ l1, l2, by rw [List.length_cons, show c + (r.length + 1) = c + 1 + r.length by omega]; exact l3, fun j hj hn => ?_, by simp at l5; omega, l6⟩
    · clear l1 l2 l3 l4 l5 l6 p5 p6 hT
      simp (maxSteps := 4000000) -implicitDefEqProofs [b3_0, ↓hgi, hix, hkn, ↓a1, a3, hw, hiy, htab, hbl, ↓p1, p2, p4, hf, hc', -appendH]
    · obtain ⟨u1, u2⟩ := p6 j hj hn
      obtain ⟨v1, v2⟩ := l4 j (by simp; omega) u2
      refine ⟨?_, v2⟩
      have hj1 : j ≠ 1 := fun e => hn (.inl e)
      rw [v1, List.getElem?_set_ne (Ne.symm hj1), u1]
theorem Tb.owns_lt {σ : H} {p : Nat} {cells : List AV} {L : List (List Nat)} (h : Tb σ p cells L) {j : Nat} (ho : Tb.Owns p cells L j) : j < σ.length := by
  rcases ho with rfl | ⟨i, l, hi, hl, e⟩
  · exact (List.getElem?_eq_some_iff.1 h.tab).1
  · obtain ⟨q, c1, c2, c3⟩ := h.at' i l hi
    rw [c1] at e
    have := rowV_inj2 hl (Option.some.inj e)
    have := (c3 hl).2
    omega
structure HT (σ : H) (Gr : List (List Nat)) (qs : List Nat) (hc : List AV) : Prop where
  len : hc.length = Gr.length
  tab : σ[0]? = some (.arr false 1 hc)
  row : ∀ (j q : Nat), qs[j]? = some q → ∃ l, Gr[j]? = some l ∧ hc[j]? = some (.hs q (l.length + l.length) 0 (l.length + l.length) 1) ∧ σ[q]? = some (.arr false 1 (encNs l ++ encNs l)) ∧ 1 < q
  rest : ∀ j, qs.length ≤ j → j < Gr.length → hc[j]? = some .nil
  nd : qs.Nodup
def backN (Gr : List (List Nat)) : Nat → Nat → List (List Nat) → List (List Nat)
  | 0, _, B => B
  | f + 1, i, B => backN Gr f (i + 1) (back1 i B (Gr.getD i []))
theorem elemsM_row (te : TI) (ht : te.size = 1) (l : List Nat) (σ : H) : elemsM te (encR 1 true (encNs l)) σ = some (encNs l, σ) := by
  cases l with
  | nil => rfl
  | cons a l =>
    have : encR 1 true (encNs (a :: l)) = .sl 1 (encNs (a :: l)) := rfl
    rw [this]
    simp [elemsM, ht]
set_option maxHeartbeats 4000000 in
theorem lp3_1 (Gr : List (List Nat)) (K : Nat) (hK : K < 16) (hGr : OkT K 80 Gr) (X8 : AV) : ∀ (f i c : Nat) (qs : List Nat) (hc : List AV) (B : List (List Nat)) (bc : List AV) (σ : H), i + f = K → qs.length = i → c + 80 * f ≤ 2 ^ 19 → HT σ Gr qs hc → Tb σ 1 bc B → OkT K c B → (∀ q ∈ qs, ¬ Tb.Owns 1 bc B q) → ¬ Tb.Owns 1 bc B 0 →
    ∃ fr' qs' hc' bc' c' σ', Lp ctx [28, 31, 40, 45, 50, 81, 93] [] [7, 8, 9, 10, 11] b3_1 ⟨[(7, .v (.sl 1 (encU Gr))), (8, .v X8), (9, .v (.hs 0 K 0 K 1)), (10, .v (.hs 1 K 0 K 1)), (11, .v (.int .i64 i))], false⟩ σ (.ex 0) fr' σ' ∧ qs'.length = K ∧ HT σ' Gr qs' hc' ∧ Tb σ' 1 bc' (backN Gr f i B) ∧ OkT K c' (backN Gr f i B) ∧ c' ≤ 2 ^ 19 ∧ (∀ q ∈ qs', ¬ Tb.Owns 1 bc' (backN Gr f i B) q) ∧ ¬ Tb.Owns 1 bc' (backN Gr f i B) 0 ∧ fr'.lk = false ∧ getS fr'.sl 7 = .v (.sl 1 (encU Gr)) ∧ getS fr'.sl 8 = .v X8 ∧ getS fr'.sl 9 = .v (.hs 0 K 0 K 1) ∧ getS fr'.sl 10 = .v (.hs 1 K 0 K 1) ∧ Hi 83 fr' ∧ getS fr'.sl 13 = .u ∧ getS fr'.sl 6 = .u := by
  intro f
  induction f with
  | zero =>
    intro i c qs hc B bc σ hi hq hcb hH hT hO hd1 hd2
    have e : i = K := by omega
    subst e
    have hgl := hGr.1
    refine ⟨?_, qs, hc, bc, c, σ, Lp.exit ⟨0, fun N _ => ?_⟩ (by simp), ?_⟩
    rotate_left
    · simp -implicitDefEqProofs [b3_1, hgl]
      rfl
    · exact ⟨hq, hH, hT, hO, by omega, hd1, hd2, by simp, by simp, by simp, by simp, by simp, hi_of (by simp), by simp, by simp⟩
  | succ f ih =>
    intro i c qs hc B bc σ hi hq hcb hH hT hO hd1 hd2
    have hiK : i < K := by omega
    have hgl := hGr.1
    obtain ⟨l, hg⟩ : ∃ l, Gr[i]? = some l := ⟨_, List.getElem?_eq_getElem (by omega)⟩
    obtain ⟨hl80, hlK⟩ := hGr.2 l (List.mem_of_getElem? hg)
    have hgd : Gr.getD i [] = l := by rw [List.getD_eq_getElem?_getD, hg]; rfl
    have htab := hH.tab
    have hcl : hc.length = K := by rw [hH.len, hgl]
    have hci := hH.rest i (by omega) (by omega)
    have h0σ : 0 < σ.length := (List.getElem?_eq_some_iff.1 htab).1
    have h1σ : 1 < σ.length := (List.getElem?_eq_some_iff.1 hT.tab).1
    obtain ⟨Q, hQ⟩ : ∃ Q, Q = σ.length := ⟨_, rfl⟩
    have hap1 := app_last σ [] (encNs l) 0 rfl (by simp; omega) (fitAll_Ns l)
    have hap2 := app_last σ (encNs l) (encNs l) l.length (by simp) (by simp; omega) (fitAll_Ns l)
    simp only [List.nil_append, Nat.zero_add, encNs_length] at hap1 hap2
    rw [← hQ] at hap1 hap2
    unfold tiI at hap1 hap2
    obtain ⟨W, hW⟩ : ∃ W : AV, W = .hs Q (l.length + l.length) 0 (l.length + l.length) 1 := ⟨_, rfl⟩
    rw [← hW] at hap2
    have hWf : W.fits ⟨.slice 3, 1, 24, .nil, []⟩ = true := by rw [hW]; rfl
    have hWc : W.cells = [W] := by rw [hW]; rfl
    obtain ⟨σ1, e1⟩ : ∃ s, s = σ ++ [.arr false 1 (encNs l ++ encNs l)] := ⟨_, rfl⟩
    rw [← e1] at hap2
    have al : σ1.length = Q + 1 := by rw [e1, hQ]; simp
    have ar : ∀ j, j < Q → σ1[j]? = σ[j]? := fun j hj => by rw [e1, List.getElem?_append_left (by omega)]
    have aQ : σ1[Q]? = some (.arr false 1 (encNs l ++ encNs l)) := by rw [e1, hQ]; simp
    have a0 : σ1[0]? = some (.arr false 1 hc) := by rw [ar 0 (by omega)]; exact htab
    obtain ⟨σ2, e2⟩ : ∃ s, s = σ1.set 0 (.arr false 1 (hc.set i W)) := ⟨_, rfl⟩
    have bl : σ2.length = Q + 1 := by rw [e2]; simp [al]
    have br : ∀ j, j ≠ 0 → σ2[j]? = σ1[j]? := fun j hj => by rw [e2, List.getElem?_set_ne (Ne.symm hj)]
    have b0 : σ2[0]? = some (.arr false 1 (hc.set i W)) := by rw [e2, List.getElem?_set_self (by omega)]
    have hT2 : Tb σ2 1 bc B := hT.keep (fun j hj ho => by
      have hj0 : j ≠ 0 := fun e => hd2 (e ▸ ho)
      rw [br j hj0, ar j (by omega)]) (by omega)
    have hQn : ¬ Tb.Owns 1 bc B Q := fun ho => by have := hT.owns_lt ho; omega
    obtain ⟨fr1, bc1, σ3, l1, l2, l3, l4, l5, l6, l7, l8, l9, l10, l11, l12, l13⟩ := lp3_0 Gr K i (by omega) hiK l hg (by omega) hlK X8 (.hs 0 K 0 K 1) l 0 c B bc σ2 (Tail.all _) hT2 hO (by omega)
    obtain ⟨kk, hk⟩ := l1.den
    have hH3 : HT σ3 Gr (qs ++ [Q]) (hc.set i W) := by
      refine ⟨by simp [hH.len], by rw [(l4 0 (by omega) hd2).1]; exact b0, fun j q hj => ?_, fun j hj hjl => ?_, ?_⟩
      · by_cases hji : j < qs.length
        · rw [List.getElem?_append_left hji] at hj
          obtain ⟨m, m1, m2, m3, m4⟩ := hH.row j q hj
          have hqo := hd1 q (List.mem_of_getElem? hj)
          have hql : q < σ.length := (List.getElem?_eq_some_iff.1 m3).1
          exact ⟨m, m1, by rw [List.getElem?_set_ne (by omega)]; exact m2, by rw [(l4 q (by omega) hqo).1, br q (by omega), ar q (by omega)]; exact m3, m4⟩
        · have e : j = qs.length := by
            have := (List.getElem?_eq_some_iff.1 hj).1
            simp at this; omega
          subst e
          simp at hj
          subst hj
          rw [hq]
          exact ⟨l, hg, by rw [List.getElem?_set_self (by omega), hW], by rw [(l4 Q (by omega) hQn).1, br Q (by omega)]; exact aQ, by omega⟩
      · simp only [List.length_append, List.length_singleton] at hj
        rw [List.getElem?_set_ne (by omega)]
        exact hH.rest j (by omega) hjl
      · rw [List.nodup_append]
        refine ⟨hH.nd, by simp, fun a ha b hb => ?_⟩
        simp at hb
        subst hb
        obtain ⟨j, hj⟩ := List.getElem?_of_mem ha
        obtain ⟨m, m1, m2, m3, m4⟩ := hH.row j a hj
        have := (List.getElem?_eq_some_iff.1 m3).1
        omega
    obtain ⟨fr', qs', hc', bc', c', σ', k1, k2⟩ := ih (i + 1) (c + l.length) (qs ++ [Q]) (hc.set i W) (back1 i B l) bc1 σ3 (by omega) (by simp [hq]) (by omega) hH3 l2 l3 (fun q hq' => by
      rcases List.mem_append.1 hq' with h | h
      · obtain ⟨j, hj⟩ := List.getElem?_of_mem h
        obtain ⟨m, m1, m2, m3, m4⟩ := hH.row j q hj
        have := (List.getElem?_eq_some_iff.1 m3).1
        exact (l4 q (by omega) (hd1 q h)).2
      · simp at h
        subst h
        exact (l4 q (by omega) hQn).2) (l4 0 (by omega) hd2).2
    have eb : backN Gr (f + 1) i B = backN Gr f (i + 1) (back1 i B l) := by rw [backN, hgd]
    rw [eb]
    refine ⟨fr', qs', hc', bc', c', σ', Lp.step ⟨kk, fun N hN => ?_⟩ k1, k2⟩
    have hk := hk N hN
    simp only [Int.cast_ofNat_Int] at hk
    clear k1 k2 ih l1 l2 l3 l4 hH3 hT2
    have hgi := encU_at hg
    have hix := idx_at hiK
    have hlt : (i : Int) < (K : Int) := by omega
    have hw := wrap_succ (n := i) (by unfold big; omega)
    have hel := elemsM_row ⟨.int .i64, 1, 8, .int .i64 0, [.int .i64]⟩ rfl l
    simp (maxSteps := 4000000) -implicitDefEqProofs [b3_1, ↓hgi, hix, hiK, hw, hgl, hQ.symm, hap1, hap2, hel, a0, hcl, ↓hci, hWf, hWc, e2.symm, hk, l6, l7, l8, l9, l10, l11, l12, l13, -appendH, -elemsM]
end Go.Am.Try
