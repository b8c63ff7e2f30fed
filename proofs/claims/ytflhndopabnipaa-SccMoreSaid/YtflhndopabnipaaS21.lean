/- SccMore, whole. -/
import Derived.Test.YtflhndopabnipaaS20
set_option linter.unusedVariables false
set_option linter.unusedSimpArgs false
set_option maxRecDepth 100000
namespace Go.Am.Try
open Go Go.Am.Sc
theorem app_three (σ : H) (q n : Nat) (xs : List AV) (h : σ[q]? = some (.arr false 1 xs)) (hn : xs.length = n) (hb : n ≤ 2 ^ 30) (a b c : Int) :
    appendH tiI (.hs q n 0 n 1) [.int .i64 a, .int .i64 b, .int .i64 c] σ = some (.hs q (n + 3) 0 (n + 3) 1, σ.set q (.arr false 1 (xs ++ [.int .i64 a, .int .i64 b, .int .i64 c]))) := by
  have hc : True ∧ True ∧ 0 + n ≤ n ∧ (n + 3) * 8 ≤ 2 ^ 45 ∧ n + 3 ≤ 2 ^ 45 ∧ fitAll ⟨.int .i64, 1, 8, .int .i64 0, [.int .i64]⟩ [.int .i64 a, .int .i64 b, .int .i64 c] = true := ⟨trivial, trivial, by omega, by omega, by omega, rfl⟩
  unfold tiI
  have ht : xs.take n = xs := List.take_of_length_le (by omega)
  simp only [appendH, arrAt, h, hn, if_true, List.length_cons, List.length_nil, Nat.zero_add, Nat.reduceAdd]
  simp only [Nat.zero_add] at hc
  rw [if_pos hc, if_neg (by omega)]
  simp [ht]
theorem HT.snap {σ : H} {Gr : List (List Nat)} {qs : List Nat} {hc : List AV} (h : HT σ Gr qs hc) (hq : qs.length = Gr.length) {k q : Nat} {l : List Nat} (hk : qs[k]? = some q) (hl : Gr[k]? = some l) (more : List Int) (σ' : H) (h0 : σ'[0]? = some (.arr false 1 (hc.set k (.hs q (l.length + l.length + more.length) 0 (l.length + l.length + more.length) 1)))) (hq' : σ'[q]? = some (.arr false 1 (encNs l ++ encNs l ++ encIs more))) (hr : ∀ j, j ≠ 0 → j ≠ q → σ'[j]? = σ[j]?) (K : Nat) (hK : Gr.length = K) :
    ∃ ns, snapA σ' 200 (.hs 0 K 0 K 1) = some (.sl 1 (encG (dbl Gr k more)), ns) := by
  have hkl : k < Gr.length := (List.getElem?_eq_some_iff.1 hl).1
  refine snap_any 198 h0 (by simp [h.len, hK]) (by simp [h.len, dbl_len]) fun j v hv => ?_
  have hj : j < Gr.length := by
    have := (List.getElem?_eq_some_iff.1 hv).1
    simpa [dbl_len] using this
  obtain ⟨m, hm⟩ : ∃ m, Gr[j]? = some m := ⟨_, List.getElem?_eq_getElem hj⟩
  have ev : v = rowI (false, ((m ++ m).map fun (n : Nat) => (n : Int)) ++ if j = k then more else []) := by
    unfold encG at hv
    rw [List.getElem?_map, dbl_get Gr k more hm] at hv
    exact (Option.some.inj hv).symm
  have er : ∀ more', rowI (false, ((m ++ m).map fun (n : Nat) => (n : Int)) ++ more') = .sl 1 (encNs m ++ encNs m ++ encIs more') := fun more' => by
    have : encIs (((m ++ m).map fun (n : Nat) => (n : Int)) ++ more') = encNs m ++ encNs m ++ encIs more' := by
      rw [← encNs_app, encNs_Is]
      simp [encIs]
    show encR 1 false (encIs _) = _
    rw [encR_false, this]
  rw [er] at ev
  subst ev
  by_cases e : j = k
  · subst e
    rw [hl] at hm
    have := Option.some.inj hm
    subst this
    rw [if_pos rfl]
    refine ⟨.hs q (l.length + l.length + more.length) 0 (l.length + l.length + more.length) 1, [q], by rw [List.getElem?_set_self (by rw [h.len]; exact hkl)], ?_⟩
    have hlen : (encNs l ++ encNs l ++ encIs more).length = l.length + l.length + more.length := by simp; omega
    have := snapA_hs (n := 198) (m := l.length + l.length + more.length) hq' hlen (Nat.le_refl _) (by
      rw [List.take_of_length_le (by omega)]
      have : ∀ a b : List AV, AV.noRefs a = true → AV.noRefs b = true → AV.noRefs (a ++ b) = true := fun a b ha hb => by
        induction a with
        | nil => exact hb
        | cons x a ih =>
          simp only [AV.noRefs, Bool.and_eq_true] at ha
          simp only [List.cons_append, AV.noRefs, Bool.and_eq_true]
          exact ⟨ha.1, ih ha.2⟩
      exact this _ _ (this _ _ (by simp) (by simp)) (by simp))
    rw [List.take_of_length_le (by omega)] at this
    exact this
  · rw [if_neg e]
    obtain ⟨r, hr1⟩ : ∃ r, qs[j]? = some r := ⟨_, List.getElem?_eq_getElem (by omega)⟩
    obtain ⟨m', m1, m2, m3, m4⟩ := h.row j r hr1
    rw [hm] at m1
    have := Option.some.inj m1
    subst this
    have hrq : r ≠ q := fun e' => by
      subst e'
      have h1 := (List.getElem?_eq_some_iff.1 hr1)
      have h2 := (List.getElem?_eq_some_iff.1 hk)
      exact e ((List.getElem_inj h.nd).1 (h1.2.trans h2.2.symm))
    refine ⟨.hs r (m.length + m.length) 0 (m.length + m.length) 1, [r], by rw [List.getElem?_set_ne (Ne.symm e)]; exact m2, ?_⟩
    have e0 : encNs m ++ encNs m ++ encIs [] = encNs m ++ encNs m := by simp
    rw [e0]
    have hlen : (encNs m ++ encNs m).length = m.length + m.length := by simp
    have := snapA_hs (n := 198) (m := m.length + m.length) (by rw [hr r (by omega) hrq]; exact m3) hlen (Nat.le_refl _) (by
      rw [List.take_of_length_le (by omega), ← encNs_app]; simp)
    rw [List.take_of_length_le (by omega)] at this
    exact this
theorem Tb.snap_frz {σ : H} {p n : Nat} {cells : List AV} {L : List (List Nat)} (h : Tb σ p cells L) (hn : L.length = n) (fs : List Nat) : ∃ ns, snapA (frzH σ fs) 200 (.hs p n 0 n 1) = some (.sl 1 (encU L), ns) := by
  obtain ⟨fz, h0⟩ := frz_at fs h.tab
  refine snap_any 198 h0 (by rw [h.len, hn]) (by rw [h.len, encU_length]) fun j v hv => ?_
  have hj : j < L.length := by
    have := (List.getElem?_eq_some_iff.1 hv).1
    simpa using this
  obtain ⟨m, hm⟩ : ∃ m, L[j]? = some m := ⟨_, List.getElem?_eq_getElem hj⟩
  rw [encU_at hm] at hv
  have ev := Option.some.inj hv
  subst ev
  obtain ⟨q, c1, c2, c3⟩ := h.at' j m hm
  obtain ⟨ns, w, _⟩ := snap_rowV q 1 (encNs m) (frzH σ fs) 198 (fun hx => frz_at fs (c2 hx)) (by simp)
  rw [encNs_length] at w
  exact ⟨_, ns, c1, w⟩
set_option maxHeartbeats 8000000 in
theorem sccMore_ans (bs : List UInt8) (n at' : UInt8) (nb : Bool) : Ans ctx 3 [encR 1 nb (ofBytes bs), .int .u8 n.toNat, .int .u8 at'.toNat] (.bool true) := by
  obtain ⟨Gr, hO, km, hm⟩ := make_ans bs nb n
  obtain ⟨K, hK⟩ : ∃ K, K = n.toNat % 16 := ⟨_, rfl⟩
  rw [← hK] at hO
  have hK16 : K < 16 := by omega
  have hGr : Gr.length = K := hO.1
  obtain ⟨ka, ha⟩ := awake14_ans
  by_cases h0 : K = 0
  · have hz : Gr = [] := List.length_eq_zero_iff.1 (by omega)
    subst hz
    refine Ans.of (σ' := []) fn3_ (by simp [AV.noRefs, AV.noRef]) (by simp) ⟨km + ka, fun N hN => ?_⟩
    have hm := hm N (by omega)
    have ha := ha N (by omega)
    have e : encU [] = [] := rfl
    rw [e] at hm
    simp -implicitDefEqProofs [i3, c3, hm, ha]
  obtain ⟨k, hk⟩ : ∃ k, k = at'.toNat % K := ⟨_, rfl⟩
  have hkK : k < K := by rw [hk]; exact Nat.mod_lt _ (by omega)
  obtain ⟨l, hl⟩ : ∃ l, Gr[k]? = some l := ⟨_, List.getElem?_eq_getElem (by omega)⟩
  have hl80 := (hO.2 l (List.mem_of_getElem? hl)).1
  -- the loops
  have hT0 : Tb [.arr false 1 (List.replicate K .nil), .arr false 1 (List.replicate K .nil)] 1 (List.replicate K .nil) (List.replicate K []) := Tb.make [.arr false 1 (List.replicate K .nil)] K
  obtain ⟨fr1, qs, hc, bc, c', σ, a1, a2, hH, hT, hOb, hcb, hd1, hd2, a3, a4, a5, a6, a7, a8, a9, a10⟩ := lp3_1 Gr K hK16 hO (.int .i64 k) K 0 0 [] (List.replicate K .nil) (List.replicate K []) (List.replicate K .nil) _ (by omega) rfl (by omega)
    ⟨by simp [hGr], rfl, fun j q h => by simp at h, fun j _ hj => by rw [List.getElem?_replicate, if_pos (by omega)], by simp⟩ hT0 ⟨by simp, fun l hl => by
      have := (List.mem_replicate.1 hl).2
      subst this
      simp⟩ (fun q h => by simp at h) (fun h => by
      rcases h with h | ⟨i, l, h1, h2, _⟩
      · cases h
      · rw [List.getElem?_replicate] at h1
        split at h1
        · simp at h1
          exact h2 h1
        · cases h1)
  obtain ⟨k1, hk1⟩ := a1.den
  obtain ⟨B, hB⟩ : ∃ B, B = backN Gr K 0 (List.replicate K []) := ⟨_, rfl⟩
  rw [← hB] at hT hOb hd1 hd2
  -- the last row of the doubled ones
  obtain ⟨q, hq⟩ : ∃ q, qs[k]? = some q := ⟨_, List.getElem?_eq_getElem (by omega)⟩
  obtain ⟨l', m1, m2, m3, m4⟩ := hH.row k q hq
  rw [hl] at m1
  have := Option.some.inj m1
  subst this
  have hql : q < σ.length := (List.getElem?_eq_some_iff.1 m3).1
  have hqo := hd1 q (List.mem_of_getElem? hq)
  have hcl : hc.length = K := by rw [hH.len, hGr]
  have hap := app_three σ q (l.length + l.length) _ m3 (by simp) (by omega) (k : Int) (-1) (K : Int)
  obtain ⟨W0, hW0⟩ : ∃ W : AV, W = .hs q (l.length + l.length) 0 (l.length + l.length) 1 := ⟨_, rfl⟩
  obtain ⟨W1, hW1⟩ : ∃ W : AV, W = .hs q (l.length + l.length + 3) 0 (l.length + l.length + 3) 1 := ⟨_, rfl⟩
  obtain ⟨σ1, e1⟩ : ∃ s, s = σ.set q (.arr false 1 (encNs l ++ encNs l ++ [.int .i64 (k : Int), .int .i64 (-1), .int .i64 (K : Int)])) := ⟨_, rfl⟩
  rw [← hW0, ← hW1, ← e1] at hap
  rw [← hW0] at m2
  unfold tiI at hap
  have b0 : σ1[0]? = some (.arr false 1 hc) := by rw [e1, List.getElem?_set_ne (by omega)]; exact hH.tab
  have bl : σ1.length = σ.length := by rw [e1]; simp
  have h0σ : 0 < σ.length := (List.getElem?_eq_some_iff.1 hH.tab).1
  obtain ⟨σ2, e2⟩ : ∃ s, s = σ1.set 0 (.arr false 1 (hc.set k W1)) := ⟨_, rfl⟩
  have cr : ∀ j, j ≠ 0 → j ≠ q → σ2[j]? = σ[j]? := fun j h1 h2 => by rw [e2, List.getElem?_set_ne (Ne.symm h1), e1, List.getElem?_set_ne (Ne.symm h2)]
  have cl2 : σ2.length = σ.length := by rw [e2]; simp [bl]
  have hsn := hH.snap (by rw [a2, hGr]) hq hl [(k : Int), -1, (K : Int)] σ2 (by rw [e2, List.getElem?_set_self (by omega), hW1]; rfl) (by rw [e2, List.getElem?_set_ne (by omega), e1, List.getElem?_set_self hql]; rfl) cr K hGr
  have hT2 : Tb σ2 1 bc B := hT.keep (fun j hj ho => cr j (fun e => hd2 (e ▸ ho)) (fun e => hqo (e ▸ ho))) (by omega)
  -- the three graphs
  have hlt : ∀ a b, a < K → Ed (outG (toI Gr)) a b → b < K := fun a b _ h => by
    have := ed_ok (toI Gr) a b h
    rw [outG_len, toI_length, hGr] at this
    exact this
  have hltB : ∀ a b, a < K → Ed (outG (toI B)) a b → b < K := fun a b _ h => by
    have := ed_ok (toI B) a b h
    rw [outG_len, toI_length, hOb.1] at this
    exact this
  have small : ∀ (c : Nat) (L : List (List Nat)), c ≤ 2 ^ 20 → OkT K c L → ∀ q ∈ toI L, q.2.length ≤ 2 ^ 30 := fun c L hc hL q hq => by
    obtain ⟨l, hl, rfl⟩ := List.mem_map.1 hq
    have := (hL.2 l hl).1
    simp; omega
  obtain ⟨G, g1, g2, ko, hof⟩ := of_ans (toI Gr) false (by rw [toI_length]; omega) (small 80 Gr (by omega) hO)
  obtain ⟨G2, i1, i2, i3'⟩ := of_ans (dbl Gr k [(k : Int), -1, (K : Int)]) false (by rw [dbl_len]; omega) (fun q hq => by
    unfold dbl at hq
    obtain ⟨j, hj, rfl⟩ := List.mem_map.1 hq
    have hj := List.mem_range.1 hj
    obtain ⟨m, hm⟩ : ∃ m, Gr[j]? = some m := ⟨_, List.getElem?_eq_getElem hj⟩
    have e : Gr.getD j [] = m := by rw [List.getD_eq_getElem?_getD, hm]; rfl
    have := (hO.2 m (List.mem_of_getElem? hm)).1
    rw [e]
    split <;> simp <;> omega)
  obtain ⟨G3, j1, j2, j3'⟩ := of_ans (toI B) false (by rw [toI_length, hOb.1]; omega) (small c' B (by omega) hOb)
  rw [toI_length, hGr] at g1
  rw [dbl_len, hGr] at i1
  rw [toI_length, hOb.1] at j1
  have hltG : ∀ a b, a < K → Rch (Ed (outG (toI Gr))) a b → b < K := fun a b ha h => h.inv (p := fun z => z < K) (fun x y hx e => hlt x y hx e) ha
  have eG2 : G2 = G := by
    refine Grp.only (i1.iff (R' := Rch (Ed (outG (toI Gr)))) (fun a b ha _ => ?_) hltG) g1 i2 g2
    exact rch_self (n := K) (k := k) (fun a b ha => by rw [dbl_ed hO ha hkK, toI_ed hO ha]) hlt hkK ha
  have eG3 : G3 = G := by
    have hg : Grp K (Rch (Ed (outG (toI B)))) G := by
      refine ⟨g1.rise, g1.lt, fun l hl x hx y => ?_, g1.all⟩
      have hxK := g1.lt l hl x hx
      have hEd : ∀ a b, a < K → b < K → (Ed (outG (toI B)) a b ↔ Ed (outG (toI Gr)) b a) := fun a b ha hb => by
        rw [toI_ed hOb ha, toI_ed hO hb, hB, backN_mem hO K 0 _ a b (by omega) (by simp)]
        constructor
        · rintro (h | h)
          · rw [getD_rep] at h
            cases h
          · exact h.2.2
        · intro h
          exact .inr ⟨Nat.zero_le _, hb, h⟩
      constructor
      · intro hy
        have hyK := g1.lt l hl y hy
        have := (g1.one l hl x hx y).1 hy
        exact ⟨(rch_turn hEd hlt hltB hxK hyK).2 this.2, (rch_turn hEd hlt hltB hyK hxK).2 this.1⟩
      · rintro ⟨h1, h2⟩
        have hyK : y < K := h1.inv (p := fun z => z < K) (fun a b ha e => hltB a b ha e) hxK
        exact (g1.one l hl x hx y).2 ⟨(rch_turn hEd hlt hltB hyK hxK).1 h2, (rch_turn hEd hlt hltB hxK hyK).1 h1⟩
    exact Grp.only j1 hg j2 g2
  subst eG2
  subst eG3
  have hGl := Grp.len_le g1 g2
  have hGne : G3 ≠ [] := fun e => by
    obtain ⟨l, h, _⟩ := g1.all 0 (by omega)
    rw [e] at h; cases h
  have hUne : encU G3 ≠ [] := fun e => by
    have := congrArg List.length e
    simp at this
    exact hGne this
  rw [encR_ne hUne] at hof i3' j3'
  rw [encR_false, ← encU_toI] at hof j3'
  rw [encR_false] at i3'
  obtain ⟨GV, hGV⟩ : ∃ z, z = encU G3 := ⟨_, rfl⟩
  rw [← hGV] at hof i3' j3'
  obtain ⟨fs1, k2, hk2⟩ := tab_lay fn15_ hsn (by simp) i3' rfl
  obtain ⟨σ3, e3⟩ : ∃ s, s = frzH σ2 fs1 := ⟨_, rfl⟩
  have hsb := hT2.snap_frz hOb.1 fs1
  rw [← e3] at hk2 hsb
  obtain ⟨fs2, k3, hk3⟩ := tab_lay fn15_ hsb (by simp) j3' rfl
  obtain ⟨σ4, e4⟩ : ∃ s, s = frzH σ3 fs2 := ⟨_, rfl⟩
  rw [← e4] at hk3
  obtain ⟨k4, hk4⟩ := same_U G3 G3 false false (by unfold big; omega) (fun l hl => by have := hGl.2 l hl; unfold big; omega)
  rw [encR_false, ← hGV] at hk4
  have hk4' : ∀ N, k4 ≤ N → ∀ σ, acall ctx N 16 [.sl 1 GV, .sl 1 GV] σ = some (.bool true, σ) := fun N hN σ => by rw [hk4 N hN σ]; simp
  obtain ⟨k5, hk5⟩ := ints_ans [] [] true false (by simp [big])
  have hk5' : ∀ N, k5 ≤ N → ∀ σ, acall ctx N 17 [.nil, .sl 1 []] σ = some (.bool true, σ) := fun N hN σ => by
    have := hk5 N hN σ
    simpa [encIs, encR] using this
  have hal : (at'.toNat : Nat) < 256 := at'.toNat_lt
  refine Ans.of (σ' := σ4) fn3_ (by simp [AV.noRefs, AV.noRef]) (by simp) ⟨km + ka + ko + k1 + k2 + k3 + k4 + k5, fun N hN => ?_⟩
  have hm := hm N (by omega)
  have ha := ha N (by omega)
  have hof := hof N (by omega)
  have hk1 := hk1 N (by omega)
  have hk2 := hk2 N (by omega)
  have hk3 := hk3 N (by omega)
  have hk4 := hk4' N (by omega)
  have hk5 := hk5' N (by omega)
  clear hk4' hk5'
  simp only [Int.cast_ofNat_Int] at hk1
  have hwa : IntKind.i64.wrap (at'.toNat : Int) = (at'.toNat : Int) := wrap_i64 (by omega)
  have hma : Int.tmod (at'.toNat : Int) (K : Int) = (k : Int) := by rw [tmod_nat, ← hk]
  have hK0 : ((K : Int) == 0) = false := by rw [beq_eq_false_iff_ne]; omega
  have hbg : K * 24 ≤ 35184372088832 ∧ K ≤ 35184372088832 := by omega
  have hf1 := fitAll_replicate ⟨.slice 3, 1, 24, .nil, []⟩ .nil rfl K
  have hik := idx_at hkK
  have hWf : W1.fits ⟨.slice 3, 1, 24, .nil, []⟩ = true := by rw [hW1]; rfl
  have hWf0 : W0.fits ⟨.slice 3, 1, 24, .nil, []⟩ = true := by rw [hW0]; rfl
  have hWc : W1.cells = [W1] := by rw [hW1]; rfl
  have j83 := a8 83 (by omega)
  have j84 := a8 84 (by omega)
  have j85 := a8 85 (by omega)
  have j86 := a8 86 (by omega)
  have j87 := a8 87 (by omega)
  have j88 := a8 88 (by omega)
  have j89 := a8 89 (by omega)
  have j90 := a8 90 (by omega)
  have j91 := a8 91 (by omega)
  have j92 := a8 92 (by omega)
  have j93 := a8 93 (by omega)
  have j94 := a8 94 (by omega)
  have j95 := a8 95 (by omega)
  have j96 := a8 96 (by omega)
  have j97 := a8 97 (by omega)
  have j98 := a8 98 (by omega)
  have j99 := a8 99 (by omega)
  have j100 := a8 100 (by omega)
  have j101 := a8 101 (by omega)
  have j102 := a8 102 (by omega)
  have j103 := a8 103 (by omega)
  have j104 := a8 104 (by omega)
  have j105 := a8 105 (by omega)
  have j106 := a8 106 (by omega)
  have j107 := a8 107 (by omega)
  have j108 := a8 108 (by omega)
  have j109 := a8 109 (by omega)
  have j110 := a8 110 (by omega)
  have j111 := a8 111 (by omega)
  have j112 := a8 112 (by omega)
  have j113 := a8 113 (by omega)
  have hH0 := hH.tab
  clear a1 g1 g2 i1 i2 j1 j2 i3' j3' hH hT hT2 hT0 hsn hsb small hlt hltB hltG cr hd1 hd2
  simp (maxSteps := 4000000) -implicitDefEqProofs [i3, c3, hm, ha, hof, hk1, hk2, hk3, hk4, hk5, hwa, hma, hK0, h0, hbg, hf1, hGr, hik, b0, hcl, ↓m2, hap, hWf, hWf0, hWc, e2.symm, a3, a4, a5, a6, a7, a9, a10, j83, j84, j85, j86, j87, j88, j89, j90, j91, j92, j93, j94, j95, j96, j97, j98, j99, j100, j101, j102, j103, j104, j105, j106, j107, j108, j109, j110, j111, j112, j113, hH0, -appendH]
end Go.Am.Try
