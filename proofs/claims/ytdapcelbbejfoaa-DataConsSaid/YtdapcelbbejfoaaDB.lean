/- D8, D11, D10, D12, D13, as one -/
import Derived.Test.YtdapcelbbejfoaaD7
import Derived.Test.YtdapcelbbejfoaaDA
import Derived.Test.YtdapcelbbejfoaaD9
set_option linter.unusedVariables false
set_option maxRecDepth 100000
set_option linter.unusedSimpArgs false
namespace Go.Am.Try
open Go Go.Am.Ps
theorem app_own2 (σ0 : H) (te : TI) (xs : List AV) (y : AV) (hy : y.fits te = true) (hb : (xs.length + 1) * te.bytes ≤ 2 ^ 45) (hl : xs.length + 1 ≤ 2 ^ 45) :
    appendH te (rowV σ0.length xs.length te.size) [y] (σ0 ++ stH te.size xs) = some (rowV σ0.length (xs ++ [y]).length te.size, σ0 ++ stH te.size (xs ++ [y])) := by
  cases xs with
  | nil =>
    simp only [List.length_nil, Nat.zero_add, Nat.one_mul] at hb
    simp [rowV, stH, appendH, hy, fitAll, hb]
  | cons x l =>
    simp at hb hl
    have e1 : l.length + 1 + 1 ≤ 35184372088832 := by omega
    have e3 : ¬ l.length + 1 + 1 ≤ l.length + 1 := by omega
    have e4 : l.length + 1 ≤ 35184372088831 := by omega
    have e5 : l.length ≤ 35184372088830 := by omega
    simp [rowV, stH, appendH, hy, fitAll, hb, e1, e3, e4, e5, arrAt]
def varsF (i : Nat) : Nat → List Ps.Ty
  | 0 => []
  | n + 1 => .mk 1 (i : Int) [] [] :: varsF (i + 1) n
theorem varsF_eq : ∀ (n i : Nat), varsF i n = (List.range' i n).map fun (j : Nat) => Ps.Ty.mk 1 (j : Int) [] []
  | 0, i => rfl
  | n + 1, i => by simp [varsF, varsF_eq n (i + 1), List.range'_succ]
theorem lp34_1 (X6 : AV) (S : Str) (N' : Nat) (hN' : N' ≤ 2 ^ 38) (σ0 : H) : ∀ (n i : Nat) (acc : List Ps.Ty), i + n = N' → acc.length = i →
    ∃ fr', Lp ctx [52, 74] [] [6, 7, 65, 66] b34_1 ⟨[(6, .v X6), (7, .bx (.agg [.int .i64 2, .int .i64 0, .str S, rowV σ0.length acc.length 4])), (65, .v (.int .i64 N')), (66, .v (.int .i64 i))], false⟩ (σ0 ++ stH 4 (encYs acc)) (.ex 2) fr' (σ0 ++ stH 4 (encYs (acc ++ varsF i n))) ∧
      fr'.lk = false ∧ getS fr'.sl 6 = .v X6 ∧ getS fr'.sl 7 = .bx (.agg [.int .i64 2, .int .i64 0, .str S, rowV σ0.length (acc ++ varsF i n).length 4]) ∧ (∀ t, 77 ≤ t → t < 79 → getS fr'.sl t = .u)
  | 0, i, acc, h, ha => by
    simp only [Nat.add_zero] at h
    subst h
    refine ⟨?_, Lp.exit ⟨0, fun N _ => ?_⟩ (by simp), ?_⟩
    rotate_left
    · simp -implicitDefEqProofs [b34_1, varsF]
      rfl
    · refine ⟨by simp, by simp, by simp [varsF], fun t h1 h2 => ?_⟩
      simp only [getS]
      repeat rw [if_neg (by omega)]
  | n + 1, i, acc, h, ha => by
    have hw := wrap_succ (n := i) (by unfold big; omega)
    have hlt : (i : Int) < (N' : Int) := by omega
    have happ := app_own2 σ0 tiY (encYs acc) (encY (.mk 1 (i : Int) [] [])) (by simp [tiY]) (by simp [tiY]; omega) (by simp; omega)
    unfold tiY at happ
    simp only [encYs_length] at happ
    have e1 : encYs acc ++ [encY (.mk 1 (i : Int) [] [])] = encYs (acc ++ [.mk 1 (i : Int) [] []]) := by simp
    rw [e1] at happ
    simp only [encYs_length] at happ
    obtain ⟨fr', l1, l2⟩ := lp34_1 X6 S N' hN' σ0 n (i + 1) (acc ++ [.mk 1 (i : Int) [] []]) (by omega) (by simp [ha])
    simp only [List.append_assoc, List.singleton_append] at l1 l2
    have e2 : varsF i (n + 1) = .mk 1 (i : Int) [] [] :: varsF (i + 1) n := rfl
    rw [e2]
    have e3 : encY (.mk 1 (i : Int) [] []) = .agg [.int .i64 1, .int .i64 i, .str [], .nil] := by simp [encY_mk]
    rw [e3] at happ
    refine ⟨fr', Lp.step ⟨0, fun N hN => ?_⟩ l1, l2⟩
    simp -implicitDefEqProofs [b34_1, hw, hlt, happ, -appendH]
theorem snapStH (σ0 : H) (sz : Nat) (xs : List AV) (hn : AV.noRefs xs = true) (τ : H) (n : Nat) : ∃ ns, snapA (σ0 ++ stH sz xs ++ τ) (n + 1) (rowV σ0.length xs.length sz) = some (encR sz true xs, ns) := by
  obtain ⟨ns, h, _⟩ := snap_rowV σ0.length sz xs (σ0 ++ stH sz xs ++ τ) n (fun hx => by
    cases xs with
    | nil => exact absurd rfl hx
    | cons x l => exact ⟨false, by simp [stH]⟩) hn
  exact ⟨ns, h⟩
theorem mapO2_same (σ : H) (n : Nat) : ∀ cs : List AV, AV.noRefs cs = true → mapO2 (snapA σ n) cs = some (cs, [])
  | [], _ => rfl
  | c :: cs, h => by
    simp only [AV.noRefs, Bool.and_eq_true] at h
    simp only [mapO2, snapA_noRef h.1, mapO2_same σ n cs h.2, List.append_nil]
theorem snap_agg {σ : H} {n : Nat} {cs l : List AV} {rs : List Nat} (h : mapO2 (snapA σ n) cs = some (l, rs)) : ∃ ns, snapA σ (n + 1) (.agg cs) = some (.agg l, ns) := by
  by_cases hn : (AV.agg cs).noRef = true
  · have hn' : AV.noRefs cs = true := by simpa [AV.noRef] using hn
    rw [mapO2_same σ n cs hn'] at h
    cases h
    exact ⟨[], snapA_noRef hn⟩
  · refine ⟨rs, ?_⟩
    unfold snapA
    rw [if_neg hn]
    simp only [h]
theorem snap_tup {σ : H} {n : Nat} {cs l : List AV} {rs : List Nat} (h : mapO2 (snapA σ n) cs = some (l, rs)) : ∃ ns, snapA σ (n + 1) (.tup cs) = some (.tup l, ns) := by
  by_cases hn : (AV.tup cs).noRef = true
  · have hn' : AV.noRefs cs = true := by simpa [AV.noRef] using hn
    rw [mapO2_same σ n cs hn'] at h
    cases h
    exact ⟨[], snapA_noRef hn⟩
  · refine ⟨rs, ?_⟩
    unfold snapA
    rw [if_neg hn]
    simp only [h]
theorem type_in (l : List Da) (nl : Bool) (hl : l.length < big) (i j : Nat) (d : Da) (c : Cn) (hi : l[i]? = some d) (hj : d.cs[j]? = some c) (hv : d.vs.length ≤ 2 ^ 38) (ha : c.as.length ≤ 2 ^ 38) (hcl : d.cs.length < big) (hw : wideTs c.as) :
    Ans ctx 34 [encR 4 nl (encDs l), .int .i64 i, .int .i64 j] (.tup [encR 4 true (encYs c.as), encY (makes d)]) := by
  have g1 : (encDs l)[i]? = some (encD d) := by simp [encDs, hi]
  have hil : i < l.length := (List.getElem?_eq_some_iff.1 hi).1
  have hjl : j < d.cs.length := (List.getElem?_eq_some_iff.1 hj).1
  have g2 : idxN (i : Int) l.length = some i := by unfold idxN; rw [if_pos (by omega)]; simp
  have g3 : idxN (j : Int) d.cs.length = some j := by unfold idxN; rw [if_pos (by omega)]; simp
  have g4 : (encCs d.cs)[j]? = some (encC c) := by simp [encCs, hj]
  have e1 : encR 4 nl (encDs l) = .sl 4 (encDs l) := by
    cases l with
    | nil => simp at hil
    | cons a l => simp
  have e2 : encR 3 true (encCs d.cs) = .sl 3 (encCs d.cs) := by
    cases h : d.cs with
    | nil => rw [h] at hjl; simp at hjl
    | cons a l => simp
  unfold encD at g1
  rw [e2] at g1
  unfold encC at g4
  have h1 : ¬ (i : Int) < 0 := by omega
  have h2 : ¬ (l.length : Int) ≤ (i : Int) := by omega
  have h3 : ¬ (j : Int) < 0 := by omega
  have h4 : ¬ (d.cs.length : Int) ≤ (j : Int) := by omega
  obtain ⟨fr1, a1, a2, a3, a4, a5, a6, a7⟩ := lp34_0 (.sl 4 (encDs l)) (.int .i64 i) (.agg [.int .i64 0, .int .i64 0, .str [], .nil]) (encYs c.as) (by simp [big]; omega) c.as 0 [] (Tail.all _) (copieds_ans c.as hw) (by simpa using ha)
  obtain ⟨k1, hk1⟩ := a1.den
  obtain ⟨fr2, b1, b2, b3, b4, b5⟩ := lp34_1 (rowV 0 c.as.length 4) d.s d.vs.length hv (stH 4 (encYs c.as)) d.vs.length 0 [] (by omega) rfl
  obtain ⟨k2, hk2⟩ := b1.den
  have hm : encY (makes d) = .agg [.int .i64 2, .int .i64 0, .str d.s, encR 4 true (encYs (varsF 0 d.vs.length))] := by
    unfold makes
    rw [encY_mk, varsF_eq, List.range_eq_range']
    rfl
  generalize hV : varsF 0 d.vs.length = V at *
  simp only [List.nil_append] at *
  have hs : ∃ ns, snapA (stH 4 (encYs c.as) ++ stH 4 (encYs V)) 200 (.tup [rowV 0 c.as.length 4, .agg [.int .i64 2, .int .i64 0, .str d.s, rowV (stH 4 (encYs c.as)).length V.length 4]]) = some (.tup [encR 4 true (encYs c.as), encY (makes d)], ns) := by
    obtain ⟨n1, w1⟩ := snapStH [] 4 (encYs c.as) (by simp) (stH 4 (encYs V)) 198
    obtain ⟨n2, w2⟩ := snapStH (stH 4 (encYs c.as)) 4 (encYs V) (by simp) [] 197
    simp only [List.length_nil, List.nil_append, encYs_length, List.append_nil] at w1 w2
    obtain ⟨n3, w3⟩ := snap_agg (σ := stH 4 (encYs c.as) ++ stH 4 (encYs V)) (n := 198) (cs := [.int .i64 2, .int .i64 0, .str d.s, rowV (stH 4 (encYs c.as)).length V.length 4]) (l := [.int .i64 2, .int .i64 0, .str d.s, encR 4 true (encYs V)]) (rs := [] ++ ([] ++ ([] ++ (n2 ++ []))))
      (by simp only [mapO2, w2, snapA_noRef (a := .int .i64 2) rfl, snapA_noRef (a := .int .i64 0) rfl, snapA_noRef (a := .str d.s) rfl])
    rw [hm]
    exact snap_tup (rs := n1 ++ (n3 ++ [])) (by simp only [mapO2, w1, w3])
  obtain ⟨ns, hs⟩ := hs
  rw [e1]
  refine Ans.fn (σ' := stH 4 (encYs c.as) ++ stH 4 (encYs V)) (rs := []) fn34_ (by simp) ⟨k1 + k2, fun N hN => ?_⟩ hs
  have hk1 := hk1 N (by omega)
  have hk2 := hk2 N (by omega)
  have z1 : rowV 0 ([] : List Ps.Ty).length 4 = .nil := rfl
  have z2 : stH 4 (encYs []) = [] := rfl
  have z3 : rowV (stH 4 (encYs c.as)).length ([] : List Ps.Ty).length 4 = .nil := rfl
  rw [z1, z2] at hk1
  rw [z2, z3, List.append_nil] at hk2
  simp only [Int.cast_ofNat_Int, encYs_length] at hk1 hk2
  simp -implicitDefEqProofs [i34, c34, g1, g2, g3, g4, h1, h2, h3, h4, hk1, hk2, a2, a3, a4, a5, a6, a7, b2, b3, b4, b5]
theorem type_out1 (l : List Da) (nl : Bool) (i : Nat) (j : Int) (hi : l.length ≤ i) : Ans ctx 34 [encR 4 nl (encDs l), .int .i64 i, .int .i64 j] (.tup [.nil, encY (.mk 0 0 [] [])]) := by
  have h1 : ¬ (i : Int) < 0 := by omega
  have h2 : (l.length : Int) ≤ (i : Int) := by omega
  refine Ans.of (σ' := []) fn34_ (by simp) (by simp) ⟨0, fun N hN => ?_⟩
  simp -implicitDefEqProofs [i34, c34, h1, h2, encY_mk]
theorem at_s12 {l : List Str} {k : Nat} (h : k < l.length) : (encSs l)[k]? = some (.str l[k]) := by
  unfold encSs
  rw [List.getElem?_map, List.getElem?_eq_getElem h]; rfl
def HiD (n m : Nat) (fr : Fr) : Prop := ∀ t, n ≤ t → t < m → getS fr.sl t = .u
def VT : List Str := [[112], [113], [114], [115], [116]]
def tInt : Ps.Ty := .mk 2 0 [73, 110, 116] []
def cA : Cn := ⟨[65], 0, []⟩
def cB : Cn := ⟨[66], 0, [tInt]⟩
def dd (k : Nat) : Da := ⟨[68], 0, VT.take k, [cA, cB]⟩
def CAV : AV := .agg [.str [65], .int .i64 0, .nil]
def CBV : AV := .agg [.str [66], .int .i64 0, .sl 4 [.agg [.int .i64 2, .int .i64 0, .str [73, 110, 116], .nil]]]
def dV (k : Nat) : AV := .agg [.str [68], .int .i64 0, rowV 1 k 1, .hs 0 2 0 2 3]
theorem encC_A : encC cA = CAV := by simp [encC, cA, CAV]
theorem encC_B : encC cB = CBV := by simp [encC, cB, CBV, tInt, encY_mk]
structure RD (σ : H) (k : Nat) : Prop where
  c : ∃ fz, σ[0]? = some (.arr fz 3 [CAV, CBV])
  v : k ≠ 0 → ∃ fz, σ[1]? = some (.arr fz 1 (encSs (VT.take k)))
theorem frz_keeps : ∀ (ns : List Nat) (σ : H) (q : Nat) (fz : Bool) (sz : Nat) (xs : List AV), σ[q]? = some (.arr fz sz xs) → ∃ fz', (frzH σ ns)[q]? = some (.arr fz' sz xs)
  | [], σ, q, fz, sz, xs, h => ⟨fz, h⟩
  | r :: ns, σ, q, fz, sz, xs, h => by
    unfold frzH
    by_cases hr : r = q
    · subst hr
      rw [h]
      simp only
      have hl := (List.getElem?_eq_some_iff.1 h).1
      exact frz_keeps ns _ r true sz xs (List.getElem?_set_self hl)
    · split
      · exact frz_keeps ns _ q fz sz xs (by rw [List.getElem?_set_ne hr]; exact h)
      · exact frz_keeps ns σ q fz sz xs h
theorem RD.frz {σ : H} {k : Nat} (h : RD σ k) (ns : List Nat) : RD (frzH σ ns) k := by
  obtain ⟨⟨f1, h1⟩, h2⟩ := h
  refine ⟨frz_keeps ns σ 0 f1 3 _ h1, fun hk => ?_⟩
  obtain ⟨f2, h3⟩ := h2 hk
  exact frz_keeps ns σ 1 f2 1 _ h3
theorem snap_sl {σ : H} {n sz : Nat} {xs l : List AV} {rs : List Nat} (hn : (AV.sl sz xs).noRef = false) (h : mapO2 (snapA σ n) xs = some (l, rs)) : snapA σ (n + 1) (.sl sz xs) = some (.sl sz l, rs) := by
  unfold snapA
  rw [if_neg (by rw [hn]; exact Bool.false_ne_true)]
  simp only [h]
theorem snap_d {σ : H} {k : Nat} (hk : k ≤ 4) (h : RD σ k) : ∃ ns, snapA σ 200 (.sl 4 [dV k]) = some (.sl 4 [encD (dd k)], ns) := by
  obtain ⟨⟨f1, h1⟩, h2⟩ := h
  have hl : (VT.take k).length = k := by simp [VT]; omega
  have w1 := snapA_hs (n := 197) (v := 2) (m := 2) h1 rfl (Nat.le_refl _) (by simp [CAV, CBV, AV.noRefs, AV.noRef])
  obtain ⟨n2, w2, _⟩ := snap_rowV 1 1 (encSs (VT.take k)) σ 197 (fun hx => by
    have : k ≠ 0 := by rintro rfl; simp at hx
    exact h2 this) (by simp)
  rw [encSs_length, hl] at w2
  have e1 : encD (dd k) = .agg [.str [68], .int .i64 0, encR 1 true (encSs (VT.take k)), .sl 3 [CAV, CBV]] := by
    simp [encD, dd, encCs, encC_A, encC_B]
  have hm : mapO2 (snapA σ 198) [.str [68], .int .i64 0, rowV 1 k 1, .hs 0 2 0 2 3] = some ([.str [68], .int .i64 0, encR 1 true (encSs (VT.take k)), .sl 3 [CAV, CBV]], [] ++ ([] ++ (n2 ++ ([0] ++ [])))) := by
    simp only [mapO2, w1, w2, snapA_noRef (a := .str [68]) rfl, snapA_noRef (a := .int .i64 0) rfl]
    rfl
  obtain ⟨n3, w3⟩ := snap_agg hm
  refine ⟨n3 ++ [], ?_⟩
  rw [e1]
  refine snap_sl ?_ ?_
  · simp [dV, AV.noRef, AV.noRefs]
  · unfold dV
    simp only [mapO2, w3]
theorem dcall {σ : H} {k : Nat} (hk : k ≤ 4) (h : RD σ k) {f : Nat} {fi : FnI} (hf : ctx.fn f = some fi) {rest : List AV} {r : AV} (hr : AV.noRefs rest = true) (ha : Ans ctx f (.sl 4 [encD (dd k)] :: rest) r) : ∃ σ', AnsH ctx f (.sl 4 [dV k] :: rest) σ r σ' ∧ RD σ' k := by
  obtain ⟨ns, w⟩ := snap_d hk h
  have hsn : snapL σ (.sl 4 [dV k] :: rest) = some (.sl 4 [encD (dd k)] :: rest, ns ++ []) := by
    unfold snapL
    simp only [mapO2, w, mapO2_same σ 200 rest hr]
  have hn : AV.noRefs (.sl 4 [dV k] :: rest) = false := by simp [AV.noRefs, dV, AV.noRef]
  have hn' : AV.noRefs (.sl 4 [encD (dd k)] :: rest) = true := by
    simp [AV.noRefs, AV.noRef, hr, encD]
  have := AnsH.lay hf hn hsn hn' ha
  refine ⟨_, this, ?_⟩
  cases r.scalars with
  | true => exact h
  | false => exact h.frz _
theorem lp10_0 (W : AV) (k : Nat) (hk : k ≤ 4) : ∀ (n i : Nat), i + n = k →
    ∃ fr', Lp ctx [22, 36] [] [1, 5, 6, 7] b10_0 ⟨[(1, .v W), (5, .v (.int .i64 k)), (6, .bx (dV i)), (7, .v (.int .i64 i))], false⟩ ([.arr false 3 [CAV, CBV]] ++ stH 1 (encSs (VT.take i))) (.ex 0) fr' ([.arr false 3 [CAV, CBV]] ++ stH 1 (encSs (VT.take k))) ∧
      fr'.lk = false ∧ getS fr'.sl 1 = .v W ∧ getS fr'.sl 5 = .v (.int .i64 k) ∧ getS fr'.sl 6 = .bx (dV k) ∧ HiD 8 24 fr' ∧ HiD 29 147 fr' ∧ getS fr'.sl 4 = .u
  | 0, i, h => by
    simp only [Nat.add_zero] at h
    subst h
    refine ⟨?_, Lp.exit ⟨0, fun N _ => ?_⟩ (by simp), ?_⟩
    rotate_left
    · simp -implicitDefEqProofs [b10_0, dV]
      rfl
    · refine ⟨by simp, by simp, by simp, by simp [dV], fun t h1 h2 => ?_, fun t h1 h2 => ?_, by simp⟩
      all_goals simp only [getS]
      all_goals repeat rw [if_neg (by omega)]
  | n + 1, i, h => by
    have hw := wrap_succ (n := i) (by unfold big; omega)
    have hlt : (i : Int) < (k : Int) := by omega
    have hl : (VT.take i).length = i := by simp [VT]; omega
    have hr5 : i < VT.length := by simp [VT]; omega
    have gn := at_s12 (l := VT) (k := i) hr5
    have hidx : idxN (i : Int) 5 = some i := idx_at hr5
    have happ := app_own2 [.arr false 3 [CAV, CBV]] ⟨.str, 1, 16, .str [], [.str]⟩ (encSs (VT.take i)) (.str VT[i]) (by simp) (by simp; omega) (by simp; omega)
    have e1 : encSs (VT.take i) ++ [.str VT[i]] = encSs (VT.take (i + 1)) := by
      rw [List.take_succ_eq_append_getElem hr5, encSs_app]
      rfl
    rw [e1] at happ
    have hl2 : (VT.take (i + 1)).length = i + 1 := by simp [VT]; omega
    simp only [encSs_length, hl, hl2, List.length_singleton] at happ
    obtain ⟨fr', l1, l2⟩ := lp10_0 W k hk n (i + 1) (by omega)
    generalize VT[i] = s at *
    simp only [VT, encSs, List.map_cons, List.map_nil] at gn
    unfold dV at l1 ⊢
    unfold dV at l2
    generalize hX : [HObj.arr false 3 [CAV, CBV]] ++ stH 1 (encSs (VT.take i)) = X at *
    generalize hY : [HObj.arr false 3 [CAV, CBV]] ++ stH 1 (encSs (VT.take (i + 1))) = Y at *
    refine ⟨fr', Lp.step ⟨0, fun N hN => ?_⟩ l1, l2⟩
    simp -implicitDefEqProofs [b10_0, d10_0, hw, hlt, hidx, gn, happ, -appendH]
@[simp] theorem dV_fits (k : Nat) (ti : TI) : (dV k).fits ti = (ti.k.isAgg && 4 == ti.size) := by simp [dV]
theorem enc_makes (d : Da) : encY (makes d) = .agg [.int .i64 2, .int .i64 0, .str d.s, encR 4 true (encYs (varsF 0 d.vs.length))] := by
  unfold makes
  rw [encY_mk, varsF_eq, List.range_eq_range']
  rfl
theorem lp10_1 {σ : H} (k : Nat) (hk : k ≤ 4) (L : List AV) (hL : L.length = k) : ∀ (n i : Nat), i + n = k → Tail L i (encYs (varsF i n)) →
    ∃ fr', Lp ctx [22, 36] [] [5, 11, 14] b10_1 ⟨[(5, .v (.int .i64 k)), (11, .bx (.agg [.int .i64 2, .int .i64 0, .str [68], encR 4 true L])), (14, .v (.int .i64 i))], false⟩ σ (.ex 2) fr' σ ∧ fr'.lk = false ∧ getS fr'.sl 146 = .u ∧ getS fr'.sl 4 = .u
  | 0, i, h, ht => by
    simp only [Nat.add_zero] at h
    subst h
    refine ⟨?_, Lp.exit ⟨0, fun N _ => ?_⟩ (by simp), ?_⟩
    rotate_left
    · simp -implicitDefEqProofs [b10_1]
      rfl
    · exact ⟨by simp, by simp, by simp⟩
  | n + 1, i, h, ht => by
    have e2 : varsF i (n + 1) = .mk 1 (i : Int) [] [] :: varsF (i + 1) n := rfl
    rw [e2] at ht
    simp only [encYs_cons, encY_mk] at ht
    obtain ⟨g1, g2, g3, g4, g5⟩ := ht.cons
    have hw := wrap_succ (n := i) (by unfold big; omega)
    have hlt : (i : Int) < (k : Int) := by omega
    have g6 := g5 4 true
    obtain ⟨fr', l1, l2⟩ := lp10_1 k hk L hL n (i + 1) (by omega) g4
    rw [g6] at l1 ⊢
    refine ⟨fr', Lp.step ⟨0, fun N hN => ?_⟩ l1, l2⟩
    simp -implicitDefEqProofs [b10_1, hw, hlt, g1, g2, g3]
theorem okD_dd (k : Nat) (hk : k ≤ 4) : ∀ d ∈ [dd k], okD d := by
  intro d hd
  simp only [List.mem_singleton] at hd
  subst hd
  refine ⟨?_, by simp [dd, lim], ?_⟩
  · simp [dd, VT, lim]; omega
  · intro c hc
    simp only [dd, List.mem_cons, List.not_mem_nil, or_false] at hc
    rcases hc with rfl | rfl
    · simp [cA, okC, okTs, lim]
    · simp [cB, okC, okTs, okT, tInt, lim]
theorem calls3 (k : Nat) (hk : k ≤ 4) {σ : H} (h : RD σ k) (s : Str) (j : Nat) (c : Cn) (hj : [cA, cB][j]? = some c) : ∃ k0 σ2 σ3 σ4, ∀ N, k0 ≤ N →
    acall ctx N 33 [.sl 4 [dV k], .str s] σ = some (.tup [.int .i64 (conI (findCon s 0 [dd k])).1, .int .i64 (conI (findCon s 0 [dd k])).2], σ2) ∧
    acall ctx N 34 [.sl 4 [dV k], .int .i64 0, .int .i64 j] σ2 = some (.tup [encR 4 true (encYs c.as), .agg [.int .i64 2, .int .i64 0, .str [68], encR 4 true (encYs (varsF 0 k))]], σ3) ∧
    acall ctx N 34 [.sl 4 [dV k], .int .i64 1, .int .i64 0] σ3 = some (.tup [.nil, .agg [.int .i64 0, .int .i64 0, .str [], .nil]], σ4) := by
  have hvl : (dd k).vs.length = k := by simp [dd, VT]; omega
  have a1 := dcon_ans [dd k] true (by simp [big]) (okD_dd k hk) s
  have a2 := type_in [dd k] true (by simp [big]) 0 j (dd k) c rfl hj (by rw [hvl]; omega) (by
    rcases j with _ | _ | j
    · simp at hj; subst hj; simp [cA]
    · simp at hj; subst hj; simp [cB]
    · simp at hj) (by simp [dd, big]) (by
    rcases j with _ | _ | j
    · simp at hj; subst hj; simp [cA, wideTs]
    · simp at hj; subst hj; simp [cB, wideTs, wideT, tInt]
    · simp at hj)
  have a3 := type_out1 [dd k] true 1 0 (by simp)
  have eD : encR 4 true (encDs [dd k]) = .sl 4 [encD (dd k)] := by simp
  rw [eD] at a1 a2 a3
  rw [enc_makes, hvl] at a2
  rw [encY_mk] at a3
  obtain ⟨σ2, ⟨k1, h1⟩, r2⟩ := dcall hk h fn33_ (rest := [.str s]) (by simp [AV.noRefs, AV.noRef]) a1
  obtain ⟨σ3, ⟨k2, h2⟩, r3⟩ := dcall hk r2 fn34_ (rest := [.int .i64 ((0 : Nat) : Int), .int .i64 j]) (by simp [AV.noRefs, AV.noRef]) a2
  obtain ⟨σ4, ⟨k3, h3⟩, r4⟩ := dcall hk r3 fn34_ (rest := [.int .i64 ((1 : Nat) : Int), .int .i64 0]) (by simp [AV.noRefs, AV.noRef]) a3
  exact ⟨k1 + k2 + k3, σ2, σ3, σ4, fun N hN => ⟨h1 N (by omega), h2 N (by omega), h3 N (by omega)⟩⟩
set_option maxHeartbeats 4000000 in
theorem dataCons_of (haw : Ans ctx 31 [] (.bool true)) (n which : UInt8) : Ans ctx 10 [.int .u8 n.toNat, .int .u8 which.toNat] (.bool true) := by
  obtain ⟨kw, hkw⟩ := haw
  have hr : n.toNat % 5 < 5 := Nat.mod_lt _ (by omega)
  have hrem : ((n.toNat : Int)).tmod 5 = ((n.toNat % 5 : Nat) : Int) := rfl
  have hwr : IntKind.i64.wrap (n.toNat : Int) = (n.toNat : Int) := wrap_i64 (by have := n.toNat_lt; omega)
  have hwr2 : IntKind.i64.wrap (which.toNat : Int) = (which.toNat : Int) := wrap_i64 (by have := which.toNat_lt; omega)
  have h3 : which.toNat % 3 < 3 := Nat.mod_lt _ (by omega)
  have h2 : which.toNat % 2 < 2 := Nat.mod_lt _ (by omega)
  have hrem3 : ((which.toNat : Int)).tmod 3 = ((which.toNat % 3 : Nat) : Int) := rfl
  have hrem2 : ((which.toNat : Int)).tmod 2 = ((which.toNat % 2 : Nat) : Int) := rfl
  generalize n.toNat % 5 = k at *
  generalize which.toNat % 3 = j3 at *
  generalize which.toNat % 2 = j2 at *
  have hk : k ≤ 4 := by omega
  obtain ⟨fr0, a1, a2, a3, a4, a5, a6, a7, a8⟩ := lp10_0 (.int .u8 which.toNat) k hk k 0 (by omega)
  obtain ⟨k0, hk0⟩ := a1.den
  have hRD : RD ([.arr false 3 [CAV, CBV]] ++ stH 1 (encSs (VT.take k))) k := by
    refine ⟨⟨false, rfl⟩, fun hne => ⟨false, ?_⟩⟩
    cases k with
    | zero => exact absurd rfl hne
    | succ k => simp [VT, stH]
  generalize hX : [HObj.arr false 3 [CAV, CBV]] ++ stH 1 (encSs (VT.take k)) = X at *
  have z0 : [HObj.arr false 3 [CAV, CBV]] ++ stH 1 (encSs (VT.take 0)) = [.arr false 3 [CAV, CBV]] := rfl
  have z1 : dV 0 = .agg [.str [68], .int .i64 0, .nil, .hs 0 2 0 2 3] := rfl
  rw [z0, z1] at hk0
  unfold CAV CBV at hk0
  unfold HiD at a6 a7
  have hlv : (varsF 0 k).length = k := by rw [varsF_eq]; simp
  have w0 : IntKind.i64.wrap 0 = 0 := wrap_i64 (by omega)
  have w1 : IntKind.i64.wrap 1 = 1 := wrap_i64 (by omega)
  have hj2 : j2 = 0 ∨ j2 = 1 := by omega
  have hj3 : j3 = 0 ∨ j3 = 1 ∨ j3 = 2 := by omega
  rcases hj3 with rfl | rfl | rfl <;> rcases hj2 with rfl | rfl
  · obtain ⟨kc, σ2, σ3, σ4, hc⟩ := calls3 k hk hRD [65] 0 cA rfl
    obtain ⟨fr1, b1, b2, b3, b4⟩ := lp10_1 (σ := σ4) k hk (encYs (varsF 0 k)) (by simp [hlv]) k 0 (by omega) (Tail.all _)
    obtain ⟨k1, hk1⟩ := b1.den
    have ef : conI (findCon [65] 0 [dd k]) = (0, 0) := by rfl
    refine Ans.of (σ' := σ4) fn10_ (by simp) (by simp) ⟨k0 + kc + k1 + kw, fun N hN => ?_⟩
    have hk0 := hk0 N (by omega)
    obtain ⟨c1, c2, c3⟩ := hc N (by omega)
    have hk1 := hk1 N (by omega)
    have hkw := hkw N (by omega)
    rw [ef] at c1
    simp only [Int.cast_ofNat_Int] at hk0 hk1 c1 c2 c3
    simp only [cA, tInt, encYs_nil, encYs_cons, encY_mk, encR_tnil, encR_cons] at c2
    simp -implicitDefEqProofs [i10, c10, d10_2, w0, w1, hwr, hwr2, hrem, hrem2, hrem3, hk0, a2, a3, a4, a5, a6, a7, a8, c1, c2, c3, hk1, hlv, b2, b3, b4, hkw]
  · obtain ⟨kc, σ2, σ3, σ4, hc⟩ := calls3 k hk hRD [65] 1 cB rfl
    obtain ⟨fr1, b1, b2, b3, b4⟩ := lp10_1 (σ := σ4) k hk (encYs (varsF 0 k)) (by simp [hlv]) k 0 (by omega) (Tail.all _)
    obtain ⟨k1, hk1⟩ := b1.den
    have ef : conI (findCon [65] 0 [dd k]) = (0, 0) := by rfl
    refine Ans.of (σ' := σ4) fn10_ (by simp) (by simp) ⟨k0 + kc + k1 + kw, fun N hN => ?_⟩
    have hk0 := hk0 N (by omega)
    obtain ⟨c1, c2, c3⟩ := hc N (by omega)
    have hk1 := hk1 N (by omega)
    have hkw := hkw N (by omega)
    rw [ef] at c1
    simp only [Int.cast_ofNat_Int] at hk0 hk1 c1 c2 c3
    simp only [cB, tInt, encYs_nil, encYs_cons, encY_mk, encR_tnil, encR_cons] at c2
    simp -implicitDefEqProofs [i10, c10, d10_2, w0, w1, hwr, hwr2, hrem, hrem2, hrem3, hk0, a2, a3, a4, a5, a6, a7, a8, c1, c2, c3, hk1, hlv, b2, b3, b4, hkw]
  · obtain ⟨kc, σ2, σ3, σ4, hc⟩ := calls3 k hk hRD [66] 0 cA rfl
    obtain ⟨fr1, b1, b2, b3, b4⟩ := lp10_1 (σ := σ4) k hk (encYs (varsF 0 k)) (by simp [hlv]) k 0 (by omega) (Tail.all _)
    obtain ⟨k1, hk1⟩ := b1.den
    have ef : conI (findCon [66] 0 [dd k]) = (0, 1) := by rfl
    refine Ans.of (σ' := σ4) fn10_ (by simp) (by simp) ⟨k0 + kc + k1 + kw, fun N hN => ?_⟩
    have hk0 := hk0 N (by omega)
    obtain ⟨c1, c2, c3⟩ := hc N (by omega)
    have hk1 := hk1 N (by omega)
    have hkw := hkw N (by omega)
    rw [ef] at c1
    simp only [Int.cast_ofNat_Int] at hk0 hk1 c1 c2 c3
    simp only [cA, tInt, encYs_nil, encYs_cons, encY_mk, encR_tnil, encR_cons] at c2
    simp -implicitDefEqProofs [i10, c10, d10_2, w0, w1, hwr, hwr2, hrem, hrem2, hrem3, hk0, a2, a3, a4, a5, a6, a7, a8, c1, c2, c3, hk1, hlv, b2, b3, b4, hkw]
  · obtain ⟨kc, σ2, σ3, σ4, hc⟩ := calls3 k hk hRD [66] 1 cB rfl
    obtain ⟨fr1, b1, b2, b3, b4⟩ := lp10_1 (σ := σ4) k hk (encYs (varsF 0 k)) (by simp [hlv]) k 0 (by omega) (Tail.all _)
    obtain ⟨k1, hk1⟩ := b1.den
    have ef : conI (findCon [66] 0 [dd k]) = (0, 1) := by rfl
    refine Ans.of (σ' := σ4) fn10_ (by simp) (by simp) ⟨k0 + kc + k1 + kw, fun N hN => ?_⟩
    have hk0 := hk0 N (by omega)
    obtain ⟨c1, c2, c3⟩ := hc N (by omega)
    have hk1 := hk1 N (by omega)
    have hkw := hkw N (by omega)
    rw [ef] at c1
    simp only [Int.cast_ofNat_Int] at hk0 hk1 c1 c2 c3
    simp only [cB, tInt, encYs_nil, encYs_cons, encY_mk, encR_tnil, encR_cons] at c2
    simp -implicitDefEqProofs [i10, c10, d10_2, w0, w1, hwr, hwr2, hrem, hrem2, hrem3, hk0, a2, a3, a4, a5, a6, a7, a8, c1, c2, c3, hk1, hlv, b2, b3, b4, hkw]
  · obtain ⟨kc, σ2, σ3, σ4, hc⟩ := calls3 k hk hRD [67] 0 cA rfl
    obtain ⟨fr1, b1, b2, b3, b4⟩ := lp10_1 (σ := σ4) k hk (encYs (varsF 0 k)) (by simp [hlv]) k 0 (by omega) (Tail.all _)
    obtain ⟨k1, hk1⟩ := b1.den
    have ef : conI (findCon [67] 0 [dd k]) = (-1, -1) := by rfl
    refine Ans.of (σ' := σ4) fn10_ (by simp) (by simp) ⟨k0 + kc + k1 + kw, fun N hN => ?_⟩
    have hk0 := hk0 N (by omega)
    obtain ⟨c1, c2, c3⟩ := hc N (by omega)
    have hk1 := hk1 N (by omega)
    have hkw := hkw N (by omega)
    rw [ef] at c1
    simp only [Int.cast_ofNat_Int] at hk0 hk1 c1 c2 c3
    simp only [cA, tInt, encYs_nil, encYs_cons, encY_mk, encR_tnil, encR_cons] at c2
    simp -implicitDefEqProofs [i10, c10, d10_2, w0, w1, hwr, hwr2, hrem, hrem2, hrem3, hk0, a2, a3, a4, a5, a6, a7, a8, c1, c2, c3, hk1, hlv, b2, b3, b4, hkw]
  · obtain ⟨kc, σ2, σ3, σ4, hc⟩ := calls3 k hk hRD [67] 1 cB rfl
    obtain ⟨fr1, b1, b2, b3, b4⟩ := lp10_1 (σ := σ4) k hk (encYs (varsF 0 k)) (by simp [hlv]) k 0 (by omega) (Tail.all _)
    obtain ⟨k1, hk1⟩ := b1.den
    have ef : conI (findCon [67] 0 [dd k]) = (-1, -1) := by rfl
    refine Ans.of (σ' := σ4) fn10_ (by simp) (by simp) ⟨k0 + kc + k1 + kw, fun N hN => ?_⟩
    have hk0 := hk0 N (by omega)
    obtain ⟨c1, c2, c3⟩ := hc N (by omega)
    have hk1 := hk1 N (by omega)
    have hkw := hkw N (by omega)
    rw [ef] at c1
    simp only [Int.cast_ofNat_Int] at hk0 hk1 c1 c2 c3
    simp only [cB, tInt, encYs_nil, encYs_cons, encY_mk, encR_tnil, encR_cons] at c2
    simp -implicitDefEqProofs [i10, c10, d10_2, w0, w1, hwr, hwr2, hrem, hrem2, hrem3, hk0, a2, a3, a4, a5, a6, a7, a8, c1, c2, c3, hk1, hlv, b2, b3, b4, hkw]
theorem dataCons_ans (n which : UInt8) : Ans ctx 10 [.int .u8 n.toNat, .int .u8 which.toNat] (.bool true) := dataCons_of awake12_ans n which
end Go.Am.Try
