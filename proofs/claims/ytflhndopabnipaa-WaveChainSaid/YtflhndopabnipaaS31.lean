/- WaveChain. -/
import Derived.Test.YtflhndopabnipaaS28
import Derived.Test.YtflhndopabnipaaS18
set_option linter.unusedVariables false
set_option linter.unusedSimpArgs false
set_option maxRecDepth 100000
namespace Go.Am.Try
open Go Go.Am.Sc
def wG (k T : Nat) : List (Bool × List Int) := (List.range T).map fun i => if 0 < i ∧ i < k then (false, [((i - 1 : Nat) : Int), (i : Int)]) else (true, [])
theorem wG_length (k T : Nat) : (wG k T).length = T := by simp [wG]
theorem wG_get (k T : Nat) {i : Nat} (h : i < T) : (wG k T)[i]? = some (if 0 < i ∧ i < k then (false, [((i - 1 : Nat) : Int), (i : Int)]) else (true, [])) := by
  unfold wG
  rw [List.getElem?_map, List.getElem?_range h]; rfl
theorem wG_ed (k T : Nat) (hk : k ≤ T) (a b : Nat) : Ed (outG (wG k T)) a b ↔ 0 < a ∧ a < k ∧ (b + 1 = a ∨ b = a) := by
  unfold Ed
  by_cases ha : a < T
  · rw [outs_at (wG_get k T ha), wG_length, cl_mem]
    by_cases h : 0 < a ∧ a < k
    · rw [if_pos h]
      simp only [List.mem_cons, List.not_mem_nil, or_false]
      constructor
      · rintro ⟨h1, h2⟩
        exact ⟨h.1, h.2, by omega⟩
      · rintro ⟨h1, h2, h3⟩
        exact ⟨by omega, by omega⟩
    · rw [if_neg h]
      simp
      omega
  · have : outs (outG (wG k T)) a = [] := by
      unfold outs
      rw [List.getD_eq_getElem?_getD, List.getElem?_eq_none (by rw [outG_len, wG_length]; omega)]; rfl
    rw [this]
    simp
    omega
def wC (k T i : Nat) : List AV := (List.range T).map fun j => if 0 < j ∧ j < k ∧ j < i then .sl 1 [.int .i64 ((j - 1 : Nat) : Int), .int .i64 (j : Int)] else .nil
theorem wC_len (k T i : Nat) : (wC k T i).length = T := by simp [wC]
theorem wC_zero (k T : Nat) : wC k T 0 = List.replicate T .nil := by
  unfold wC
  apply List.ext_getElem
  · simp
  · intro i h1 h2
    simp
theorem wC_set (k T i : Nat) (h : i < T) (h0 : 0 < i) (hk : i < k) : (wC k T i).set i (.sl 1 [.int .i64 ((i - 1 : Nat) : Int), .int .i64 (i : Int)]) = wC k T (i + 1) := by
  unfold wC
  apply List.ext_getElem
  · simp
  · intro j h1 h2
    simp only [List.getElem_set, List.getElem_map, List.getElem_range]
    by_cases e : i = j
    · subst e
      rw [if_pos rfl, if_pos (by omega)]
    · rw [if_neg e]
      by_cases hj : 0 < j ∧ j < k ∧ j < i
      · rw [if_pos hj, if_pos (by omega)]
      · rw [if_neg hj, if_neg (by omega)]
theorem wC_same (k T i : Nat) (h : ¬ (0 < i ∧ i < k)) : wC k T i = wC k T (i + 1) := by
  unfold wC
  refine List.map_congr_left fun j hj => ?_
  by_cases hj : 0 < j ∧ j < k ∧ j < i
  · rw [if_pos hj, if_pos (by omega)]
  · rw [if_neg hj, if_neg (by intro hc; apply hj; refine ⟨hc.1, hc.2.1, ?_⟩; have : j ≠ i := fun e => h ⟨by omega, by omega⟩; omega)]
theorem wC_end (k T : Nat) : wC k T T = encG (wG k T) := by
  unfold wC encG wG
  rw [List.map_map]
  refine List.map_congr_left fun j hj => ?_
  have := List.mem_range.1 hj
  simp only [Function.comp]
  by_cases h : 0 < j ∧ j < k
  · rw [if_pos ⟨h.1, h.2, this⟩, if_pos h]; rfl
  · rw [if_neg (by omega), if_neg h]; rfl
theorem upto_succ (k i : Nat) : upto k (i + 1) = upto k i ++ [if i < k then i else 0] := by
  unfold upto
  rw [List.range_succ, List.map_append]; rfl
theorem upto_len (k i : Nat) : (upto k i).length = i := by simp [upto]
theorem want_app (A : HObj) (k i v : Nat) (hv : v = if i < k then i else 0) (hi : i ≤ 2 ^ 30) : appendH ⟨.int .i64, 1, 8, .int .i64 0, [.int .i64]⟩ (rowV 1 i 1) [.int .i64 (v : Int)] (A :: stH 1 (encNs (upto k i))) = some (rowV 1 (i + 1) 1, A :: stH 1 (encNs (upto k (i + 1)))) := by
  rw [upto_succ, encNs_app, ← hv]
  have hl : (encNs (upto k i)).length = i := by simp [upto_len]
  cases i with
  | zero =>
    have e : encNs (upto k 0) = [] := rfl
    rw [e]
    simp [rowV, appendH, fitAll, stH, encNs]
  | succ i =>
    obtain ⟨x, xs, hx⟩ : ∃ x xs, encNs (upto k (i + 1)) = x :: xs := by
      cases h : encNs (upto k (i + 1)) with
      | nil => rw [h] at hl; simp at hl
      | cons x xs => exact ⟨x, xs, rfl⟩
    rw [hx] at hl ⊢
    simp at hl
    subst hl
    have e1 : xs.length + 1 + 1 ≤ 35184372088832 := by omega
    have e3 : ¬ xs.length + 1 + 1 ≤ xs.length + 1 := by omega
    have e4 : xs.length + 1 ≤ 35184372088831 := by omega
    have e5 : xs.length ≤ 35184372088830 := by omega
    have e6 : (xs.length + 1 + 1) * 8 ≤ 35184372088832 := by omega
    simp [rowV, appendH, fitAll, stH, arrAt, e1, e3, e4, e5, e6, encNs]
set_option maxHeartbeats 2000000 in
theorem lp12 (k m T : Nat) (hT : T = k + m) (hT1 : T ≤ 300) : ∀ (f i : Nat), i + f = T →
    ∃ fr', Lp ctx [21, 46, 49] [] [5, 6, 7, 8, 9] b12_0 ⟨[(5, .v (.int .i64 k)), (6, .v (.int .i64 m)), (7, .v (.hs 0 T 0 T 1)), (8, .v (rowV 1 i 1)), (9, .v (.int .i64 i))], false⟩ (.arr false 1 (wC k T i) :: stH 1 (encNs (upto k i))) (.ex 0) fr' (.arr false 1 (wC k T T) :: stH 1 (encNs (upto k T))) ∧ fr'.lk = false ∧ getS fr'.sl 5 = .v (.int .i64 k) ∧ getS fr'.sl 6 = .v (.int .i64 m) ∧ getS fr'.sl 7 = .v (.hs 0 T 0 T 1) ∧ getS fr'.sl 8 = .v (rowV 1 T 1) ∧ Hi 50 fr' ∧ getS fr'.sl 10 = .u ∧ getS fr'.sl 4 = .u
  | 0, i, hi => by
    have e : i = T := by omega
    subst e
    have hw : IntKind.i64.wrap ((k : Int) + (m : Int)) = (i : Int) := by rw [wrap_i64 (by omega)]; omega
    refine ⟨?_, Lp.exit ⟨0, fun N _ => ?_⟩ (by simp), ?_⟩
    rotate_left
    · simp -implicitDefEqProofs [b12_0, hw]
      rfl
    · exact ⟨by simp, by simp, by simp, by simp, by simp, hi_of (by simp), by simp, by simp⟩
  | f + 1, i, hi => by
    obtain ⟨fr', l1, l2⟩ := lp12 k m T hT hT1 f (i + 1) (by omega)
    have hw : IntKind.i64.wrap ((k : Int) + (m : Int)) = (T : Int) := by rw [wrap_i64 (by omega)]; omega
    have hw1 := wrap_succ (n := i) (by unfold big; omega)
    have hiT : i < T := by omega
    have hix := idx_at hiT
    have hcl := wC_len k T i
    have hg : ∃ c, (wC k T i)[i]? = some c ∧ c = .nil := by
      unfold wC
      rw [List.getElem?_map, List.getElem?_range hiT]
      simp
    obtain ⟨c, hg, rfl⟩ := hg
    refine ⟨fr', Lp.step ⟨0, fun N hN => ?_⟩ l1, l2⟩
    clear l1 l2
    by_cases h0 : 0 < i
    · by_cases hk : i < k
      · have hp : IntKind.i64.wrap ((i : Int) - 1) = ((i - 1 : Nat) : Int) := by rw [wrap_i64 (by omega)]; omega
        have hset := wC_set k T i hiT h0 hk
        have hap := want_app (.arr false 1 (wC k T (i + 1))) k i i (by rw [if_pos hk]) (by omega)
        obtain ⟨J, hJ⟩ : ∃ J, J = ((i - 1 : Nat) : Int) := ⟨_, rfl⟩
        rw [← hJ] at hp hset
        simp -implicitDefEqProofs [b12_0, hw, hw1, hiT, h0, hk, hp, hix, hcl, ↓hg, hset, hap, -appendH]
      · have hs := wC_same k T i (by omega)
        have hap := want_app (.arr false 1 (wC k T i)) k i 0 (by rw [if_neg hk]) (by omega)
        simp only [Int.cast_ofNat_Int] at hap
        rw [← hs]
        simp -implicitDefEqProofs [b12_0, hw, hw1, hiT, h0, hk, hap, -appendH]
    · have hs := wC_same k T i (by omega)
      have hap := want_app (.arr false 1 (wC k T i)) k i 0 (by have : i = 0 := by omega
                                                               subst this; split <;> rfl) (by omega)
      simp only [Int.cast_ofNat_Int] at hap
      rw [← hs]
      simp -implicitDefEqProofs [b12_0, hw, hw1, hiT, h0, hap, -appendH]
/-! ### its waves -/
theorem upto_get (k T : Nat) {x : Nat} (h : x < T) : (upto k T).getD x 0 = if x < k then x else 0 := by
  unfold upto
  rw [List.getD_eq_getElem?_getD, List.getElem?_map, List.getElem?_range h]; rfl
theorem upto_mxl (k T : Nat) (h0 : 0 < k) (hk : k ≤ T) : mxl (upto k T) = k := by
  apply Nat.le_antisymm
  · unfold mxl
    rcases mx_mem ((upto k T).map (· + 1)) with e | e
    · omega
    · obtain ⟨a, h1, h2⟩ := List.mem_map.1 e
      unfold upto at h1
      obtain ⟨i, _, rfl⟩ := List.mem_map.1 h1
      have h2 : (if i < k then i else 0) + 1 = mx ((upto k T).map (· + 1)) := h2
      split at h2 <;> omega
  · have := lt_mxl (lv := upto k T) (i := k - 1) (by rw [upto_len]; omega)
    rw [upto_get k T (by omega), if_pos (by omega)] at this
    omega
theorem zeros_cnt (k : Nat) (h0 : 0 < k) : ∀ T, ((List.range T).filter fun x => (if x < k then x else 0) == 0).length = if T ≤ k then min 1 T else 1 + (T - k)
  | 0 => by simp
  | T + 1 => by
    rw [List.range_succ, List.filter_append, List.length_append, zeros_cnt k h0 T]
    by_cases h : T < k
    · rw [if_pos (by omega), if_pos (by omega)]
      by_cases hz : T = 0
      · subst hz
        rw [List.filter_cons_of_pos (by rw [if_pos h]; rfl)]
        rfl
      · rw [List.filter_cons_of_neg (by rw [if_pos h, Bool.not_eq_true, beq_eq_false_iff_ne]; exact hz)]
        simp
        omega
    · rw [List.filter_cons_of_pos (by rw [if_neg h]; rfl)]
      simp only [List.filter_nil, List.length_singleton]
      split <;> split <;> omega
theorem upto_wav (k T : Nat) (h0 : 0 < k) (hk : k ≤ T) : (wav (upto k T)).length = k ∧ ∃ l, (wav (upto k T))[0]? = some l ∧ l.length = 1 + (T - k) := by
  unfold wav
  rw [upto_mxl k T h0 hk, upto_len]
  refine ⟨wvs_len _ _ _, _, wvs_get _ h0, ?_⟩
  rw [List.filter_congr (q := fun x => (if x < k then x else 0) == 0) (fun x hx => by rw [upto_get k T (List.mem_range.1 hx)]), zeros_cnt k h0 T]
  split <;> omega
set_option maxHeartbeats 8000000 in
theorem waveChain_ans (n a : UInt8) : Ans ctx 12 [.int .u8 n.toNat, .int .u8 a.toNat] (.bool true) := by
  obtain ⟨R1, hR1⟩ : ∃ R, R = n.toNat % 60 := ⟨_, rfl⟩
  obtain ⟨m, hm⟩ : ∃ m, m = a.toNat % 20 := ⟨_, rfl⟩
  obtain ⟨k, hk⟩ : ∃ k, k = 1 + R1 := ⟨_, rfl⟩
  obtain ⟨T, hT⟩ : ∃ T, T = k + m := ⟨_, rfl⟩
  have hk0 : 0 < k := by omega
  have hkT : k ≤ T := by omega
  have hT300 : T ≤ 300 := by omega
  have hnl : (n.toNat : Nat) < 256 := n.toNat_lt
  have hal : (a.toNat : Nat) < 256 := a.toNat_lt
  have hlen := wG_length k T
  have hsm : ∀ q ∈ wG k T, q.2.length ≤ 2 ^ 30 := fun q hq => by
    unfold wG at hq
    obtain ⟨i, _, rfl⟩ := List.mem_map.1 hq
    split <;> simp
  have hed := wG_ed k T hkT
  have hG : Grp (wG k T).length (Rch (Ed (outG (wG k T)))) (ones T) := by
    rw [hlen]
    exact chain_grp (k := k) fun x y h => (hed x y).1 h
  obtain ⟨h22, _, h25, _⟩ := wave_all (wG k T) false (by omega) hsm hG (ones_rise T)
  rw [hlen, chain_lv hkT (fun x y h => (hed x y).1 h) (fun x h1 h2 => (hed x (x - 1)).2 ⟨h1, h2, by omega⟩)] at h22 h25
  rw [encR_false] at h22 h25
  obtain ⟨wl, row0, w0, w1⟩ := upto_wav k T hk0 hkT
  have hWne : encU (wav (upto k T)) ≠ [] := fun e => by
    have := congrArg List.length e
    simp [wl] at this
    omega
  rw [encR_ne hWne] at h25
  obtain ⟨C, hC⟩ : ∃ C, C = encG (wG k T) := ⟨_, rfl⟩
  have hCl : C.length = T := by rw [hC, encG_length, hlen]
  have hCn : AV.noRefs C = true := by rw [hC]; simp
  obtain ⟨LV, hLV⟩ : ∃ z, z = encNs (upto k T) := ⟨_, rfl⟩
  have hLl : LV.length = T := by rw [hLV, encNs_length, upto_len]
  have hLn : AV.noRefs LV = true := by rw [hLV]; simp
  obtain ⟨WV, hWV⟩ : ∃ z, z = encU (wav (upto k T)) := ⟨_, rfl⟩
  have hWl : WV.length = k := by rw [hWV, encU_length, wl]
  have hW0 : WV[0]? = some (encR 1 true (encNs row0)) := by rw [hWV]; exact encU_at w0
  rw [← hC, ← hLV] at h22
  rw [← hC, ← hWV] at h25
  -- of nothing
  have h0 := (wave_all [] true (by simp) (by simp) (G := []) ⟨by simp, by simp, by simp, fun x hx => by simp at hx⟩ (by simp)).2.2.1
  have e0 : wav (lvL (([] : List (Bool × List Int)).length) (Ed (outG [])) []) = [] := rfl
  rw [e0] at h0
  have e1 : encR 1 true (encG []) = .nil := rfl
  have e2 : encR 1 true (encU []) = .nil := rfl
  rw [e1, e2] at h0
  obtain ⟨q0, h0⟩ := h0
  obtain ⟨q1, h1⟩ := ints_U (upto k T) (upto k T) (by rw [upto_len]; unfold big; omega)
  rw [← hLV] at h1
  simp only [decide_true] at h1
  obtain ⟨q2, h2⟩ := awake23_ans
  obtain ⟨fr1, a1, a2, a3, a4, a5, a6, a7, a8, a9⟩ := lp12 k m T hT hT300 T 0 (by omega)
  obtain ⟨q3, hk3⟩ := a1.den
  have hst : stH 1 LV = [.arr false 1 LV] := by
    cases hL : LV with
    | nil => rw [hL] at hLl; simp at hLl; omega
    | cons x l => rfl
  have eu0 : stH 1 (encNs (upto k 0)) = [] := rfl
  have er0 : rowV 1 0 1 = .nil := rfl
  rw [wC_zero, wC_end, ← hC, eu0, er0, ← hLV, hst] at hk3
  -- the calls
  obtain ⟨q4, hk4⟩ := row_lay (σ := [.arr false 1 C, .arr false 1 LV]) (q := 0) (rest := []) fn25_ rfl hCl hCn rfl h25
  obtain ⟨q5, hk5⟩ := row_lay (σ := [.arr true 1 C, .arr false 1 LV]) (q := 0) (rest := []) fn22_ rfl hCl hCn rfl h22
  have hsc : ∀ xs, (AV.sl 1 xs).scalars = false := fun xs => rfl
  simp only [hsc] at hk4 hk5
  have hfz1 : frzH [.arr false 1 C, .arr false 1 LV] [0] = [.arr true 1 C, .arr false 1 LV] := rfl
  have hfz2 : frzH [.arr true 1 C, .arr false 1 LV] [0] = [.arr true 1 C, .arr false 1 LV] := rfl
  rw [hfz1] at hk4
  rw [hfz2] at hk5
  have hlay : snapL [.arr true 1 C, .arr false 1 LV] [.sl 1 LV, .hs 1 T 0 T 1] = some ([.sl 1 LV, .sl 1 LV], [1]) := by
    have ht : LV.take T = LV := List.take_of_length_le (by omega)
    have w : snapA [.arr true 1 C, .arr false 1 LV] 200 (.hs 1 T 0 T 1) = some (.sl 1 LV, [1]) := by
      have := snapA_hs (σ := [.arr true 1 C, .arr false 1 LV]) (n := 199) (q := 1) (v := T) (m := T) (sz := 1) (fz := false) (xs := LV) rfl hLl (Nat.le_refl _) (by rw [ht]; exact hLn)
      rw [ht] at this
      exact this
    have w2 : snapA [.arr true 1 C, .arr false 1 LV] 200 (.sl 1 LV) = some (.sl 1 LV, []) := snapA_noRef (by simp [AV.noRef, hLn])
    unfold snapL
    simp only [mapO2, w, w2]
    rfl
  obtain ⟨q6, hk6⟩ := AnsH.lay fn17_ (by simp [AV.noRefs, AV.noRef]) hlay (by simp [AV.noRefs, AV.noRef, hLn]) ⟨q1, h1⟩
  have hsb : ∀ x, (AV.bool x).scalars = true := fun x => rfl
  simp only [hsb] at hk6
  refine Ans.of (σ' := [.arr true 1 C, .arr false 1 LV]) fn12_ (by simp [AV.noRefs, AV.noRef]) (by simp) ⟨q0 + q1 + q2 + q3 + q4 + q5 + q6, fun N hN => ?_⟩
  have h0 := h0 N (by omega)
  have h2 := h2 N (by omega)
  have hk3 := hk3 N (by omega)
  have hk4 := hk4 N (by omega)
  have hk5 := hk5 N (by omega)
  have hk6 := hk6 N (by omega)
  simp only [Int.cast_ofNat_Int] at hk3
  have hwn : IntKind.i64.wrap (n.toNat : Int) = (n.toNat : Int) := wrap_i64 (by omega)
  have hwa : IntKind.i64.wrap (a.toNat : Int) = (a.toNat : Int) := wrap_i64 (by omega)
  have hm1 : Int.tmod (n.toNat : Int) 60 = (R1 : Int) := by rw [hR1]; exact tmod_nat n.toNat 60
  have hm2 : Int.tmod (a.toNat : Int) 20 = (m : Int) := by rw [hm]; exact tmod_nat a.toNat 20
  have hw1 : IntKind.i64.wrap (1 + (R1 : Int)) = (k : Int) := by rw [wrap_i64 (by omega)]; omega
  have hwT : IntKind.i64.wrap ((k : Int) + (m : Int)) = (T : Int) := by rw [wrap_i64 (by omega)]; omega
  obtain ⟨M1, hM1⟩ : ∃ M1, M1 = 1 + m := ⟨_, rfl⟩
  have hwm : IntKind.i64.wrap (1 + (m : Int)) = (M1 : Int) := by rw [wrap_i64 (by omega)]; omega
  have hbg : T * 24 ≤ 35184372088832 ∧ T ≤ 35184372088832 := by omega
  have hf1 := fitAll_replicate ⟨.slice 3, 1, 24, .nil, []⟩ .nil rfl T
  have hr0 : row0.length = M1 := by rw [w1, hM1]; omega
  have hi0 : idxN 0 k = some 0 := idx_at (i := 0) hk0
  have erT : rowV 1 T 1 = .hs 1 T 0 T 1 := by
    obtain ⟨t, ht⟩ : ∃ t, T = t + 1 := ⟨T - 1, by omega⟩
    rw [ht]; rfl
  rw [erT] at a6
  have j50 := a7 50 (by omega)
  have j51 := a7 51 (by omega)
  have j52 := a7 52 (by omega)
  have j53 := a7 53 (by omega)
  have j54 := a7 54 (by omega)
  have j55 := a7 55 (by omega)
  have j56 := a7 56 (by omega)
  have j57 := a7 57 (by omega)
  have j58 := a7 58 (by omega)
  have j59 := a7 59 (by omega)
  have j60 := a7 60 (by omega)
  have j61 := a7 61 (by omega)
  have j62 := a7 62 (by omega)
  have j63 := a7 63 (by omega)
  have j64 := a7 64 (by omega)
  have j65 := a7 65 (by omega)
  have j66 := a7 66 (by omega)
  have j67 := a7 67 (by omega)
  have j68 := a7 68 (by omega)
  have j69 := a7 69 (by omega)
  have j70 := a7 70 (by omega)
  have j71 := a7 71 (by omega)
  have j72 := a7 72 (by omega)
  have j73 := a7 73 (by omega)
  have j74 := a7 74 (by omega)
  have j75 := a7 75 (by omega)
  have j76 := a7 76 (by omega)
  have j77 := a7 77 (by omega)
  have j78 := a7 78 (by omega)
  clear a1 hG hed h22 h25
  simp -implicitDefEqProofs [i12, c12, hwn, hwa, hm1, hm2, hw1, hwT, hwm, hbg, hf1, hk3, hk4, hk5, hk6, h0, h2, a2, a3, a4, a5, a6, a8, a9, hWl, hW0, hr0, hi0, j50, j51, j52, j53, j54, j55, j56, j57, j58, j59, j60, j61, j62, j63, j64, j65, j66, j67, j68, j69, j70, j71, j72, j73, j74, j75, j76, j77, j78]
end Go.Am.Try
