/- SccChain. -/
import Derived.Test.YtflhndopabnipaaS17
import Derived.Test.YtflhndopabnipaaS14
set_option linter.unusedVariables false
set_option linter.unusedSimpArgs false
set_option maxRecDepth 100000
namespace Go.Am.Try
open Go Go.Am.Sc
def cellsAt (k i : Nat) : List AV := (List.range k).map fun j => if j < i then .sl 1 [.int .i64 ((j + 1 : Nat) : Int)] else .nil
theorem cellsAt_len (k i : Nat) : (cellsAt k i).length = k := by simp [cellsAt]
theorem cellsAt_zero (k : Nat) : cellsAt k 0 = List.replicate k .nil := by
  unfold cellsAt
  apply List.ext_getElem
  · simp
  · intro i h1 h2
    simp
theorem cellsAt_set (k i : Nat) (h : i < k) : (cellsAt k i).set i (.sl 1 [.int .i64 ((i + 1 : Nat) : Int)]) = cellsAt k (i + 1) := by
  unfold cellsAt
  apply List.ext_getElem
  · simp
  · intro j h1 h2
    simp only [List.getElem_set, List.getElem_map, List.getElem_range]
    by_cases e : i = j
    · subst e
      rw [if_pos rfl, if_pos (by omega)]
    · rw [if_neg e]
      by_cases hj : j < i
      · rw [if_pos hj, if_pos (by omega)]
      · rw [if_neg hj, if_neg (by omega)]
theorem cellsAt_end (k : Nat) (hk : 0 < k) : cellsAt k (k - 1) = encG (chG k []) := by
  unfold cellsAt encG chG
  rw [List.map_map]
  apply List.map_congr_left
  intro j hj
  simp only [Function.comp]
  by_cases h : j + 1 < k
  · rw [if_pos (by omega), if_pos h]; rfl
  · rw [if_neg (by omega), if_neg h]; rfl
theorem chG_set (k b : Nat) (hk : 0 < k) : (encG (chG k [])).set (k - 1) (.sl 1 [.int .i64 (b : Int)]) = encG (chG k [(b : Int)]) := by
  unfold encG chG
  rw [List.map_map, List.map_map]
  apply List.ext_getElem
  · simp
  · intro j h1 h2
    simp only [List.length_map, List.length_range] at h2
    simp only [List.getElem_set, List.getElem_map, List.getElem_range, Function.comp]
    by_cases e : k - 1 = j
    · rw [if_pos e, if_neg (by omega)]; rfl
    · rw [if_neg e, if_pos (by omega), if_pos (by omega)]
theorem encU_take (L : List (List Nat)) (b : Nat) : (encU L).take b = encU (L.take b) := by unfold encU; rw [List.map_take]
theorem ones_take (k b : Nat) (h : b ≤ k) : (ones k).take b = ones b := by
  unfold ones
  rw [← List.map_take, List.take_range, Nat.min_eq_left h]
theorem ring_take (k b : Nat) : (ringL k b).take b = ones b := by
  unfold ringL
  have : (ones b).length = b := by simp [ones]
  rw [List.take_left' this]
theorem lp7 (X1 : AV) (k : Nat) (hk0 : 0 < k) (hk : k ≤ 300) : ∀ (f i : Nat), i + f + 1 = k →
    ∃ fr', Lp ctx [17, 36, 38] [] [1, 5, 6, 7] b7_0 ⟨[(1, .v X1), (5, .v (.int .i64 k)), (6, .v (.hs 0 k 0 k 1)), (7, .v (.int .i64 i))], false⟩ [.arr false 1 (cellsAt k i)] (.ex 0) fr' [.arr false 1 (cellsAt k (k - 1))] ∧ fr'.lk = false ∧ getS fr'.sl 1 = .v X1 ∧ getS fr'.sl 5 = .v (.int .i64 k) ∧ getS fr'.sl 6 = .v (.hs 0 k 0 k 1) ∧ Hi 30 fr' ∧ getS fr'.sl 8 = .u ∧ getS fr'.sl 9 = .u ∧ getS fr'.sl 10 = .u ∧ getS fr'.sl 11 = .u ∧ getS fr'.sl 4 = .u := by
  intro f
  induction f with
  | zero =>
    intro i hi
    have e : k - 1 = i := by omega
    rw [e]
    have hw := wrap_succ (n := i) (by unfold big; omega)
    have hlt : ¬ ((i + 1 : Nat) : Int) < (k : Int) := by omega
    push_cast at hw hlt
    refine ⟨?_, Lp.exit ⟨0, fun N _ => ?_⟩ (by simp), ?_⟩
    rotate_left
    · simp -implicitDefEqProofs [b7_0, hw, hlt]
      rfl
    · exact ⟨by simp, by simp, by simp, by simp, hi_of (by simp), by simp, by simp, by simp, by simp, by simp⟩
  | succ f ih =>
    intro i hi
    obtain ⟨fr', l1, l2⟩ := ih (i + 1) (by omega)
    obtain ⟨J, hJ⟩ : ∃ J : Int, J = ((i + 1 : Nat) : Int) := ⟨_, rfl⟩
    have hw := wrap_succ (n := i) (by unfold big; omega)
    have hset := cellsAt_set k i (by omega)
    rw [← hJ] at hw hset l1
    have hlt : J < (k : Int) := by omega
    have hix := idx_at (i := i) (n := k) (by omega)
    have hcl := cellsAt_len k i
    have hg : ∃ c, (cellsAt k i)[i]? = some c ∧ c = .nil := by
      unfold cellsAt
      rw [List.getElem?_map, List.getElem?_range (by omega)]
      simp
    obtain ⟨c, hg, rfl⟩ := hg
    refine ⟨fr', Lp.step ⟨0, fun N hN => ?_⟩ l1, l2⟩
    clear l1 l2 ih
    simp -implicitDefEqProofs [b7_0, hw, hlt, hix, hcl, ↓hg, hset]
theorem chG_small (k : Nat) (last : List Int) (hl : last.length ≤ 1) : ∀ q ∈ chG k last, q.2.length ≤ 2 ^ 30 := fun q hq => by
  unfold chG at hq
  obtain ⟨i, _, rfl⟩ := List.mem_map.1 hq
  by_cases h : i + 1 < k
  · rw [if_pos h]; simp
  · rw [if_neg h]; simp only; omega
theorem row_lay {f : Nat} {fi : FnI} {σ : H} {q k : Nat} {fz : Bool} {C rest : List AV} {r : AV} (hf : ctx.fn f = some fi) (hq : σ[q]? = some (.arr fz 1 C)) (hk : C.length = k) (hC : AV.noRefs C = true) (hr : AV.noRefs rest = true) (h : Ans ctx f (.sl 1 C :: rest) r) :
    AnsH ctx f (.hs q k 0 k 1 :: rest) σ r (match r.scalars with | true => σ | false => frzH σ [q]) := by
  refine AnsH.lay hf (by simp [AV.noRefs, AV.noRef]) ?_ (by simp [AV.noRefs, AV.noRef, hC, hr]) h
  unfold snapL mapO2
  have ht : C.take k = C := List.take_of_length_le (by omega)
  rw [snapA_hs (m := k) hq hk (Nat.le_refl _) (by rw [ht]; exact hC), ht, mapO2_noRefs hr]
  rfl
set_option maxHeartbeats 8000000 in
theorem sccChain_ans (n : Nat) (hn : n < 65536) (bk : Nat) (hbk : bk < 65536) : Ans ctx 7 [.int .u16 n, .int .u16 bk] (.bool true) := by
  obtain ⟨K, hK⟩ : ∃ K, K = 1 + n % 300 := ⟨_, rfl⟩
  have hK0 : 0 < K := by omega
  have hK300 : K ≤ 300 := by omega
  obtain ⟨b, hb⟩ : ∃ b, b = bk % K := ⟨_, rfl⟩
  have hbK : b < K := by rw [hb]; exact Nat.mod_lt _ hK0
  obtain ⟨C, hC⟩ : ∃ C, C = encG (chG K []) := ⟨_, rfl⟩
  obtain ⟨D, hD⟩ : ∃ D, D = encG (chG K [(b : Int)]) := ⟨_, rfl⟩
  have hCl : C.length = K := by rw [hC, encG_length, chG_length]
  have hDl : D.length = K := by rw [hD, encG_length, chG_length]
  have hCn : AV.noRefs C = true := by rw [hC]; simp
  have hDn : AV.noRefs D = true := by rw [hD]; simp
  have hlg := chG_length K []
  have hlh := chG_length K [(b : Int)]
  obtain ⟨G, g1, g2, g3⟩ := of_ans (chG K []) false (by omega) (chG_small K [] (by simp))
  obtain ⟨M, m1, m2, m3⟩ := of_ans (chG K [(b : Int)]) false (by omega) (chG_small K _ (by simp))
  rw [hlg] at g1
  rw [hlh] at m1
  have eG : G = ones K := Grp.only g1 (ones_grp K) g2 (ones_rise K)
  have eM : M = ringL K b := Grp.only m1 (ringL_grp K b hbK) m2 (ringL_rise K b hbK)
  subst eG
  subst eM
  rw [encR_false, ← hC] at g3
  rw [encR_false, ← hD] at m3
  have oneL : (ones K).length = K := by simp [ones]
  have ringLen : (ringL K b).length = b + 1 := by simp [ringL, ones]
  have hGne : encU (ones K) ≠ [] := fun e => by have := congrArg List.length e; simp [oneL] at this; omega
  have hMne : encU (ringL K b) ≠ [] := fun e => by have := congrArg List.length e; simp [ringLen] at this
  rw [encR_ne hGne] at g3
  rw [encR_ne hMne] at m3
  obtain ⟨LV, hLV⟩ : ∃ z, z = encU (ones K) := ⟨_, rfl⟩
  obtain ⟨MV, hMV⟩ : ∃ z, z = encU (ringL K b) := ⟨_, rfl⟩
  obtain ⟨OV, hOV⟩ : ∃ z, z = encU (ones b) := ⟨_, rfl⟩
  have hLl : LV.length = K := by rw [hLV, encU_length, oneL]
  have hMl : MV.length = b + 1 := by rw [hMV, encU_length, ringLen]
  have hLt : LV.take b = OV := by rw [hLV, encU_take, ones_take K b (by omega), hOV]
  have hMt : MV.take b = OV := by rw [hMV, encU_take, ring_take, hOV]
  have hmb : MV[b]? = some (encR 1 true (encNs (List.range' b (K - b)))) := by
    rw [hMV]
    refine encU_at ?_
    unfold ringL
    rw [List.getElem?_append_right (by simp [ones])]
    simp [ones]
  rw [← hLV] at g3
  rw [← hMV] at m3
  obtain ⟨fr1, a1, a2, a3, a4, a5, a6, a7, a8, a9, a10, a11⟩ := lp7 (.int .u16 bk) K hK0 hK300 (K - 1) 0 (by omega)
  obtain ⟨k1, hk1⟩ := a1.den
  rw [cellsAt_zero, cellsAt_end K hK0, ← hC] at hk1
  -- the calls
  obtain ⟨k2, hk2⟩ := row_lay (σ := [.arr false 1 C]) (q := 0) (rest := []) fn15_ rfl hCl hCn rfl g3
  have hset : C.set (K - 1) (.sl 1 [.int .i64 (b : Int)]) = D := by rw [hC, hD]; exact chG_set K b hK0
  obtain ⟨k3, hk3⟩ := row_lay (σ := [.arr true 1 C, .arr false 1 D]) (q := 1) (rest := []) fn15_ rfl hDl hDn rfl m3
  have hsc : ∀ xs, (AV.sl 1 xs).scalars = false := fun xs => rfl
  simp only [hsc] at hk2 hk3
  have hfz1 : frzH [.arr false 1 C] [0] = [.arr true 1 C] := rfl
  have hfz2 : frzH [.arr true 1 C, .arr false 1 D] [1] = [.arr true 1 C, .arr true 1 D] := rfl
  rw [hfz1] at hk2
  rw [hfz2] at hk3
  have rg := fun i j : Int => reach_ans (chG K []) false (by omega) (chG_small K [] (by simp)) i j
  have rh := fun i j : Int => reach_ans (chG K [(b : Int)]) false (by omega) (chG_small K _ (by simp)) i j
  have r1 : rchB (chG K []) 0 ((K - 1 : Nat) : Int) = true := rchB_iff.2 ⟨by omega, by omega, by omega, by omega, by
    simp only [Int.toNat_natCast, Int.toNat_zero]
    exact (chG_rch K 0 (K - 1) hK0).2 ⟨by omega, by omega⟩⟩
  have r2 : K ≠ 1 → rchB (chG K []) ((K - 1 : Nat) : Int) 0 = false := fun h1 => by
    cases e : rchB (chG K []) ((K - 1 : Nat) : Int) 0 with
    | false => rfl
    | true =>
      have := (rchB_iff.1 e).2.2.2.2
      simp only [Int.toNat_natCast, Int.toNat_zero] at this
      have := (chG_rch K (K - 1) 0 (by omega)).1 this
      omega
  have r3 : rchB (chG K [(b : Int)]) ((K - 1 : Nat) : Int) (b : Int) = true := rchB_iff.2 ⟨by omega, by omega, by omega, by omega, by
    simp only [Int.toNat_natCast]
    exact (ring_rch K b hbK (K - 1) b (by omega)).2 ⟨.inr (Nat.le_refl _), hbK⟩⟩
  have q1 := rg 0 ((K - 1 : Nat) : Int)
  have q2 := rg ((K - 1 : Nat) : Int) 0
  have q3 := rh ((K - 1 : Nat) : Int) (b : Int)
  rw [encR_false, ← hC] at q1 q2
  rw [encR_false, ← hD] at q3
  rw [r1] at q1
  rw [r3] at q3
  obtain ⟨k4, hk4⟩ := row_lay (σ := [.arr true 1 C, .arr true 1 D]) (q := 0) fn20_ rfl hCl hCn rfl q1
  obtain ⟨k5, hk5⟩ := row_lay (σ := [.arr true 1 C, .arr true 1 D]) (q := 0) fn20_ rfl hCl hCn rfl q2
  obtain ⟨k6, hk6⟩ := row_lay (σ := [.arr true 1 C, .arr true 1 D]) (q := 1) fn20_ rfl hDl hDn rfl q3
  have hsb : ∀ x, (AV.bool x).scalars = true := fun x => rfl
  simp only [hsb] at hk4 hk5 hk6
  obtain ⟨k7, hk7⟩ := same_U (ones b) (ones b) false false (by simp [ones, big]; omega) (fun l hl => by
    obtain ⟨i, _, rfl⟩ := ones_mem.1 hl
    simp [big])
  rw [encR_false, ← hOV] at hk7
  have hk7' : ∀ N, k7 ≤ N → ∀ σ, acall ctx N 16 [.sl 1 OV, .sl 1 OV] σ = some (.bool true, σ) := fun N hN σ => by rw [hk7 N hN σ]; simp
  obtain ⟨k8, hk8⟩ := awake14_ans
  refine Ans.of (σ' := [.arr true 1 C, .arr true 1 D]) fn7_ (by simp [AV.noRefs, AV.noRef]) (by simp) ⟨k1 + k2 + k3 + k4 + k5 + k6 + k7 + k8, fun N hN => ?_⟩
  have hk1 := hk1 N (by omega)
  have hk2 := hk2 N (by omega)
  have hk3 := hk3 N (by omega)
  have hk4 := hk4 N (by omega)
  have hk5 := hk5 N (by omega)
  have hk6 := hk6 N (by omega)
  have hk7 := hk7' N (by omega)
  have hk8 := hk8 N (by omega)
  clear hk7'
  obtain ⟨P, hP⟩ : ∃ P : Int, P = ((K - 1 : Nat) : Int) := ⟨_, rfl⟩
  rw [← hP] at hk4 hk5 hk6
  have hwn : IntKind.i64.wrap (n : Int) = (n : Int) := wrap_i64 (by omega)
  have hwb : IntKind.i64.wrap (bk : Int) = (bk : Int) := wrap_i64 (by omega)
  obtain ⟨R, hR⟩ : ∃ R, R = n % 300 := ⟨_, rfl⟩
  have hm1 : Int.tmod (n : Int) 300 = (R : Int) := by rw [hR]; exact tmod_nat n 300
  have hw1 : IntKind.i64.wrap (1 + (R : Int)) = (K : Int) := by rw [wrap_i64 (by omega)]; omega
  have hm2 : Int.tmod (bk : Int) (K : Int) = (b : Int) := by rw [tmod_nat, ← hb]
  have hwP : IntKind.i64.wrap ((K : Int) - 1) = P := by rw [wrap_i64 (by omega)]; omega
  have hiP : idxN P K = some (K - 1) := by rw [hP]; exact idx_at (by omega)
  have hib := idx_at hbK
  have hib1 : idxN (b : Int) (b + 1) = some b := idx_pred
  have hwb1 := wrap_succ (n := b) (by unfold big; omega)
  have hKne : ¬ K = 0 := by omega
  have hbg : K * 24 ≤ 35184372088832 ∧ K ≤ 35184372088832 := by omega
  have hf1 := fitAll_replicate ⟨.slice 3, 1, 24, .nil, []⟩ .nil rfl K
  have hbd1 : bounds none (some (b : Int)) K = some (0, b) := by
    unfold bounds
    simp
    omega
  have hbd2 := bounds_pred (n := b)
  have hKb : IntKind.i64.wrap ((K : Int) - (b : Int)) = ((K - b : Nat) : Int) := by rw [wrap_i64 (by omega)]; omega
  obtain ⟨Lb, hLb⟩ : ∃ Lb, Lb = K - b := ⟨_, rfl⟩
  obtain ⟨RV, hRV⟩ : ∃ RV, RV = encNs (List.range' b (K - b)) := ⟨_, rfl⟩
  have hRl : RV.length = Lb := by rw [hRV]; simp [hLb]
  have hmb' : MV[b]? = some (encR 1 true RV) := by rw [hRV]; exact hmb
  rw [← hLb] at hKb
  push_cast at hwb1
  have hCP : C[K - 1]? = some .nil := by
    rw [hC]
    unfold encG
    rw [List.getElem?_map, chG_get K [] (K - 1) (by omega), if_neg (by omega)]
    rfl
  have hfC : fitAll ⟨.slice 3, 1, 24, .nil, []⟩ C = true := by
    have : ∀ l, fitAll ⟨.slice 3, 1, 24, .nil, []⟩ (encG l) = true := fun l => by
      induction l with
      | nil => rfl
      | cons q l ih => rw [encG_cons, fitAll, ih, rowI_fits]; rfl
    rw [hC]; exact this _
  have hct : C.take K = C := List.take_of_length_le (by omega)
  have hel : elemsM ⟨.slice 3, 1, 24, .nil, []⟩ (.hs 0 K 0 K 1) [.arr true 1 C, .arr false 1 []] = some (C, [.arr true 1 C, .arr false 1 []]) := by
    simp [elemsM, arrAt, hCl, hct]
  have hap : appendH ⟨.slice 3, 1, 24, .nil, []⟩ (.hs 1 0 0 0 1) C [.arr true 1 C, .arr false 1 []] = some (.hs 1 K 0 K 1, [.arr true 1 C, .arr false 1 C]) := by
    have hc : True ∧ True ∧ 0 + 0 ≤ 0 ∧ (0 + C.length) * 24 ≤ 2 ^ 45 ∧ 0 + C.length ≤ 2 ^ 45 ∧ fitAll ⟨.slice 3, 1, 24, .nil, []⟩ C = true := ⟨trivial, trivial, by omega, by omega, by omega, hfC⟩
    simp only [appendH, arrAt, List.getElem?_cons_succ, List.getElem?_cons_zero, List.length_nil, if_true]
    rw [if_pos hc, if_neg (by omega)]
    simp [hCl]
  have j30 := a6 30 (by omega)
  have j31 := a6 31 (by omega)
  have j32 := a6 32 (by omega)
  have j33 := a6 33 (by omega)
  have j34 := a6 34 (by omega)
  have j35 := a6 35 (by omega)
  have j36 := a6 36 (by omega)
  have j37 := a6 37 (by omega)
  have j38 := a6 38 (by omega)
  have j39 := a6 39 (by omega)
  have j40 := a6 40 (by omega)
  have j41 := a6 41 (by omega)
  have j42 := a6 42 (by omega)
  have j43 := a6 43 (by omega)
  have j44 := a6 44 (by omega)
  have j45 := a6 45 (by omega)
  have j46 := a6 46 (by omega)
  have j47 := a6 47 (by omega)
  have j48 := a6 48 (by omega)
  have j49 := a6 49 (by omega)
  have j50 := a6 50 (by omega)
  have j51 := a6 51 (by omega)
  have j52 := a6 52 (by omega)
  have j53 := a6 53 (by omega)
  have j54 := a6 54 (by omega)
  have j55 := a6 55 (by omega)
  have j56 := a6 56 (by omega)
  have j57 := a6 57 (by omega)
  have j58 := a6 58 (by omega)
  have j59 := a6 59 (by omega)
  have j60 := a6 60 (by omega)
  have j61 := a6 61 (by omega)
  have j62 := a6 62 (by omega)
  have j63 := a6 63 (by omega)
  have j64 := a6 64 (by omega)
  have j65 := a6 65 (by omega)
  have j66 := a6 66 (by omega)
  have j67 := a6 67 (by omega)
  have j68 := a6 68 (by omega)
  have j69 := a6 69 (by omega)
  have j70 := a6 70 (by omega)
  have j71 := a6 71 (by omega)
  have j72 := a6 72 (by omega)
  have j73 := a6 73 (by omega)
  have j74 := a6 74 (by omega)
  have j75 := a6 75 (by omega)
  have j76 := a6 76 (by omega)
  have j77 := a6 77 (by omega)
  have j78 := a6 78 (by omega)
  have j79 := a6 79 (by omega)
  have j80 := a6 80 (by omega)
  have j81 := a6 81 (by omega)
  have j82 := a6 82 (by omega)
  have j83 := a6 83 (by omega)
  have j84 := a6 84 (by omega)
  have j85 := a6 85 (by omega)
  have j86 := a6 86 (by omega)
  have j87 := a6 87 (by omega)
  have j88 := a6 88 (by omega)
  have j89 := a6 89 (by omega)
  have j90 := a6 90 (by omega)
  have j91 := a6 91 (by omega)
  have j92 := a6 92 (by omega)
  have j93 := a6 93 (by omega)
  have j94 := a6 94 (by omega)
  have j95 := a6 95 (by omega)
  have j96 := a6 96 (by omega)
  have j97 := a6 97 (by omega)
  have j98 := a6 98 (by omega)
  have j99 := a6 99 (by omega)
  have j100 := a6 100 (by omega)
  have j101 := a6 101 (by omega)
  have j102 := a6 102 (by omega)
  clear g1 g2 m1 m2 g3 m3 rg rh q1 q2 q3 a1
  by_cases hK1 : K = 1
  · have h1 : ((K : Int) == 1) = true := by rw [hK1]; rfl
    simp (maxSteps := 8000000) -implicitDefEqProofs [i7, c7, d7_1, hk1, hk2, hk3, hk4, hk6, hk7, hk8, hwn, hwb, hm1, hw1, hm2, hwP, hiP, hib, hib1, hwb1, hKne, hbg, hf1, hbd1, hbd2, hKb, hset, hLl, hMl, hLt, hMt, ↓hmb', hRl, hel, hap, hCl, hDl, hCP, a2, a3, a4, a5, a7, a8, a9, a10, a11, j30, j31, j32, j33, j34, j35, j36, j37, j38, j39, j40, j41, j42, j43, j44, j45, j46, j47, j48, j49, j50, j51, j52, j53, j54, j55, j56, j57, j58, j59, j60, j61, j62, j63, j64, j65, j66, j67, j68, j69, j70, j71, j72, j73, j74, j75, j76, j77, j78, j79, j80, j81, j82, j83, j84, j85, j86, j87, j88, j89, j90, j91, j92, j93, j94, j95, j96, j97, j98, j99, j100, j101, j102, -appendH, -elemsM, h1]
  · have h1 : ((K : Int) == 1) = false := by rw [beq_eq_false_iff_ne]; omega
    rw [hP] at hk5
    rw [r2 hK1, ← hP] at hk5
    simp (maxSteps := 8000000) -implicitDefEqProofs [i7, c7, d7_1, hk1, hk2, hk3, hk4, hk6, hk7, hk8, hwn, hwb, hm1, hw1, hm2, hwP, hiP, hib, hib1, hwb1, hKne, hbg, hf1, hbd1, hbd2, hKb, hset, hLl, hMl, hLt, hMt, ↓hmb', hRl, hel, hap, hCl, hDl, hCP, a2, a3, a4, a5, a7, a8, a9, a10, a11, j30, j31, j32, j33, j34, j35, j36, j37, j38, j39, j40, j41, j42, j43, j44, j45, j46, j47, j48, j49, j50, j51, j52, j53, j54, j55, j56, j57, j58, j59, j60, j61, j62, j63, j64, j65, j66, j67, j68, j69, j70, j71, j72, j73, j74, j75, j76, j77, j78, j79, j80, j81, j82, j83, j84, j85, j86, j87, j88, j89, j90, j91, j92, j93, j94, j95, j96, j97, j98, j99, j100, j101, j102, -appendH, -elemsM, hk5, h1]
end Go.Am.Try
