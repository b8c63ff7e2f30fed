/- Layer 17: TermSizes, of the machine. -/
import Derived.Test.YtmfmofkehnmimaaDoorL17e
import Derived.Test.YtmfmofkehnmimaaDoorL17i
set_option maxRecDepth 100000
set_option linter.unusedSimpArgs false
namespace Go.Am.Tryd
open Go

/-- a type so deep -/
def chain : Nat → Ty
  | 0 => conT sInt []
  | d + 1 => conT sList [chain d]

def varsL (w : Nat) : List Ty := (List.range w).map varT

theorem varsL_succ (w : Nat) : encTs (varsL (w + 1)) = encTs (varsL w) ++ [encT (varT w)] := by
  simp [varsL, List.range_succ, encTs_append]
theorem varsL_len (w : Nat) : (encTs (varsL w)).length = w := by simp [varsL]

/-- the loop that nests -/
theorem lp6_0 (a0 a1 : AV) (c : UInt8) (d : Nat) (hd : d = c.toNat % 130) : ∀ (j i : Nat), i + j = d →
    ∃ fr', Lp ctx [43, 56, 66] [] [0, 1, 2, 7, 8] b6_0 ⟨[(0, .v a0), (1, .v a1), (2, .v (.int .u8 c.toNat)), (7, .bx (encT (chain i))), (8, .v (.int .i64 i))], false⟩ [] (.ex 0) fr' [] ∧
      fr'.lk = false ∧ getS fr'.sl 0 = .v a0 ∧ getS fr'.sl 1 = .v a1 ∧ getS fr'.sl 2 = .v (.int .u8 c.toNat) ∧ getS fr'.sl 7 = .bx (encT (chain d)) ∧ ∀ t, memN t [24, 23, 22, 21, 20, 0, 1, 2, 7, 8] = false → getS fr'.sl t = .u
  | 0, i, h => by
    have hc : c.toNat < 256 := c.toNat_lt
    have w0 : IntKind.i64.wrap (c.toNat : Int) = c.toNat := wrap_i64 (by omega)
    have w1 : (c.toNat : Int).tmod 130 = ((c.toNat % 130 : Nat) : Int) := tmod_lit _ 130
    rw [← hd] at w1
    have hi : i = d := by omega
    subst hi
    refine ⟨?_, Lp.exit ⟨0, fun N _ => ?_⟩ (by simp), ?_⟩
    rotate_left
    · simp [b6_0, w0, w1]
      rfl
    · refine ⟨rfl, by simp, by simp, by simp, by simp, fun t ht => getS_out _ t ht⟩
  | j + 1, i, h => by
    have hc : c.toNat < 256 := c.toNat_lt
    have w0 : IntKind.i64.wrap (c.toNat : Int) = c.toNat := wrap_i64 (by omega)
    have w1 : (c.toNat : Int).tmod 130 = ((c.toNat % 130 : Nat) : Int) := tmod_lit _ 130
    rw [← hd] at w1
    have hlt : i < d := by omega
    have hw := wrap_succ (n := i) (by unfold big; omega)
    obtain ⟨fr', h1, h2⟩ := lp6_0 a0 a1 c d hd j (i + 1) (by omega)
    refine ⟨fr', Lp.step ⟨0, fun N _ => ?_⟩ h1, h2⟩
    simp [b6_0, w0, w1, hlt, hw, chain, encT, conT, sList]

/-- the loop that makes variables, behind the first -/
theorem lp6_1 (a1 a2 T : AV) (w : Nat) (hw : w < 100) : ∀ (j i : Nat), 1 ≤ i → i + j = w →
    ∃ fr', Lp ctx [43, 56, 66] [] [1, 2, 7, 9, 10, 11, 12] b6_1 ⟨[(1, .v a1), (2, .v a2), (7, .bx T), (9, .v (.hs 0 i 0 i 4)), (10, .v (.int .i64 w)), (11, .v (.int .i64 ((i + 1 : Nat) : Int))), (12, .v (.int .i64 i))], false⟩ [.arr false 4 (encTs (varsL i))] (.ex 2) fr' [.arr false 4 (encTs (varsL w))] ∧
      fr'.lk = false ∧ getS fr'.sl 1 = .v a1 ∧ getS fr'.sl 2 = .v a2 ∧ getS fr'.sl 7 = .bx T ∧ getS fr'.sl 9 = .v (.hs 0 w 0 w 4) ∧ getS fr'.sl 10 = .v (.int .i64 w) ∧ getS fr'.sl 11 = .v (.int .i64 ((w + 1 : Nat) : Int)) ∧ ∀ t, memN t [36, 35, 34, 1, 2, 7, 9, 10, 11, 12] = false → getS fr'.sl t = .u
  | 0, i, h1, h => by
    have hi : i = w := by omega
    subst hi
    refine ⟨?_, Lp.exit ⟨0, fun N _ => ?_⟩ (by simp), ?_⟩
    rotate_left
    · simp [b6_1]
      rfl
    · refine ⟨rfl, by simp, by simp, by simp, by simp, by simp, by simp, fun t ht => getS_out _ t ht⟩
  | j + 1, i, h1, h => by
    have hlt : i < w := by omega
    have hw1 := wrap_succ (n := i) (by unfold big; omega)
    have hw2 : IntKind.i64.wrap ((i : Int) + 1 + 1) = (i : Int) + 1 + 1 := wrap_i64 (by omega)
    obtain ⟨k, hk⟩ := var_ans i
    obtain ⟨fr', q1, q2⟩ := lp6_1 a1 a2 T w hw j (i + 1) (by omega) (by omega)
    have hX := varsL_len i
    rw [varsL_succ] at q1
    refine ⟨fr', Lp.step ⟨k, fun N hN => ?_⟩ q1, q2⟩
    have hk := hk N hN
    generalize encTs (varsL i) = X at *
    have ht : X.take i = X := by rw [← hX, List.take_length]
    have c1 : (i + 1) * 56 ≤ 35184372088832 := by omega
    have c2 : i + 1 ≤ 35184372088832 := by omega
    have c3 : i ≤ 35184372088831 := by omega
    have c4 : ¬ i + 1 ≤ i := by omega
    simp [b6_1, hlt, hw1, hw2, hk, hX, ht, c1, c2, c3, c4]

/-- the loop that lays the same type in a row, behind the first -/
theorem lp6_2 (a1 a11 : AV) (U : AV) (O : HObj) (T : Ty) (c : UInt8) (d : Nat) (hd : d = c.toNat % 130) (w : Nat) (hw : w < 100) : ∀ (j i : Nat), 1 ≤ i → i + j = w →
    ∃ fr', Lp ctx [43, 56, 66] [] [1, 2, 7, 10, 11, 13, 14, 15, 16] b6_2 ⟨[(1, .v a1), (2, .v (.int .u8 c.toNat)), (7, .bx (encT T)), (10, .v (.int .i64 w)), (11, .v a11), (13, .bx U), (14, .v (.hs 1 i 0 i 4)), (15, .v (.int .i64 ((i * (d + 1) + 1 : Nat) : Int))), (16, .v (.int .i64 i))], false⟩ [O, .arr false 4 (List.replicate i (encT T))] (.ex 4) fr' [O, .arr false 4 (List.replicate w (encT T))] ∧
      fr'.lk = false ∧ getS fr'.sl 1 = .v a1 ∧ getS fr'.sl 2 = .v (.int .u8 c.toNat) ∧ getS fr'.sl 7 = .bx (encT T) ∧ getS fr'.sl 11 = .v a11 ∧ getS fr'.sl 13 = .bx U ∧ getS fr'.sl 14 = .v (.hs 1 w 0 w 4) ∧ getS fr'.sl 15 = .v (.int .i64 ((w * (d + 1) + 1 : Nat) : Int)) ∧ ∀ t, memN t [50, 49, 48, 1, 2, 7, 10, 11, 13, 14, 15, 16] = false → getS fr'.sl t = .u
  | 0, i, h1, h => by
    have hi : i = w := by omega
    subst hi
    refine ⟨?_, Lp.exit ⟨0, fun N _ => ?_⟩ (by simp), ?_⟩
    rotate_left
    · simp [b6_2]
      rfl
    · refine ⟨rfl, by simp, by simp, by simp, by simp, by simp, by simp, by simp, fun t ht => getS_out _ t ht⟩
  | j + 1, i, h1, h => by
    have hlt : i < w := by omega
    have hc : c.toNat < 256 := c.toNat_lt
    have hd130 : d < 130 := by rw [hd]; exact Nat.mod_lt _ (by omega)
    have w0 : IntKind.i64.wrap (c.toNat : Int) = c.toNat := wrap_i64 (by omega)
    have w1 : (c.toNat : Int).tmod 130 = ((c.toNat % 130 : Nat) : Int) := tmod_lit _ 130
    rw [← hd] at w1
    have hw1 := wrap_succ (n := i) (by unfold big; omega)
    obtain ⟨z, hz⟩ : ∃ z, z = i * (d + 1) + 1 := ⟨_, rfl⟩
    have hzb : z ≤ 100 * 130 + 1 := by
      have : i * (d + 1) ≤ 100 * 130 := Nat.mul_le_mul (by omega) (by omega)
      omega
    have hz2 : (i + 1) * (d + 1) + 1 = z + d + 1 := by rw [hz, Nat.add_mul]; omega
    have w2 : IntKind.i64.wrap ((z : Int) + (d : Int)) = (z : Int) + (d : Int) := wrap_i64 (by omega)
    have w3 : IntKind.i64.wrap ((z : Int) + (d : Int) + 1) = (z : Int) + (d : Int) + 1 := wrap_i64 (by omega)
    obtain ⟨fr', q1, q2⟩ := lp6_2 a1 a11 U O T c d hd w hw j (i + 1) (by omega) (by omega)
    rw [hz2, List.replicate_succ'] at q1
    rw [← hz]
    have hX : (List.replicate i (encT T)).length = i := by simp
    refine ⟨fr', Lp.step ⟨0, fun N hN => ?_⟩ q1, q2⟩
    generalize List.replicate i (encT T) = X at *
    have ht : X.take i = X := by rw [← hX, List.take_length]
    have c1 : (i + 1) * 56 ≤ 35184372088832 := by omega
    have c2 : i + 1 ≤ 35184372088832 := by omega
    have c3 : i ≤ 35184372088831 := by omega
    have c4 : ¬ i + 1 ≤ i := by omega
    simp [b6_2, hlt, hw1, hX, ht, c1, c2, c3, c4, w0, w1, w2, w3]

/-- the loop over the wide row -/
theorem lp6_3 (a2 a11 a15 L : AV) (T U : AV) (O O' : HObj) (m : Nat) (hm : m < 100) : ∀ (j i : Nat), i + j = m →
    ∃ fr', Lp ctx [43, 56, 66] [] [2, 7, 11, 13, 14, 15, 17, 18] b6_3 ⟨[(2, .v a2), (7, .bx T), (11, .v a11), (13, .bx U), (14, .v L), (15, .v a15), (17, .v (.hs 2 m 0 m 4)), (18, .v (.int .i64 i))], false⟩ [O, O', .arr false 4 (List.replicate i (encT (varT 0)) ++ List.replicate j (encT noTy))] (.ex 6) fr' [O, O', .arr false 4 (List.replicate m (encT (varT 0)))] ∧
      fr'.lk = false ∧ getS fr'.sl 2 = .v a2 ∧ getS fr'.sl 7 = .bx T ∧ getS fr'.sl 11 = .v a11 ∧ getS fr'.sl 13 = .bx U ∧ getS fr'.sl 14 = .v L ∧ getS fr'.sl 15 = .v a15 ∧ getS fr'.sl 17 = .v (.hs 2 m 0 m 4) ∧ ∀ t, memN t [70, 69, 68, 67, 2, 7, 11, 13, 14, 15, 17, 18] = false → getS fr'.sl t = .u
  | 0, i, h => by
    have hi : i = m := by omega
    subst hi
    refine ⟨?_, Lp.exit ⟨0, fun N _ => ?_⟩ (by simp), ?_⟩
    rotate_left
    · simp [b6_3]
      rfl
    · refine ⟨rfl, by simp, by simp, by simp, by simp, by simp, by simp, by simp, fun t ht => getS_out _ t ht⟩
  | j + 1, i, h => by
    have hlt : i < m := by omega
    have hw1 := wrap_succ (n := i) (by unfold big; omega)
    have hix : idxN (i : Int) m = some i := by unfold idxN; rw [if_pos (by omega)]; simp
    obtain ⟨k, hk⟩ := var_ans 0
    have hk : ∀ N, k ≤ N → ∀ σ, acall ctx N 14 [.int .i64 0] σ = some (encT (varT 0), σ) := hk
    obtain ⟨fr', q1, q2⟩ := lp6_3 a2 a11 a15 L T U O O' m hm j (i + 1) (by omega)
    rw [List.replicate_succ'] at q1
    rw [List.replicate_succ]
    have hX : (List.replicate i (encT (varT 0))).length = i := by simp
    have hY : (List.replicate j (encT noTy)).length = j := by simp
    simp only [List.append_assoc, List.singleton_append] at q1
    refine ⟨fr', Lp.step ⟨k, fun N hN => ?_⟩ q1, q2⟩
    have hk := hk N hN
    generalize List.replicate i (encT (varT 0)) = X at *
    generalize List.replicate j (encT noTy) = Y at *
    subst hX
    have hl : X.length + (Y.length + 1) = m := by omega
    simp [b6_3, hlt, hw1, hix, hk, hl]

/-! ### in plain Lean -/

theorem chain_cl : ∀ d, cl (chain d)
  | 0 => by simp [chain, conT, cl, cls, sInt]
  | d + 1 => by simp [chain, conT, cl, cls, sList, chain_cl d]

theorem chain_names : ∀ d, namesA (chain d)
  | 0 => by
    simp only [chain, conT, namesA, namesAs, and_true]
    exact fun _ => .inr (.inr con_Int)
  | d + 1 => by
    simp only [chain, conT, namesA, namesAs, and_true]
    exact ⟨fun _ => .inr (.inr con_List), chain_names d⟩

theorem chain_nodes : ∀ d, nodes (chain d) = d + 1
  | 0 => by simp [chain, conT, nodes, nodess]
  | d + 1 => by simp [chain, conT, nodes, nodess, chain_nodes d]

theorem chain_may : ∀ d k, mayT k (chain d) = decide (d < k)
  | 0, k => by
    have : namedB sInt 0 = true := by decide
    simp only [chain, conT, mayT, mayTs, List.length_nil, this]
    by_cases h : 1 ≤ k
    · have : 0 < k := h
      simp [h, this]
    · have : ¬ 0 < k := h
      simp [h, this]
  | d + 1, k => by
    have : namedB sList 1 = true := by decide
    simp only [chain, conT, mayT, mayTs, List.length_cons, List.length_nil, this, chain_may d (k - 1)]
    by_cases h : 1 ≤ k
    · have h1 : (d < k - 1) ↔ (d + 1 < k) := by omega
      simp [h, h1]
    · have : ¬ d + 1 < k := by omega
      simp [h, this]

theorem vars_mem {w : Nat} {t : Ty} (h : t ∈ varsL w) : ∃ i, i < w ∧ t = varT i := by
  simp only [varsL, List.mem_map, List.mem_range] at h
  obtain ⟨i, h1, h2⟩ := h
  exact ⟨i, h1, h2.symm⟩

theorem cls_of : ∀ l : List Ty, (∀ t ∈ l, cl t) → cls l
  | [], _ => trivial
  | t :: l, h => ⟨h t (by simp), cls_of l fun x hx => h x (by simp [hx])⟩

theorem names_of : ∀ l : List Ty, (∀ t ∈ l, namesA t) → namesAs l
  | [], _ => trivial
  | t :: l, h => ⟨h t (by simp), names_of l fun x hx => h x (by simp [hx])⟩

theorem nodess_of (n : Nat) : ∀ l : List Ty, (∀ t ∈ l, nodes t = n) → nodess l = l.length * n
  | [], _ => by simp [nodess]
  | t :: l, h => by
    simp only [nodess, List.length_cons, h t (by simp), nodess_of n l fun x hx => h x (by simp [hx]), Nat.add_mul]
    omega

theorem mayTs_of (k : Nat) : ∀ l : List Ty, (∀ t ∈ l, mayT k t = true) → mayTs k l = true
  | [], _ => rfl
  | t :: l, h => by simp [mayTs, h t (by simp), mayTs_of k l fun x hx => h x (by simp [hx])]

theorem turnedTs_map (d : Int → Option Ty) : ∀ l, turnedTs d l = l.map (turnedT d)
  | [] => rfl
  | t :: l => by simp [turnedTs, turnedTs_map d l]

theorem varT_cl (i : Nat) : cl (varT i) := by simp [varT, cl, cls]
theorem varT_names (i : Nat) : namesA (varT i) := by simp [varT, namesA, namesAs]
theorem varT_may (i k : Nat) (hi : i < 1000) (hk : 1 ≤ k) : mayT k (varT i) = true := by
  have : (i : Int) ≤ 2147483647 := by omega
  simp [varT, mayT, hk, this]

theorem vars_turned (T : Ty) (w : Nat) : turnedTs (subD (List.replicate w T)) (varsL w) = List.replicate w T := by
  rw [turnedTs_map, List.eq_replicate_iff]
  refine ⟨by simp [varsL], fun b hb => ?_⟩
  simp only [List.mem_map] at hb
  obtain ⟨t, ht, rfl⟩ := hb
  obtain ⟨i, hi, rfl⟩ := vars_mem ht
  simp [varT, turnedT, subD, hi]

theorem encT_flag (k n : Int) (s : List UInt8) (l : List Ty) (h : l ≠ []) (b c : Bool) : encT (.mk k n s b l) = encT (.mk k n s c l) := by
  cases l with
  | nil => exact absurd rfl h
  | cons t l => simp [encT]

/-- a scalar answer of a type whose kids lie in the heap -/
theorem ans_laid {f : Nat} {fi : FnI} (hf : ctx.fn f = some fi) (σ : H) (r : Nat) (fz : Bool) (k n : Int) (s : List UInt8) (l : List Ty) (M : Nat) (h : σ[r]? = some (.arr fz 4 (encTs l))) (hM : l.length = M) {res : AV} (hr : res.scalars = true) (ha : Ans ctx f [encT (.mk k n s false l)] res) :
    AnsH ctx f [.agg [.int .i64 k, .int .i64 n, .str s, .hs r M 0 M 4]] σ res σ := by
  have := AnsH.lay (σ := σ) (l := [.agg [.int .i64 k, .int .i64 n, .str s, .hs r M 0 M 4]]) (l' := [encT (.mk k n s false l)]) (ns := [r]) hf (by simp) (by
    have := snap_kidsG σ r fz k n s l M h hM
    simp [snapL, mapO2, this]) (by simp) ha
  rw [hr] at this
  exact this

/-- the second loop, from its start -/
theorem lp6_1' (a1 a2 T : AV) (w : Nat) (hw : w < 100) (h0 : 1 ≤ w) :
    ∃ fr', Lp ctx [43, 56, 66] [] [1, 2, 7, 9, 10, 11, 12] b6_1 ⟨[(1, .v a1), (2, .v a2), (7, .bx T), (9, .v .nil), (10, .v (.int .i64 w)), (11, .v (.int .i64 1)), (12, .v (.int .i64 0))], false⟩ [] (.ex 2) fr' [.arr false 4 (encTs (varsL w))] ∧
      fr'.lk = false ∧ getS fr'.sl 1 = .v a1 ∧ getS fr'.sl 2 = .v a2 ∧ getS fr'.sl 7 = .bx T ∧ getS fr'.sl 9 = .v (.hs 0 w 0 w 4) ∧ getS fr'.sl 10 = .v (.int .i64 w) ∧ getS fr'.sl 11 = .v (.int .i64 ((w + 1 : Nat) : Int)) ∧ ∀ t, memN t [36, 35, 34, 1, 2, 7, 9, 10, 11, 12] = false → getS fr'.sl t = .u := by
  obtain ⟨k, hk⟩ := var_ans 0
  have hk : ∀ N, k ≤ N → ∀ σ, acall ctx N 14 [.int .i64 0] σ = some (encT (varT 0), σ) := hk
  obtain ⟨fr', q1, q2⟩ := lp6_1 a1 a2 T w hw (w - 1) 1 (by omega) (by omega)
  have hlt : 0 < w := by omega
  have e : encTs (varsL 1) = [encT (varT 0)] := by simp [varsL, List.range_succ]
  rw [e] at q1
  have w1 : IntKind.i64.wrap 1 = 1 := by decide
  have w2 : IntKind.i64.wrap 2 = 2 := by decide
  refine ⟨fr', Lp.step ⟨k, fun N hN => ?_⟩ q1, q2⟩
  simp [b6_1, hlt, hk N hN, w1, w2]

/-- the third loop, from its start -/
theorem lp6_2' (a1 a11 : AV) (U : AV) (O : HObj) (T : Ty) (c : UInt8) (d : Nat) (hd : d = c.toNat % 130) (w : Nat) (hw : w < 100) (h0 : 1 ≤ w) :
    ∃ fr', Lp ctx [43, 56, 66] [] [1, 2, 7, 10, 11, 13, 14, 15, 16] b6_2 ⟨[(1, .v a1), (2, .v (.int .u8 c.toNat)), (7, .bx (encT T)), (10, .v (.int .i64 w)), (11, .v a11), (13, .bx U), (14, .v .nil), (15, .v (.int .i64 1)), (16, .v (.int .i64 0))], false⟩ [O] (.ex 4) fr' [O, .arr false 4 (List.replicate w (encT T))] ∧
      fr'.lk = false ∧ getS fr'.sl 1 = .v a1 ∧ getS fr'.sl 2 = .v (.int .u8 c.toNat) ∧ getS fr'.sl 7 = .bx (encT T) ∧ getS fr'.sl 11 = .v a11 ∧ getS fr'.sl 13 = .bx U ∧ getS fr'.sl 14 = .v (.hs 1 w 0 w 4) ∧ getS fr'.sl 15 = .v (.int .i64 ((w * (d + 1) + 1 : Nat) : Int)) ∧ ∀ t, memN t [50, 49, 48, 1, 2, 7, 10, 11, 13, 14, 15, 16] = false → getS fr'.sl t = .u := by
  obtain ⟨fr', q1, q2⟩ := lp6_2 a1 a11 U O T c d hd w hw (w - 1) 1 (by omega) (by omega)
  have hlt : 0 < w := by omega
  have hc : c.toNat < 256 := c.toNat_lt
  have hd130 : d < 130 := by rw [hd]; exact Nat.mod_lt _ (by omega)
  have w0 : IntKind.i64.wrap (c.toNat : Int) = c.toNat := wrap_i64 (by omega)
  have w1 : (c.toNat : Int).tmod 130 = ((c.toNat % 130 : Nat) : Int) := tmod_lit _ 130
  rw [← hd] at w1
  have w2 : IntKind.i64.wrap (1 + (d : Int)) = 1 + (d : Int) := wrap_i64 (by omega)
  have w3 : IntKind.i64.wrap (1 + (d : Int) + 1) = 1 + (d : Int) + 1 := wrap_i64 (by omega)
  have w4 : IntKind.i64.wrap 1 = 1 := by decide
  have e : 1 * (d + 1) + 1 = 1 + d + 1 := by omega
  rw [e] at q1
  refine ⟨fr', Lp.step ⟨0, fun N hN => ?_⟩ q1, q2⟩
  simp [b6_2, hlt, w0, w1, w2, w3, w4]

set_option maxHeartbeats 8000000 in
/-- TermSizes, of the machine -/
theorem f6_ans (n : UInt8) (k : Nat) (hk : k < 65536) (c : UInt8) : Ans ctx 6 [.int .u8 n.toNat, .int .u16 k, .int .u8 c.toNat] (.bool true) := by
  obtain ⟨kw, hw⟩ := awake_ans
  have hn : n.toNat < 256 := n.toNat_lt
  have hc : c.toNat < 256 := c.toNat_lt
  obtain ⟨d, hd⟩ : ∃ d, d = c.toNat % 130 := ⟨_, rfl⟩
  obtain ⟨w, hw7⟩ : ∃ w, w = 2 + n.toNat % 7 := ⟨_, rfl⟩
  obtain ⟨m, hm⟩ : ∃ m, m = k % 30 := ⟨_, rfl⟩
  have hd130 : d < 130 := by rw [hd]; exact Nat.mod_lt _ (by omega)
  have hn7 : n.toNat % 7 < 7 := Nat.mod_lt _ (by omega)
  have hm30 : m < 30 := by rw [hm]; exact Nat.mod_lt _ (by omega)
  obtain ⟨f1, x1, x2, x3, x4, x5, x6, x7⟩ := lp6_0 (.int .u8 n.toNat) (.int .u16 k) c d hd d 0 (by omega)
  obtain ⟨f2, y1, y2, y3, y4, y5, y6, y7, y8, y9⟩ := lp6_1' (.int .u16 k) (.int .u8 c.toNat) (encT (chain d)) w (by omega) (by omega)
  obtain ⟨f3, z1, z2, z3, z4, z5, z6, z7, z8, z9, z10⟩ := lp6_2' (.int .u16 k) (.int .i64 ((w + 1 : Nat) : Int)) (.agg [.int .i64 2, .int .i64 0, .str [44], .hs 0 w 0 w 4]) (.arr false 4 (encTs (varsL w))) (chain d) c d hd w (by omega) (by omega)
  obtain ⟨f4, t1, t2, t3, t4, t5, t6, t7, t8, t9, t10⟩ := lp6_3 (.int .u8 c.toNat) (.int .i64 ((w + 1 : Nat) : Int)) (.int .i64 ((w * (d + 1) + 1 : Nat) : Int)) (.hs 1 w 0 w 4) (encT (chain d)) (.agg [.int .i64 2, .int .i64 0, .str [44], .hs 0 w 0 w 4]) (.arr false 4 (encTs (varsL w))) (.arr false 4 (List.replicate w (encT (chain d)))) m (by omega) m 0 (by omega)
  -- what is called
  have hV : encTs (varsL w) = encTs (varsL w) := rfl
  have hTT : List.replicate w (encT (chain d)) = encTs (List.replicate w (chain d)) := by rw [encTs_map, List.map_replicate]
  have hMM : List.replicate m (encT (varT 0)) = encTs (List.replicate m (varT 0)) := by rw [encTs_map, List.map_replicate]
  have hvl : (varsL w).length = w := by simp [varsL]
  have hvne : varsL w ≠ [] := by
    intro h
    rw [h] at hvl
    simp at hvl
    omega
  have hvcl : cls (varsL w) := cls_of _ fun t ht => by obtain ⟨i, _, rfl⟩ := vars_mem ht; exact varT_cl i
  have hUcl : cl (.mk 2 0 [44] true (varsL w)) := by
    simp only [cl, hvl]
    exact ⟨trivial, by simp, by omega, hvcl⟩
  have hUn : ∀ b, nodes (.mk 2 0 [44] b (varsL w)) = w + 1 := by
    intro b
    rw [nodes, nodess_of 1 _ fun t ht => by obtain ⟨i, _, rfl⟩ := vars_mem ht; simp [varT, nodes, nodess], hvl]
    omega
  have hUok : Ty.ok (.mk 2 0 [44] false (varsL w)) := by
    simp only [Ty.ok, hvl, big]
    exact ⟨by simp, by omega, cls_oks _ hvcl⟩
  have e16 : Ans ctx 16 [encT (.mk 2 0 [44] false (varsL w))] (.int .i64 ((w + 1 : Nat) : Int)) := by
    have := size_ans _ hUok (by rw [hUn]; unfold lim; omega)
    rwa [hUn, show min (w + 1) 401 = w + 1 by omega] at this
  have e15U : Ans ctx 15 [encT (.mk 2 0 [44] false (varsL w))] (.bool true) := by
    have := may_ans _ hUok (by
      simp only [namesA]
      exact ⟨fun _ => .inr (.inl rfl), names_of _ fun t ht => by obtain ⟨i, _, rfl⟩ := vars_mem ht; exact varT_names i⟩)
    have e : mayT 100 (.mk 2 0 [44] false (varsL w)) = true := by
      have h1 : namedB [44] w = true := by
        have a1 : 2 ≤ w := by omega
        have a2 : w ≤ 8 := by omega
        simp [namedB, sArrow, sComma, a1, a2]
      simp [mayT, hvl, h1]
      exact mayTs_of _ _ fun t ht => by obtain ⟨i, hi, rfl⟩ := vars_mem ht; exact varT_may i 99 (by omega) (by omega)
    rwa [e] at this
  have eW : ∀ s : List UInt8, nameA s → s.length < 100 → Ans ctx 15 [encT (.mk 2 0 s false (List.replicate m (varT 0)))] (.bool (namedB s m)) := by
    intro s hs hl
    have := may_ans (.mk 2 0 s false (List.replicate m (varT 0))) (by
      simp only [Ty.ok, List.length_replicate, big]
      exact ⟨by omega, by omega, cls_oks _ (cls_of _ fun t ht => by rw [List.eq_of_mem_replicate ht]; exact varT_cl 0)⟩) (by
      simp only [namesA]
      exact ⟨fun _ => hs, names_of _ fun t ht => by rw [List.eq_of_mem_replicate ht]; exact varT_names 0⟩)
    have e : mayT 100 (.mk 2 0 s false (List.replicate m (varT 0))) = namedB s m := by
      have h2 := mayTs_of 99 (List.replicate m (varT 0)) fun t ht => by rw [List.eq_of_mem_replicate ht]; exact varT_may 0 99 (by omega) (by omega)
      simp [mayT, h2]
    rwa [e] at this
  have e15W := eW sWide (.inr (.inr con_Wide)) (by decide)
  have e15C := eW sComma (.inr (.inl rfl)) (by decide)
  have e15A := eW sArrow (.inl rfl) (by decide)
  have nW : namedB sWide m = decide ((m : Int) ≤ 20) := by
    have : conB sWide = true := by decide
    have h1 : sWide ≠ sArrow := by decide
    have h2 : sWide ≠ sComma := by decide
    simp [namedB, this, h1, h2]
    omega
  have nC : namedB sComma m = (decide ((2 : Int) ≤ m) && decide ((m : Int) ≤ 8)) := by
    have h1 : sComma ≠ sArrow := by decide
    simp [namedB, h1]
    congr 1 <;> simp <;> omega
  have nA : namedB sArrow m = ((m : Int) == 2) := by
    have := nat_eq m 2
    simp only [namedB, if_pos]
    exact this.symm
  rw [nW] at e15W
  rw [nC] at e15C
  rw [nA] at e15A
  have e15T : Ans ctx 15 [encT (chain d)] (.bool (decide ((d : Int) < 100))) := by
    have := may_ans (chain d) (cl_ok _ (chain_cl d)) (chain_names d)
    rw [chain_may] at this
    have e : decide (d < 100) = decide ((d : Int) < 100) := by simp; omega
    rwa [e] at this
  -- the type with the same for each variable
  have hLcl : cls (List.replicate w (chain d)) := cls_of _ fun t ht => by rw [List.eq_of_mem_replicate ht]; exact chain_cl d
  have e12 := subst_ans (.mk 2 0 [44] true (varsL w)) (List.replicate w (chain d)) false hUcl hLcl
  have hR : turnedT (subD (List.replicate w (chain d))) (.mk 2 0 [44] true (varsL w)) = .mk 2 0 [44] true (List.replicate w (chain d)) := by
    simp [turnedT, vars_turned]
  rw [hR, encT_flag 2 0 [44] (varsL w) hvne true false, encR_false] at e12
  have hRn : nodes (.mk 2 0 [44] true (List.replicate w (chain d))) = w * (d + 1) + 1 := by
    rw [nodes, nodess_of (d + 1) _ fun t ht => by rw [List.eq_of_mem_replicate ht]; exact chain_nodes d]
    simp
  have e16R := size_ans (.mk 2 0 [44] true (List.replicate w (chain d))) (by
    simp only [Ty.ok, List.length_replicate, big]
    exact ⟨by simp, by omega, cls_oks _ hLcl⟩) (by
    rw [hRn]
    have : w * (d + 1) ≤ 10 * 130 := Nat.mul_le_mul (by omega) (by omega)
    unfold lim; omega)
  rw [hRn] at e16R
  have hmm := mm_min (w * (d + 1) + 1)
  rw [hTT] at z1 t1
  rw [hMM] at t1
  have hz0 : encT noTy = .agg [.int .i64 0, .int .i64 0, .str [], .nil] := by simp [noTy, encT]
  rw [hz0] at t1
  simp only [List.replicate_zero, List.nil_append] at t1
  have hfa : fitAll ⟨.strct [(0, 3), (1, 3), (2, 9), (3, 24)], 4, 56, .agg [.int .i64 0, .int .i64 0, .str [], .nil], []⟩ (List.replicate m (.agg [.int .i64 0, .int .i64 0, .str [], .nil])) = true := fitAll_replicate _ _ (by simp) m
  -- in each of the two heaps
  have heap : ∀ b : Bool, ∃ q, ∀ N, q ≤ N →
      acall ctx N 16 [.agg [.int .i64 2, .int .i64 0, .str [44], .hs 0 w 0 w 4]] [.arr b 4 (encTs (varsL w)), .arr b 4 (encTs (List.replicate w (chain d))), .arr false 4 (encTs (List.replicate m (varT 0)))] = some (.int .i64 ((w + 1 : Nat) : Int), [.arr b 4 (encTs (varsL w)), .arr b 4 (encTs (List.replicate w (chain d))), .arr false 4 (encTs (List.replicate m (varT 0)))]) ∧
      acall ctx N 15 [.agg [.int .i64 2, .int .i64 0, .str [44], .hs 0 w 0 w 4]] [.arr b 4 (encTs (varsL w)), .arr b 4 (encTs (List.replicate w (chain d))), .arr false 4 (encTs (List.replicate m (varT 0)))] = some (.bool true, [.arr b 4 (encTs (varsL w)), .arr b 4 (encTs (List.replicate w (chain d))), .arr false 4 (encTs (List.replicate m (varT 0)))]) ∧
      acall ctx N 15 [.agg [.int .i64 2, .int .i64 0, .str [87, 105, 100, 101], .hs 2 m 0 m 4]] [.arr b 4 (encTs (varsL w)), .arr b 4 (encTs (List.replicate w (chain d))), .arr false 4 (encTs (List.replicate m (varT 0)))] = some (.bool (decide ((m : Int) ≤ 20)), [.arr b 4 (encTs (varsL w)), .arr b 4 (encTs (List.replicate w (chain d))), .arr false 4 (encTs (List.replicate m (varT 0)))]) ∧
      acall ctx N 15 [.agg [.int .i64 2, .int .i64 0, .str [44], .hs 2 m 0 m 4]] [.arr b 4 (encTs (varsL w)), .arr b 4 (encTs (List.replicate w (chain d))), .arr false 4 (encTs (List.replicate m (varT 0)))] = some (.bool (decide ((2 : Int) ≤ m) && decide ((m : Int) ≤ 8)), [.arr b 4 (encTs (varsL w)), .arr b 4 (encTs (List.replicate w (chain d))), .arr false 4 (encTs (List.replicate m (varT 0)))]) ∧
      acall ctx N 15 [.agg [.int .i64 2, .int .i64 0, .str [45, 62], .hs 2 m 0 m 4]] [.arr b 4 (encTs (varsL w)), .arr b 4 (encTs (List.replicate w (chain d))), .arr false 4 (encTs (List.replicate m (varT 0)))] = some (.bool ((m : Int) == 2), [.arr b 4 (encTs (varsL w)), .arr b 4 (encTs (List.replicate w (chain d))), .arr false 4 (encTs (List.replicate m (varT 0)))]) := by
    intro b
    obtain ⟨a1, b1⟩ := ans_laid fn16_ [.arr b 4 (encTs (varsL w)), .arr b 4 (encTs (List.replicate w (chain d))), .arr false 4 (encTs (List.replicate m (varT 0)))] 0 b 2 0 [44] (varsL w) w rfl hvl rfl e16
    obtain ⟨a2, b2⟩ := ans_laid fn15_ [.arr b 4 (encTs (varsL w)), .arr b 4 (encTs (List.replicate w (chain d))), .arr false 4 (encTs (List.replicate m (varT 0)))] 0 b 2 0 [44] (varsL w) w rfl hvl rfl e15U
    obtain ⟨a3, b3⟩ := ans_laid fn15_ [.arr b 4 (encTs (varsL w)), .arr b 4 (encTs (List.replicate w (chain d))), .arr false 4 (encTs (List.replicate m (varT 0)))] 2 false 2 0 sWide (List.replicate m (varT 0)) m rfl (by simp) rfl e15W
    obtain ⟨a4, b4⟩ := ans_laid fn15_ [.arr b 4 (encTs (varsL w)), .arr b 4 (encTs (List.replicate w (chain d))), .arr false 4 (encTs (List.replicate m (varT 0)))] 2 false 2 0 sComma (List.replicate m (varT 0)) m rfl (by simp) rfl e15C
    obtain ⟨a5, b5⟩ := ans_laid fn15_ [.arr b 4 (encTs (varsL w)), .arr b 4 (encTs (List.replicate w (chain d))), .arr false 4 (encTs (List.replicate m (varT 0)))] 2 false 2 0 sArrow (List.replicate m (varT 0)) m rfl (by simp) rfl e15A
    exact ⟨a1 + a2 + a3 + a4 + a5, fun N hN => ⟨b1 N (by omega), b2 N (by omega), b3 N (by omega), b4 N (by omega), b5 N (by omega)⟩⟩
  have e12H : AnsH ctx 12 [.agg [.int .i64 2, .int .i64 0, .str [44], .hs 0 w 0 w 4], .hs 1 w 0 w 4] [.arr false 4 (encTs (varsL w)), .arr false 4 (encTs (List.replicate w (chain d))), .arr false 4 (encTs (List.replicate m (varT 0)))] (encT (.mk 2 0 [44] true (List.replicate w (chain d)))) [.arr true 4 (encTs (varsL w)), .arr true 4 (encTs (List.replicate w (chain d))), .arr false 4 (encTs (List.replicate m (varT 0)))] := by
    have h1 := snap_kidsG [.arr false 4 (encTs (varsL w)), .arr false 4 (encTs (List.replicate w (chain d))), .arr false 4 (encTs (List.replicate m (varT 0)))] 0 false 2 0 [44] (varsL w) w rfl hvl
    have h2 := snap_hs [.arr false 4 (encTs (varsL w)), .arr false 4 (encTs (List.replicate w (chain d))), .arr false 4 (encTs (List.replicate m (varT 0)))] 198 1 false (List.replicate w (chain d)) w rfl (by simp)
    have := AnsH.lay (σ := [.arr false 4 (encTs (varsL w)), .arr false 4 (encTs (List.replicate w (chain d))), .arr false 4 (encTs (List.replicate m (varT 0)))]) (l := [.agg [.int .i64 2, .int .i64 0, .str [44], .hs 0 w 0 w 4], .hs 1 w 0 w 4]) (ns := [0, 1]) fn12_ (by simp) (by
      simp only [snapL, mapO2, h1, h2]
      rfl) (by simp [AV.noRefs, AV.noRef]) e12
    simpa [frzH, encT, AV.scalars, AV.scalar] using this
  have hVl : (encTs (varsL w)).length = w := varsL_len w
  obtain ⟨p1, x1⟩ := x1.den
  obtain ⟨p2, y1⟩ := y1.den
  obtain ⟨p3, z1⟩ := z1.den
  obtain ⟨p4, t1⟩ := t1.den
  obtain ⟨p5, hF⟩ := heap false
  obtain ⟨p6, hT⟩ := heap true
  obtain ⟨p7, e12H⟩ := e12H
  obtain ⟨p8, e16R⟩ := e16R
  obtain ⟨p9, e15T⟩ := e15T
  have w0 : IntKind.i64.wrap (c.toNat : Int) = c.toNat := wrap_i64 (by omega)
  have w1 : (c.toNat : Int).tmod 130 = ((c.toNat % 130 : Nat) : Int) := tmod_lit _ 130
  rw [← hd] at w1
  have w2 : IntKind.i64.wrap (n.toNat : Int) = n.toNat := wrap_i64 (by omega)
  have w3 : (n.toNat : Int).tmod 7 = ((n.toNat % 7 : Nat) : Int) := tmod_lit _ 7
  have w4 : IntKind.i64.wrap (2 + ((n.toNat % 7 : Nat) : Int)) = (w : Int) := by rw [wrap_i64 (by omega)]; omega
  have w5 : IntKind.i64.wrap (k : Int) = k := wrap_i64 (by omega)
  have w6 : (k : Int).tmod 30 = ((k % 30 : Nat) : Int) := tmod_lit _ 30
  rw [← hm] at w6
  have m1 : m * 56 ≤ 35184372088832 := by omega
  have m2 : m ≤ 35184372088832 := by omega
  by_cases pd : (99 : Int) ≤ d
  · have pq : ¬ (d : Int) < 99 := by omega
    refine Ans.of (σ' := [.arr false 4 (encTs (varsL w)), .arr false 4 (encTs (List.replicate w (chain d))), .arr false 4 (encTs (List.replicate m (varT 0)))]) fn6_ (by simp) (by simp) ⟨kw + p1 + p2 + p3 + p4 + p5 + p6 + p7 + p8 + p9, fun N hN => ?_⟩
    have hw := hw N (by omega)
    have x1 := x1 N (by omega)
    have y1 := y1 N (by omega)
    have z1 := z1 N (by omega)
    have t1 := t1 N (by omega)
    obtain ⟨u1, u2, u3, u4, u5⟩ := hF N (by omega)
    obtain ⟨v1, v2, v3, v4, v5⟩ := hT N (by omega)
    have e12H := e12H N (by omega)
    have e16R := e16R N (by omega)
    have e15T := e15T N (by omega)
    clear hF hT heap e15W e15C e15A e16 e15U eW e12
    generalize n.toNat % 7 = n7 at *
    generalize encT (.mk 2 0 [44] true (List.replicate w (chain d))) = R at *
    have hx : chain 0 = chain 0 := rfl
    generalize ((min (w * (d + 1) + 1) 401 : Nat) : Int) = Z at *
    generalize ((w * (d + 1) + 1 : Nat) : Int) = Y at *
    generalize ((w + 1 : Nat) : Int) = W1 at *
    generalize encTs (List.replicate w (chain d)) = TT at *
    generalize encTs (List.replicate m (varT 0)) = MM at *
    generalize encTs (varsL w) = V at *
    have hc0 : encT (chain 0) = .agg [.int .i64 2, .int .i64 0, .str [73, 110, 116], .nil] := by simp [chain, conT, encT, sInt]
    rw [hc0] at x1
    have hTf : ∀ ti : TI, (encT (chain d)).fits ti = (ti.k.isAgg && 4 == ti.size) := fun ti => fits_encT _ ti
    generalize encT (chain d) = T at *
    have x1 : ∀ fr, norm [0, 1, 2, 7, 8] fr = some ⟨[(0, .v (.int .u8 n.toNat)), (1, .v (.int .u16 k)), (2, .v (.int .u8 c.toNat)), (7, .bx (.agg [.int .i64 2, .int .i64 0, .str [73, 110, 116], .nil])), (8, .v (.int .i64 0))], false⟩ → den ctx (acall ctx N) [43, 56, 66] [] N (.loop [0, 1, 2, 7, 8] b6_0) fr [] = some ((.ex 0, f1), []) := x1
    have t1 : ∀ fr, norm [2, 7, 11, 13, 14, 15, 17, 18] fr = some ⟨[(2, .v (.int .u8 c.toNat)), (7, .bx T), (11, .v (.int .i64 W1)), (13, .bx (.agg [.int .i64 2, .int .i64 0, .str [44], .hs 0 w 0 w 4])), (14, .v (.hs 1 w 0 w 4)), (15, .v (.int .i64 Y)), (17, .v (.hs 2 m 0 m 4)), (18, .v (.int .i64 0))], false⟩ → den ctx (acall ctx N) [43, 56, 66] [] N (.loop [2, 7, 11, 13, 14, 15, 17, 18] b6_3) fr _ = _ := t1
    by_cases pm : (2 : Int) ≤ m
    · simp only [pm, decide_true, Bool.true_and] at u4
      simp [i6, c6, w0, w1, w2, w3, w4, w5, w6, m1, m2, hfa, x1, y1, z1, t1, x2, x3, x4, x5, x6, x7, y2, y3, y4, y5, y6, y7, y8, y9, z2, z3, z4, z5, z6, z7, z8, z9, z10, t2, t3, t4, t5, t6, t7, t8, t9, t10, u1, u2, u3, u4, u5, e15T, hTf, hw, pd, pq, -mmA, pm]
    · simp only [pm, decide_false, Bool.false_and] at u4
      simp [i6, c6, w0, w1, w2, w3, w4, w5, w6, m1, m2, hfa, x1, y1, z1, t1, x2, x3, x4, x5, x6, x7, y2, y3, y4, y5, y6, y7, y8, y9, z2, z3, z4, z5, z6, z7, z8, z9, z10, t2, t3, t4, t5, t6, t7, t8, t9, t10, u1, u2, u3, u4, u5, e15T, hTf, hw, pd, pq, -mmA, pm]
  · have pq : (d : Int) < 99 := by omega
    refine Ans.of (σ' := [.arr true 4 (encTs (varsL w)), .arr true 4 (encTs (List.replicate w (chain d))), .arr false 4 (encTs (List.replicate m (varT 0)))]) fn6_ (by simp) (by simp) ⟨kw + p1 + p2 + p3 + p4 + p5 + p6 + p7 + p8 + p9, fun N hN => ?_⟩
    have hw := hw N (by omega)
    have x1 := x1 N (by omega)
    have y1 := y1 N (by omega)
    have z1 := z1 N (by omega)
    have t1 := t1 N (by omega)
    obtain ⟨u1, u2, u3, u4, u5⟩ := hF N (by omega)
    obtain ⟨v1, v2, v3, v4, v5⟩ := hT N (by omega)
    have e12H := e12H N (by omega)
    have e16R := e16R N (by omega)
    have e15T := e15T N (by omega)
    clear hF hT heap e15W e15C e15A e16 e15U eW e12
    generalize n.toNat % 7 = n7 at *
    generalize encT (.mk 2 0 [44] true (List.replicate w (chain d))) = R at *
    have hx : chain 0 = chain 0 := rfl
    generalize ((min (w * (d + 1) + 1) 401 : Nat) : Int) = Z at *
    generalize ((w * (d + 1) + 1 : Nat) : Int) = Y at *
    generalize ((w + 1 : Nat) : Int) = W1 at *
    generalize encTs (List.replicate w (chain d)) = TT at *
    generalize encTs (List.replicate m (varT 0)) = MM at *
    generalize encTs (varsL w) = V at *
    have hc0 : encT (chain 0) = .agg [.int .i64 2, .int .i64 0, .str [73, 110, 116], .nil] := by simp [chain, conT, encT, sInt]
    rw [hc0] at x1
    have hTf : ∀ ti : TI, (encT (chain d)).fits ti = (ti.k.isAgg && 4 == ti.size) := fun ti => fits_encT _ ti
    generalize encT (chain d) = T at *
    have x1 : ∀ fr, norm [0, 1, 2, 7, 8] fr = some ⟨[(0, .v (.int .u8 n.toNat)), (1, .v (.int .u16 k)), (2, .v (.int .u8 c.toNat)), (7, .bx (.agg [.int .i64 2, .int .i64 0, .str [73, 110, 116], .nil])), (8, .v (.int .i64 0))], false⟩ → den ctx (acall ctx N) [43, 56, 66] [] N (.loop [0, 1, 2, 7, 8] b6_0) fr [] = some ((.ex 0, f1), []) := x1
    have t1 : ∀ fr, norm [2, 7, 11, 13, 14, 15, 17, 18] fr = some ⟨[(2, .v (.int .u8 c.toNat)), (7, .bx T), (11, .v (.int .i64 W1)), (13, .bx (.agg [.int .i64 2, .int .i64 0, .str [44], .hs 0 w 0 w 4])), (14, .v (.hs 1 w 0 w 4)), (15, .v (.int .i64 Y)), (17, .v (.hs 2 m 0 m 4)), (18, .v (.int .i64 0))], false⟩ → den ctx (acall ctx N) [43, 56, 66] [] N (.loop [2, 7, 11, 13, 14, 15, 17, 18] b6_3) fr _ = _ := t1
    by_cases pm : (2 : Int) ≤ m
    · simp only [pm, decide_true, Bool.true_and] at v4
      simp [i6, c6, w0, w1, w2, w3, w4, w5, w6, m1, m2, hfa, x1, y1, z1, t1, x2, x3, x4, x5, x6, x7, y2, y3, y4, y5, y6, y7, y8, y9, z2, z3, z4, z5, z6, z7, z8, z9, z10, t2, t3, t4, t5, t6, t7, t8, t9, t10, u1, v2, v3, v4, v5, e12H, e16R, hmm, e15T, hTf, hw, pd, pq, -mmA, pm]
    · simp only [pm, decide_false, Bool.false_and] at v4
      simp [i6, c6, w0, w1, w2, w3, w4, w5, w6, m1, m2, hfa, x1, y1, z1, t1, x2, x3, x4, x5, x6, x7, y2, y3, y4, y5, y6, y7, y8, y9, z2, z3, z4, z5, z6, z7, z8, z9, z10, t2, t3, t4, t5, t6, t7, t8, t9, t10, u1, v2, v3, v4, v5, e12H, e16R, hmm, e15T, hTf, hw, pd, pq, -mmA, pm]

end Go.Am.Tryd
