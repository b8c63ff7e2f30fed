/- Layer 18: the reference's Match. -/
import Derived.Test.YtmhggdoanajboaaDoorMc
set_option maxRecDepth 100000
set_option linter.unusedSimpArgs false
set_option linter.unusedVariables false
namespace Go.Am.Tryd
open Go
def encM (m : Mat) : AV := .agg [encR 1 m.nl (encI m.vs), encR 4 m.nl (encTs m.ts), .bool m.ok]
def zeroM : AV := .agg [.nil, .nil, .bool false]
theorem idx_at {i n : Nat} (h : i < n) : idxN (i : Int) n = some i := by
  unfold idxN
  simp
  omega
theorem encTs_at : ∀ (l : List Ty) (i : Nat), i < l.length → (encTs l)[i]? = some (encT (l.getD i noTy))
  | [], i, h => by simp at h
  | t :: l, 0, _ => by rw [encTs_cons]; rfl
  | t :: l, i + 1, h => by rw [encTs_cons]; simpa using encTs_at l i (by simpa using h)
theorem encTs_append : ∀ l r : List Ty, encTs (l ++ r) = encTs l ++ encTs r
  | [], r => by rw [encTs_nil]; rfl
  | t :: l, r => by rw [List.cons_append, encTs_cons, encTs_cons, encTs_append l r]; rfl
structure Mat.Good (m : Mat) (K : Nat) : Prop where
  ok : m.Ok
  ts : ∀ x ∈ m.ts, x.ok
  le : m.vs.length + K ≤ 2 ^ 30
mutual
theorem mat_len : ∀ (t u : Ty) (m : Mat), (matT m t u).vs.length ≤ m.vs.length + nodes t
  | .mk k n s nl ks, u, m => by
    unfold matT
    simp only [nodes]
    split
    · split
      · simp only; omega
      · simp
    · split
      · simp only; omega
      · have := mats_len ks (kids u) m; omega
theorem mats_len : ∀ (ts us : List Ty) (m : Mat), (matTs m ts us).vs.length ≤ m.vs.length + nodess ts
  | [], _, m => by unfold matTs; omega
  | _ :: _, [], m => by unfold matTs; omega
  | t :: ts, u :: us, m => by
    unfold matTs
    simp only [nodess]
    split
    · have h1 := mat_len t u m
      have h2 := mats_len ts us (matT m t u)
      omega
    · omega
end
theorem kids_ok {u : Ty} (h : u.ok) : Ty.oks (kids u) := by
  obtain ⟨_, _, _, _, _⟩ := u
  simp only [Ty.ok] at h
  exact h.2.2
mutual
theorem mat_ts : ∀ (t u : Ty) (m : Mat), u.ok → (∀ x ∈ m.ts, x.ok) → ∀ x ∈ (matT m t u).ts, x.ok
  | .mk k n s nl ks, u, m, hu, hm => by
    unfold matT
    split
    · split
      · exact hm
      · intro x hx
        simp only [List.mem_append, List.mem_cons, List.not_mem_nil, or_false] at hx
        rcases hx with hx | rfl
        · exact hm x hx
        · exact hu
    · split
      · exact hm
      · exact mats_ts ks (kids u) m (kids_ok hu) hm
theorem mats_ts : ∀ (ts us : List Ty) (m : Mat), Ty.oks us → (∀ x ∈ m.ts, x.ok) → ∀ x ∈ (matTs m ts us).ts, x.ok
  | [], _, m, _, hm => by unfold matTs; exact hm
  | _ :: _, [], m, _, hm => by unfold matTs; exact hm
  | t :: ts, u :: us, m, hu, hm => by
    unfold matTs
    simp only [Ty.oks] at hu
    split
    · exact mats_ts ts us _ hu.2 (mat_ts t u m hu.1 hm)
    · exact hm
end
theorem Mat.Good.next {m : Mat} {K : Nat} {t u : Ty} (h : m.Good (nodes t + K)) (hu : u.ok) : (matT m t u).Good K :=
  ⟨mat_ok t u m h.ok, mat_ts t u m hu h.ts, by have := mat_len t u m; have := h.le; omega⟩
set_option maxHeartbeats 4000000
theorem lp70 (A1 A2 A3 B1 B2 B3 : AV) (xs ys : List AV) (n1 n2 : Bool) (hx : xs.length ≤ 2 ^ 30) : ∀ (r1 r2 : List Ty) (i : Nat) (m : Mat), Tail xs i (encTs r1) → Tail ys i (encTs r2) → r1.length = r2.length → Ty.oks r2 → m.Good (nodess r1) → (∀ a ∈ r1, ∀ b, b.ok → ∀ m : Mat, m.Good (nodes a) → Ans ctx 70 [encM m, encT a, encT b] (encM (matT m a b))) →
    ∃ fr', Lp ctx [32, 35, 39, 41, 44, 47] [] [3, 4, 5, 6, 8] b70_0 ⟨[(3, .bx (encM m)), (4, .bx (.agg [A1, A2, A3, encR 4 n1 xs])), (5, .bx (.agg [B1, B2, B3, encR 4 n2 ys])), (6, .bx zeroM), (8, .v (.int .i64 i))], false⟩ [] (.ex 0) fr' [] ∧
      fr'.lk = false ∧ getS fr'.sl 3 = .bx (encM (matTs m r1 r2)) ∧ getS fr'.sl 6 = .bx zeroM ∧ getS fr'.sl 94 = .u
  | [], [], i, m, h1, h2, _, _, _, _ => by
    have h1 := h1.nil
    refine ⟨?_, Lp.exit ⟨0, fun N _ => ?_⟩ (by simp), ?_⟩
    rotate_left
    · simp -implicitDefEqProofs [b70_0, h1]
      rfl
    · simp [matTs]
  | a :: r1, b :: r2, i, m, h1, h2, hr, ho, hg, ha => by
    simp only [encTs_cons] at h1 h2
    have hlen := h1.len
    obtain ⟨g1, g2, g3, g4, g5⟩ := h1.cons
    obtain ⟨k1, k2, k3, k4, k5⟩ := h2.cons
    have hw := wrap_succ (n := i) (by simp at hlen; unfold big; omega)
    simp only [Ty.oks] at ho
    simp only [nodess] at hg
    obtain ⟨vs, hvs⟩ : ∃ z, z = m.ok := ⟨_, rfl⟩
    cases hok : m.ok with
    | false =>
      have e : matTs m (a :: r1) (b :: r2) = m := by unfold matTs; rw [hok]; rfl
      rw [e]
      simp only [encM, hok]
      generalize encR 1 m.nl (encI m.vs) = V at *
      generalize encR 4 m.nl (encTs m.ts) = W at *
      refine ⟨?_, Lp.exit ⟨0, fun N hN => ?_⟩ (by simp), ?_⟩
      rotate_left
      · simp -implicitDefEqProofs [b70_0, g1, g2, g3, g5]
        rfl
      · simp
    | true =>
      have e : matTs m (a :: r1) (b :: r2) = matTs (matT m a b) r1 r2 := by conv => lhs; unfold matTs; rw [hok]; simp only [if_true]
      rw [e]
      obtain ⟨kq, hq⟩ := ha a (by simp) b ho.1 m ⟨hg.ok, hg.ts, by have := hg.le; omega⟩
      obtain ⟨fr', l1, l2⟩ := lp70 A1 A2 A3 B1 B2 B3 xs ys n1 n2 hx r1 r2 (i + 1) (matT m a b) g4 k4 (by simpa using hr) ho.2 (hg.next ho.1) (fun x hx => ha x (by simp [hx]))
      refine ⟨fr', Lp.step ⟨kq, fun N hN => ?_⟩ l1, l2⟩
      have hq := hq N hN
      clear l1 l2
      simp only [encM, hok] at hq ⊢
      generalize matT m a b = m' at *
      generalize encR 1 m.nl (encI m.vs) = V at *
      generalize encR 4 m.nl (encTs m.ts) = W at *
      generalize encR 1 m'.nl (encI m'.vs) = V' at *
      generalize encR 4 m'.nl (encTs m'.ts) = W' at *
      simp -implicitDefEqProofs [b70_0, g1, g2, g3, g5, k1, k2, k3, k5, hw, hq]
  | [], _ :: _, _, _, _, _, h, _, _, _ => by simp at h
  | _ :: _, [], _, _, _, _, h, _, _, _ => by simp at h
theorem placeN_lt (n : Nat) : ∀ (l : List Nat) (i : Nat), n ∈ l → ∃ j : Nat, j < l.length ∧ placeN l n i = ((i + j : Nat) : Int)
  | [], i, h => by simp at h
  | a :: l, i, h => by
    unfold placeN
    by_cases e : a = n
    · rw [if_pos e]; exact ⟨0, by simp, by simp⟩
    · rw [if_neg e]
      have hm : n ∈ l := by
        rcases List.mem_cons.1 h with h | h
        · exact absurd h.symm e
        · exact h
      obtain ⟨j, h1, h2⟩ := placeN_lt n l (i + 1) hm
      exact ⟨j + 1, by simp; omega, by rw [h2]; omega⟩
theorem encR_some (sz : Nat) (b : Bool) (l : List AV) (h : l ≠ []) : encR sz b l = .sl sz l := by
  cases l with
  | nil => exact absurd rfl h
  | cons a l => cases b <;> rfl
theorem mat_var (m : Mat) (n : Nat) (u : Ty) (hm : m.Good 1) (hu : u.ok) (hmem : n ∈ m.vs) (s : List UInt8) (nl : Bool) : Ans ctx 70 [encM m, encT (.mk 1 n s nl []), encT u] (encM { m with ok := m.ok && (m.ts.getD (placeN m.vs n 0).toNat noTy).same u }) := by
  obtain ⟨j, hj, hp⟩ := placeN_lt n m.vs 0 hmem
  have hjt : j < m.ts.length := by rw [← hm.ok.len]; exact hj
  have hp' : placeN m.vs n 0 = (j : Int) := by rw [hp]; simp
  rw [hp']
  simp only [Int.toNat_natCast]
  obtain ⟨k1, e65⟩ := place_ans m.vs m.nl (by have := hm.le; unfold big; omega) n
  rw [hp'] at e65
  have hw := encTs_at m.ts j hjt
  obtain ⟨w, hwd⟩ : ∃ w, w = m.ts.getD j noTy := ⟨_, rfl⟩
  have hwo : w.ok := hm.ts w (by rw [hwd, List.getD_eq_getElem?_getD, List.getElem?_eq_getElem hjt]; simp)
  rw [← hwd] at hw ⊢
  obtain ⟨k2, e12⟩ := same_ans w u hwo
  have hi : idxN (j : Int) (encTs m.ts).length = some j := idx_at (by simpa using hjt)
  have hR : encR 4 m.nl (encTs m.ts) = .sl 4 (encTs m.ts) := encR_some _ _ _ (by intro e; rw [e] at hw; simp at hw)
  have hlt : j < (encTs m.ts).length := by simpa using hjt
  unfold encM
  simp only
  rw [hR]
  cases hok : m.ok with
  | false =>
    refine Ans.of (σ' := []) fn70_ (by simp) (by simp) ⟨k1 + k2, fun N hN => ?_⟩
    have e65 := e65 N (by omega)
    generalize encR 1 m.nl (encI m.vs) = V at *
    generalize encTs m.ts = W at *
    obtain ⟨_, _, _, _, _⟩ := u
    simp -implicitDefEqProofs [i70, c70, encT, e65]
  | true =>
    refine Ans.of (σ' := []) fn70_ (by simp) (by simp) ⟨k1 + k2, fun N hN => ?_⟩
    have e65 := e65 N (by omega)
    have e12 := e12 N (by omega)
    generalize encR 1 m.nl (encI m.vs) = V at *
    generalize encTs m.ts = W at *
    generalize w.same u = B at *
    obtain ⟨_, _, _, _, _⟩ := u
    obtain ⟨_, _, _, _, _⟩ := w
    simp only [encT] at e12 hw
    simp -implicitDefEqProofs [i70, c70, encT, e65, e12, ↓hw, hi, hlt]
theorem fitAll_encTs (te : TI) (h : ∀ t : Ty, (encT t).fits te = true) : ∀ l : List Ty, fitAll te (encTs l) = true
  | [] => by rw [encTs_nil]; rfl
  | t :: l => by rw [encTs_cons]; simp only [fitAll, h t, fitAll_encTs te h l]; rfl
theorem snap_hsI' (σ : H) (n r : Nat) (fz : Bool) (l : List Nat) (M : Nat) (h : σ[r]? = some (.arr fz 1 (encI l))) (hM : l.length = M) : snapA σ (n + 2) (.hs r M 0 M 1) = some (.sl 1 (encI l), [r]) := by
  unfold snapA
  rw [if_neg (by simp)]
  have := snap_encI σ (n + 1) (by omega) l
  have ht : (encI l).take M = encI l := by rw [← hM, ← encI_length l, List.take_length]
  simp [h, hM, ht, this]
theorem snap_mat (σ : H) (L : Nat) (vs : List Nat) (ts : List Ty) (b : Bool) (h1 : vs.length = L) (h2 : ts.length = L) (hσ : σ = [.arr false 1 (encI vs), .arr false 4 (encTs ts)]) : snapA σ 200 (.agg [.hs 0 L 0 L 1, .hs 1 L 0 L 4, .bool b]) = some (.agg [.sl 1 (encI vs), .sl 4 (encTs ts), .bool b], [0, 1]) := by
  subst hσ
  have h3 : ∀ m, snapA [.arr false 1 (encI vs), .arr false 4 (encTs ts)] (m + 1) (.bool b) = some (.bool b, []) := fun n => by unfold snapA; rw [if_pos (by simp)]
  have h4 := snap_hsI' [.arr false 1 (encI vs), .arr false 4 (encTs ts)] 197 0 false vs L rfl h1
  have h5 := snap_hs [.arr false 1 (encI vs), .arr false 4 (encTs ts)] 197 1 false ts L rfl h2
  unfold snapA
  rw [if_neg (by simp)]
  simp [mapO2, h4, h5, h3 198]
theorem mat_new (m : Mat) (n : Nat) (u : Ty) (hm : m.Good 1) (hu : u.ok) (hmem : ¬ n ∈ m.vs) (s : List UInt8) (nl : Bool) : Ans ctx 70 [encM m, encT (.mk 1 n s nl []), encT u] (encM ⟨false, m.vs ++ [n], m.ts ++ [u], m.ok⟩) := by
  have hp : ¬ 0 ≤ placeN m.vs n 0 := by have := (placeN_iff m.vs n 0).2 hmem; omega
  obtain ⟨k1, e65⟩ := place_ans m.vs m.nl (by have := hm.le; unfold big; omega) n
  obtain ⟨L, hL⟩ : ∃ L, L = m.vs.length := ⟨_, rfl⟩
  have hLt : m.ts.length = L := by rw [hL]; exact hm.ok.len.symm
  have hL30 : L + 1 ≤ 2 ^ 30 := by rw [hL]; exact hm.le
  unfold encM
  simp only [encR_false]
  refine Ans.fn (rs := []) fn70_ (by simp) ⟨k1, fun N hN => ?_⟩ (snap_mat [.arr false 1 (encI (m.vs ++ [n])), .arr false 4 (encTs (m.ts ++ [u]))] (L + 1) (m.vs ++ [n]) (m.ts ++ [u]) m.ok (by simp [hL]) (by simp [hLt]) rfl)
  have e65 := e65 N (by omega)
  have hQ : ∀ ti : TI, (encR 1 m.nl (encI m.vs)).fits ti = (!ti.k.isAgg && ti.size == 1) := by simp
  have hE := elemsM_encR (te := ⟨.int .i64, 1, 8, .int .i64 0, [.int .i64]⟩) (sz := 1) rfl m.nl (encI m.vs)
  have hE2 : ∀ σ : H, elemsM ⟨.int .i64, 1, 8, .int .i64 0, [.int .i64]⟩ (.sl 1 [.int .i64 (n : Int)]) σ = some ([.int .i64 (n : Int)], σ) := fun σ => rfl
  have hF := fitAll_encI ⟨.int .i64, 1, 8, .int .i64 0, [.int .i64]⟩ rfl rfl m.vs
  have hll : (encI m.vs).length = L := by simp [hL]
  have hQ' : ∀ ti : TI, (encR 4 m.nl (encTs m.ts)).fits ti = (!ti.k.isAgg && ti.size == 1) := by simp
  have hE' := elemsM_encR (te := tiT) (sz := 4) rfl m.nl (encTs m.ts)
  have hE2' : ∀ σ : H, elemsM tiT (.sl 4 [encT u]) σ = some ([encT u], σ) := fun σ => rfl
  have hfu : ∀ t : Ty, (encT t).fits tiT = true := fun t => by obtain ⟨_, _, _, _, _⟩ := t; simp [encT, tiT]
  have hF' := fitAll_encTs tiT hfu m.ts
  have hll' : (encTs m.ts).length = L := by simp [hLt]
  rw [encI_append, encTs_append]
  simp only [encI_cons, encI_nil, encTs_cons, encTs_nil]
  have hfu := hfu u
  unfold tiT at hE' hE2' hF' hfu
  generalize placeN m.vs n 0 = pl at *
  generalize hQd : encR 1 m.nl (encI m.vs) = Q at *
  generalize hQd' : encR 4 m.nl (encTs m.ts) = Q' at *
  by_cases hL0 : L = 0
  · have ho0 : encI m.vs = [] := List.length_eq_zero_iff.1 (by omega)
    have ho0' : encTs m.ts = [] := List.length_eq_zero_iff.1 (by omega)
    rw [ho0] at hE hF ⊢
    rw [ho0'] at hE' hF' ⊢
    subst hL0
    simp only [Nat.zero_add, List.nil_append]
    obtain ⟨_, _, _, _, _⟩ := u
    simp only [encT] at *
    simp -implicitDefEqProofs [i70, c70, encT, e65, hp, hE, hE2, hE', hE2', hfu, -elemsM]
  · have c1 : ¬ L ≤ 0 := by omega
    have c2 : L * 8 ≤ 35184372088832 := by omega
    have c3 : L ≤ 35184372088832 := by omega
    have c4 : (L + 1) * 8 ≤ 35184372088832 := by omega
    have c5 : L + 1 ≤ 35184372088832 := by omega
    have c6 : L ≤ 35184372088831 := by omega
    have c7 : ¬ L + 1 ≤ L := by omega
    have d2 : L * 56 ≤ 35184372088832 := by omega
    have d4 : (L + 1) * 56 ≤ 35184372088832 := by omega
    have ht : (encI m.vs).take L = encI m.vs := by rw [← hll, List.take_length]
    have ht' : (encTs m.ts).take L = encTs m.ts := by rw [← hll', List.take_length]
    generalize encI m.vs = X at *
    generalize encTs m.ts = Y at *
    have cx : ¬ X = [] := by intro e; rw [e] at hll; simp at hll; omega
    have cy : ¬ Y = [] := by intro e; rw [e] at hll'; simp at hll'; omega
    obtain ⟨_, _, _, _, _⟩ := u
    simp only [encT] at *
    simp -implicitDefEqProofs [i70, c70, encT, e65, hp, hE, hE2, hE', hE2', hF, hF', hfu, hll, hll', ht, ht', c1, c2, c3, c4, c5, c6, c7, d2, d4, hL0, cx, cy, -elemsM]
theorem mat_unlike (m : Mat) (k n k' n' : Int) (s s' : List UInt8) (nl nl' : Bool) (ks ks' : List Ty) (hk : ¬ k = 1) (hu : unlike (.mk k n s nl ks) (.mk k' n' s' nl' ks') = true) : Ans ctx 70 [encM m, encT (.mk k n s nl ks), encT (.mk k' n' s' nl' ks')] (encM { m with ok := false }) := by
  have hk' : (k == 1) = false := by simpa using hk
  unfold encM
  simp only
  unfold unlike at hu
  by_cases h1 : k' = 2
  · by_cases h2 : s = s'
    · have h3 : ks.length ≠ ks'.length := by simpa [h1, h2] using hu
      have h3' : ((ks.length : Int) == (ks'.length : Int)) = false := by simp; omega
      refine Ans.of (σ' := []) fn70_ (by simp) (by simp) ⟨0, fun N hN => ?_⟩
      generalize encR 1 m.nl (encI m.vs) = V at *
      generalize encR 4 m.nl (encTs m.ts) = W at *
      simp -implicitDefEqProofs [i70, c70, encT, hk', h1, h2, h3', bne]
    · have h2'' : (s == s') = false := by simpa using h2
      refine Ans.of (σ' := []) fn70_ (by simp) (by simp) ⟨0, fun N hN => ?_⟩
      generalize encR 1 m.nl (encI m.vs) = V at *
      generalize encR 4 m.nl (encTs m.ts) = W at *
      simp -implicitDefEqProofs [i70, c70, encT, hk', h1, h2'', bne]
  · have h1' : (k' == 2) = false := by simpa using h1
    refine Ans.of (σ' := []) fn70_ (by simp) (by simp) ⟨0, fun N hN => ?_⟩
    generalize encR 1 m.nl (encI m.vs) = V at *
    generalize encR 4 m.nl (encTs m.ts) = W at *
    simp -implicitDefEqProofs [i70, c70, encT, hk', h1', bne]
mutual
theorem mat70_ans : ∀ t : Ty, t.ok → vok t → ∀ u : Ty, u.ok → ∀ m : Mat, m.Good (nodes t) → Ans ctx 70 [encM m, encT t, encT u] (encM (matT m t u))
  | .mk k n s nl ks, ho, hv, u, hu, m, hm => by
    simp only [vok] at hv
    unfold matT
    by_cases hk : k = 1
    · rw [if_pos hk]
      obtain ⟨h0, rfl⟩ := hv.1 hk
      obtain ⟨j, rfl⟩ : ∃ j : Nat, n = j := ⟨n.toNat, by omega⟩
      have hm1 : m.Good 1 := by simpa [nodes, nodess] using hm
      simp only [Int.toNat_natCast]
      subst hk
      by_cases hmem : j ∈ m.vs
      · rw [if_pos hmem]
        exact mat_var m j u hm1 hu hmem s nl
      · rw [if_neg hmem]
        exact mat_new m j u hm1 hu hmem s nl
    · rw [if_neg hk]
      have hk' : (k == 1) = false := by simpa using hk
      obtain ⟨k', n', s', nl', ks'⟩ := u
      cases hun : unlike (.mk k n s nl ks) (.mk k' n' s' nl' ks') with
      | true =>
        simp only [if_true]
        exact mat_unlike m k n k' n' s s' nl nl' ks ks' hk hun
      | false =>
        simp only [Bool.false_eq_true, if_false]
        have hke : kids (.mk k' n' s' nl' ks') = ks' := rfl
        rw [hke]
        simp [unlike] at hun
        obtain ⟨h1, h2, h3⟩ := hun
        simp only [Ty.ok] at ho hu
        have hmg : m.Good (nodess ks) := ⟨hm.ok, hm.ts, by have := hm.le; simp only [nodes] at this; omega⟩
        have hln := len_nodess ks
        have hle := hmg.le
        obtain ⟨fr', l1, l2, l3, l4, l5⟩ := lp70 (.int .i64 k) (.int .i64 n) (.str s) (.int .i64 k') (.int .i64 n') (.str s') (encTs ks) (encTs ks') nl nl' (by simp; omega) ks ks' 0 m (Tail.all _) (Tail.all _) h3 hu.2.2 hmg
          (fun a ha b hb m' hm' => mat70_all ks ho.2.2 hv.2 a ha b hb m' hm')
        obtain ⟨q, hq⟩ := l1.den
        unfold zeroM at hq l4
        unfold encM at hq l3 ⊢
        generalize matTs m ks ks' = m' at *
        refine Ans.of (σ' := []) fn70_ (by simp) (by simp) ⟨q, fun N hN => ?_⟩
        have hq := hq N hN
        generalize encR 1 m.nl (encI m.vs) = V at *
        generalize encR 4 m.nl (encTs m.ts) = W at *
        generalize encR 1 m'.nl (encI m'.vs) = V' at *
        generalize encR 4 m'.nl (encTs m'.ts) = W' at *
        simp -implicitDefEqProofs [i70, c70, encT, hk', h1, h2, h3, hq, l2, l3, l4, l5]
theorem mat70_all : ∀ l : List Ty, Ty.oks l → voks l → ∀ a ∈ l, ∀ u : Ty, u.ok → ∀ m : Mat, m.Good (nodes a) → Ans ctx 70 [encM m, encT a, encT u] (encM (matT m a u))
  | [], _, _, a, ha => by simp at ha
  | t :: l, ho, hv, a, ha => by
    simp only [Ty.oks] at ho
    simp only [voks] at hv
    rcases List.mem_cons.1 ha with h | ha
    · rw [h]; exact mat70_ans t ho.1 hv.1
    · exact mat70_all l ho.2 hv.2 a ha
end
theorem match15_ans (t u : Ty) (ht : t.ok) (hv : vok t) (hu : u.ok) (hn : nodes t ≤ 2 ^ 19) : Ans ctx 59 [encT t, encT u] (.bool (go (nodes t + 1) [(t, u)] [])) := by
  rw [go_mat t u hv]
  obtain ⟨k, e⟩ := mat70_ans t ht hv u hu ⟨true, [], [], true⟩ ⟨⟨by simp, rfl⟩, by simp, by simp; omega⟩
  generalize matT ⟨true, [], [], true⟩ t u = m at *
  have e : ∀ N, k ≤ N → ∀ σ, acall ctx N 70 [.agg [.nil, .nil, .bool true], encT t, encT u] σ = some (encM m, σ) := e
  unfold encM at e
  refine Ans.of (σ' := []) fn59_ (by simp) (by simp) ⟨k, fun N hN => ?_⟩
  have e := e N hN
  generalize encR 1 m.nl (encI m.vs) = V at *
  generalize encR 4 m.nl (encTs m.ts) = W at *
  simp -implicitDefEqProofs [i59, c59, e]
end Go.Am.Tryd
