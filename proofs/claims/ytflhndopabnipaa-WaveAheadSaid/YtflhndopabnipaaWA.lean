/- S25, S26, S27, as one -/
import Derived.Test.YtflhndopabnipaaS24
set_option linter.unusedVariables false
set_option linter.unusedSimpArgs false
set_option maxRecDepth 100000
namespace Go.Am.Try
open Go Go.Am.Sc
structure WT (σ : H) (p : Nat) (cells : List AV) (L : List (List Nat)) : Prop where
  len : cells.length = L.length
  row : RowAt σ p 1 cells
  at' : ∀ (i : Nat) l, L[i]? = some l → ∃ q, cells[i]? = some (rowV q l.length 1) ∧ RowAt σ q 1 (encNs l) ∧ (l ≠ [] → q ≠ p ∧ q < σ.length)
  dis : ∀ (i j : Nat) l m q, i ≠ j → L[i]? = some l → L[j]? = some m → l ≠ [] → m ≠ [] → cells[i]? = some (rowV q l.length 1) → cells[j]? ≠ some (rowV q m.length 1)
theorem WT.nil (σ : H) : WT σ 0 [] [] := ⟨rfl, fun h => absurd rfl h, fun i l h => by simp at h, fun i j l m q _ h => by simp at h⟩
theorem WT.tb {σ : H} {p : Nat} {cells : List AV} {L : List (List Nat)} (h : WT σ p cells L) (hL : L ≠ []) : Tb σ p cells L := ⟨h.len, h.row (fun e => hL (by
  have := h.len
  rw [e] at this
  exact List.length_eq_zero_iff.1 this.symm)), h.at', h.dis⟩
theorem Tb.wt {σ : H} {p : Nat} {cells : List AV} {L : List (List Nat)} (h : Tb σ p cells L) : WT σ p cells L := ⟨h.len, fun _ => h.tab, h.at', h.dis⟩
theorem WT.pad {σ : H} {p : Nat} {cells : List AV} {L : List (List Nat)} (h : WT σ p cells L) (hb : L.length ≤ 2 ^ 30) :
    ∃ p' σ', appendH tiR (rowV p L.length 1) [.nil] σ = some (rowV p' (L.length + 1) 1, σ') ∧ WT σ' p' (cells ++ [.nil]) (L ++ [[]]) := by
  have hl := h.len
  obtain ⟨p', σ', p1, p2, p3, p4, p5⟩ := app_raw2 tiR (y := .nil) h.row (by rfl) (by simp [tiR]; omega) (by omega)
  rw [hl] at p1
  refine ⟨p', σ', p1, by simp [hl], fun _ => p2, fun i l hi => ?_, fun i j l m q hij hi hj hlne hmne h1 h2 => ?_⟩
  · by_cases hil : i < L.length
    · rw [List.getElem?_append_left hil] at hi
      obtain ⟨q, c1, c2, c3⟩ := h.at' i l hi
      refine ⟨q, by rw [List.getElem?_append_left (by omega)]; exact c1, fun hx => ?_, fun hne => ?_⟩
      · obtain ⟨k1, k2⟩ := c3 (fun e => hx (by rw [e]; rfl))
        have := List.getElem?_eq_getElem k2
        have h3 := c2 hx
        exact p4 q _ h3 (fun _ => k1)
      · obtain ⟨k1, k2⟩ := c3 hne
        exact ⟨p5 q k2 (fun _ => k1), by omega⟩
    · have e : i = L.length := by
        have := (List.getElem?_eq_some_iff.1 hi).1
        simp at this; omega
      subst e
      simp at hi
      subst hi
      exact ⟨0, by rw [← hl]; simp [rowV], fun hx => absurd rfl hx, fun hx => absurd rfl hx⟩
  · have bd : ∀ (i : Nat) l, (L ++ [[]])[i]? = some l → l ≠ [] → i < L.length := fun i l hi hne => by
      refine Nat.lt_of_not_le fun hle => ?_
      have e : i = L.length := by
        have := (List.getElem?_eq_some_iff.1 hi).1
        simp at this; omega
      subst e
      simp at hi
      exact hne hi
    have hil := bd i l hi hlne
    have hjl := bd j m hj hmne
    rw [List.getElem?_append_left hil] at hi
    rw [List.getElem?_append_left hjl] at hj
    rw [List.getElem?_append_left (by omega)] at h1 h2
    exact h.dis i j l m q hij hi hj hlne hmne h1 h2
theorem WT.snap {σ : H} {p : Nat} {cells : List AV} {L : List (List Nat)} (h : WT σ p cells L) (n : Nat) : ∃ ns, snapA σ (n + 2) (rowV p L.length 1) = some (encR 1 true (encU L), ns) := by
  cases hL : L with
  | nil => exact ⟨[], by simp only [List.length_nil, rowV]; exact snapA_noRef rfl⟩
  | cons l L' =>
    have hne : cells ≠ [] := fun e => by
      have := h.len
      rw [e, hL] at this; simp at this
    obtain ⟨ns, w⟩ := snap_table n (h.row hne) rfl h.len (fun i l hi => by
      obtain ⟨q, c1, c2, _⟩ := h.at' i l hi
      exact ⟨q, c1, c2⟩)
    rw [h.len, hL] at w
    refine ⟨ns, ?_⟩
    simp only [List.length_cons, rowV] at w ⊢
    rw [w]
    simp [encU]
set_option maxHeartbeats 2000000 in
theorem lp25_0 (lv : List Nat) (i n : Nat) (hn : n < 2 ^ 29) : ∀ (f m : Nat) (p : Nat) (cells : List AV) (σ : H), m + f = max m (n + 1) → WT σ p cells (wvs lv m i) → (∀ x, x < i → lv.getD x 0 < m) → m ≤ 2 ^ 29 →
    ∃ fr' p' cells' σ', Lp ctx [20, 29] [] [3, 4, 5, 7, 8, 9] b25_0 ⟨[(3, .v (rowV p m 1)), (4, .v (.int .i64 i)), (5, .v (.int .i64 n)), (7, .v (.sl 1 (encNs lv))), (8, .v (.int .i64 lv.length)), (9, .v (.int .i64 i))], false⟩ σ
      (.ex 2) fr' σ' ∧ WT σ' p' cells' (wvs lv (max m (n + 1)) i) ∧ fr'.lk = false ∧ getS fr'.sl 3 = .v (rowV p' (max m (n + 1)) 1) ∧ getS fr'.sl 4 = .v (.int .i64 i) ∧ getS fr'.sl 5 = .v (.int .i64 n) ∧ getS fr'.sl 7 = .v (.sl 1 (encNs lv)) ∧ getS fr'.sl 8 = .v (.int .i64 lv.length) ∧ getS fr'.sl 9 = .v (.int .i64 i) ∧ Hi 21 fr'
  | 0, m, p, cells, σ, hf, hW, hv, hm => by
    have e : max m (n + 1) = m := by omega
    rw [e]
    have hlt : ¬ m ≤ n := by omega
    have hlen : lenM (rowV p m 1) = pureM (.int .i64 m) := by cases m <;> rfl
    have hlo : ∀ e, lenOk (.slice e) (rowV p m 1) = true := fun e => by cases m <;> rfl
    refine ⟨?_, p, cells, σ, Lp.exit ⟨0, fun N _ => ?_⟩ (by simp), ?_⟩
    rotate_left
    · simp -implicitDefEqProofs [b25_0, hlen, hlo, hlt]
      rfl
    · exact ⟨hW, by simp, by simp, by simp, by simp, by simp, by simp, by simp, hi_of (by simp)⟩
  | f + 1, m, p, cells, σ, hf, hW, hv, hm => by
    have hmn : m ≤ n := by omega
    have hlen : lenM (rowV p m 1) = pureM (.int .i64 m) := by cases m <;> rfl
    have hlo : ∀ e, lenOk (.slice e) (rowV p m 1) = true := fun e => by cases m <;> rfl
    obtain ⟨p1, σ1, q1, q2⟩ := hW.pad (by rw [wvs_len]; omega)
    rw [wvs_len] at q1
    rw [wvs_pad lv m i hv] at q2
    have e : max (m + 1) (n + 1) = max m (n + 1) := by omega
    obtain ⟨fr', p', cells', σ', l1, l2⟩ := lp25_0 lv i n hn f (m + 1) p1 _ σ1 (by omega) q2 (fun x hx => by have := hv x hx; omega) (by omega)
    rw [e] at l2
    unfold tiR at q1
    refine ⟨fr', p', cells', σ', Lp.step ⟨0, fun N hN => ?_⟩ l1, l2⟩
    clear l1 l2 hW q2
    simp -implicitDefEqProofs [b25_0, hlen, hlo, hmn, q1, -appendH]
def mxf (m : Nat) : List Nat → Nat
  | [] => m
  | v :: l => mxf (max m (v + 1)) l
theorem mxf_max : ∀ (l : List Nat) (m : Nat), mxf m l = max m (mxl l)
  | [], m => by simp [mxf, mxl, mx]
  | v :: l, m => by
    have e : mxl (v :: l) = max (v + 1) (mxl l) := rfl
    rw [mxf, mxf_max l, e]; omega
theorem WT.push {σ : H} {p : Nat} {cells : List AV} {lv : List Nat} {m i : Nat} (h : WT σ p cells (wvs lv m i)) (hv : lv.getD i 0 < m) (hi : i ≤ 2 ^ 30) :
    ∃ q q' N σ1, cells[lv.getD i 0]? = some (rowV q N 1) ∧ appendH tiI (rowV q N 1) [.int .i64 (i : Int)] σ = some (rowV q' (N + 1) 1, σ1) ∧ σ[p]? = some (.arr false 1 cells) ∧ σ1[p]? = some (.arr false 1 cells) ∧ WT (σ1.set p (.arr false 1 (cells.set (lv.getD i 0) (rowV q' (N + 1) 1)))) p (cells.set (lv.getD i 0) (rowV q' (N + 1) 1)) (wvs lv m (i + 1)) := by
  have hne : wvs lv m i ≠ [] := fun e => by
    have := wvs_len lv m i
    rw [e] at this; simp at this; omega
  have hT := h.tb hne
  have hg := wvs_get lv (i := i) hv
  have hle : ((List.range i).filter fun x => lv.getD x 0 == lv.getD i 0).length ≤ i := by
    have := List.length_filter_le (fun x => lv.getD x 0 == lv.getD i 0) (List.range i)
    simpa using this
  obtain ⟨q, q', σ1, c', p1, p2, p3, p4, p5, _, _⟩ := hT.push hg i (by omega)
  subst p3
  rw [wvs_push lv m i hv] at p5
  exact ⟨q, q', _, σ1, p1, p2, hT.tab, p4, p5.wt⟩
set_option maxHeartbeats 2000000 in
theorem lp25_1 (lv : List Nat) (hl : lv.length ≤ 2 ^ 29) (hb : ∀ v ∈ lv, v < 2 ^ 29) : ∀ (r : List Nat) (i m : Nat) (p : Nat) (cells : List AV) (σ : H), Tail (encNs lv) i (encNs r) → (∀ v ∈ r, v < 2 ^ 29) → WT σ p cells (wvs lv m i) → (∀ x, x < i → lv.getD x 0 < m) → m ≤ 2 ^ 29 →
    ∃ fr' p' cells' σ', Lp ctx [20, 29] [] [3, 7, 8, 9] b25_1 ⟨[(3, .v (rowV p m 1)), (7, .v (.sl 1 (encNs lv))), (8, .v (.int .i64 lv.length)), (9, .v (.int .i64 i))], false⟩ σ
      (.ex 0) fr' σ' ∧ WT σ' p' cells' (wvs lv (mxf m r) lv.length) ∧ fr'.lk = false ∧ getS fr'.sl 3 = .v (rowV p' (mxf m r) 1) ∧ getS fr'.sl 2 = .u ∧ getS fr'.sl 32 = .u
  | [], i, m, p, cells, σ, ht, hs, hW, hv, hm => by
    have hlen := ht.nil
    simp only [encNs_length] at hlen
    refine ⟨?_, p, cells, σ, Lp.exit ⟨0, fun N _ => ?_⟩ (by simp), ?_⟩
    rotate_left
    · simp -implicitDefEqProofs [b25_1, hlen]
      rfl
    · exact ⟨by rw [hlen]; exact hW, by simp, by simp [mxf], by simp, by simp⟩
  | v :: r, i, m, p, cells, σ, ht, hs, hW, hv, hm => by
    have hlk := tail_get ht
    rw [encNs_cons] at ht
    obtain ⟨a1, a2, a3, a4, a5⟩ := ht.cons
    simp only [encNs_length] at a2 a3
    have hil : i < lv.length := (List.getElem?_eq_some_iff.1 hlk).1
    have hgv : lv.getD i 0 = v := by rw [List.getD_eq_getElem?_getD, hlk]; rfl
    have hw := wrap_succ (n := i) (by unfold big; omega)
    have hv9 := hs v (by simp)
    obtain ⟨fr1, p1, cells1, σ1, b1, b2, b3, b4, b5, b6, b7, b8, b9, b10⟩ := lp25_0 lv i v hv9 (max m (v + 1) - m) m p cells σ (by omega) hW hv hm
    obtain ⟨k1, hk1⟩ := b1.den
    obtain ⟨M1, hM1⟩ : ∃ M1, M1 = max m (v + 1) := ⟨_, rfl⟩
    rw [← hM1] at b2 b4
    obtain ⟨qa, qb, N1, σ2, c1, c2, c3, c4, c5⟩ := b2.push (by rw [hgv]; omega) (by omega)
    rw [hgv] at c1 c5
    obtain ⟨fr', p', cells', σ', l1, l2⟩ := lp25_1 lv hl hb r (i + 1) M1 p1 _ _ a4 (fun z hz => hs z (by simp [hz])) c5 (fun x hx => by
      by_cases e : x = i
      · rw [e, hgv]; omega
      · have := hv x (by omega); omega) (by omega)
    rw [mxf, ← hM1]
    refine ⟨fr', p', cells', σ', Lp.step ⟨k1, fun N hN => ?_⟩ l1, l2⟩
    have hk1 := hk1 N hN
    have hcl : cells1.length = M1 := by rw [b2.len, wvs_len]
    obtain ⟨M2, hM2⟩ : ∃ M2, M1 = M2 + 1 := ⟨M1 - 1, by omega⟩
    have er : ∀ q, rowV q M1 1 = .hs q M1 0 M1 1 := fun q => by rw [hM2]; rfl
    have hiv : idxN (v : Int) M1 = some v := idx_at (by omega)
    have hcf : ∀ q m, (rowV q m 1).fits ⟨.slice 3, 1, 24, .nil, []⟩ = true := fun q m => by cases m <;> rfl
    unfold tiI at c2
    rw [er] at b4
    rw [er]
    have j21 := b10 21 (by omega)
    have j22 := b10 22 (by omega)
    have j23 := b10 23 (by omega)
    have j24 := b10 24 (by omega)
    have j25 := b10 25 (by omega)
    have j26 := b10 26 (by omega)
    have j27 := b10 27 (by omega)
    have j28 := b10 28 (by omega)
    have j29 := b10 29 (by omega)
    have j30 := b10 30 (by omega)
    have j31 := b10 31 (by omega)
    clear l1 l2 b1 b2 c5 hW
    simp -implicitDefEqProofs [b25_1, hil, ↓a1, a3, hw, hk1, b3, b4, b5, b6, b7, b8, b9, j21, j22, j23, j24, j25, j26, j27, j28, j29, j30, j31, c1, c2, c3, c4, hcl, hiv, hcf, -appendH]
theorem wav_mxf (lv : List Nat) : wvs lv (mxf 0 lv) lv.length = wav lv := by
  unfold wav
  rw [mxf_max, Nat.zero_max]
set_option maxHeartbeats 2000000 in
theorem waves_of {G : AV} {lv : List Nat} (hG : AV.noRefs [G] = true) (h : Ans ctx 22 [G] (.sl 1 (encNs lv))) (hl : lv.length ≤ 2 ^ 29) (hb : ∀ v ∈ lv, v < 2 ^ 29) : Ans ctx 25 [G] (encR 1 true (encU (wav lv))) := by
  obtain ⟨k1, h1⟩ := h
  obtain ⟨fr', p', cells', σ', l1, l2, l3, l4, l5, l6⟩ := lp25_1 lv hl hb lv 0 0 0 [] [] (Tail.all _) hb (WT.nil []) (fun x hx => by omega) (by omega)
  obtain ⟨k2, hk2⟩ := l1.den
  obtain ⟨ns, hsn⟩ := l2.snap 198
  rw [wvs_len] at hsn
  rw [wav_mxf] at hsn
  refine Ans.fn (rs := []) (σ' := σ') fn25_ hG ⟨k1 + k2, fun N hN => ?_⟩ hsn
  have h1 := h1 N (by omega)
  have hk2 := hk2 N (by omega)
  have e0 : rowV 0 0 1 = AV.nil := rfl
  simp only [Int.cast_ofNat_Int, e0] at hk2
  clear l1 l2 hsn
  simp -implicitDefEqProofs [i25, c25, h1, hk2, l3, l4, l5, l6]
end Go.Am.Try
namespace Go.Am.Try
open Go Go.Am.Sc
set_option maxHeartbeats 2000000 in
theorem lp26_0 (lv : List Nat) (i n : Nat) (hi : i < lv.length) (hnv : lv.getD i 0 = n) (hn : n < 2 ^ 29) : ∀ (f m : Nat) (p : Nat) (cells : List AV) (σ : H), m + f = max m (n + 1) → WT σ p cells (wvs lv m i) → (∀ x, x < i → lv.getD x 0 < m) → m ≤ 2 ^ 29 →
    ∃ fr' p' cells' σ', Lp ctx [23, 38] [] [3, 4, 5] b26_0 ⟨[(3, .v (.sl 1 (encNs lv))), (4, .v (rowV p m 1)), (5, .v (.int .i64 i))], false⟩ σ
      (.ex 2) fr' σ' ∧ WT σ' p' cells' (wvs lv (max m (n + 1)) i) ∧ fr'.lk = false ∧ getS fr'.sl 4 = .v (rowV p' (max m (n + 1)) 1) ∧ getS fr'.sl 3 = .v (.sl 1 (encNs lv)) ∧ getS fr'.sl 5 = .v (.int .i64 i) ∧ Hi 24 fr' ∧ getS fr'.sl 12 = .u ∧ getS fr'.sl 13 = .u
  | 0, m, p, cells, σ, hf, hW, hv, hm => by
    have e : max m (n + 1) = m := by omega
    rw [e]
    have hlt : ¬ m ≤ n := by omega
    have hlen : lenM (rowV p m 1) = pureM (.int .i64 m) := by cases m <;> rfl
    have hlo : ∀ e, lenOk (.slice e) (rowV p m 1) = true := fun e => by cases m <;> rfl
    have hg : (encNs lv)[i]? = some (.int .i64 (n : Int)) := by
      have := encNs_get hi
      rw [hnv] at this; exact this
    have hix := idx_at hi
    refine ⟨?_, p, cells, σ, Lp.exit ⟨0, fun N _ => ?_⟩ (by simp), ?_⟩
    rotate_left
    · simp -implicitDefEqProofs [b26_0, hlen, hlo, hlt, ↓hg, hix]
      rfl
    · exact ⟨hW, by simp, by simp, by simp, by simp, hi_of (by simp), by simp, by simp⟩
  | f + 1, m, p, cells, σ, hf, hW, hv, hm => by
    have hmn : m ≤ n := by omega
    have hlen : lenM (rowV p m 1) = pureM (.int .i64 m) := by cases m <;> rfl
    have hlo : ∀ e, lenOk (.slice e) (rowV p m 1) = true := fun e => by cases m <;> rfl
    have hg : (encNs lv)[i]? = some (.int .i64 (n : Int)) := by
      have := encNs_get hi
      rw [hnv] at this; exact this
    have hix := idx_at hi
    obtain ⟨p1, σ1, q1, q2⟩ := hW.pad (by rw [wvs_len]; omega)
    rw [wvs_len] at q1
    rw [wvs_pad lv m i hv] at q2
    have e : max (m + 1) (n + 1) = max m (n + 1) := by omega
    obtain ⟨fr', p', cells', σ', l1, l2⟩ := lp26_0 lv i n hi hnv hn f (m + 1) p1 _ σ1 (by omega) q2 (fun x hx => by have := hv x hx; omega) (by omega)
    rw [e] at l2
    unfold tiR at q1
    refine ⟨fr', p', cells', σ', Lp.step ⟨0, fun N hN => ?_⟩ l1, l2⟩
    clear l1 l2 hW q2
    simp -implicitDefEqProofs [b26_0, hlen, hlo, hmn, q1, ↓hg, hix, -appendH]
set_option maxHeartbeats 2000000 in
theorem lp26_1 (lv : List Nat) (hl : lv.length ≤ 2 ^ 29) (hb : ∀ v ∈ lv, v < 2 ^ 29) : ∀ (r : List Nat) (i m : Nat) (p : Nat) (cells : List AV) (σ : H), Tail (encNs lv) i (encNs r) → (∀ v ∈ r, v < 2 ^ 29) → WT σ p cells (wvs lv m i) → (∀ x, x < i → lv.getD x 0 < m) → m ≤ 2 ^ 29 →
    ∃ fr' p' cells' σ', Lp ctx [23, 38] [] [3, 4, 5] b26_1 ⟨[(3, .v (.sl 1 (encNs lv))), (4, .v (rowV p m 1)), (5, .v (.int .i64 i))], false⟩ σ
      (.ex 0) fr' σ' ∧ WT σ' p' cells' (wvs lv (mxf m r) lv.length) ∧ fr'.lk = false ∧ getS fr'.sl 4 = .v (rowV p' (mxf m r) 1) ∧ getS fr'.sl 2 = .u ∧ getS fr'.sl 40 = .u
  | [], i, m, p, cells, σ, ht, hs, hW, hv, hm => by
    have hlen := ht.nil
    simp only [encNs_length] at hlen
    refine ⟨?_, p, cells, σ, Lp.exit ⟨0, fun N _ => ?_⟩ (by simp), ?_⟩
    rotate_left
    · simp -implicitDefEqProofs [b26_1, hlen]
      rfl
    · exact ⟨by rw [hlen]; exact hW, by simp, by simp [mxf], by simp, by simp⟩
  | v :: r, i, m, p, cells, σ, ht, hs, hW, hv, hm => by
    have hlk := tail_get ht
    rw [encNs_cons] at ht
    obtain ⟨a1, a2, a3, a4, a5⟩ := ht.cons
    simp only [encNs_length] at a2 a3
    have hil : i < lv.length := (List.getElem?_eq_some_iff.1 hlk).1
    have hgv : lv.getD i 0 = v := by rw [List.getD_eq_getElem?_getD, hlk]; rfl
    have hw := wrap_succ (n := i) (by unfold big; omega)
    have hv9 := hs v (by simp)
    obtain ⟨fr1, p1, cells1, σ1, b1, b2, b3, b4, b5, b6, b7, b8, b9⟩ := lp26_0 lv i v hil hgv hv9 (max m (v + 1) - m) m p cells σ (by omega) hW hv hm
    obtain ⟨k1, hk1⟩ := b1.den
    obtain ⟨M1, hM1⟩ : ∃ M1, M1 = max m (v + 1) := ⟨_, rfl⟩
    rw [← hM1] at b2 b4
    obtain ⟨qa, qb, N1, σ2, c1, c2, c3, c4, c5⟩ := b2.push (by rw [hgv]; omega) (by omega)
    rw [hgv] at c1 c5
    obtain ⟨fr', p', cells', σ', l1, l2⟩ := lp26_1 lv hl hb r (i + 1) M1 p1 _ _ a4 (fun z hz => hs z (by simp [hz])) c5 (fun x hx => by
      by_cases e : x = i
      · rw [e, hgv]; omega
      · have := hv x (by omega); omega) (by omega)
    rw [mxf, ← hM1]
    refine ⟨fr', p', cells', σ', Lp.step ⟨k1, fun N hN => ?_⟩ l1, l2⟩
    have hk1 := hk1 N hN
    have hcl : cells1.length = M1 := by rw [b2.len, wvs_len]
    obtain ⟨M2, hM2⟩ : ∃ M2, M1 = M2 + 1 := ⟨M1 - 1, by omega⟩
    have er : ∀ q, rowV q M1 1 = .hs q M1 0 M1 1 := fun q => by rw [hM2]; rfl
    have hiv : idxN (v : Int) M1 = some v := idx_at (by omega)
    have hcf : ∀ q m, (rowV q m 1).fits ⟨.slice 3, 1, 24, .nil, []⟩ = true := fun q m => by cases m <;> rfl
    unfold tiI at c2
    rw [er] at b4
    rw [er]
    have j24 := b7 24 (by omega)
    have j25 := b7 25 (by omega)
    have j26 := b7 26 (by omega)
    have j27 := b7 27 (by omega)
    have j28 := b7 28 (by omega)
    have j29 := b7 29 (by omega)
    have j30 := b7 30 (by omega)
    have j31 := b7 31 (by omega)
    have j32 := b7 32 (by omega)
    have j33 := b7 33 (by omega)
    have j34 := b7 34 (by omega)
    have j35 := b7 35 (by omega)
    have j36 := b7 36 (by omega)
    have j37 := b7 37 (by omega)
    have j38 := b7 38 (by omega)
    have j39 := b7 39 (by omega)
    clear l1 l2 b1 b2 c5 hW
    simp -implicitDefEqProofs [b26_1, hil, ↓a1, a3, hw, hk1, b3, b4, b5, b6, b8, b9, j24, j25, j26, j27, j28, j29, j30, j31, j32, j33, j34, j35, j36, j37, j38, j39, c1, c2, c3, c4, hcl, hiv, hcf, -appendH]
set_option maxHeartbeats 2000000 in
theorem rwaves_of {G : AV} {lv : List Nat} (hG : AV.noRefs [G] = true) (h : Ans ctx 24 [G] (.sl 1 (encNs lv))) (hl : lv.length ≤ 2 ^ 29) (hb : ∀ v ∈ lv, v < 2 ^ 29) : Ans ctx 26 [G] (encR 1 true (encU (wav lv))) := by
  obtain ⟨k1, h1⟩ := h
  obtain ⟨fr', p', cells', σ', l1, l2, l3, l4, l5, l6⟩ := lp26_1 lv hl hb lv 0 0 0 [] [] (Tail.all _) hb (WT.nil []) (fun x hx => by omega) (by omega)
  obtain ⟨k2, hk2⟩ := l1.den
  obtain ⟨ns, hsn⟩ := l2.snap 198
  rw [wvs_len] at hsn
  rw [wav_mxf] at hsn
  refine Ans.fn (rs := []) (σ' := σ') fn26_ hG ⟨k1 + k2, fun N hN => ?_⟩ hsn
  have h1 := h1 N (by omega)
  have hk2 := hk2 N (by omega)
  have e0 : rowV 0 0 1 = AV.nil := rfl
  simp only [Int.cast_ofNat_Int, e0] at hk2
  clear l1 l2 hsn
  simp -implicitDefEqProofs [i26, c26, h1, hk2, l3, l4, l5, l6]
/-! ### Levels -/
set_option maxHeartbeats 2000000 in
theorem lp24_0 (X0 : AV) (n : Nat) (hn : n ≤ 2 ^ 30) (G : List (List Nat)) (i : Nat) (l : List Nat) (hi : G[i]? = some l) (hll : l.length ≤ 2 ^ 30) (hlt : ∀ y ∈ l, y < n) : ∀ (r : List Nat) (k : Nat) (o : List Nat), Tail (encNs l) k (encNs r) → o.length = n →
    ∃ fr', Lp ctx [17, 45] [] [0, 3, 4, 5, 6] b24_0 ⟨[(0, .v X0), (3, .v (.sl 1 (encU G))), (4, .v (.hs 0 n 0 n 1)), (5, .v (.int .i64 i)), (6, .v (.int .i64 k))], false⟩ [.arr false 1 (encNs o)] (.ex 2) fr' [.arr false 1 (encNs (fills i o r))] ∧ fr'.lk = false ∧ getS fr'.sl 0 = .v X0 ∧ getS fr'.sl 3 = .v (.sl 1 (encU G)) ∧ getS fr'.sl 4 = .v (.hs 0 n 0 n 1) ∧ getS fr'.sl 5 = .v (.int .i64 i) ∧ getS fr'.sl 22 = .u ∧ getS fr'.sl 23 = .u
  | [], k, o, ht, hl => by
    have hlen := ht.nil
    simp only [encNs_length] at hlen
    have hgi := encU_at hi
    have hix := idx_at (List.getElem?_eq_some_iff.1 hi).1
    have hkl : ¬ (k : Int) < (l.length : Int) := by omega
    have e0 : fills i o [] = o := rfl
    rw [e0]
    refine ⟨?_, Lp.exit ⟨0, fun N _ => ?_⟩ (by simp), ?_⟩
    rotate_left
    · simp -implicitDefEqProofs [b24_0, hgi, hix, hkl]
      rfl
    · simp
  | y :: r, k, o, ht, hl => by
    have hlk := tail_get ht
    rw [encNs_cons] at ht
    obtain ⟨a1, a2, a3, a4, a5⟩ := ht.cons
    simp only [encNs_length] at a2 a3
    have hkn : k < l.length := (List.getElem?_eq_some_iff.1 hlk).1
    have hw := wrap_succ (n := k) (by unfold big; omega)
    have hy : y < n := hlt y (List.mem_of_getElem? hlk)
    have hgi := encU_at hi
    have hrow : encR 1 true (encNs l) = .sl 1 (encNs l) := a5 1 true
    rw [hrow] at hgi
    have hix := idx_at (List.getElem?_eq_some_iff.1 hi).1
    have hiy := idx_at hy
    have hset := encNs_set o y i
    have hinl : (encNs o).length = n := by simpa using hl
    have hgy := encNs_get (l := o) (i := y) (by omega)
    obtain ⟨fr', l1, l2⟩ := lp24_0 X0 n hn G i l hi hll hlt r (k + 1) (o.set y i) a4 (by simpa using hl)
    have ee : fills i o (y :: r) = fills i (o.set y i) r := rfl
    rw [ee]
    refine ⟨fr', Lp.step ⟨0, fun N hN => ?_⟩ l1, l2⟩
    clear l1 l2
    simp -implicitDefEqProofs [b24_0, ↓hgi, hix, hkn, ↓a1, a3, hw, hiy, hset, hinl, ↓hgy]
set_option maxHeartbeats 2000000 in
theorem lp24_1 (X0 : AV) (n : Nat) (hn : n ≤ 2 ^ 30) (G : List (List Nat)) (P : Nat → Nat → Prop) (hG : Grp n P G) (ho : G.Pairwise fun l m => hd l < hd m) : ∀ (f i : Nat) (o : List Nat), i + f = G.length → o.length = n → (∀ x j m, j < i → G[j]? = some m → x ∈ m → o.getD x 0 = j) →
    ∃ fr' o', Lp ctx [17, 45] [] [0, 3, 4, 5] b24_1 ⟨[(0, .v X0), (3, .v (encR 1 true (encU G))), (4, .v (.hs 0 n 0 n 1)), (5, .v (.int .i64 i))], false⟩ [.arr false 1 (encNs o)] (.ex 0) fr' [.arr false 1 (encNs o')] ∧ o'.length = n ∧ (∀ x j m, G[j]? = some m → x ∈ m → o'.getD x 0 = j) ∧ fr'.lk = false ∧ getS fr'.sl 0 = .v X0 ∧ getS fr'.sl 3 = .v (encR 1 true (encU G)) ∧ getS fr'.sl 4 = .v (.hs 0 n 0 n 1) ∧ Hi 43 fr' ∧ getS fr'.sl 7 = .u ∧ getS fr'.sl 8 = .u ∧ getS fr'.sl 2 = .u := by
  intro f
  induction f with
  | zero =>
    intro i o hi hl hin
    have e : i = G.length := by omega
    subst e
    refine ⟨?_, o, Lp.exit ⟨0, fun N _ => ?_⟩ (by simp), ?_⟩
    rotate_left
    · simp -implicitDefEqProofs [b24_1]
      rfl
    · exact ⟨hl, fun x j m hj hx => hin x j m (List.getElem?_eq_some_iff.1 hj).1 hj hx, by simp, by simp, by simp, by simp, hi_of (by simp), by simp, by simp, by simp⟩
  | succ f ih =>
    intro i o hi hl hin
    obtain ⟨l, hgl⟩ : ∃ l, G[i]? = some l := ⟨_, List.getElem?_eq_getElem (by omega)⟩
    have hmem := List.mem_of_getElem? hgl
    have hGl := Grp.len_le hG ho
    have hll := hGl.2 l hmem
    have hlt := hG.lt l hmem
    have hUne : encU G ≠ [] := fun e => by
      have := congrArg List.length e
      simp at this
      rw [this] at hgl; simp at hgl
    obtain ⟨fr1, a1, b2, b3, b4, b5, b6, b7, b8⟩ := lp24_0 X0 n hn G i l hgl (by omega) hlt l 0 o (Tail.all _) hl
    obtain ⟨kk, hk⟩ := a1.den
    obtain ⟨fr', o', l1, l2⟩ := ih (i + 1) (fills i o l) (by omega) (by rw [fills_len]; exact hl) (fun x j m hj hm hx => by
      rw [fills_get i l o x (fun y hy => by rw [hl]; exact hlt y hy)]
      by_cases hji : j = i
      · subst hji
        rw [hm] at hgl
        rw [if_pos (by rw [← Option.some.inj hgl]; exact hx)]
      · rw [if_neg (fun hxl => Grp.dis hG ho (show j < i by omega) hm hgl hx hxl)]
        exact hin x j m (by omega) hm hx)
    rw [encR_ne hUne] at l1 l2 ⊢
    refine ⟨fr', o', Lp.step ⟨kk, fun N hN => ?_⟩ l1, l2⟩
    have hk := hk N hN
    simp only [Int.cast_ofNat_Int] at hk
    clear l1 l2 ih a1
    have hil : i < G.length := by omega
    have hw := wrap_succ (n := i) (by unfold big; omega)
    simp -implicitDefEqProofs [b24_1, hil, hw, hk, b2, b3, b4, b5, b6, b7, b8]
theorem rnd1_le {k : Nat} {D : Nat → Nat → Prop} {lev : Nat → Nat} (h : Lev k D lev) (o : Nat → Nat) {out : List Nat} (hl : out.length = k) {i y : Nat} (hi : i < k) (hd : o y ≠ i → D i (o y)) (hb : ∀ a, out.getD a 0 ≤ lev a) : ∀ a, (relax o out i y).getD a 0 ≤ lev a :=
  rnd_le h o [(i, y)] out hl (fun p hp => by simp at hp; subst hp; exact ⟨hi, hd⟩) hb
set_option maxHeartbeats 4000000 in
theorem lp24_2 (g : List (Bool × List Int)) (ng : Bool) (hg : g.length ≤ 2 ^ 30) (K : Nat) (hK : K ≤ 2 ^ 30) (D : Nat → Nat → Prop) (lev : Nat → Nat) (hlev : Lev K D lev) (hlt : ∀ a, lev a < 2 ^ 31) (o : List Nat) (ho : o.length = g.length) (hoK : ∀ x, x < g.length → o.getD x 0 < K) (X3 X8 X10 : AV) (i : Nat) (hi : i < K) (q : Bool × List Int) (hql : q.2.length ≤ 2 ^ 30) (hd : ∀ y ∈ cl g.length q.2, o.getD y 0 ≠ i → D i (o.getD y 0)) : ∀ (r : List Int) (j : Nat) (out : List Nat), Tail (encIs q.2) j (encIs r) → (∀ y ∈ r, y ∈ q.2) → out.length = K → (∀ a, out.getD a 0 ≤ lev a) →
    ∃ fr', Lp ctx [17, 45] [] [0, 3, 4, 7, 8, 9, 10, 11, 12] b24_2 ⟨[(0, .v (encR 1 ng (encG g))), (3, .v X3), (4, .v (.hs 0 g.length 0 g.length 1)), (7, .v (.hs 1 K 0 K 1)), (8, .v X8), (9, .v (.int .i64 i)), (10, .v X10), (11, .v (rowI q)), (12, .v (.int .i64 j))], false⟩ [.arr false 1 (encNs o), .arr false 1 (encNs out)]
      (.ex 10) fr' [.arr false 1 (encNs o), .arr false 1 (encNs (rnd (fun x => o.getD x 0) ((cl g.length r).map fun y => (i, y)) out))] ∧
      fr'.lk = false ∧ getS fr'.sl 0 = .v (encR 1 ng (encG g)) ∧ getS fr'.sl 3 = .v X3 ∧ getS fr'.sl 4 = .v (.hs 0 g.length 0 g.length 1) ∧ getS fr'.sl 7 = .v (.hs 1 K 0 K 1) ∧ getS fr'.sl 8 = .v X8 ∧ getS fr'.sl 9 = .v (.int .i64 i) ∧ getS fr'.sl 10 = .v X10 ∧ getS fr'.sl 65 = .u ∧ getS fr'.sl 66 = .u
  | [], j, out, ht, hmem, hl, hb => by
    have hlen := ht.nil
    simp only [encIs_length] at hlen
    have hqn : lenM (rowI q) = pureM (.int .i64 q.2.length) := by unfold rowI; simp
    have hqo : ∀ e, lenOk (.slice e) (rowI q) = true := fun e => by unfold rowI; simp
    have e0 : rnd (fun x => o.getD x 0) ((cl g.length []).map fun y => (i, y)) out = out := rfl
    rw [e0]
    refine ⟨?_, Lp.exit ⟨0, fun N _ => ?_⟩ (by simp), ?_⟩
    rotate_left
    · simp -implicitDefEqProofs [b24_2, hqn, hqo, hlen]
      rfl
    · exact ⟨by simp, by simp, by simp, by simp, by simp, by simp, by simp, by simp, by simp, by simp⟩
  | y :: r, j, out, ht, hmem, hl, hb => by
    obtain ⟨a1, a2, a3, a4, a5⟩ := ht.cons
    simp only [encIs_length] at a2 a3
    have hw := wrap_succ (n := j) (by have := ht.len; simp at this; unfold big; omega)
    have hrow : rowI q = .sl 1 (encIs q.2) := a5 1 q.1
    have hmr : ∀ z ∈ r, z ∈ q.2 := fun z hz => hmem z (by simp [hz])
    by_cases h0 : 0 ≤ y
    rotate_left
    · have ih := lp24_2 g ng hg K hK D lev hlev hlt o ho hoK X3 X8 X10 i hi q hql hd r (j + 1) out a4 hmr hl hb
      have e : cl g.length (y :: r) = cl g.length r := by rw [cl, if_neg (by omega)]
      rw [hrow] at ih ⊢
      rw [e]
      obtain ⟨fr', l1, l2⟩ := ih
      refine ⟨fr', Lp.step ⟨0, fun N hN => ?_⟩ l1, l2⟩
      clear l1 l2
      simp -implicitDefEqProofs [b24_2, a1, a2, a3, hw, h0]
    by_cases h1 : y < (g.length : Int)
    rotate_left
    · have ih := lp24_2 g ng hg K hK D lev hlev hlt o ho hoK X3 X8 X10 i hi q hql hd r (j + 1) out a4 hmr hl hb
      have e : cl g.length (y :: r) = cl g.length r := by rw [cl, if_neg (by omega)]
      rw [hrow] at ih ⊢
      rw [e]
      obtain ⟨fr', l1, l2⟩ := ih
      refine ⟨fr', Lp.step ⟨0, fun N hN => ?_⟩ l1, l2⟩
      clear l1 l2
      simp -implicitDefEqProofs [b24_2, a1, a2, a3, hw, h0, h1]
    obtain ⟨Y, rfl⟩ : ∃ Y : Nat, y = (Y : Int) := ⟨y.toNat, by omega⟩
    have hY : Y < g.length := by omega
    have hYc : Y ∈ cl g.length q.2 := cl_mem.2 ⟨hY, hmem _ (by simp)⟩
    have e : cl g.length ((Y : Int) :: r) = Y :: cl g.length r := by rw [cl, if_pos ⟨h0, h1⟩]; simp
    rw [e, List.map_cons, rnd]
    obtain ⟨B, hB⟩ : ∃ B, B = o.getD Y 0 := ⟨_, rfl⟩
    have hBK : B < K := by rw [hB]; exact hoK Y hY
    have hoy : (encNs o)[Y]? = some (.int .i64 (B : Int)) := by rw [hB]; exact encNs_get (by omega)
    have hol : (encNs o).length = g.length := by simpa using ho
    have hoO : (encNs out).length = K := by simpa using hl
    have hiy := idx_at hY
    have hib := idx_at hBK
    have hii := idx_at hi
    have hnb := rnd1_le hlev (fun x => o.getD x 0) hl hi (hd Y hYc) hb
    have ih := lp24_2 g ng hg K hK D lev hlev hlt o ho hoK X3 X8 X10 i hi q hql hd r (j + 1) (relax (fun x => o.getD x 0) out i Y) a4 hmr (by rw [relax_len]; exact hl) hnb
    rw [hrow] at ih ⊢
    obtain ⟨fr', l1, l2⟩ := ih
    refine ⟨fr', Lp.step ⟨0, fun N hN => ?_⟩ l1, l2⟩
    clear l1 l2
    unfold relax
    simp only [← hB]
    by_cases hBi : B = i
    · rw [if_neg (by rw [hBi]; simp)]
      have hbn : ((B : Int) != (i : Int)) = false := by rw [hBi]; simp
      simp -implicitDefEqProofs [b24_2, a1, a2, a3, hw, h0, h1, ↓hoy, hol, hiy, hbn, -bne_iff_ne]
    · rw [if_pos hBi]
      have hbn : ((B : Int) != (i : Int)) = true := by rw [bne_iff_ne]; omega
      obtain ⟨V, hV⟩ : ∃ V, V = out.getD B 0 := ⟨_, rfl⟩
      obtain ⟨U, hU⟩ : ∃ U, U = out.getD i 0 := ⟨_, rfl⟩
      have hVb : V < 2 ^ 31 := by have := hb B; have := hlt B; omega
      obtain ⟨W, hW⟩ : ∃ W, W = V + 1 := ⟨_, rfl⟩
      have hwV : IntKind.i64.wrap ((V : Int) + 1) = (W : Int) := by rw [wrap_i64 (by omega)]; omega
      have hgB : (encNs out)[B]? = some (.int .i64 (V : Int)) := by rw [hV]; exact encNs_get (by omega)
      have hgi : (encNs out)[i]? = some (.int .i64 (U : Int)) := by rw [hU]; exact encNs_get (by omega)
      rw [← hV, ← hU, ← hW]
      by_cases hgt : U < W
      · have e : max U W = W := Nat.max_eq_right (by omega)
        have hset := encNs_set out i W
        rw [e]
        simp -implicitDefEqProofs [b24_2, d24_2, a1, a2, a3, hw, h0, h1, ↓hoy, hol, hoO, hiy, hib, hii, hbn, ↓hgB, ↓hgi, hwV, hgt, hset, -bne_iff_ne]
      · have e : max U W = U := Nat.max_eq_left (by omega)
        have hset := encNs_set out i U
        rw [e]
        simp -implicitDefEqProofs [b24_2, d24_2, a1, a2, a3, hw, h0, h1, ↓hoy, hol, hoO, hiy, hib, hii, hbn, ↓hgB, ↓hgi, hwV, hgt, hset, -bne_iff_ne]
end Go.Am.Try
namespace Go.Am.Try
open Go Go.Am.Sc
structure RC (g : List (Bool × List Int)) (G : List (List Nat)) (D : Nat → Nat → Prop) (lev : Nat → Nat) (o : List Nat) : Prop where
  hg : g.length ≤ 2 ^ 30
  hr : ∀ q ∈ g, q.2.length ≤ 2 ^ 30
  hK : G.length ≤ 2 ^ 30
  hL : ∀ l ∈ G, l.length ≤ 2 ^ 30 ∧ ∀ x ∈ l, x < g.length
  hlev : Lev G.length D lev
  hlt : ∀ a, lev a < 2 ^ 31
  ho : o.length = g.length
  hoK : ∀ x, x < g.length → o.getD x 0 < G.length
  hD : ∀ p ∈ rps (outG g) G 0, p.1 < G.length ∧ (o.getD p.2 0 ≠ p.1 → D p.1 (o.getD p.2 0))
theorem RC.grp {g : List (Bool × List Int)} {G : List (List Nat)} {D : Nat → Nat → Prop} {lev : Nat → Nat} {o : List Nat} (h : RC g G D lev o) {i : Nat} {l : List Nat} (hi : G[i]? = some l) {x y : Nat} (hx : x ∈ l) (hy : y ∈ outs (outG g) x) : o.getD y 0 ≠ i → D i (o.getD y 0) :=
  (h.hD (i, y) ((rps_mem G 0).2 ⟨i, l, x, hi, by omega, hx, hy⟩)).2
set_option maxHeartbeats 2000000 in
theorem lp24_3 (g : List (Bool × List Int)) (ng : Bool) (G : List (List Nat)) (D : Nat → Nat → Prop) (lev : Nat → Nat) (o : List Nat) (C : RC g G D lev o) (X8 : AV) (i : Nat) (l : List Nat) (hi : G[i]? = some l) : ∀ (r : List Nat) (k : Nat) (out : List Nat), Tail (encNs l) k (encNs r) → (∀ x ∈ r, x ∈ l) → out.length = G.length → (∀ a, out.getD a 0 ≤ lev a) →
    ∃ fr', Lp ctx [17, 45] [] [0, 3, 4, 7, 8, 9, 10] b24_3 ⟨[(0, .v (encR 1 ng (encG g))), (3, .v (.sl 1 (encU G))), (4, .v (.hs 0 g.length 0 g.length 1)), (7, .v (.hs 1 G.length 0 G.length 1)), (8, .v X8), (9, .v (.int .i64 i)), (10, .v (.int .i64 k))], false⟩ [.arr false 1 (encNs o), .arr false 1 (encNs out)]
      (.ex 8) fr' [.arr false 1 (encNs o), .arr false 1 (encNs (rnd (fun x => o.getD x 0) (r.flatMap fun x => (outs (outG g) x).map fun y => (i, y)) out))] ∧
      fr'.lk = false ∧ getS fr'.sl 0 = .v (encR 1 ng (encG g)) ∧ getS fr'.sl 3 = .v (.sl 1 (encU G)) ∧ getS fr'.sl 4 = .v (.hs 0 g.length 0 g.length 1) ∧ getS fr'.sl 7 = .v (.hs 1 G.length 0 G.length 1) ∧ getS fr'.sl 8 = .v X8 ∧ getS fr'.sl 9 = .v (.int .i64 i) ∧ getS fr'.sl 56 = .u ∧ getS fr'.sl 57 = .u
  | [], k, out, ht, hm, hl, hb => by
    have hlen := ht.nil
    simp only [encNs_length] at hlen
    have hgi := encU_at hi
    have hix := idx_at (List.getElem?_eq_some_iff.1 hi).1
    have hkl : ¬ (k : Int) < (l.length : Int) := by omega
    have e0 : rnd (fun x => o.getD x 0) (([] : List Nat).flatMap fun x => (outs (outG g) x).map fun y => (i, y)) out = out := rfl
    rw [e0]
    refine ⟨?_, Lp.exit ⟨0, fun N _ => ?_⟩ (by simp), ?_⟩
    rotate_left
    · simp -implicitDefEqProofs [b24_3, hgi, hix, hkl]
      rfl
    · simp
  | x :: r, k, out, ht, hm, hl, hb => by
    have hlk := tail_get ht
    rw [encNs_cons] at ht
    obtain ⟨a1, a2, a3, a4, a5⟩ := ht.cons
    simp only [encNs_length] at a2 a3
    have hkn : k < l.length := (List.getElem?_eq_some_iff.1 hlk).1
    have hil := (List.getElem?_eq_some_iff.1 hi).1
    have hll := C.hL l (List.mem_of_getElem? hi)
    have hw := wrap_succ (n := k) (by have := hll.1; unfold big; omega)
    have hxm : x ∈ l := hm x (by simp)
    have hxg : x < g.length := hll.2 x hxm
    have hgi := encU_at hi
    have hrow : encR 1 true (encNs l) = .sl 1 (encNs l) := a5 1 true
    rw [hrow] at hgi
    have hix := idx_at hil
    obtain ⟨q, hq⟩ : ∃ q, g[x]? = some q := ⟨_, List.getElem?_eq_getElem hxg⟩
    have hqm := List.mem_of_getElem? hq
    have hgx : (encG g)[x]? = some (rowI q) := by unfold encG; rw [List.getElem?_map, hq]; rfl
    have hixx := idx_at hxg
    have hne : encG g ≠ [] := fun e => by
      have := congrArg List.length e
      simp at this
      rw [this] at hxg; simp at hxg
    have hoq := outs_at hq
    obtain ⟨fr1, b1, b2, b3, b4, b5, b6, b7, b8, b9, b10, b11⟩ := lp24_2 g ng C.hg G.length C.hK D lev C.hlev C.hlt o C.ho C.hoK (.sl 1 (encU G)) X8 (.int .i64 k) i hil q (C.hr q hqm) (fun y hy => C.grp hi hxm (by rw [hoq]; exact hy)) q.2 0 out (Tail.all _) (fun _ h => h) hl hb
    obtain ⟨k1, hk1⟩ := b1.den
    have hout1 : rnd (fun x => o.getD x 0) ((x :: r).flatMap fun x => (outs (outG g) x).map fun y => (i, y)) out = rnd (fun x => o.getD x 0) (r.flatMap fun x => (outs (outG g) x).map fun y => (i, y)) (rnd (fun x => o.getD x 0) ((cl g.length q.2).map fun y => (i, y)) out) := by
      rw [List.flatMap_cons, rnd_app, hoq]
    rw [hout1]
    obtain ⟨fr', l1, l2⟩ := lp24_3 g ng G D lev o C X8 i l hi r (k + 1) (rnd (fun x => o.getD x 0) ((cl g.length q.2).map fun y => (i, y)) out) a4 (fun z hz => hm z (by simp [hz])) (by rw [rnd_len]; exact hl) (rnd_le C.hlev _ _ out hl (fun p hp => by
      obtain ⟨y, hy, rfl⟩ := List.mem_map.1 hp
      exact ⟨hil, C.grp hi hxm (by rw [hoq]; exact hy)⟩) hb)
    rw [encR_ne hne] at l1 l2 hk1 b3 ⊢
    refine ⟨fr', Lp.step ⟨k1, fun N hN => ?_⟩ l1, l2⟩
    have hk1 := hk1 N hN
    simp only [Int.cast_ofNat_Int] at hk1
    clear l1 l2 b1
    simp -implicitDefEqProofs [b24_3, ↓hgi, hix, hkn, ↓a1, a3, hw, ↓hgx, hixx, hk1, b2, b3, b4, b5, b6, b7, b8, b9, b10, b11]
set_option maxHeartbeats 2000000 in
theorem lp24_4 (g : List (Bool × List Int)) (ng : Bool) (G : List (List Nat)) (D : Nat → Nat → Prop) (lev : Nat → Nat) (o : List Nat) (C : RC g G D lev o) (X8 : AV) : ∀ (r : List (List Nat)) (i : Nat) (out : List Nat), (∃ p : List (List Nat), p.length = i ∧ G = p ++ r) → out.length = G.length → (∀ a, out.getD a 0 ≤ lev a) →
    ∃ fr', Lp ctx [17, 45] [] [0, 3, 4, 7, 8, 9] b24_4 ⟨[(0, .v (encR 1 ng (encG g))), (3, .v (.sl 1 (encU G))), (4, .v (.hs 0 g.length 0 g.length 1)), (7, .v (.hs 1 G.length 0 G.length 1)), (8, .v X8), (9, .v (.int .i64 i))], false⟩ [.arr false 1 (encNs o), .arr false 1 (encNs out)]
      (.ex 6) fr' [.arr false 1 (encNs o), .arr false 1 (encNs (rnd (fun x => o.getD x 0) (rps (outG g) r i) out))] ∧
      fr'.lk = false ∧ getS fr'.sl 0 = .v (encR 1 ng (encG g)) ∧ getS fr'.sl 3 = .v (.sl 1 (encU G)) ∧ getS fr'.sl 4 = .v (.hs 0 g.length 0 g.length 1) ∧ getS fr'.sl 7 = .v (.hs 1 G.length 0 G.length 1) ∧ getS fr'.sl 8 = .v X8 ∧ getS fr'.sl 50 = .u ∧ getS fr'.sl 51 = .u
  | [], i, out, hp, hl, hb => by
    obtain ⟨p, h1, h2⟩ := hp
    have hi : i = G.length := by rw [h2]; simp [h1]
    have hlt : ¬ (i : Int) < (G.length : Int) := by omega
    have e0 : rnd (fun x => o.getD x 0) (rps (outG g) [] i) out = out := rfl
    rw [e0]
    refine ⟨?_, Lp.exit ⟨0, fun N _ => ?_⟩ (by simp), ?_⟩
    rotate_left
    · simp -implicitDefEqProofs [b24_4, hlt]
      rfl
    · simp
  | l :: r, i, out, hp, hl, hb => by
    obtain ⟨p, h1, h2⟩ := hp
    have hi : G[i]? = some l := by rw [h2, List.getElem?_append_right (by omega)]; simp [h1]
    have hil := (List.getElem?_eq_some_iff.1 hi).1
    have hw := wrap_succ (n := i) (by have := C.hK; unfold big; omega)
    obtain ⟨fr1, b1, b2, b3, b4, b5, b6, b7, b8, b9, b10⟩ := lp24_3 g ng G D lev o C X8 i l hi l 0 out (Tail.all _) (fun _ h => h) hl hb
    obtain ⟨k1, hk1⟩ := b1.den
    rw [rps, rnd_app]
    obtain ⟨fr', l1, l2⟩ := lp24_4 g ng G D lev o C X8 r (i + 1) (rnd (fun x => o.getD x 0) (l.flatMap fun x => (outs (outG g) x).map fun y => (i, y)) out) ⟨p ++ [l], by simp [h1], by rw [h2]; simp⟩ (by rw [rnd_len]; exact hl) (rnd_le C.hlev _ _ out hl (fun p hp => by
      obtain ⟨x, hx, hp⟩ := List.mem_flatMap.1 hp
      obtain ⟨y, hy, rfl⟩ := List.mem_map.1 hp
      exact ⟨hil, C.grp hi hx hy⟩) hb)
    refine ⟨fr', Lp.step ⟨k1, fun N hN => ?_⟩ l1, l2⟩
    have hk1 := hk1 N hN
    simp only [Int.cast_ofNat_Int] at hk1
    clear l1 l2 b1
    simp -implicitDefEqProofs [b24_4, hil, hw, hk1, b2, b3, b4, b5, b6, b7, b8, b9, b10]
set_option maxHeartbeats 2000000 in
theorem lp24_5 (g : List (Bool × List Int)) (ng : Bool) (G : List (List Nat)) (D : Nat → Nat → Prop) (lev : Nat → Nat) (o : List Nat) (C : RC g G D lev o) : ∀ (f j : Nat) (out : List Nat), j + f = G.length → out.length = G.length → (∀ a, out.getD a 0 ≤ lev a) →
    ∃ fr', Lp ctx [17, 45] [] [0, 3, 4, 7, 8] b24_5 ⟨[(0, .v (encR 1 ng (encG g))), (3, .v (.sl 1 (encU G))), (4, .v (.hs 0 g.length 0 g.length 1)), (7, .v (.hs 1 G.length 0 G.length 1)), (8, .v (.int .i64 j))], false⟩ [.arr false 1 (encNs o), .arr false 1 (encNs out)]
      (.ex 4) fr' [.arr false 1 (encNs o), .arr false 1 (encNs (rnds (fun x => o.getD x 0) (rps (outG g) G 0) f out))] ∧
      fr'.lk = false ∧ getS fr'.sl 7 = .v (.hs 1 G.length 0 G.length 1) ∧ getS fr'.sl 2 = .u ∧ getS fr'.sl 127 = .u
  | 0, j, out, hj, hl, hb => by
    have hlt : ¬ (j : Int) < (G.length : Int) := by omega
    have hlt2 : ¬ j < G.length := by omega
    refine ⟨?_, Lp.exit ⟨0, fun N _ => ?_⟩ (by simp), ?_⟩
    rotate_left
    · simp -implicitDefEqProofs [b24_5, hlt, hlt2, rnds]
      rfl
    · simp
  | f + 1, j, out, hj, hl, hb => by
    have hjl : j < G.length := by omega
    have hw := wrap_succ (n := j) (by have := C.hK; unfold big; omega)
    obtain ⟨fr1, b1, b2, b3, b4, b5, b6, b7, b8, b9⟩ := lp24_4 g ng G D lev o C (.int .i64 j) G 0 out ⟨[], rfl, rfl⟩ hl hb
    obtain ⟨k1, hk1⟩ := b1.den
    rw [rnds]
    obtain ⟨fr', l1, l2⟩ := lp24_5 g ng G D lev o C f (j + 1) (rnd (fun x => o.getD x 0) (rps (outG g) G 0) out) (by omega) (by rw [rnd_len]; exact hl) (rnd_le C.hlev _ _ out hl C.hD hb)
    refine ⟨fr', Lp.step ⟨k1, fun N hN => ?_⟩ l1, l2⟩
    have hk1 := hk1 N hN
    simp only [Int.cast_ofNat_Int] at hk1
    clear l1 l2 b1
    simp -implicitDefEqProofs [b24_5, hjl, hw, hk1, b2, b3, b4, b5, b6, b7, b8, b9]
theorem lp24_5z (X0 X4 : AV) (σ : H) (q : Nat) :
    ∃ fr', Lp ctx [17, 45] [] [0, 3, 4, 7, 8] b24_5 ⟨[(0, .v X0), (3, .v .nil), (4, .v X4), (7, .v (.hs q 0 0 0 1)), (8, .v (.int .i64 0))], false⟩ σ (.ex 4) fr' σ ∧ fr'.lk = false ∧ getS fr'.sl 7 = .v (.hs q 0 0 0 1) ∧ getS fr'.sl 2 = .u ∧ getS fr'.sl 127 = .u := by
  refine ⟨?_, Lp.exit ⟨0, fun N _ => ?_⟩ (by simp), ?_⟩
  rotate_left
  · simp -implicitDefEqProofs [b24_5]
    rfl
  · simp
set_option maxHeartbeats 4000000 in
theorem rlevels_ans (g : List (Bool × List Int)) (ng : Bool) (hg : g.length ≤ 2 ^ 30) (hr : ∀ q ∈ g, q.2.length ≤ 2 ^ 30) {G : List (List Nat)} (hG : Grp g.length (Rch (Ed (outG g))) G) (hrise : G.Pairwise fun l m => hd l < hd m) : Ans ctx 24 [encR 1 ng (encG g)] (.sl 1 (encNs (lvL g.length (Ed (outG g)) G))) := by
  obtain ⟨G', g1, g2, kg, hgs⟩ := groups_ans g ng hg (fun q hq => by have := hr q hq; unfold big; omega)
  have eG : G' = G := Grp.only g1 hG g2 hrise
  subst eG
  have hGl := Grp.len_le g1 g2
  have hok : ∀ a b, Ed (outG g) a b → b < g.length := fun a b h => by rw [← outG_len]; exact ed_ok g a b h
  obtain ⟨fr1, o, a1, a2, a3, a4, a5, a6, a7, a8, a9, a10, a11⟩ := lp24_1 (encR 1 ng (encG g)) g.length hg G' _ g1 g2 G'.length 0 (List.replicate g.length 0) (by omega) (by simp) (fun x j m hj => by omega)
  obtain ⟨k1, hk1⟩ := a1.den
  have hO : IsOf G' fun x => o.getD x 0 := fun x i l hi hx => a3 x i l hi hx
  have hlt := lvO_lt g1 hO
  have hC : RC g G' (Dn g.length (Ed (outG g)) fun x => o.getD x 0) (lvO g.length (Ed (outG g)) G') o := ⟨hg, hr, by omega, fun l hl => ⟨by have := hGl.2 l hl; omega, g1.lt l hl⟩, lvO_lev g1 hO, fun a => by rcases hlt a with h | h <;> omega, a2, fun x hx => hO.lt g1 hx, fun p hp => by
    obtain ⟨a, y⟩ := p
    obtain ⟨j, l, x, e1, e2, e3, e4⟩ := (rps_mem G' 0).1 hp
    have ej : a = j := by omega
    subst ej
    have hx := g1.lt l (List.mem_of_getElem? e1) x e3
    exact ⟨(List.getElem?_eq_some_iff.1 e1).1, fun hne => ⟨fun e => hne e.symm, x, y, hx, hok x y e4, e4, hO x a l e1 e3, rfl⟩⟩⟩
  have rep0 : ∀ (k x : Nat), (List.replicate k 0).getD x 0 = 0 := fun k x => by
    rw [List.getD_eq_getElem?_getD, List.getElem?_replicate]; split <;> rfl
  have e0 : ∀ n, encNs (List.replicate n 0) = List.replicate n (.int .i64 0) := fun n => by simp [encNs]
  have hfin := ref_lv hok g1 hO
  have hbg : g.length * 8 ≤ 35184372088832 ∧ g.length ≤ 35184372088832 := by omega
  have hf1 := fitAll_replicate ⟨.int .i64, 1, 8, .int .i64 0, [.int .i64]⟩ (.int .i64 0) rfl g.length
  have hf2 := fitAll_replicate ⟨.int .i64, 1, 8, .int .i64 0, [.int .i64]⟩ (.int .i64 0) rfl G'.length
  have j43 := a8 43 (by omega)
  have j44 := a8 44 (by omega)
  have j45 := a8 45 (by omega)
  by_cases hz : G'.length = 0
  · have hzG : G' = [] := List.length_eq_zero_iff.1 hz
    subst hzG
    obtain ⟨fr', l1, l2, l3, l4, l5⟩ := lp24_5z (encR 1 ng (encG g)) (.hs 0 g.length 0 g.length 1) [.arr false 1 (encNs o), .arr false 1 []] 1
    obtain ⟨k2, hk2⟩ := l1.den
    have eL : lvL g.length (Ed (outG g)) [] = [] := rfl
    have hsn : snapA [.arr false 1 (encNs o), .arr false 1 []] 200 (.hs 1 0 0 0 1) = some (.sl 1 (encNs []), [1]) :=
      snapA_hs (m := 0) (xs := []) (v := 0) rfl rfl (Nat.le_refl _) rfl
    rw [eL]
    refine Ans.fn (rs := []) (σ' := [.arr false 1 (encNs o), .arr false 1 []]) fn24_ (by simp [AV.noRefs]) ⟨kg + k1 + k2, fun N hN => ?_⟩ hsn
    have hgs := hgs N (by omega)
    have hk1 := hk1 N (by omega)
    have hk2 := hk2 N (by omega)
    have eU : encR 1 true (encU []) = .nil := rfl
    rw [eU] at hgs hk1 a6
    rw [e0] at hk1
    simp only [Int.cast_ofNat_Int] at hk1 hk2
    clear a1 l1 hC hsn
    simp -implicitDefEqProofs [i24, c24, hgs, hk1, hk2, hbg, hf1, a4, a5, a6, a7, a9, a10, a11, j43, j44, j45, l2, l3, l4, l5, fitAll]
  · obtain ⟨fr', l1, l2, l3, l4, l5⟩ := lp24_5 g ng G' _ _ o hC G'.length 0 (List.replicate G'.length 0) (by omega) (by simp) (fun a => by rw [rep0]; omega)
    rw [hfin] at l1
    obtain ⟨k2, hk2⟩ := l1.den
    have hUne : encU G' ≠ [] := fun e => by
      have := congrArg List.length e
      simp at this
      rw [this] at hz; simp at hz
    obtain ⟨K, hK⟩ : ∃ K, K = G'.length := ⟨_, rfl⟩
    have hLl := lvL_len g.length (Ed (outG g)) G'
    obtain ⟨LV, hLV⟩ : ∃ LV, LV = lvL g.length (Ed (outG g)) G' := ⟨_, rfl⟩
    rw [← hLV] at hk2 hLl ⊢
    have hUl : (encU G').length = K := by rw [encU_length, hK]
    rw [← hK] at hLl l3 hk2 hf2
    have hsn : snapA [.arr false 1 (encNs o), .arr false 1 (encNs LV)] 200 (.hs 1 K 0 K 1) = some (.sl 1 (encNs LV), [1]) := by
      have ht : (encNs LV).take K = encNs LV := List.take_of_length_le (by simp [hLl])
      rw [snapA_hs (m := K) (xs := encNs LV) (v := K) rfl (by simpa using hLl) (Nat.le_refl _) (by rw [ht]; simp), ht]
    rw [encR_ne hUne] at hgs hk1 a6
    refine Ans.fn (rs := []) (σ' := [.arr false 1 (encNs o), .arr false 1 (encNs LV)]) fn24_ (by simp [AV.noRefs]) ⟨kg + k1 + k2, fun N hN => ?_⟩ hsn
    have hgs := hgs N (by omega)
    have hk1 := hk1 N (by omega)
    have hk2 := hk2 N (by omega)
    rw [e0] at hk1 hk2
    simp only [Int.cast_ofNat_Int] at hk1 hk2
    have hbg2 : K * 8 ≤ 35184372088832 ∧ K ≤ 35184372088832 := by omega
    clear a1 l1 hC hsn hfin
    simp -implicitDefEqProofs [i24, c24, hgs, hk1, hk2, hbg, hbg2, hf1, hf2, hUl, a4, a5, a6, a7, a9, a10, a11, j43, j44, j45, l2, l3, l4, l5]
end Go.Am.Try
