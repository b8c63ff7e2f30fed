/- Graphs by numbers. -/
import Derived.Test.YtflhndopabnipaaS13
set_option linter.unusedVariables false
set_option linter.unusedSimpArgs false
set_option maxRecDepth 100000
namespace Go.Am.Try
open Go Go.Am.Sc
structure Tb (σ : H) (p : Nat) (cells : List AV) (L : List (List Nat)) : Prop where
  len : cells.length = L.length
  tab : σ[p]? = some (.arr false 1 cells)
  at' : ∀ (i : Nat) l, L[i]? = some l → ∃ q, cells[i]? = some (rowV q l.length 1) ∧ RowAt σ q 1 (encNs l) ∧ (l ≠ [] → q ≠ p ∧ q < σ.length)
  dis : ∀ (i j : Nat) l m q, i ≠ j → L[i]? = some l → L[j]? = some m → l ≠ [] → m ≠ [] → cells[i]? = some (rowV q l.length 1) → cells[j]? ≠ some (rowV q m.length 1)
def Tb.Owns (p : Nat) (cells : List AV) (L : List (List Nat)) (j : Nat) : Prop := j = p ∨ ∃ (i : Nat) (l : List Nat), L[i]? = some l ∧ l ≠ [] ∧ cells[i]? = some (rowV j l.length 1)
theorem Tb.keep {σ σ' : H} {p : Nat} {cells : List AV} {L : List (List Nat)} (h : Tb σ p cells L) (hk : ∀ j, j < σ.length → Tb.Owns p cells L j → σ'[j]? = σ[j]?) (hl : σ.length ≤ σ'.length) : Tb σ' p cells L := by
  have hp := (List.getElem?_eq_some_iff.1 h.tab).1
  refine ⟨h.len, by rw [hk p hp (.inl rfl)]; exact h.tab, fun i l hi => ?_, h.dis⟩
  obtain ⟨q, c1, c2, c3⟩ := h.at' i l hi
  refine ⟨q, c1, fun hx => ?_, fun hne => ⟨(c3 hne).1, by have := (c3 hne).2; omega⟩⟩
  have hne : l ≠ [] := fun e => hx (by rw [e]; rfl)
  rw [hk q (c3 hne).2 (.inr ⟨i, l, hi, hne, c1⟩)]
  exact c2 hx
theorem rowV_inj2 {q q' : Nat} {l : List Nat} (hl : l ≠ []) (h : rowV q l.length 1 = rowV q' l.length 1) : q = q' := by
  obtain ⟨m, hm⟩ : ∃ m, l.length = m + 1 := ⟨l.length - 1, by have := List.length_pos_iff.2 hl; omega⟩
  rw [hm] at h
  exact rowV_inj h
theorem rowV_len {q q' n m : Nat} (h : rowV q n 1 = rowV q' m 1) : n = m := by
  cases n <;> cases m <;> simp [rowV] at h ⊢
  omega
theorem Tb.push {σ : H} {p : Nat} {cells : List AV} {L : List (List Nat)} (h : Tb σ p cells L) {a : Nat} {la : List Nat} (ha : L[a]? = some la) (y : Nat) (hb : la.length ≤ 2 ^ 30) :
    ∃ q q' σ1 c', cells[a]? = some (rowV q la.length 1) ∧ appendH tiI (rowV q la.length 1) [.int .i64 (y : Int)] σ = some (c', σ1) ∧ c' = rowV q' (la.length + 1) 1 ∧ σ1[p]? = some (.arr false 1 cells) ∧ Tb (σ1.set p (.arr false 1 (cells.set a c'))) p (cells.set a c') (L.set a (la ++ [y])) ∧
      (∀ j, j < σ.length → ¬ Tb.Owns p cells L j → σ1[j]? = σ[j]? ∧ ¬ Tb.Owns p (cells.set a c') (L.set a (la ++ [y])) j) ∧ σ.length ≤ σ1.length := by
  have hp := (List.getElem?_eq_some_iff.1 h.tab).1
  have hal := (List.getElem?_eq_some_iff.1 ha).1
  have hcl := h.len
  obtain ⟨q, c1, c2, c3⟩ := h.at' a la ha
  have hle : (encNs la).length = la.length := by simp
  obtain ⟨q', σ1, p1, p2, p3, p4, p5⟩ := app_raw2 tiI (y := .int .i64 (y : Int)) (xs := encNs la) c2 (by simp [tiI]) (by simp [tiI]; omega) (by simp; omega)
  rw [hle] at p1
  have hE : encNs la ++ [.int .i64 (y : Int)] = encNs (la ++ [y]) := by rw [encNs_app]; rfl
  rw [hE] at p2
  have hnn : ∀ {P : Prop}, (la ≠ [] → P) → encNs la ≠ [] → P := fun k hx => k fun e => hx (by rw [e]; rfl)
  have keep : ∀ j, j < σ.length → (la ≠ [] → j ≠ q) → σ1[j]? = σ[j]? ∧ j ≠ q' := fun j hj hn => by
    have := List.getElem?_eq_getElem hj
    rw [this]
    exact ⟨p4 j _ this (hnn hn), p5 j hj (hnn hn)⟩
  obtain ⟨kp1, kp2⟩ := keep p hp (fun hne e => (c3 hne).1 e.symm)
  have hq' : q' < σ1.length := (List.getElem?_eq_some_iff.1 p2).1
  refine ⟨q, q', σ1, rowV q' (la.length + 1) 1, c1, p1, rfl, by rw [kp1]; exact h.tab, ⟨by simp [hcl], by rw [List.getElem?_set_self (by omega)], fun i l hi => ?_, fun i j l m r hij hi hj hl hm e1 e2 => ?_⟩, fun j hj hn => ?_, p3⟩
  · by_cases hia : a = i
    · subst hia
      rw [List.getElem?_set_self hal] at hi
      simp at hi
      subst hi
      refine ⟨q', by rw [List.getElem?_set_self (by omega)]; simp, fun _ => ?_, fun _ => ⟨fun e => kp2 e.symm, by simpa using hq'⟩⟩
      rw [List.getElem?_set_ne kp2]; exact p2
    · rw [List.getElem?_set_ne hia] at hi
      obtain ⟨r, d1, d2, d3⟩ := h.at' i l hi
      refine ⟨r, by rw [List.getElem?_set_ne hia]; exact d1, fun hx => ?_, fun hne => ⟨(d3 hne).1, by have := (d3 hne).2; simp; omega⟩⟩
      have hne : l ≠ [] := fun e => hx (by rw [e]; rfl)
      obtain ⟨f1, f2⟩ := d3 hne
      rw [List.getElem?_set_ne (Ne.symm f1), (keep r f2 (fun hla e => h.dis a i la l q hia ha hi hla hne c1 (by rw [← e]; exact d1))).1]
      exact d2 hx
  · by_cases hia : a = i
    · subst hia
      rw [List.getElem?_set_self hal] at hi
      simp at hi
      subst hi
      rw [List.getElem?_set_self (by omega)] at e1
      rw [List.getElem?_set_ne hij] at hj e2
      have e1 : rowV q' (la.length + 1) 1 = rowV r (la.length + 1) 1 := by simpa using e1
      have e1 := rowV_inj e1
      obtain ⟨r', d1, d2, d3⟩ := h.at' j m hj
      rw [d1] at e2
      have e2 := rowV_inj2 hm (Option.some.inj e2)
      have := (keep r' (d3 hm).2 (fun hla e => h.dis a j la m q hij ha hj hla hm c1 (by rw [← e]; exact d1))).2
      omega
    · rw [List.getElem?_set_ne hia] at hi e1
      by_cases hja : a = j
      · subst hja
        rw [List.getElem?_set_self hal] at hj
        simp at hj
        subst hj
        rw [List.getElem?_set_self (by omega)] at e2
        have e2 : rowV q' (la.length + 1) 1 = rowV r (la.length + 1) 1 := by simpa using e2
        have e2 := rowV_inj e2
        obtain ⟨r', d1, d2, d3⟩ := h.at' i l hi
        rw [d1] at e1
        have e1 := rowV_inj2 hl (Option.some.inj e1)
        have := (keep r' (d3 hl).2 (fun hla e => h.dis a i la l q hia ha hi hla hl c1 (by rw [← e]; exact d1))).2
        omega
      · rw [List.getElem?_set_ne hja] at hj e2
        exact h.dis i j l m r hij hi hj hl hm e1 e2
  · have hjq : la ≠ [] → j ≠ q := fun hla e => hn (.inr ⟨a, la, ha, hla, by rw [e]; exact c1⟩)
    obtain ⟨f1, f2⟩ := keep j hj hjq
    refine ⟨f1, fun ho => ?_⟩
    rcases ho with e | ⟨i, l, hi, hl, e⟩
    · exact hn (.inl e)
    · by_cases hia : a = i
      · subst hia
        rw [List.getElem?_set_self hal] at hi
        simp at hi
        subst hi
        rw [List.getElem?_set_self (by omega)] at e
        have e : rowV q' (la.length + 1) 1 = rowV j (la.length + 1) 1 := by simpa using e
        exact f2 (rowV_inj e).symm
      · rw [List.getElem?_set_ne hia] at hi e
        exact hn (.inr ⟨i, l, hi, hl, e⟩)
theorem Tb.make (σ : H) (k : Nat) : Tb (σ ++ [.arr false 1 (List.replicate k .nil)]) σ.length (List.replicate k .nil) (List.replicate k []) := by
  refine ⟨by simp, by simp, fun i l hi => ?_, fun i j l m q hij hi hj hl => ?_⟩
  · rw [List.getElem?_replicate] at hi
    split at hi
    · rename_i h
      simp at hi
      subst hi
      exact ⟨0, by rw [List.getElem?_replicate, if_pos h]; rfl, fun hx => absurd rfl hx, fun hx => absurd rfl hx⟩
    · cases hi
  · rw [List.getElem?_replicate] at hi
    split at hi
    · simp at hi
      exact absurd hi hl
    · cases hi
theorem Tb.snap {σ : H} {p n : Nat} {cells : List AV} {L : List (List Nat)} (h : Tb σ p cells L) (hn : L.length = n) (m : Nat) : ∃ ns, snapA σ (m + 2) (.hs p n 0 n 1) = some (.sl 1 (encU L), ns) :=
  snap_table m h.tab (by rw [h.len, hn]) h.len (fun i l hi => by
    obtain ⟨q, c1, c2, _⟩ := h.at' i l hi
    exact ⟨q, c1, c2⟩)
def OkT (k b : Nat) (L : List (List Nat)) : Prop := L.length = k ∧ ∀ l ∈ L, l.length ≤ b ∧ ∀ y ∈ l, y < k
theorem tmod_nat (x k : Nat) : Int.tmod (x : Int) (k : Int) = ((x % k : Nat) : Int) := (Int.ofNat_tmod x k).symm
theorem lp13_out (bs : List UInt8) (nb : Bool) (k i : Nat) (σ : H) (hi : i ≤ 80) (h : ¬ ((i : Int) + 1 < ((ofBytes bs).length : Int) ∧ i < 80 ∧ 0 < k)) :
    ∃ fr', Lp ctx [12, 55] [] [0, 5, 6, 7] b13_0 ⟨[(0, .v (encR 1 nb (ofBytes bs))), (5, .v (.int .i64 k)), (6, .v (.hs 0 k 0 k 1)), (7, .v (.int .i64 i))], false⟩ σ (.ex 0) fr' σ ∧ fr'.lk = false ∧ getS fr'.sl 6 = .v (.hs 0 k 0 k 1) ∧ getS fr'.sl 57 = .u ∧ getS fr'.sl 4 = .u := by
  have hw : IntKind.i64.wrap ((i : Int) + 1) = (i : Int) + 1 := wrap_i64 (by omega)
  by_cases h1 : (i : Int) + 1 < ((ofBytes bs).length : Int)
  · by_cases h2 : (i : Int) < 80
    · have h3 : ¬ 0 < k := fun h3 => h ⟨h1, by omega, h3⟩
      have h3' : k = 0 := by omega
      subst h3'
      refine ⟨?_, Lp.exit ⟨0, fun N _ => ?_⟩ (by simp), ?_⟩
      rotate_left
      · simp -implicitDefEqProofs [b13_0, hw, h1, h2]
        rfl
      · exact ⟨by simp, by simp, by simp, by simp⟩
    · refine ⟨?_, Lp.exit ⟨0, fun N _ => ?_⟩ (by simp), ?_⟩
      rotate_left
      · simp -implicitDefEqProofs [b13_0, hw, h1, h2]
        rfl
      · exact ⟨by simp, by simp, by simp, by simp⟩
  · refine ⟨?_, Lp.exit ⟨0, fun N _ => ?_⟩ (by simp), ?_⟩
    rotate_left
    · simp -implicitDefEqProofs [b13_0, hw, h1]
      rfl
    · exact ⟨by simp, by simp, by simp, by simp⟩
theorem OkT.mono {k a b : Nat} {L : List (List Nat)} (h : OkT k a L) (hab : a ≤ b) : OkT k b L := ⟨h.1, fun l hl => ⟨by have := (h.2 l hl).1; omega, (h.2 l hl).2⟩⟩
theorem OkT.push {k b : Nat} {L : List (List Nat)} (h : OkT k b L) {a : Nat} {la : List Nat} (ha : L[a]? = some la) {y : Nat} (hy : y < k) : OkT k (b + 1) (L.set a (la ++ [y])) := by
  refine ⟨by simpa using h.1, fun l hl => ?_⟩
  rcases List.mem_or_eq_of_mem_set hl with hl | rfl
  · exact ⟨by have := (h.2 l hl).1; omega, (h.2 l hl).2⟩
  · obtain ⟨h1, h2⟩ := h.2 la (List.mem_of_getElem? ha)
    refine ⟨by simp; omega, fun z hz => ?_⟩
    rcases List.mem_append.1 hz with hz | hz
    · exact h2 z hz
    · simp at hz
      omega
set_option maxHeartbeats 2000000 in
theorem lp13 (bs : List UInt8) (nb : Bool) (k : Nat) (hk16 : k ≤ 300) : ∀ (f i : Nat) (cells : List AV) (L : List (List Nat)) (σ : H), i + 2 * f = 80 → Tb σ 0 cells L → OkT k i L →
    ∃ fr' cells' L' σ', Lp ctx [12, 55] [] [0, 5, 6, 7] b13_0 ⟨[(0, .v (encR 1 nb (ofBytes bs))), (5, .v (.int .i64 k)), (6, .v (.hs 0 k 0 k 1)), (7, .v (.int .i64 i))], false⟩ σ (.ex 0) fr' σ' ∧ Tb σ' 0 cells' L' ∧ OkT k 80 L' ∧ fr'.lk = false ∧ getS fr'.sl 6 = .v (.hs 0 k 0 k 1) ∧ getS fr'.sl 57 = .u ∧ getS fr'.sl 4 = .u := by
  intro f
  induction f with
  | zero =>
    intro i cells L σ hi hT hO
    obtain ⟨fr', l1, l2⟩ := lp13_out bs nb k i σ (by omega) (by omega)
    exact ⟨fr', cells, L, σ, l1, hT, hO.mono (by omega), l2⟩
  | succ f ih =>
    intro i cells L σ hi hT hO
    by_cases hc : (i : Int) + 1 < ((ofBytes bs).length : Int) ∧ i < 80 ∧ 0 < k
    rotate_left
    · obtain ⟨fr', l1, l2⟩ := lp13_out bs nb k i σ (by omega) hc
      exact ⟨fr', cells, L, σ, l1, hT, hO.mono (by omega), l2⟩
    obtain ⟨h1, h2, h3⟩ := hc
    have hbl : (ofBytes bs).length = bs.length := by simp [ofBytes]
    obtain ⟨x, hx⟩ : ∃ x, bs[i]? = some x := ⟨_, List.getElem?_eq_getElem (by omega)⟩
    obtain ⟨y, hy⟩ : ∃ y, bs[i + 1]? = some y := ⟨_, List.getElem?_eq_getElem (by omega)⟩
    have hx' := (ofBytes_get bs i _).2 ⟨x, hx, rfl⟩
    have hy' := (ofBytes_get bs (i + 1) _).2 ⟨y, hy, rfl⟩
    have hne : ofBytes bs ≠ [] := fun e => by rw [e] at h1; simp at h1; omega
    rw [encR_ne hne] at ih ⊢
    have hw : IntKind.i64.wrap ((i : Int) + 1) = (i : Int) + 1 := wrap_i64 (by omega)
    have hw2 : IntKind.i64.wrap ((i : Int) + 2) = ((i + 2 : Nat) : Int) := by rw [wrap_i64 (by omega)]; omega
    have h2' : (i : Int) < 80 := by omega
    have h3' : (k : Int) > 0 := by omega
    have hk0 : ¬ k = 0 := by omega
    obtain ⟨A, hA⟩ : ∃ A, A = x.toNat % k := ⟨_, rfl⟩
    obtain ⟨B, hB⟩ : ∃ B, B = y.toNat % k := ⟨_, rfl⟩
    have hAk : A < k := by rw [hA]; exact Nat.mod_lt _ h3
    have hBk : B < k := by rw [hB]; exact Nat.mod_lt _ h3
    have hxl : (x.toNat : Nat) < 256 := x.toNat_lt
    have hyl : (y.toNat : Nat) < 256 := y.toNat_lt
    have hmA : Int.tmod (x.toNat : Int) (k : Int) = (A : Int) := by rw [tmod_nat, ← hA]
    have hmB : Int.tmod (y.toNat : Int) (k : Int) = (B : Int) := by rw [tmod_nat, ← hB]
    have hwx : IntKind.i64.wrap (x.toNat : Int) = (x.toNat : Int) := wrap_i64 (by omega)
    have hwy : IntKind.i64.wrap (y.toNat : Int) = (y.toNat : Int) := wrap_i64 (by omega)
    obtain ⟨la, ha⟩ : ∃ la, L[A]? = some la := ⟨_, List.getElem?_eq_getElem (by rw [hO.1]; exact hAk)⟩
    obtain ⟨q, q', σ1, c', p1, p2, p3, p4, p5, _, _⟩ := hT.push ha B (by have := (hO.2 la (List.mem_of_getElem? ha)).1; omega)
    unfold tiI at p2
    have hcl : cells.length = k := by rw [hT.len, hO.1]
    have ht := hT.tab
    have hiA := idx_at hAk
    have hf : c'.fits ⟨.slice 3, 1, 24, .nil, []⟩ = true := by rw [p3, rowV_fits]; rfl
    have hc' : c'.cells = [c'] := by rw [p3]; rfl
    have hi1 : idxN ((i : Int) + 1) (ofBytes bs).length = some (i + 1) := by
      have := idx_at (i := i + 1) (n := (ofBytes bs).length) (by omega)
      simpa using this
    have hi0 := idx_at (i := i) (n := (ofBytes bs).length) (by omega)
    obtain ⟨fr', cells', L', σ', l1, l2⟩ := ih (i + 2) _ _ _ (by omega) p5 ((hO.push ha hBk).mono (by omega))
    refine ⟨fr', cells', L', σ', Lp.step ⟨0, fun N hN => ?_⟩ l1, l2⟩
    clear l1 l2 ih p5 hT
    simp -implicitDefEqProofs [b13_0, hw, hw2, h1, h2', h3, h3', hk0, hx', hy', hmA, hmB, hwx, hwy, ht, hcl, hiA, p1, p2, p4, hf, hc', hi1, hi0, -appendH]
@[simp] theorem noRefs_ofBytes : ∀ l : List UInt8, AV.noRefs (ofBytes l) = true
  | [] => rfl
  | b :: l => by
    have := noRefs_ofBytes l
    unfold ofBytes at this ⊢
    simp only [List.map_cons, AV.noRefs, AV.noRef, Bool.true_and]
    exact this
theorem make_ans (bs : List UInt8) (nb : Bool) (n : UInt8) : ∃ G, OkT (n.toNat % 16) 80 G ∧ Ans ctx 13 [encR 1 nb (ofBytes bs), .int .u8 n.toNat] (.sl 1 (encU G)) := by
  have hnl : (n.toNat : Nat) < 256 := n.toNat_lt
  obtain ⟨K, hK⟩ : ∃ K, K = n.toNat % 16 := ⟨_, rfl⟩
  have hK16 : K < 16 := by omega
  obtain ⟨fr', cells', G, σ', l1, l2, l3, l4, l5, l6, l7⟩ := lp13 bs nb K (by omega) 40 0 _ _ _ rfl (Tb.make [] K) ⟨by simp, fun l hl => by
    have := (List.mem_replicate.1 hl).2
    subst this
    simp⟩
  rw [← hK]
  refine ⟨G, l3, ?_⟩
  obtain ⟨k, hk⟩ := l1.den
  obtain ⟨ns, hsn⟩ := l2.snap l3.1 198
  refine Ans.fn (rs := [.hs 0 K 0 K 1]) (σ' := σ') fn13_ (by simp [AV.noRefs, AV.noRef]) ⟨k, fun N hN => ?_⟩ hsn
  have hk := hk N hN
  simp only [Int.cast_ofNat_Int, List.nil_append] at hk
  have hwn : IntKind.i64.wrap (n.toNat : Int) = (n.toNat : Int) := wrap_i64 (by omega)
  have hm : Int.tmod (n.toNat : Int) 16 = (K : Int) := by
    have := tmod_nat n.toNat 16
    rw [hK]; exact this
  have hbg : K * 24 ≤ 35184372088832 ∧ K ≤ 35184372088832 := by omega
  have hf1 := fitAll_replicate ⟨.slice 3, 1, 24, .nil, []⟩ .nil rfl K
  clear l1 l2
  simp -implicitDefEqProofs [i13, c13, hk, hwn, hm, hbg, hf1, l4, l5, l6, l7]
end Go.Am.Try
