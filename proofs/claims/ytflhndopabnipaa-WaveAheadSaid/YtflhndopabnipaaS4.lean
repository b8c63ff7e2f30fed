/- scc.edges: the edges of a graph between its nodes, each once. -/
import Derived.Test.YtflhndopabnipaaS3
import Derived.Test.YtflhndopabnipaaMTab
set_option linter.unusedVariables false
set_option linter.unusedSimpArgs false
set_option maxRecDepth 100000
namespace Go.Am.Try
open Go Go.Am.Sc
theorem eqPair (k x : Nat × Nat) : eqLeaves [.int .i64, .int .i64] [.int .i64 (k.1 : Int), .int .i64 (k.2 : Int)] [.int .i64 (x.1 : Int), .int .i64 (x.2 : Int)] = some (decide (k = x)) := by
  obtain ⟨a, b⟩ := k
  obtain ⟨c, d⟩ := x
  simp only [eqLeaves, eqLeaf, and_self, if_true, Prod.mk.injEq, Bool.and_true]
  by_cases h1 : a = c
  · subst h1
    by_cases h2 : b = d
    · subst h2; simp
    · have : ((b : Int) == (d : Int)) = false := by rw [beq_eq_false_iff_ne]; omega
      simp [this, h2]
  · have : ((a : Int) == (c : Int)) = false := by rw [beq_eq_false_iff_ne]; omega
    simp [this, h1]
def T50 : Tab ctx 50 (Nat × Nat) Bool where
  tk := ⟨.arr 2 3, 2, 16, .agg [.int .i64 0, .int .i64 0], [.int .i64, .int .i64]⟩
  te := ⟨.bool, 1, 1, .bool false, [.bool]⟩
  ek := fun k => .agg [.int .i64 (k.1 : Int), .int .i64 (k.2 : Int)]
  ev := .bool
  z := false
  map := by rfl
  key := fun k => rfl
  kfit := fun k => rfl
  eq := fun k x => eqPair k x
  vfit := fun v => rfl
  zero := rfl
def EH (F : Nat → List Nat) (σ : H) : Prop := ∃ l, σ[0]? = some (.map (T50.enc l)) ∧ ∀ a b, (getT l (a, b)).getD false = decide (b ∈ F a)
def addH (F : Nat → List Nat) (a b : Nat) : Nat → List Nat := fun x => if x = a then F a ++ [b] else F x
theorem EH.look {F : Nat → List Nat} {σ : H} (h : EH F σ) (a b : Nat) : lookupA ctx 50 (.map 0) (.agg [.int .i64 (a : Int), .int .i64 (b : Int)]) false σ = some (.bool (decide (b ∈ F a)), σ) := by
  obtain ⟨l, h1, h2⟩ := h
  have := T50.look h1 (a, b)
  have e : T50.z = false := rfl
  rw [e, h2] at this
  exact this
theorem EH.up {F : Nat → List Nat} {σ : H} (h : EH F σ) (a b : Nat) : ∃ σ', updateA ctx 50 (.map 0) (.agg [.int .i64 (a : Int), .int .i64 (b : Int)]) (.bool true) σ = some ((), σ') ∧ EH (addH F a b) σ' ∧ σ'.length = σ.length ∧ ∀ j, j ≠ 0 → σ'[j]? = σ[j]? := by
  obtain ⟨l, h1, h2⟩ := h
  refine ⟨_, T50.up h1 (a, b) true, ⟨putT (a, b) true l, ?_, fun x y => ?_⟩, by simp, fun j hj => List.getElem?_set_ne (Ne.symm hj)⟩
  · have := (List.getElem?_eq_some_iff.1 h1).1
    simp [this]
  · rw [getT_put]
    unfold addH
    by_cases hx : x = a
    · subst hx
      by_cases hy : y = b
      · subst hy; simp
      · have : ¬ ((x, y) = (x, b)) := by simp [hy]
        rw [if_neg this, h2]
        simp [hy]
    · have : ¬ ((x, y) = (a, b)) := by simp [hx]
      rw [if_neg this, h2]
      simp [hx]
theorem EH.keep {F : Nat → List Nat} {σ σ' : H} (h : EH F σ) (hk : σ'[0]? = σ[0]?) : EH F σ' := by
  obtain ⟨l, h1, h2⟩ := h
  exact ⟨l, by rw [hk]; exact h1, h2⟩
def uqs : List Nat → List Nat → List Nat
  | acc, [] => acc
  | acc, y :: l => if y ∈ acc then uqs acc l else uqs (acc ++ [y]) l
theorem uqs_mem : ∀ (l acc : List Nat) (x : Nat), x ∈ uqs acc l ↔ x ∈ acc ∨ x ∈ l
  | [], acc, x => by simp [uqs]
  | y :: l, acc, x => by
    unfold uqs
    split
    · rename_i h
      rw [uqs_mem l acc x, List.mem_cons]
      constructor
      · rintro (k | k)
        · exact .inl k
        · exact .inr (.inr k)
      · rintro (k | rfl | k)
        · exact .inl k
        · exact .inl h
        · exact .inr k
    · rw [uqs_mem l (acc ++ [y]) x]
      simp [or_assoc]
theorem uqs_len : ∀ (l acc : List Nat), (uqs acc l).length ≤ acc.length + l.length
  | [], acc => by simp [uqs]
  | y :: l, acc => by
    unfold uqs
    split
    · have := uqs_len l acc; simp; omega
    · have := uqs_len l (acc ++ [y]); simp at this ⊢; omega
theorem cl_len (n : Nat) : ∀ l : List Int, (cl n l).length ≤ l.length
  | [] => by simp [cl]
  | y :: l => by
    unfold cl
    split
    · have := cl_len n l; simp; omega
    · have := cl_len n l; simp; omega
set_option maxHeartbeats 1000000 in
theorem lp27_0 (g : List (Bool × List Int)) (ng : Bool) (hg : g.length ≤ 2 ^ 30) (a : Nat) (ha : a < g.length) (q : Bool × List Int) (hql : q.2.length ≤ 2 ^ 30) (B : Nat) (hB : 2 ≤ B) : ∀ (r : List Int) (j : Nat) (acc : List Nat) (qa : Nat) (cells : List AV) (F : Nat → List Nat) (σ : H), Tail (encIs q.2) j (encIs r) →
    acc.length + r.length ≤ 2 ^ 30 → EH F σ → F a = acc → σ[1]? = some (.arr false 1 cells) → cells.length = g.length → cells[a]? = some (rowV qa acc.length 1) → RowAt σ qa 1 (encNs acc) → (acc ≠ [] → B ≤ qa) → B ≤ σ.length →
    ∃ fr' qa' F' σ', Lp ctx [13, 54] [] [0, 3, 4, 5, 14, 15, 16, 21, 22, 23] b27_0 ⟨[(0, .v (encR 1 ng (encG g))), (3, .v (.map 0)), (4, .v (.hs 1 g.length 0 g.length 1)), (5, .v (.int .i64 a)), (14, .v (encR 1 ng (encG g))), (15, .v (.int .i64 g.length)), (16, .v (.int .i64 a)), (21, .v (rowI q)), (22, .v (.int .i64 q.2.length)), (23, .v (.int .i64 j))], false⟩ σ
      (.ex 2) fr' σ' ∧ EH F' σ' ∧ F' a = uqs acc (cl g.length r) ∧ (∀ x, x ≠ a → F' x = F x) ∧ σ'[1]? = some (.arr false 1 (cells.set a (rowV qa' (uqs acc (cl g.length r)).length 1))) ∧ RowAt σ' qa' 1 (encNs (uqs acc (cl g.length r))) ∧ ((uqs acc (cl g.length r)) ≠ [] → B ≤ qa') ∧ (∀ j, 2 ≤ j → j < B → σ'[j]? = σ[j]?) ∧ σ.length ≤ σ'.length ∧
      fr'.lk = false ∧ getS fr'.sl 0 = .v (encR 1 ng (encG g)) ∧ getS fr'.sl 3 = .v (.map 0) ∧ getS fr'.sl 4 = .v (.hs 1 g.length 0 g.length 1) ∧ getS fr'.sl 14 = .v (encR 1 ng (encG g)) ∧ getS fr'.sl 15 = .v (.int .i64 g.length) ∧ getS fr'.sl 16 = .v (.int .i64 a) ∧ getS fr'.sl 57 = .u
  | [], j, acc, qa, cells, F, σ, ht, hal, hH, hHa, hc, hcl, hca, hr, hqa, hBl => by
    have hlen := ht.nil
    simp only [encIs_length] at hlen
    refine ⟨?_, qa, F, σ, Lp.exit ⟨0, fun N _ => ?_⟩ (by simp), ?_⟩
    rotate_left
    · simp -implicitDefEqProofs [b27_0, hlen]
      rfl
    · simp only [cl, uqs]
      have : cells.set a (rowV qa acc.length 1) = cells := by
        apply List.ext_getElem?
        intro i
        rw [List.getElem?_set]
        split
        · rename_i h; subst h
          rw [hca, if_pos (by omega)]
        · rfl
      rw [this]
      exact ⟨hH, hHa, by simp, hc, hr, hqa, by simp, by simp, by simp, by simp, by simp, by simp, by simp, by simp, by simp, by simp⟩
  | y :: r, j, acc, qa, cells, F, σ, ht, hal, hH, hHa, hc, hcl, hca, hr, hqa, hBl => by
    obtain ⟨a1, a2, a3, a4, a5⟩ := ht.cons
    simp only [encIs_length] at a2 a3
    have hw := wrap_succ (n := j) (by have := ht.len; simp at this; unfold big; omega)
    have hrow : rowI q = .sl 1 (encIs q.2) := a5 1 q.1
    simp only [List.length_cons] at hal
    have hcons : IntKind.i64.wrap ((j : Int) + 1) = ((j + 1 : Nat) : Int) := hw
    by_cases h0 : 0 ≤ y
    rotate_left
    · have ih := lp27_0 g ng hg a ha q hql B hB r (j + 1) acc qa cells F σ a4 (by omega) hH hHa hc hcl hca hr hqa hBl
      have e : cl g.length (y :: r) = cl g.length r := by rw [cl, if_neg (by omega)]
      rw [hrow] at ih ⊢
      rw [e]
      obtain ⟨fr', qa', F', σ', l1, l2⟩ := ih
      refine ⟨fr', qa', F', σ', Lp.step ⟨0, fun N hN => ?_⟩ l1, l2⟩
      clear l1 l2
      simp -implicitDefEqProofs [b27_0, a1, a2, a3, hw, h0]
    by_cases h1 : y < (g.length : Int)
    rotate_left
    · have ih := lp27_0 g ng hg a ha q hql B hB r (j + 1) acc qa cells F σ a4 (by omega) hH hHa hc hcl hca hr hqa hBl
      have e : cl g.length (y :: r) = cl g.length r := by rw [cl, if_neg (by omega)]
      rw [hrow] at ih ⊢
      rw [e]
      obtain ⟨fr', qa', F', σ', l1, l2⟩ := ih
      refine ⟨fr', qa', F', σ', Lp.step ⟨0, fun N hN => ?_⟩ l1, l2⟩
      clear l1 l2
      simp -implicitDefEqProofs [b27_0, a1, a2, a3, hw, h0, h1]
    obtain ⟨Y, rfl⟩ : ∃ Y : Nat, y = (Y : Int) := ⟨y.toNat, by omega⟩
    have e : cl g.length ((Y : Int) :: r) = Y :: cl g.length r := by rw [cl, if_pos ⟨h0, h1⟩]; simp
    rw [e]
    have hlk := hH.look a Y
    rw [hHa] at hlk
    by_cases hm : Y ∈ acc
    · have ih := lp27_0 g ng hg a ha q hql B hB r (j + 1) acc qa cells F σ a4 (by omega) hH hHa hc hcl hca hr hqa hBl
      have em : uqs acc (Y :: cl g.length r) = uqs acc (cl g.length r) := by rw [uqs, if_pos hm]
      rw [hrow] at ih ⊢
      rw [em]
      simp only [hm, decide_true] at hlk
      obtain ⟨fr', qa', F', σ', l1, l2⟩ := ih
      refine ⟨fr', qa', F', σ', Lp.step ⟨0, fun N hN => ?_⟩ l1, l2⟩
      clear l1 l2
      simp -implicitDefEqProofs [b27_0, a1, a2, a3, hw, h0, h1, hlk]
    · have em : uqs acc (Y :: cl g.length r) = uqs (acc ++ [Y]) (cl g.length r) := by rw [uqs, if_neg hm]
      simp only [hm, decide_false] at hlk
      obtain ⟨σ1, u1, u2, u3, u4⟩ := hH.up a Y
      have hc1 : σ1[1]? = some (.arr false 1 cells) := by rw [u4 1 (by omega)]; exact hc
      have hr1 : RowAt σ1 qa 1 (encNs acc) := fun hx => by
        have hb : B ≤ qa := hqa (fun e => hx (by rw [e]; rfl))
        rw [u4 qa (by omega)]; exact hr hx
      obtain ⟨q2, σ2, p1, p2, p3, p4, p5⟩ := app_raw2 tiI (y := .int .i64 (Y : Int)) hr1 (by simp [tiI]) (by simp [tiI]; omega) (by simp; omega)
      simp only [encNs_length] at p1
      unfold tiI at p1 p2
      have keep : ∀ j, j < B → σ2[j]? = σ1[j]? := fun j hj => by
        have hjl : j < σ1.length := by omega
        have := List.getElem?_eq_getElem hjl
        rw [this]
        exact p4 j _ this (fun hx e => by
          have : B ≤ qa := hqa (fun e => hx (by rw [e]; rfl))
          omega)
      have hq2 : B ≤ q2 := by
        by_cases hx : acc = []
        · subst hx
          refine Nat.le_of_not_lt fun hlt => p5 q2 (by omega) (fun h => absurd rfl h) rfl
        · refine Nat.le_of_not_lt fun hlt => p5 q2 (by omega) (fun _ e => ?_) rfl
          have := hqa hx; omega
      have hc2 : σ2[1]? = some (.arr false 1 cells) := by rw [keep 1 (by omega)]; exact hc1
      have hl2 : 1 < σ2.length := (List.getElem?_eq_some_iff.1 hc2).1
      have heN : encNs acc ++ [AV.int .i64 (Y : Int)] = encNs (acc ++ [Y]) := by rw [encNs_app]; rfl
      rw [heN] at p2
      have ih := lp27_0 g ng hg a ha q hql B hB r (j + 1) (acc ++ [Y]) q2 (cells.set a (rowV q2 (acc.length + 1) 1)) (addH F a Y) (σ2.set 1 (.arr false 1 (cells.set a (rowV q2 (acc.length + 1) 1)))) a4 (by simp; omega) (u2.keep (by rw [List.getElem?_set_ne (show (1 : Nat) ≠ 0 by omega)]; exact keep 0 (by omega))) (by simp [addH, hHa]) (by simp [hl2]) (by simpa using hcl) (by
          rw [List.getElem?_set_self (by omega)]; simp) (fun _ => by
          rw [List.getElem?_set_ne (by omega)]; exact p2) (fun _ => hq2) (by simp; omega)
      rw [hrow] at ih ⊢
      rw [em]
      obtain ⟨fr', qa', F', σ', l1, l2, l3, l4, l5, l6, l7, l8, l9, l10⟩ := ih
      rw [List.set_set] at l5
      refine ⟨fr', qa', F', σ', Lp.step ⟨0, fun N hN => ?_⟩ l1, l2, l3, fun x hx => ?_, l5, l6, l7, fun j hj1 hj2 => ?_, by simp at l9; omega, l10⟩
      · have hia := idx_at ha
        have hcf : (rowV q2 (acc.length + 1) 1).fits ⟨.slice 3, 1, 24, .nil, []⟩ = true := rfl
        have hcf2 : ∀ m, (rowV qa m 1).fits ⟨.slice 3, 1, 24, .nil, []⟩ = true := fun m => by cases m <;> rfl
        clear l1 l2 l3 l4 l5 l6 l7 l8 l9 l10
        simp -implicitDefEqProofs [b27_0, a1, a2, a3, hw, h0, h1, hlk, u1, hc1, hcl, hia, hca, p1, hc2, hcf, hcf2, -appendH]
      · rw [l4 x hx]
        simp [addH, hx]
      · rw [l8 j hj1 hj2, List.getElem?_set_ne (by omega), keep j hj2, u4 j (by omega)]
def RowsAt (σ : H) (B : Nat) (cells : List AV) (L : List (List Nat)) : Prop :=
  ∀ (i : Nat) l, L[i]? = some l → ∃ q, cells[i]? = some (rowV q l.length 1) ∧ RowAt σ q 1 (encNs l) ∧ (l ≠ [] → 2 ≤ q ∧ q < B)
def rowU (n : Nat) (q : Bool × List Int) : List Nat := uqs [] (cl n q.2)
set_option maxHeartbeats 1000000 in
theorem lp27_1 (g : List (Bool × List Int)) (ng : Bool) (hg : g.length ≤ 2 ^ 30) (hr : ∀ q ∈ g, q.2.length ≤ 2 ^ 30) : ∀ (r : List (Bool × List Int)) (i : Nat) (cells : List AV) (F : Nat → List Nat) (σ : H) (L : List (List Nat)), Tail (encG g) i (encG r) → (∀ q ∈ r, q.2.length ≤ 2 ^ 30) →
    EH F σ → (∀ x, i ≤ x → F x = []) → σ[1]? = some (.arr false 1 cells) → cells.length = g.length → (∀ x, i ≤ x → x < g.length → cells[x]? = some .nil) → L.length = i → RowsAt σ σ.length cells L →
    ∃ fr' cells' σ', Lp ctx [13, 54] [] [0, 3, 4, 14, 15, 16] b27_1 ⟨[(0, .v (encR 1 ng (encG g))), (3, .v (.map 0)), (4, .v (.hs 1 g.length 0 g.length 1)), (14, .v (encR 1 ng (encG g))), (15, .v (.int .i64 g.length)), (16, .v (.int .i64 i))], false⟩ σ
      (.ex 0) fr' σ' ∧ σ'[1]? = some (.arr false 1 cells') ∧ cells'.length = g.length ∧ RowsAt σ' σ'.length cells' (L ++ r.map (rowU g.length)) ∧
      fr'.lk = false ∧ getS fr'.sl 4 = .v (.hs 1 g.length 0 g.length 1) ∧ getS fr'.sl 2 = .u ∧ getS fr'.sl 58 = .u
  | [], i, cells, F, σ, L, ht, hs, hF, hF0, hc, hcl, hcn, hL, hR => by
    have hlen := ht.nil
    simp only [encG_length] at hlen
    refine ⟨?_, cells, σ, Lp.exit ⟨0, fun N _ => ?_⟩ (by simp), ?_⟩
    rotate_left
    · simp -implicitDefEqProofs [b27_1, hlen]
      rfl
    · exact ⟨hc, hcl, by simpa using hR, by simp, by simp [hlen], by simp, by simp⟩
  | q :: r, i, cells, F, σ, L, ht, hs, hF, hF0, hc, hcl, hcn, hL, hR => by
    obtain ⟨a1, a2, a3, a4, a5⟩ := ht.cons
    simp only [encG_length] at a2 a3
    have hi : i < g.length := by omega
    have hw := wrap_succ (n := i) (by unfold big; omega)
    have hG := a5 1 ng
    have hl1 : 1 < σ.length := (List.getElem?_eq_some_iff.1 hc).1
    obtain ⟨fr1, qa, F1, σ1, b1, b2, b3, b4, b5, b6, b7, b8, b9, b10, b11, b12, b13, b14, b15, b16, b17⟩ := lp27_0 g ng hg i hi q (hs q (by simp)) σ.length (by omega) q.2 0 [] 0 cells F σ (Tail.all _) (by simp; exact hs q (by simp)) hF (hF0 i (Nat.le_refl _)) hc hcl (by
        rw [hcn i (Nat.le_refl _) hi]; rfl) (fun h => absurd rfl h) (fun h => absurd rfl h) (Nat.le_refl _)
    obtain ⟨k1, hk1⟩ := b1.den
    have hR1 : RowsAt σ1 σ1.length (cells.set i (rowV qa (rowU g.length q).length 1)) (L ++ [rowU g.length q]) := by
      intro x l hx
      by_cases e : x = i
      · subst e
        rw [List.getElem?_append_right (by omega), hL] at hx
        simp at hx
        subst hx
        refine ⟨qa, by rw [List.getElem?_set_self (by omega)], b6, fun hne => ⟨by have := b7 hne; omega, ?_⟩⟩
        have := b6 (fun e => hne (by
          have := congrArg List.length e
          unfold rowU
          simpa using this))
        exact (List.getElem?_eq_some_iff.1 this).1
      · have hxl : x < L.length := by
          have := (List.getElem?_eq_some_iff.1 hx).1
          simp at this; omega
        rw [List.getElem?_append_left hxl] at hx
        obtain ⟨q1, c1, c2, c3⟩ := hR x l hx
        refine ⟨q1, by rw [List.getElem?_set_ne (Ne.symm e)]; exact c1, fun hne => ?_, fun hne => ⟨(c3 hne).1, by have := (c3 hne).2; omega⟩⟩
        have hne' : l ≠ [] := fun e => hne (by rw [e]; rfl)
        rw [b8 q1 (c3 hne').1 (c3 hne').2]
        exact c2 hne
    obtain ⟨fr', cells', σ', l1, l2⟩ := lp27_1 g ng hg hr r (i + 1) (cells.set i (rowV qa (rowU g.length q).length 1)) F1 σ1 (L ++ [rowU g.length q]) a4 (fun z hz => hs z (by simp [hz])) b2 (fun x hx => by
      rw [b4 x (by omega)]; exact hF0 x (by omega)) b5 (by simpa using hcl) (fun x h1 h2 => by
      rw [List.getElem?_set_ne (by omega)]; exact hcn x (by omega) h2) (by simp [hL]) hR1
    rw [hG] at l1 hk1 b11 b14 ⊢
    rw [List.append_assoc] at l2
    refine ⟨fr', cells', σ', Lp.step ⟨k1, fun N hN => ?_⟩ l1, by simpa using l2⟩
    have hk1 := hk1 N hN
    simp only [Int.cast_ofNat_Int] at hk1
    have hqn : lenM (rowI q) = pureM (.int .i64 q.2.length) := by unfold rowI; simp
    have hqo : ∀ e, lenOk (.slice e) (rowI q) = true := fun e => by unfold rowI; simp
    clear l1 l2 b1 hR1
    simp -implicitDefEqProofs [b27_1, a1, a2, a3, hw, hk1, b10, b11, b12, b13, b14, b15, b16, b17, hqn, hqo]
def encU (L : List (List Nat)) : List AV := L.map fun l => encR 1 true (encNs l)
@[simp] theorem encU_length (L : List (List Nat)) : (encU L).length = L.length := by simp [encU]
theorem snap_cells {σ : H} (n : Nat) : ∀ (cells : List AV) (L : List (List Nat)), cells.length = L.length → (∀ (i : Nat) l, L[i]? = some l → ∃ q, cells[i]? = some (rowV q l.length 1) ∧ RowAt σ q 1 (encNs l)) → ∃ ns, mapO2 (snapA σ (n + 1)) cells = some (encU L, ns)
  | [], [], _, _ => ⟨[], rfl⟩
  | [], _ :: _, h, _ => by simp at h
  | _ :: _, [], h, _ => by simp at h
  | c :: cells, l :: L, h, hR => by
    obtain ⟨q, h1, h2⟩ := hR 0 l rfl
    simp at h1
    subst h1
    obtain ⟨ns1, w1, _⟩ := snap_rowV q 1 (encNs l) σ n (fun hx => ⟨false, h2 hx⟩) (by simp)
    rw [encNs_length] at w1
    obtain ⟨ns2, w2⟩ := snap_cells n cells L (by simpa using h) (fun i l hl => by
      have := hR (i + 1) l (by simpa using hl)
      simpa using this)
    exact ⟨ns1 ++ ns2, by simp only [mapO2, w1, w2, encU, List.map_cons]⟩
theorem snap_table {σ : H} {r m : Nat} {cells : List AV} {L : List (List Nat)} (n : Nat) (hc : σ[r]? = some (.arr false 1 cells)) (hm : cells.length = m) (hl : cells.length = L.length) (hR : ∀ (i : Nat) l, L[i]? = some l → ∃ q, cells[i]? = some (rowV q l.length 1) ∧ RowAt σ q 1 (encNs l)) : ∃ ns, snapA σ (n + 2) (.hs r m 0 m 1) = some (.sl 1 (encU L), ns) := by
  obtain ⟨ns, w⟩ := snap_cells n cells L hl hR
  refine ⟨r :: ns, ?_⟩
  unfold snapA
  rw [if_neg (by simp)]
  have ht : cells.take m = cells := List.take_of_length_le (by omega)
  simp only [arrAt, hc, hm, if_true, List.drop_zero, ht, w, Nat.zero_add, Nat.le_refl, and_self]
theorem edges_ans (g : List (Bool × List Int)) (ng : Bool) (hg : g.length ≤ 2 ^ 30) (hr : ∀ q ∈ g, q.2.length ≤ 2 ^ 30) : Ans ctx 27 [encR 1 ng (encG g)] (.sl 1 (encU (g.map (rowU g.length)))) := by
  obtain ⟨fr', cells', σ', b1, b2, b3, b4, b5, b6, b7, b8⟩ := lp27_1 g ng hg hr g 0 (List.replicate g.length .nil) (fun _ => []) [.map [], .arr false 1 (List.replicate g.length .nil)] [] (Tail.all _) hr ⟨[], rfl, fun a b => by simp [getT, findT]⟩ (fun _ _ => rfl) rfl (by simp) (fun x _ h => by rw [List.getElem?_replicate, if_pos h]) rfl (fun i l h => by simp at h)
  obtain ⟨k, hk⟩ := b1.den
  rw [List.nil_append] at b4
  obtain ⟨ns, hsn⟩ := snap_table (L := g.map (rowU g.length)) 198 b2 b3 (by simp [b3]) (fun i l h => by
    obtain ⟨q, h1, h2, _⟩ := b4 i l h
    exact ⟨q, h1, h2⟩)
  refine Ans.fn (rs := []) (σ' := σ') fn27_ (by simp [AV.noRefs]) ⟨k, fun N hN => ?_⟩ hsn
  have hk := hk N hN
  simp only [Int.cast_ofNat_Int] at hk
  have hbg : g.length * 24 ≤ 35184372088832 ∧ g.length ≤ 35184372088832 := by omega
  have hfit := fitAll_replicate ⟨.slice 3, 1, 24, .nil, []⟩ .nil rfl g.length
  simp -implicitDefEqProofs [i27, c27, hk, b5, b6, b7, b8, hbg, hfit]
theorem rowU_ed (g : List (Bool × List Int)) (a b : Nat) : Ed (g.map (rowU g.length)) a b ↔ Ed (outG g) a b := by
  unfold Ed outs outG
  rw [List.getD_eq_getElem?_getD, List.getD_eq_getElem?_getD, List.getElem?_map, List.getElem?_map]
  cases g[a]? with
  | none => rfl
  | some q => simp [rowU, uqs_mem]
end Go.Am.Try
