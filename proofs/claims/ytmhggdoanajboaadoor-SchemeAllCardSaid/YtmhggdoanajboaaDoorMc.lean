/- Layer 18: mgu.Match. -/
import Derived.Test.YtmhggdoanajboaaDoorMb
set_option maxRecDepth 100000
set_option linter.unusedSimpArgs false
set_option linter.unusedVariables false
namespace Go.Am.Tryd
open Go
theorem push_at (te : TI) (σ : H) (q : Nat) (zs xs : List AV) (y : AV) (h : σ[q]? = some (.arr false te.size zs)) (hy : y.fits te = true) (ht : zs.take xs.length = xs) (hl : xs.length ≤ zs.length) (hb : (xs.length + 1) * te.bytes ≤ 2 ^ 45) (hb2 : xs.length + 1 ≤ 2 ^ 45) :
    ∃ zs', appendH te (.hs q zs.length 0 xs.length te.size) [y] σ = some (.hs q zs'.length 0 (xs.length + 1) te.size, σ.set q (.arr false te.size zs')) ∧ zs'.take (xs.length + 1) = xs ++ [y] ∧ xs.length + 1 ≤ zs'.length := by
  have hc : True ∧ True ∧ 0 + xs.length ≤ zs.length ∧ (xs.length + [y].length) * te.bytes ≤ 2 ^ 45 ∧ xs.length + [y].length ≤ 2 ^ 45 ∧ fitAll te [y] = true := ⟨trivial, trivial, by omega, hb, hb2, by simp [fitAll, hy]⟩
  by_cases hlt : xs.length < zs.length
  · refine ⟨zs.set xs.length y, ?_, ?_, by simp; omega⟩
    · unfold appendH
      simp only [arrAt, h, if_true]
      rw [if_pos hc, if_pos (by simp; omega)]
      simp [setCells]
    · rw [List.take_succ_eq_append_getElem (by simpa using hlt)]
      rw [List.take_set_of_le (Nat.le_refl _), ht]
      simp
  · have e : xs.length = zs.length := by omega
    have e2 : xs = zs := by rw [← ht, e, List.take_length]
    refine ⟨zs ++ [y], ?_, ?_, by simp; omega⟩
    · unfold appendH
      simp only [arrAt, h, if_true]
      rw [if_pos hc, if_neg (by simp; omega)]
      simp [ht, e2]
    · rw [e2]; simp [List.take_of_length_le]
def encB2 : Ty × Ty → AV
  | (.mk k n s nl ks, .mk k' n' s' nl' ks') => .agg [.int .i64 k, .int .i64 n, .str s, encR 4 nl (encTs ks), .int .i64 k', .int .i64 n', .str s', encR 4 nl' (encTs ks')]
def encB2s (l : List (Ty × Ty)) : List AV := l.map encB2
def tiB : TI := ⟨.strct [(0, 24), (4, 24)], 8, 112, .agg [.int .i64 0, .int .i64 0, .str [], .nil, .int .i64 0, .int .i64 0, .str [], .nil], []⟩
theorem top_of {zs : List AV} {l : List (Ty × Ty)} {x : Ty × Ty} (h : zs.take (x :: l).length = encB2s (x :: l).reverse) : zs[l.length]? = some (encB2 x) ∧ zs.take l.length = encB2s l.reverse := by
  simp only [List.length_cons, List.reverse_cons, encB2s, List.map_append, List.map_cons, List.map_nil] at h
  constructor
  · have := congrArg (fun z => z[l.length]?) h
    simp only [List.getElem?_take_of_lt (Nat.lt_succ_self _)] at this
    rw [this, List.getElem?_append_right (by simp)]
    simp
  · have := congrArg (fun z => z.take l.length) h
    simp only [List.take_take] at this
    rw [Nat.min_eq_left (by omega)] at this
    rw [this, List.take_append_of_le_length (by simp)]
    simp [encB2s, List.take_of_length_le]
set_option maxHeartbeats 2000000
theorem lp58_0 (E : List (AV × AV)) (K N0 S K' N' S' : AV) (xs ys : List AV) (n1 n2 : Bool) (hx : xs.length ≤ 2 ^ 30) : ∀ (r1 r2 : List Ty) (i : Nat) (st : List (Ty × Ty)) (zs : List AV), Tail xs i (encTs r1) → Tail ys i (encTs r2) → r1.length = r2.length → zs.take st.length = encB2s st.reverse → st.length ≤ zs.length → st.length + r1.length ≤ 2 ^ 35 →
    ∃ fr' zs', Lp ctx [15, 102] [] [5, 6, 7, 83, 84] b58_0 ⟨[(5, .v (.map 0)), (6, .v (.hs 1 zs.length 0 st.length 8)), (7, .bx (.agg [K, N0, S, encR 4 n1 xs, K', N', S', encR 4 n2 ys])), (83, .v (.int .i64 xs.length)), (84, .v (.int .i64 i))], false⟩ [.map E, .arr false 8 zs] (.ex 2) fr' [.map E, .arr false 8 zs'] ∧
      fr'.lk = false ∧ zs'.take ((r1.zip r2).reverse ++ st).length = encB2s ((r1.zip r2).reverse ++ st).reverse ∧ ((r1.zip r2).reverse ++ st).length ≤ zs'.length ∧ getS fr'.sl 5 = .v (.map 0) ∧ getS fr'.sl 6 = .v (.hs 1 zs'.length 0 ((r1.zip r2).reverse ++ st).length 8)
  | [], [], i, st, zs, h1, h2, _, hz, hl, hb => by
    have h1 := h1.nil
    refine ⟨?_, zs, Lp.exit ⟨0, fun N _ => ?_⟩ (by simp), ?_⟩
    rotate_left
    · simp -implicitDefEqProofs [b58_0, h1]
      rfl
    · exact ⟨by simp, by simpa using hz, by simpa using hl, by simp, by simp⟩
  | a :: r1, b :: r2, i, st, zs, h1, h2, hr, hz, hl, hb => by
    simp only [encTs_cons] at h1 h2
    have hlen := h1.len
    obtain ⟨g1, g2, g3, g4, g5⟩ := h1.cons
    obtain ⟨k1, k2, k3, k4, k5⟩ := h2.cons
    have hw := wrap_succ (n := i) (by simp at hlen; unfold big; omega)
    simp only [List.length_cons] at hb hr
    obtain ⟨zs1, p1, p2, p3⟩ := push_at tiB [.map E, .arr false 8 zs] 1 zs (encB2s st.reverse) (encB2 (a, b)) rfl (by
      obtain ⟨_, _, _, _, _⟩ := a; obtain ⟨_, _, _, _, _⟩ := b; simp [encB2, tiB]) (by simpa [encB2s] using hz) (by simpa [encB2s] using hl) (by simp [encB2s, tiB]; omega) (by simp [encB2s]; omega)
    have hsl : (encB2s st.reverse).length = st.length := by simp [encB2s]
    rw [hsl] at p1 p2 p3
    obtain ⟨fr', zs', l1, l2, l3, l4, l5, l6⟩ := lp58_0 E K N0 S K' N' S' xs ys n1 n2 hx r1 r2 (i + 1) ((a, b) :: st) zs1 g4 k4 (by omega) (by rw [List.length_cons, List.reverse_cons, p2]; simp [encB2s]) (by simpa using p3) (by simp; omega)
    have e : ((a :: r1).zip (b :: r2)).reverse ++ st = (r1.zip r2).reverse ++ (a, b) :: st := by simp
    rw [e]
    refine ⟨fr', zs', Lp.step ⟨0, fun N hN => ?_⟩ l1, l2, l3, l4, l5, l6⟩
    clear l1 l2 l3 l4 l5 l6
    obtain ⟨ka, na, sa, la, qa⟩ := a
    obtain ⟨kb, nb, sb, lb, qb⟩ := b
    simp only [encT] at g1 g2 g3 g4 g5 k1 k2 k3 k4 k5
    unfold tiB at p1
    simp only [encB2] at p1
    simp -implicitDefEqProofs [b58_0, g1, g2, g3, g5, k1, k2, k3, k5, hw, p1, -appendH]
  | [], _ :: _, _, _, _, _, _, h, _, _, _ => by simp at h
  | _ :: _, [], _, _, _, _, _, h, _, _, _ => by simp at h
theorem idx_pred {n : Nat} : idxN (n : Int) (n + 1) = some n := by
  unfold idxN
  simp
  omega
theorem bounds_pred {n : Nat} : bounds none (some (n : Int)) (n + 1) = some (0, n) := by
  unfold bounds
  simp only [Option.getD_some, Option.getD_none]
  rw [if_pos (by omega)]
  simp
def esT (h : List (Int × Ty)) : List (AV × AV) := h.map fun p => (.int .i64 p.1, encT p.2)
def tiK : TI := ⟨.int .i64, 1, 8, .int .i64 0, [.int .i64]⟩
def tiT : TI := ⟨.strct [(0, 3), (1, 3), (2, 9), (3, 22)], 4, 56, .agg [.int .i64 0, .int .i64 0, .str [], .nil], []⟩
theorem find_esT (m : Int) (u : Ty) : ∀ (h : List (Int × Ty)) (q : Nat), (find h m = none ∧ findIdx tiK (.int .i64 m) q (esT h) = some none ∧ esT (put h m u) = esT h ++ [(.int .i64 m, encT u)]) ∨
    (∃ w j, find h m = some w ∧ findIdx tiK (.int .i64 m) q (esT h) = some (some (q + j, encT w)) ∧ esT (put h m u) = (esT h).set j (.int .i64 m, encT u))
  | [], q => .inl ⟨rfl, rfl, rfl⟩
  | (a, w) :: h, q => by
    have he : eqA tiK.eqk (.int .i64 m) (.int .i64 a) = some (m == a) := by
      simp [tiK, eqA, eqLeaves, eqLeaf]
    have hf : (AV.int .i64 a).fits tiK = true := by simp [tiK]
    have e0 : esT ((a, w) :: h) = (.int .i64 a, encT w) :: esT h := rfl
    by_cases e : m = a
    · right
      refine ⟨w, 0, by simp [find, e], ?_, by simp [put, e, esT]⟩
      rw [show (m == a) = true by simpa using e] at he
      rw [e0]
      simp only [findIdx, hf, he, if_true, Nat.add_zero]
    · rw [show (m == a) = false by simpa using e] at he
      have e1 : findIdx tiK (.int .i64 m) q (esT ((a, w) :: h)) = findIdx tiK (.int .i64 m) (q + 1) (esT h) := by
        rw [e0]
        simp only [findIdx, hf, he, if_true]
      have e2 : find ((a, w) :: h) m = find h m := by simp [find, e]
      have e3 : esT (put ((a, w) :: h) m u) = (.int .i64 a, encT w) :: esT (put h m u) := by simp [put, e, esT]
      rw [e1, e2, e3]
      rcases find_esT m u h (q + 1) with ⟨h1, h2, h3⟩ | ⟨w', j, h1, h2, h3⟩
      · exact .inl ⟨h1, h2, by rw [h3, e0]; rfl⟩
      · exact .inr ⟨w', j + 1, h1, by rw [h2]; congr 3; omega, by rw [h3, e0]; rfl⟩
theorem map96 : mapOf ctx 96 = some (tiK, tiT) := by rfl
theorem key96 (m : Int) : keyOk tiK (.int .i64 m) = true := by simp [keyOk, tiK]
theorem look96 (m : Int) (h : List (Int × Ty)) (σ : H) : lookupA ctx 96 (.map 0) (.int .i64 m) true (.map (esT h) :: σ) = some (match find h m with | some w => .tup [encT w, .bool true] | none => .tup [tiT.zero, .bool false], .map (esT h) :: σ) := by
  unfold lookupA
  rw [map96]
  rcases find_esT m noTy h 0 with ⟨h1, h2, _⟩ | ⟨w, j, h1, h2, _⟩
  · simp [key96, h1, h2, backA]
  · simp [key96, h1, h2, backA]
theorem up96 (m : Int) (u : Ty) (h : List (Int × Ty)) (σ : H) : updateA ctx 96 (.map 0) (.int .i64 m) (encT u) (.map (esT h) :: σ) = some ((), .map (esT (put h m u)) :: σ) := by
  have hf : (encT u).fits tiT = true := by
    obtain ⟨_, _, _, _, _⟩ := u
    simp [encT, tiT]
  unfold updateA
  rw [map96]
  rcases find_esT m u h 0 with ⟨h1, h2, h3⟩ | ⟨w, j, h1, h2, h3⟩
  · simp [key96, h2, h3, hf]
  · simp [key96, h2, h3, hf]
theorem put_ok (h : List (Int × Ty)) (n : Int) (u : Ty) (hh : ∀ p ∈ h, p.2.ok) (hu : u.ok) : ∀ p ∈ put h n u, p.2.ok := fun p hp => by
  rcases (put_mem h n u).2.1 p hp with h1 | h1
  · exact hh p h1
  · rw [h1]; exact hu
def okB (x : Ty × Ty) : Prop := x.1.ok ∧ x.2.ok
theorem okB_zip : ∀ (ts us : List Ty), Ty.oks ts → Ty.oks us → ∀ x ∈ ts.zip us, okB x
  | [], us, _, _, x, hx => by simp at hx
  | _ :: _, [], _, _, x, hx => by simp at hx
  | t :: ts, u :: us, h1, h2, x, hx => by
    simp only [Ty.oks] at h1 h2
    simp only [List.zip_cons_cons] at hx
    rcases List.mem_cons.1 hx with rfl | hx
    · exact ⟨h1.1, h2.1⟩
    · exact okB_zip ts us h1.2 h2.2 x hx
theorem len_nodess : ∀ l : List Ty, l.length ≤ nodess l
  | [] => by simp [nodess]
  | t :: l => by have := len_nodess l; have := nodes_pos t; simp only [List.length_cons, nodess]; omega
theorem len_big' : ∀ l : List (Ty × Ty), l.length ≤ big' l
  | [] => by simp [big']
  | x :: l => by have := len_big' l; have := nodes_pos x.1; simp only [List.length_cons, big']; omega
set_option maxHeartbeats 8000000 in
theorem lp58_1 : ∀ (f : Nat) (st : List (Ty × Ty)) (h : List (Int × Ty)) (zs : List AV), big' st < f → f ≤ 2 ^ 20 → (∀ x ∈ st, okB x) → (∀ p ∈ h, p.2.ok) → zs.take st.length = encB2s st.reverse → st.length ≤ zs.length →
    ∃ e fr' σ', Lp ctx [15, 102] [] [5, 6] b58_1 ⟨[(5, .v (.map 0)), (6, .v (.hs 1 zs.length 0 st.length 8))], false⟩ [.map (esT h), .arr false 8 zs] e fr' σ' ∧
      fr'.lk = false ∧ cond (go f st h) (e = .ex 0 ∧ getS fr'.sl 4 = .u) (e = .ret ∧ getS fr'.sl 4 = .v (.bool false))
  | 0, st, h, zs, hf, _, _, _, _, _ => by omega
  | f + 1, [], h, zs, hf, _, _, _, hz, hl => by
    refine ⟨.ex 0, ?_, [.map (esT h), .arr false 8 zs], Lp.exit ⟨0, fun N _ => ?_⟩ (by simp), ?_⟩
    rotate_left
    · simp -implicitDefEqProofs [b58_1]
      rfl
    · simp [go]
  | f + 1, (t, u) :: st, h, zs, hf, hf2, hst, hh, hz, hl => by
    obtain ⟨t1, t2⟩ := top_of hz
    have hx := hst (t, u) (by simp)
    have hst' : ∀ x ∈ st, okB x := fun x hx => hst x (by simp [hx])
    have hl' : st.length < zs.length := by simp at hl; omega
    have hlb := len_big' ((t, u) :: st)
    simp only [List.length_cons] at hlb
    have hw : IntKind.i64.wrap ((st.length : Int)) = (st.length : Int) := wrap_i64 (by omega)
    have hw2 : ((st.length + 1 : Nat) : Int) - 1 = (st.length : Int) := by omega
    have hgt : ((st.length : Int) + 1) > 0 := by omega
    have hixs : idxN (st.length : Int) (st.length + 1) = some st.length := idx_pred
    have hbd := bounds_pred (n := st.length)
    simp only [big'] at hf
    have htn := nodes_pos t
    unfold go
    by_cases hv : isVar t = true
    · rw [if_pos hv]
      have lk := look96 (num t) h [.arr false 8 zs]
      have up := up96 (num t) u h [.arr false 8 zs]
      cases hfd : find h (num t) with
      | none =>
        rw [hfd] at lk
        simp only at lk
        obtain ⟨e, fr', σ', l1, l2, l3⟩ := lp58_1 f st (put h (num t) u) zs (by omega) (by omega) hst' (put_ok h _ u hh hx.2) t2 (by omega)
        refine ⟨e, fr', σ', Lp.step ⟨0, fun N hN => ?_⟩ l1, l2, l3⟩
        clear l1 l2 l3
        obtain ⟨k, n, s, nl, ks⟩ := t
        obtain ⟨k', n', s', nl', ks'⟩ := u
        have hk : k = 1 := by simpa [isVar] using hv
        simp only [num, encT, encB2] at *
        generalize esT h = E at *
        simp -implicitDefEqProofs [b58_1, ↓t1, hgt, hw, hw2, hixs, hbd, hl', hk, lk, up, tiT]
      | some w =>
        rw [hfd] at lk
        simp only at lk ⊢
        obtain ⟨kq, hq⟩ := same13_ans w u (hh _ (find_mem h _ w hfd))
        by_cases hs : w.same u = true
        · rw [if_pos hs]
          rw [hs] at hq
          obtain ⟨e, fr', σ', l1, l2, l3⟩ := lp58_1 f st (put h (num t) u) zs (by omega) (by omega) hst' (put_ok h _ u hh hx.2) t2 (by omega)
          refine ⟨e, fr', σ', Lp.step ⟨kq, fun N hN => ?_⟩ l1, l2, l3⟩
          have hq := hq N hN
          clear l1 l2 l3
          obtain ⟨k, n, s, nl, ks⟩ := t
          obtain ⟨k', n', s', nl', ks'⟩ := u
          obtain ⟨k2, n2, s2, nl2, ks2⟩ := w
          have hk : k = 1 := by simpa [isVar] using hv
          simp only [num, encT, encB2] at *
          generalize esT h = E at *
          simp -implicitDefEqProofs [b58_1, ↓t1, hgt, hw, hw2, hixs, hbd, hl', hk, lk, up, hq]
        · rw [if_neg hs]
          have hs : w.same u = false := by simpa using hs
          rw [hs] at hq
          obtain ⟨k, n, s, nl, ks⟩ := t
          obtain ⟨k', n', s', nl', ks'⟩ := u
          obtain ⟨k2, n2, s2, nl2, ks2⟩ := w
          have hk : k = 1 := by simpa [isVar] using hv
          simp only [num, encT, encB2] at *
          clear up
          generalize esT h = E at *
          refine ⟨.ret, ?_, [.map E, .arr false 8 zs], Lp.exit ⟨kq, fun N hN => ?_⟩ (by simp), ?_⟩
          rotate_left
          · have hq := hq N hN
            simp -implicitDefEqProofs [b58_1, ↓t1, hgt, hw, hw2, hixs, hbd, hl', hk, lk, hq]
            rfl
          · simp
    · rw [if_neg hv]
      have hv : isVar t = false := by simpa using hv
      obtain ⟨k, n, s, nl, ks⟩ := t
      obtain ⟨k', n', s', nl', ks'⟩ := u
      have hk : (k == 1) = false := hv
      have hke : kids (.mk k n s nl ks) = ks := rfl
      have hke' : kids (.mk k' n' s' nl' ks') = ks' := rfl
      simp only [encB2] at t1
      cases hu : unlike (.mk k n s nl ks) (.mk k' n' s' nl' ks') with
      | true =>
        simp only [if_true]
        generalize esT h = E at *
        unfold unlike at hu
        by_cases h1 : k' = 2
        · by_cases h2 : s = s'
          · have h3 : ks.length ≠ ks'.length := by simpa [h1, h2] using hu
            have h3' : ((ks.length : Int) == (ks'.length : Int)) = false := by simp; omega
            refine ⟨.ret, ?_, [.map E, .arr false 8 zs], Lp.exit ⟨0, fun N hN => ?_⟩ (by simp), ?_⟩
            rotate_left
            · simp -implicitDefEqProofs [b58_1, ↓t1, hgt, hw, hw2, hixs, hbd, hl', hk, h1, h2, h3', bne]
              rfl
            · simp
          · have h2'' : (s == s') = false := by simpa using h2
            refine ⟨.ret, ?_, [.map E, .arr false 8 zs], Lp.exit ⟨0, fun N hN => ?_⟩ (by simp), ?_⟩
            rotate_left
            · simp -implicitDefEqProofs [b58_1, ↓t1, hgt, hw, hw2, hixs, hbd, hl', hk, h1, h2'', bne]
              rfl
            · simp
        · have h1' : (k' == 2) = false := by simpa using h1
          refine ⟨.ret, ?_, [.map E, .arr false 8 zs], Lp.exit ⟨0, fun N hN => ?_⟩ (by simp), ?_⟩
          rotate_left
          · simp -implicitDefEqProofs [b58_1, ↓t1, hgt, hw, hw2, hixs, hbd, hl', hk, h1', bne]
            rfl
          · simp
      | false =>
        simp only [Bool.false_eq_true, if_false, hke, hke']
        simp [unlike] at hu
        obtain ⟨h1, h2, h3⟩ := hu
        have ho1 := hx.1
        have ho2 := hx.2
        simp only [Ty.ok] at ho1 ho2
        simp only [nodes] at hf
        have hln := len_nodess ks
        have hlb2 := len_big' st
        obtain ⟨fr1, zs1, a1, a2, a3, a4, a5, a6⟩ := lp58_0 (esT h) (.int .i64 k) (.int .i64 n) (.str s) (.int .i64 k') (.int .i64 n') (.str s') (encTs ks) (encTs ks') nl nl' (by simp; omega) ks ks' 0 st zs (Tail.all _) (Tail.all _) h3 t2 (by omega) (by omega)
        obtain ⟨kq, hq⟩ := a1.den
        have hb : big' ((ks.zip ks').reverse ++ st) = nodess ks + big' st := by rw [big'_append, big'_rev, big'_zip ks _ h3]
        obtain ⟨e, fr', σ', l1, l2, l3⟩ := lp58_1 f ((ks.zip ks').reverse ++ st) h zs1 (by omega) (by omega) (fun x hx => by
          rcases List.mem_append.1 hx with hx | hx
          · exact okB_zip ks ks' ho1.2.2 ho2.2.2 x (by simpa using hx)
          · exact hst' x hx) hh a3 a4
        refine ⟨e, fr', σ', Lp.step ⟨kq, fun N hN => ?_⟩ l1, l2, l3⟩
        have hq := hq N hN
        clear l1 l2 l3
        generalize esT h = E at *
        generalize ((ks.zip ks').reverse ++ st).length = M at *
        simp -implicitDefEqProofs [b58_1, ↓t1, hgt, hw, hw2, hixs, hbd, hl', hk, h1, h2, h3, hq, a2, a5, a6]
theorem match_ans (t u : Ty) (ht : t.ok) (hu : u.ok) (hn : nodes t ≤ 2 ^ 19) : Ans ctx 58 [encT t, encT u] (.bool (go (nodes t + 1) [(t, u)] [])) := by
  obtain ⟨e, fr', σ', l1, l2, l3⟩ := lp58_1 (nodes t + 1) [(t, u)] [] [encB2 (t, u)] (by simp [big']) (by omega) (fun x hx => by simp at hx; subst hx; exact ⟨ht, hu⟩) (fun p hp => by simp at hp) (by simp [encB2s]) (by simp)
  obtain ⟨q, hq⟩ := l1.den
  obtain ⟨k, n, s, nl, ks⟩ := t
  obtain ⟨k', n', s', nl', ks'⟩ := u
  simp only [esT, List.map_nil, List.length_cons, List.length_nil, encB2] at hq
  generalize go (nodes (.mk k n s nl ks) + 1) [(.mk k n s nl ks, .mk k' n' s' nl' ks')] [] = r at *
  refine Ans.of (σ' := σ') fn58_ (by simp [encT]) (by simp [encT]) ⟨q, fun N hN => ?_⟩
  have hq := hq N hN
  cases r with
  | false =>
    simp only [cond_false] at l3
    obtain ⟨rfl, l4⟩ := l3
    simp -implicitDefEqProofs [i58, c58, encT, hq, l2, l4]
  | true =>
    simp only [cond_true] at l3
    obtain ⟨rfl, l4⟩ := l3
    simp -implicitDefEqProofs [i58, c58, encT, hq, l2, l4]
end Go.Am.Tryd
