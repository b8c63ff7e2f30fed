/- Layer 17: rows of numbers; the reference's variables. -/
import Derived.Test.YtmhggdoanajboaaDoorLe
import Derived.Test.YtmhggdoanajboaaDoorLf
set_option maxRecDepth 100000
set_option linter.unusedSimpArgs false
namespace Go.Am.Tryd
open Go
def encI (l : List Nat) : List AV := l.map fun n : Nat => AV.int .i64 ((n : Nat) : Int)
@[simp] theorem encI_length (l : List Nat) : (encI l).length = l.length := by simp [encI]
@[simp] theorem encI_nil : encI [] = [] := rfl
@[simp] theorem encI_cons (n : Nat) (l : List Nat) : encI (n :: l) = .int .i64 n :: encI l := by simp [encI]
theorem encI_append (l m : List Nat) : encI (l ++ m) = encI l ++ encI m := by simp [encI]
@[simp] theorem noRefs_encI : ∀ l, AV.noRefs (encI l) = true
  | [] => by simp
  | n :: l => by simp [noRefs_encI l]
theorem nat_eq' (n k : Nat) : ((n : Int) == (k : Int)) = (n == k) := by
  by_cases h : n = k
  · simp [h]
  · have : (n == k) = false := by simpa using h
    rw [this]
    simp only [beq_eq_false_iff_ne, ne_eq]
    omega
theorem lp18 (xs ys : List AV) (n1 n2 : Bool) (hb : xs.length < big) : ∀ (r1 r2 : List Nat) (i : Nat), Tail xs i (encI r1) → Tail ys i (encI r2) → r1.length = r2.length →
    ∃ e fr', Lp ctx [] [] [0, 1, 5] b14_0 ⟨[(0, .v (encR 1 n1 xs)), (1, .v (encR 1 n2 ys)), (5, .v (.int .i64 i))], false⟩ [] e fr' [] ∧
      fr'.lk = false ∧ cond (r1 == r2) (e = .ex 0 ∧ getS fr'.sl 4 = .u) (e = .ret ∧ getS fr'.sl 4 = .v (.bool false))
  | [], [], i, h1, h2, _ => by
    have h1 := h1.nil
    refine ⟨.ex 0, ?_, Lp.exit ⟨0, fun N _ => ?_⟩ (by simp), ?_⟩
    rotate_left
    · simp [b14_0, h1]
      rfl
    · simp
  | a :: r1, b :: r2, i, h1, h2, hr => by
    simp only [encI_cons] at h1 h2
    have hl := h1.len
    obtain ⟨g1, g2, g3, g4, g5⟩ := h1.cons
    obtain ⟨k1, k2, k3, k4, k5⟩ := h2.cons
    have hw := wrap_succ (n := i) (by simp at hl; omega)
    have he := nat_eq' a b
    cases hab : a == b with
    | false =>
      rw [hab] at he
      have he' : ((a : Int) != (b : Int)) = true := by simp only [bne, he]; rfl
      refine ⟨.ret, ?_, Lp.exit ⟨0, fun N hN => ?_⟩ (by simp), ?_⟩
      rotate_left
      · simp [b14_0, g1, g2, g3, g5, k1, k2, k3, k5, he, he']
        rfl
      · have : ((a :: r1) == (b :: r2)) = false := by
          show ((a == b) && (r1 == r2)) = false
          rw [hab]; rfl
        rw [this]
        simp
    | true =>
      rw [hab] at he
      have he' : ((a : Int) != (b : Int)) = false := by simp only [bne, he]; rfl
      obtain ⟨e, fr', h1, h2, h3⟩ := lp18 xs ys n1 n2 hb r1 r2 (i + 1) g4 k4 (by simpa using hr)
      have : ((a :: r1) == (b :: r2)) = (r1 == r2) := by
        show ((a == b) && (r1 == r2)) = _
        rw [hab]; rfl
      rw [this]
      refine ⟨e, fr', Lp.step ⟨0, fun N hN => ?_⟩ h1, h2, h3⟩
      simp [b14_0, g1, g2, g3, g5, k1, k2, k3, k5, he, he', hw]
  | [], _ :: _, _, _, _, h => by simp at h
  | _ :: _, [], _, _, _, h => by simp at h
theorem ints_ans (l : List Nat) (n1 n2 : Bool) (hb : l.length < big) : Ans ctx 14 [encR 1 n1 (encI l), encR 1 n2 (encI l)] (.bool true) := by
  obtain ⟨e, fr', h1, h2, h3⟩ := lp18 (encI l) (encI l) n1 n2 (by simpa using hb) l l 0 (Tail.all _) (Tail.all _) rfl
  obtain ⟨k, hk⟩ := h1.den
  rw [show (l == l) = true by simp] at h3
  obtain ⟨rfl, h4⟩ := h3
  refine Ans.of (σ' := []) fn14_ (by simp) (by simp) ⟨k, fun N hN => ?_⟩
  simp [i14, c14, hk N hN, h2, h4]
def placeN : List Nat → Nat → Nat → Int
  | [], _, _ => -1
  | a :: l, n, i => if a = n then (i : Int) else placeN l n (i + 1)
theorem lp51 (xs : List AV) (nl : Bool) (hb : xs.length < big) (n : Nat) : ∀ (r : List Nat) (i : Nat), Tail xs i (encI r) →
    ∃ e fr', Lp ctx [] [] [0, 1, 5] b65_0 ⟨[(0, .v (encR 1 nl xs)), (1, .v (.int .i64 n)), (5, .v (.int .i64 i))], false⟩ [] e fr' [] ∧
      fr'.lk = false ∧ ((e = .ex 0 ∧ getS fr'.sl 4 = .u ∧ placeN r n i = -1) ∨ (e = .ret ∧ getS fr'.sl 4 = .v (.int .i64 (placeN r n i))))
  | [], i, h1 => by
    have h1 := h1.nil
    refine ⟨.ex 0, ?_, Lp.exit ⟨0, fun N _ => ?_⟩ (by simp), ?_⟩
    rotate_left
    · simp [b65_0, h1]
      rfl
    · simp [placeN]
  | a :: r, i, h1 => by
    simp only [encI_cons] at h1
    have hl := h1.len
    obtain ⟨g1, g2, g3, g4, g5⟩ := h1.cons
    have hw := wrap_succ (n := i) (by simp at hl; omega)
    have he := nat_eq' a n
    by_cases han : a = n
    · rw [show (a == n) = true by simpa using han] at he
      refine ⟨.ret, ?_, Lp.exit ⟨0, fun N hN => ?_⟩ (by simp), ?_⟩
      rotate_left
      · simp [b65_0, g1, g2, g3, g5, he]
        rfl
      · simp [placeN, han]
    · rw [show (a == n) = false by simpa using han] at he
      obtain ⟨e, fr', q1, q2⟩ := lp51 xs nl hb n r (i + 1) g4
      have : placeN (a :: r) n i = placeN r n (i + 1) := by simp [placeN, han]
      rw [this]
      refine ⟨e, fr', Lp.step ⟨0, fun N hN => ?_⟩ q1, q2⟩
      simp [b65_0, g1, g2, g3, g5, he, hw]
theorem place_ans (l : List Nat) (nl : Bool) (hb : l.length < big) (n : Nat) : Ans ctx 65 [encR 1 nl (encI l), .int .i64 n] (.int .i64 (placeN l n 0)) := by
  obtain ⟨e, fr', h1, h2, h3⟩ := lp51 (encI l) nl (by simpa using hb) n l 0 (Tail.all _)
  obtain ⟨k, hk⟩ := h1.den
  rcases h3 with ⟨rfl, h4, h5⟩ | ⟨rfl, h4⟩
  · rw [h5]
    refine Ans.of (σ' := []) fn65_ (by simp) (by simp) ⟨k, fun N hN => ?_⟩
    simp [i65, c65, hk N hN, h2, h4]
  · refine Ans.of (σ' := []) fn65_ (by simp) (by simp) ⟨k, fun N hN => ?_⟩
    simp [i65, c65, hk N hN, h2, h4]
theorem placeN_iff : ∀ (l : List Nat) (n i : Nat), (placeN l n i < 0) ↔ n ∉ l
  | [], n, i => by simp [placeN]
  | a :: l, n, i => by
    by_cases h : a = n
    · subst h
      simp [placeN]
    · have := placeN_iff l n (i + 1)
      simp only [placeN, if_neg h, this, List.mem_cons, not_or]
      exact ⟨fun h' => ⟨fun e => h e.symm, h'⟩, fun h' => h'.2⟩
mutual
def varsT (out : List Nat) : Ty → List Nat
  | .mk k n _ _ ks => if k = 1 then (if n.toNat ∈ out then out else out ++ [n.toNat]) else varsTs out ks
def varsTs (out : List Nat) : List Ty → List Nat
  | [] => out
  | t :: l => varsTs (varsT out t) l
end
mutual
def vok : Ty → Prop
  | .mk k n _ _ ks => (k = 1 → 0 ≤ n ∧ ks = []) ∧ voks ks
def voks : List Ty → Prop
  | [] => True
  | t :: l => vok t ∧ voks l
end
mutual
def nds : Ty → Nat
  | .mk _ _ _ _ ks => ndss ks + 1
def ndss : List Ty → Nat
  | [] => 0
  | t :: l => nds t + ndss l
end
mutual
theorem varsT_len : ∀ (t : Ty) (out : List Nat), out.length ≤ (varsT out t).length ∧ (varsT out t).length ≤ out.length + nds t
  | .mk k n s nl ks, out => by
    simp only [varsT, nds]
    split
    · split
      · omega
      · simp
    · have := varsTs_len ks out
      omega
theorem varsTs_len : ∀ (l : List Ty) (out : List Nat), out.length ≤ (varsTs out l).length ∧ (varsTs out l).length ≤ out.length + ndss l
  | [], out => by simp [varsTs, ndss]
  | t :: l, out => by
    simp only [varsTs, ndss]
    have h1 := varsT_len t out
    have h2 := varsTs_len l (varsT out t)
    omega
end
theorem elemsM_encR {te : TI} {sz : Nat} (h : sz = te.size) (nl : Bool) (l : List AV) (σ : H) : elemsM te (encR sz nl l) σ = some (l, σ) := by
  subst h
  cases nl <;> cases l <;> simp [elemsM, encR]
theorem fitAll_encI (te : TI) (h1 : te.k.isAgg = false) (h2 : te.size = 1) : ∀ l, fitAll te (encI l) = true
  | [] => rfl
  | n :: l => by
    simp only [encI_cons, fitAll, fits_int, h1, h2, fitAll_encI te h1 h2 l]
    rfl
theorem snap_encI (σ : H) (n : Nat) (h : 0 < n) : ∀ l : List Nat, mapO2 (snapA σ n) (encI l) = some (encI l, [])
  | [] => by simp [mapO2]
  | t :: l => by
    have h1 : snapA σ n (.int .i64 (t : Int)) = some (.int .i64 (t : Int), []) := by
      obtain ⟨n, rfl⟩ : ∃ m, n = m + 1 := ⟨n - 1, by omega⟩
      unfold snapA
      rw [if_pos (by simp)]
    simp [mapO2, snap_encI σ n h l, h1]
theorem snap_hsI (σ : H) (r : Nat) (fz : Bool) (l : List Nat) (M : Nat) (h : σ[r]? = some (.arr fz 1 (encI l))) (hM : l.length = M) : snapA σ 200 (.hs r M 0 M 1) = some (.sl 1 (encI l), [r]) := by
  unfold snapA
  rw [if_neg (by simp)]
  have := snap_encI σ 199 (by omega) l
  have ht : (encI l).take M = encI l := by rw [← hM, ← encI_length l, List.take_length]
  simp [h, hM, ht, this]
theorem lp38 (K N0 S : AV) (xs : List AV) (nk nl : Bool) (hb : xs.length < big) : ∀ (rest : List Ty) (i : Nat) (out : List Nat), Tail xs i (encTs rest) → out.length + ndss rest < 2 ^ 40 → (∀ a ∈ rest, ∀ out : List Nat, out.length + nds a < 2 ^ 40 → Ans ctx 43 [encR 1 nl (encI out), encT a] (encR 1 nl (encI (varsT out a)))) →
    ∃ fr', Lp ctx [16, 18, 22] [] [0, 3, 5] b43_0 ⟨[(0, .v (encR 1 nl (encI out))), (3, .bx (.agg [K, N0, S, encR 4 nk xs])), (5, .v (.int .i64 i))], false⟩ [] (.ex 0) fr' [] ∧
      fr'.lk = false ∧ getS fr'.sl 0 = .v (encR 1 nl (encI (varsTs out rest))) ∧ getS fr'.sl 37 = .u ∧ getS fr'.sl 4 = .u
  | [], i, out, h1, _, _ => by
    have h1 := h1.nil
    refine ⟨?_, Lp.exit ⟨0, fun N _ => ?_⟩ (by simp), ?_⟩
    rotate_left
    · simp [b43_0, h1]
      rfl
    · simp [varsTs]
  | a :: r, i, out, h1, hl, ha => by
    simp only [encTs_cons] at h1
    have hlen := h1.len
    obtain ⟨g1, g2, g3, g4, g5⟩ := h1.cons
    have hw := wrap_succ (n := i) (by simp at hlen; omega)
    simp only [ndss] at hl
    have hv := varsT_len a out
    obtain ⟨k, hk⟩ := ha a (by simp) out (by omega)
    obtain ⟨fr', q1, q2⟩ := lp38 K N0 S xs nk nl hb r (i + 1) (varsT out a) g4 (by omega) (fun x hx => ha x (by simp [hx]))
    refine ⟨fr', Lp.step ⟨k, fun N hN => ?_⟩ q1, q2⟩
    have hk := hk N hN
    generalize encR 1 nl (encI (varsT out a)) = R at *
    generalize encR 1 nl (encI out) = Q at *
    simp [b43_0, g1, g2, g3, g5, hk, hw]
mutual
theorem vars15_ans : ∀ (t : Ty), t.ok → vok t → ∀ (nl : Bool) (out : List Nat), out.length + nds t < 2 ^ 40 → Ans ctx 43 [encR 1 nl (encI out), encT t] (encR 1 nl (encI (varsT out t)))
  | .mk k n s nk ks, ho, hv, nl, out, hl => by
    simp only [Ty.ok] at ho
    simp only [vok] at hv
    simp only [nds] at hl
    by_cases hk : k = 1
    · obtain ⟨h0, rfl⟩ := hv.1 hk
      obtain ⟨m, rfl⟩ : ∃ m : Nat, n = m := ⟨n.toNat, by omega⟩
      obtain ⟨q, hq⟩ := place_ans out nl (by unfold big; omega) m
      have hpi := placeN_iff out m 0
      by_cases hm : m ∈ out
      · have hp : ¬ placeN out m 0 < 0 := fun h => (hpi.1 h) hm
        obtain ⟨fr', h1, h2, h3, h4, h5⟩ := lp38 (.int .i64 1) (.int .i64 m) (.str s) [] nk nl (by simp [big]) [] 0 out (Tail.all _) (by simp [ndss]; omega) (by simp)
        obtain ⟨q2, hq2⟩ := h1.den
        simp only [varsTs] at h3
        rw [show varsT out (.mk k m s nk []) = out by simp [varsT, hk, hm]]
        refine Ans.of (σ' := []) fn43_ (by simp) (by simp) ⟨q + q2, fun N hN => ?_⟩
        have hq := hq N (by omega)
        have hq2 := hq2 N (by omega)
        have hQ : ∀ ti : TI, (encR 1 nl (encI out)).fits ti = (!ti.k.isAgg && ti.size == 1) := by simp
        generalize encR 1 nl (encI out) = Q at *
        generalize placeN out m 0 = pl at *
        simp [i43, c43, encT, hk, hq, hq2, hp, h2, h3, h4, h5]
      · have hp : placeN out m 0 < 0 := hpi.2 hm
        rw [show varsT out (.mk k m s nk []) = out ++ [m] by simp [varsT, hk, hm]]
        rw [show encR 1 nl (encI (out ++ [m])) = .sl 1 (encI (out ++ [m])) by rw [encI_append]; simp]
        obtain ⟨L, hL⟩ : ∃ L, L = out.length := ⟨_, rfl⟩
        obtain ⟨fr', h1, h2, h3, h4, h5⟩ : ∃ fr', Lp ctx [16, 18, 22] [] [0, 3, 5] b43_0 ⟨[(0, .v (.hs 0 (L + 1) 0 (L + 1) 1)), (3, .bx (.agg [.int .i64 1, .int .i64 m, .str s, encR 4 nk []])), (5, .v (.int .i64 0))], false⟩ [.arr false 1 (encI (out ++ [m]))] (.ex 0) fr' [.arr false 1 (encI (out ++ [m]))] ∧ fr'.lk = false ∧ getS fr'.sl 0 = .v (.hs 0 (L + 1) 0 (L + 1) 1) ∧ getS fr'.sl 37 = .u ∧ getS fr'.sl 4 = .u := by
          refine ⟨?_, Lp.exit ⟨0, fun N _ => ?_⟩ (by simp), ?_⟩
          rotate_left
          · simp [b43_0]
            rfl
          · simp
        obtain ⟨q2, hq2⟩ := h1.den
        refine Ans.fn (rs := []) fn43_ (by simp) ⟨q + q2, fun N hN => ?_⟩ (snap_hsI [.arr false 1 (encI (out ++ [m]))] 0 false (out ++ [m]) (L + 1) rfl (by simp [hL]))
        have hq := hq N (by omega)
        have hq2 := hq2 N (by omega)
        have hQ : ∀ ti : TI, (encR 1 nl (encI out)).fits ti = (!ti.k.isAgg && ti.size == 1) := by simp
        have hE := elemsM_encR (te := ⟨.int .i64, 1, 8, .int .i64 0, [.int .i64]⟩) (sz := 1) rfl nl (encI out)
        have hE2 : ∀ σ : H, elemsM ⟨.int .i64, 1, 8, .int .i64 0, [.int .i64]⟩ (.sl 1 [.int .i64 (m : Int)]) σ = some ([.int .i64 (m : Int)], σ) := fun σ => rfl
        have hF := fitAll_encI ⟨.int .i64, 1, 8, .int .i64 0, [.int .i64]⟩ rfl rfl out
        have hll : (encI out).length = L := by simp [hL]
        rw [encI_append] at hq2 ⊢
        simp only [encI_cons, encI_nil] at hq2 ⊢
        generalize placeN out m 0 = pl at *
        generalize hQd : encR 1 nl (encI out) = Q at *
        by_cases hL0 : L = 0
        · have ho0 : encI out = [] := List.length_eq_zero_iff.1 (by omega)
          rw [ho0] at hE hF hq2 ⊢
          subst hL0
          simp only [Nat.zero_add, List.nil_append] at hq2 h3 ⊢
          simp [i43, c43, encT, hk, hq, hq2, hp, hE, hE2, h2, h3, h4, h5, -elemsM]
        · have c1 : ¬ L ≤ 0 := by omega
          have c2 : L * 8 ≤ 35184372088832 := by omega
          have c3 : L ≤ 35184372088832 := by omega
          have c4 : (L + 1) * 8 ≤ 35184372088832 := by omega
          have c5 : L + 1 ≤ 35184372088832 := by omega
          have c6 : L ≤ 35184372088831 := by omega
          have c7 : ¬ L + 1 ≤ L := by omega
          have ht : (encI out).take L = encI out := by rw [← hll, List.take_length]
          generalize encI out = X at *
          have cx : ¬ X = [] := by intro e; rw [e] at hll; simp at hll; omega
          simp [i43, c43, encT, hk, hq, hq2, hp, hE, hE2, hF, hll, ht, c1, c2, c3, c4, c5, c6, c7, hL0, cx, h2, h3, h4, h5, -elemsM]
    · have hk' : (k == 1) = false := by simpa using hk
      obtain ⟨fr', h1, h2, h3, h4, h5⟩ := lp38 (.int .i64 k) (.int .i64 n) (.str s) (encTs ks) nk nl (by simpa using ho.2.1) ks 0 out (Tail.all _) (by omega) (fun a ha out hl => vars15_all ks ho.2.2 hv.2 a ha nl out hl)
      obtain ⟨q, hq⟩ := h1.den
      rw [show varsT out (.mk k n s nk ks) = varsTs out ks by simp [varsT, hk]]
      refine Ans.of (σ' := []) fn43_ (by simp) (by simp) ⟨q, fun N hN => ?_⟩
      have hq := hq N hN
      generalize encR 1 nl (encI (varsTs out ks)) = R at *
      generalize encR 1 nl (encI out) = Q at *
      simp [i43, c43, encT, hk', hq, h2, h3, h4, h5]
theorem vars15_all : ∀ (l : List Ty), Ty.oks l → voks l → ∀ a ∈ l, ∀ (nl : Bool) (out : List Nat), out.length + nds a < 2 ^ 40 → Ans ctx 43 [encR 1 nl (encI out), encT a] (encR 1 nl (encI (varsT out a)))
  | [], _, _, a, ha => by simp at ha
  | t :: l, ho, hv, a, ha => by
    simp only [Ty.oks] at ho
    simp only [voks] at hv
    rcases List.mem_cons.1 ha with h | ha
    · rw [h]; exact vars15_ans t ho.1 hv.1
    · exact vars15_all l ho.2 hv.2 a ha
end
theorem turnedTs_map' (d : Int → Option Ty) : ∀ l, turnedTs d l = l.map (turnedT d)
  | [] => rfl
  | t :: l => by simp [turnedTs, turnedTs_map' d l]
theorem Vars15_ans (t : Ty) (ho : t.ok) (hv : vok t) (hl : nds t < 2 ^ 40) : Ans ctx 16 [encT t] (encR 1 true (encI (varsT [] t))) := by
  obtain ⟨k, hk⟩ := vars15_ans t ho hv true [] (by simpa using hl)
  have hk : ∀ N, k ≤ N → ∀ σ, acall ctx N 43 [.nil, encT t] σ = some (encR 1 true (encI (varsT [] t)), σ) := hk
  refine Ans.of (σ' := []) fn16_ (by simp) (by simp) ⟨k, fun N hN => ?_⟩
  have hk := hk N hN
  generalize encR 1 true (encI (varsT [] t)) = R at *
  simp [i16, c16, hk]
theorem lp21 (A1 K N0 S : AV) (F : Ty → Ty) (xs : List AV) (nk : Bool) (hb : xs.length < 2 ^ 39) : ∀ (rest : List Ty) (i : Nat) (done : List AV), Tail xs i (encTs rest) → done.length = i → 1 ≤ i → (∀ a ∈ rest, Ans ctx 13 [encT a, A1] (encT (F a))) →
    ∃ fr', Lp ctx [50] [] [1, 2, 4, 5, 6] b13_0 ⟨[(1, .v A1), (2, .bx (.agg [K, N0, S, encR 4 nk xs])), (4, .bx (.agg [.int .i64 0, .int .i64 0, .str [], .nil])), (5, .bx (.agg [K, N0, S, .hs 0 i 0 i 4])), (6, .v (.int .i64 i))], false⟩ [.arr false 4 done] (.ex 0) fr' [.arr false 4 (done ++ encTs (rest.map F))] ∧
      fr'.lk = false ∧ getS fr'.sl 5 = .bx (.agg [K, N0, S, .hs 0 xs.length 0 xs.length 4]) ∧ getS fr'.sl 4 = .bx (.agg [.int .i64 0, .int .i64 0, .str [], .nil]) ∧ getS fr'.sl 52 = .u
  | [], i, done, h1, hd, _, _ => by
    have h1 := h1.nil
    refine ⟨?_, Lp.exit ⟨0, fun N _ => ?_⟩ (by simp), ?_⟩
    rotate_left
    · simp [b13_0, h1]
      rfl
    · simp [h1]
  | a :: r, i, done, h1, hd, hi, ha => by
    simp only [encTs_cons] at h1
    have hlen := h1.len
    obtain ⟨g1, g2, g3, g4, g5⟩ := h1.cons
    have hw := wrap_succ (n := i) (by unfold big; simp at hlen; omega)
    obtain ⟨k, hk⟩ := ha a (by simp)
    obtain ⟨fr', q1, q2⟩ := lp21 A1 K N0 S F xs nk hb r (i + 1) (done ++ [encT (F a)]) g4 (by simp [hd]) (by omega) (fun x hx => ha x (by simp [hx]))
    simp only [List.append_assoc, List.singleton_append] at q1
    simp only [List.map_cons, encTs_cons]
    have ht : done.take i = done := by rw [← hd, List.take_length]
    have hi39 : i < 2 ^ 39 := by simp at hlen; omega
    have c1 : (i + 1) * 56 ≤ 35184372088832 := by omega
    have c2 : i + 1 ≤ 35184372088832 := by omega
    have c3 : i ≤ 35184372088831 := by omega
    have c4 : ¬ i + 1 ≤ i := by omega
    refine ⟨fr', Lp.step ⟨k, fun N hN => ?_⟩ q1, q2⟩
    simp [b13_0, g1, g2, g3, g5, hk N hN, hw, hd, ht, c1, c2, c3, c4]
theorem lp21' (A1 : AV) (k n : Int) (s : List UInt8) (F : Ty → Ty) (ks : List Ty) (nk : Bool) (hb : ks.length < 2 ^ 39) (ha : ∀ a ∈ ks, Ans ctx 13 [encT a, A1] (encT (F a))) :
    ∃ fr' σ' r, Lp ctx [50] [] [1, 2, 4, 5, 6] b13_0 ⟨[(1, .v A1), (2, .bx (.agg [.int .i64 k, .int .i64 n, .str s, encR 4 nk (encTs ks)])), (4, .bx (.agg [.int .i64 0, .int .i64 0, .str [], .nil])), (5, .bx (.agg [.int .i64 k, .int .i64 n, .str s, .nil])), (6, .v (.int .i64 0))], false⟩ [] (.ex 0) fr' σ' ∧
      fr'.lk = false ∧ getS fr'.sl 5 = .bx (.agg r) ∧ r.length = 4 ∧ getS fr'.sl 4 = .bx (.agg [.int .i64 0, .int .i64 0, .str [], .nil]) ∧ getS fr'.sl 52 = .u ∧ ∃ ns, snapA σ' 200 (.agg r) = some (encT (.mk k n s true (ks.map F)), ns) := by
  cases ks with
  | nil =>
    refine ⟨?_, [], [.int .i64 k, .int .i64 n, .str s, .nil], Lp.exit ⟨0, fun N _ => ?_⟩ (by simp), ?_⟩
    rotate_left
    · simp [b13_0]
      rfl
    · refine ⟨rfl, by simp, rfl, by simp, by simp, [], ?_⟩
      unfold snapA
      rw [if_pos (by simp)]
      simp [encT]
  | cons a r =>
    obtain ⟨q, hq⟩ := ha a (by simp)
    obtain ⟨g1, g2, g3, g4, g5⟩ := (Tail.all (encTs (a :: r))).cons
    obtain ⟨fr', q1, q2, q3, q4, q5⟩ := lp21 A1 (.int .i64 k) (.int .i64 n) (.str s) F (encTs (a :: r)) nk (by simpa using hb) r 1 [encT (F a)] g4 rfl (by omega) (fun x hx => ha x (by simp [hx]))
    have w1 : IntKind.i64.wrap 1 = 1 := by decide
    refine ⟨fr', _, [.int .i64 k, .int .i64 n, .str s, .hs 0 (a :: r).length 0 (a :: r).length 4], Lp.step ⟨q, fun N hN => ?_⟩ q1, q2, by simpa using q3, rfl, q4, q5, [0], ?_⟩
    · have hlt : (0 : Int) < (r.length : Int) + 1 := by omega
      simp [b13_0, hq N hN, w1, hlt]
    · exact snap_kids k n s ((a :: r).map F) (by simp) _ (by simp)
theorem lp40 (A1 K N0 S : AV) (F : Ty → Ty) (xs : List AV) (nk : Bool) (hb : xs.length < 2 ^ 39) : ∀ (rest : List Ty) (i : Nat) (done : List AV), Tail xs i (encTs rest) → done.length = i → 1 ≤ i → (∀ a ∈ rest, Ans ctx 48 [encT a, A1] (encT (F a))) →
    ∃ fr', Lp ctx [39] [] [1, 2, 4, 5, 6] b48_0 ⟨[(1, .v A1), (2, .bx (.agg [K, N0, S, encR 4 nk xs])), (4, .bx (.agg [.int .i64 0, .int .i64 0, .str [], .nil])), (5, .bx (.agg [K, N0, S, .hs 0 i 0 i 4])), (6, .v (.int .i64 i))], false⟩ [.arr false 4 done] (.ex 0) fr' [.arr false 4 (done ++ encTs (rest.map F))] ∧
      fr'.lk = false ∧ getS fr'.sl 5 = .bx (.agg [K, N0, S, .hs 0 xs.length 0 xs.length 4]) ∧ getS fr'.sl 4 = .bx (.agg [.int .i64 0, .int .i64 0, .str [], .nil]) ∧ getS fr'.sl 41 = .u
  | [], i, done, h1, hd, _, _ => by
    have h1 := h1.nil
    refine ⟨?_, Lp.exit ⟨0, fun N _ => ?_⟩ (by simp), ?_⟩
    rotate_left
    · simp [b48_0, h1]
      rfl
    · simp [h1]
  | a :: r, i, done, h1, hd, hi, ha => by
    simp only [encTs_cons] at h1
    have hlen := h1.len
    obtain ⟨g1, g2, g3, g4, g5⟩ := h1.cons
    have hw := wrap_succ (n := i) (by unfold big; simp at hlen; omega)
    obtain ⟨k, hk⟩ := ha a (by simp)
    obtain ⟨fr', q1, q2⟩ := lp40 A1 K N0 S F xs nk hb r (i + 1) (done ++ [encT (F a)]) g4 (by simp [hd]) (by omega) (fun x hx => ha x (by simp [hx]))
    simp only [List.append_assoc, List.singleton_append] at q1
    simp only [List.map_cons, encTs_cons]
    have ht : done.take i = done := by rw [← hd, List.take_length]
    have hi39 : i < 2 ^ 39 := by simp at hlen; omega
    have c1 : (i + 1) * 56 ≤ 35184372088832 := by omega
    have c2 : i + 1 ≤ 35184372088832 := by omega
    have c3 : i ≤ 35184372088831 := by omega
    have c4 : ¬ i + 1 ≤ i := by omega
    refine ⟨fr', Lp.step ⟨k, fun N hN => ?_⟩ q1, q2⟩
    simp [b48_0, g1, g2, g3, g5, hk N hN, hw, hd, ht, c1, c2, c3, c4]
theorem lp40' (A1 : AV) (k n : Int) (s : List UInt8) (F : Ty → Ty) (ks : List Ty) (nk : Bool) (hb : ks.length < 2 ^ 39) (ha : ∀ a ∈ ks, Ans ctx 48 [encT a, A1] (encT (F a))) :
    ∃ fr' σ' r, Lp ctx [39] [] [1, 2, 4, 5, 6] b48_0 ⟨[(1, .v A1), (2, .bx (.agg [.int .i64 k, .int .i64 n, .str s, encR 4 nk (encTs ks)])), (4, .bx (.agg [.int .i64 0, .int .i64 0, .str [], .nil])), (5, .bx (.agg [.int .i64 k, .int .i64 n, .str s, .nil])), (6, .v (.int .i64 0))], false⟩ [] (.ex 0) fr' σ' ∧
      fr'.lk = false ∧ getS fr'.sl 5 = .bx (.agg r) ∧ r.length = 4 ∧ getS fr'.sl 4 = .bx (.agg [.int .i64 0, .int .i64 0, .str [], .nil]) ∧ getS fr'.sl 41 = .u ∧ ∃ ns, snapA σ' 200 (.agg r) = some (encT (.mk k n s true (ks.map F)), ns) := by
  cases ks with
  | nil =>
    refine ⟨?_, [], [.int .i64 k, .int .i64 n, .str s, .nil], Lp.exit ⟨0, fun N _ => ?_⟩ (by simp), ?_⟩
    rotate_left
    · simp [b48_0]
      rfl
    · refine ⟨rfl, by simp, rfl, by simp, by simp, [], ?_⟩
      unfold snapA
      rw [if_pos (by simp)]
      simp [encT]
  | cons a r =>
    obtain ⟨q, hq⟩ := ha a (by simp)
    obtain ⟨g1, g2, g3, g4, g5⟩ := (Tail.all (encTs (a :: r))).cons
    obtain ⟨fr', q1, q2, q3, q4, q5⟩ := lp40 A1 (.int .i64 k) (.int .i64 n) (.str s) F (encTs (a :: r)) nk (by simpa using hb) r 1 [encT (F a)] g4 rfl (by omega) (fun x hx => ha x (by simp [hx]))
    have w1 : IntKind.i64.wrap 1 = 1 := by decide
    refine ⟨fr', _, [.int .i64 k, .int .i64 n, .str s, .hs 0 (a :: r).length 0 (a :: r).length 4], Lp.step ⟨q, fun N hN => ?_⟩ q1, q2, by simpa using q3, rfl, q4, q5, [0], ?_⟩
    · have hlt : (0 : Int) < (r.length : Int) + 1 := by omega
      simp [b48_0, hq N hN, w1, hlt]
    · exact snap_kids k n s ((a :: r).map F) (by simp) _ (by simp)
theorem agg4 {r : List AV} (h : r.length = 4) (ti : TI) : (AV.agg r).fits ti = (ti.k.isAgg && 4 == ti.size) := by simp [h]
mutual
def turnR (d : Int → Option Ty) : Ty → Ty
  | .mk k n s nl ks => if k = 1 then (d n).getD (.mk k n s nl ks) else .mk k n s true (turnRs d ks)
def turnRs (d : Int → Option Ty) : List Ty → List Ty
  | [] => []
  | t :: l => turnR d t :: turnRs d l
end
theorem turnRs_map (d : Int → Option Ty) : ∀ l, turnRs d l = l.map (turnR d)
  | [] => rfl
  | t :: l => by simp [turnRs, turnRs_map d l]
mutual
theorem turn_same (d : Int → Option Ty) : ∀ t, (turnedT d t).same (turnR d t) = true
  | .mk k n s nl ks => by
    unfold turnedT turnR
    split
    · exact same_refl _
    · simp [Ty.same, turns_same d ks]
theorem turns_same (d : Int → Option Ty) : ∀ l, Ty.sames (turnedTs d l) (turnRs d l) = true
  | [] => rfl
  | t :: l => by simp [turnedTs, turnRs, Ty.sames, turn_same d t, turns_same d l]
end
mutual
theorem cl_turnR (d : Int → Option Ty) (h : ∀ n u, d n = some u → cl u) : ∀ t, cl t → cl (turnR d t)
  | .mk k n s nl ks, hc => by
    unfold turnR
    split
    · cases hd : d n with
      | none => simpa using hc
      | some u => simpa using h n u hd
    · simp only [cl] at hc ⊢
      exact ⟨hc.1, by rw [turnRs_map]; simpa using hc.2.1, cls_turnR d h ks hc.2.2⟩
theorem cls_turnR (d : Int → Option Ty) (h : ∀ n u, d n = some u → cl u) : ∀ l, cls l → cls (turnRs d l)
  | [], _ => trivial
  | t :: l, hc => ⟨cl_turnR d h t hc.1, cls_turnR d h l hc.2⟩
end
mutual
theorem subst15_ans (l : List Ty) (nl : Bool) : ∀ t : Ty, cl t → Ans ctx 13 [encT t, encR 4 nl (encTs l)] (encT (turnR (subD l) t))
  | .mk k n s nk ks, hc => by
    simp only [cl] at hc
    obtain ⟨_, hl, hks⟩ := hc
    by_cases hk : k = 1
    · by_cases h0 : 0 ≤ n
      · by_cases h1 : n < l.length
        · obtain ⟨i, rfl⟩ : ∃ i : Nat, n = i := ⟨n.toNat, by omega⟩
          have hi : i < l.length := by omega
          have hg : l[i]? = some l[i] := List.getElem?_eq_getElem hi
          have hg2 : (encTs l)[i]? = some (encT l[i]) := by simp [encTs_map, hg]
          have hix : idxN (i : Int) l.length = some i := by unfold idxN; rw [if_pos (by omega)]; simp
          have hK : encR 4 nl (encTs l) = .sl 4 (encTs l) := by
            cases l with
            | nil => simp at hi
            | cons a r => simp
          rw [show turnR (subD l) (.mk k i s nk ks) = l[i] by simp [turnR, hk, subD, hg]]
          refine Ans.of (σ' := []) fn13_ (by simp) (by simp) ⟨0, fun N _ => ?_⟩
          generalize hT : encT l[i] = T at *
          have hTf : ∀ ti : TI, T.fits ti = (ti.k.isAgg && 4 == ti.size) := fun ti => by rw [← hT]; exact fits_encT _ ti
          have hi' : ((i : Int) < (l.length : Int)) = True := by simp only [eq_iff_iff, iff_true]; omega
          simp [i13, c13, encT, hk, hK, hix, hg2, hi', hTf]
        · have hnn : l[n.toNat]? = none := List.getElem?_eq_none (by omega)
          rw [show turnR (subD l) (.mk k n s nk ks) = .mk k n s nk ks by simp [turnR, hk, subD, hnn]]
          refine Ans.of (σ' := []) fn13_ (by simp) (by simp) ⟨0, fun N _ => ?_⟩
          simp [i13, c13, encT, hk, h0, h1]
      · rw [show turnR (subD l) (.mk k n s nk ks) = .mk k n s nk ks by simp [turnR, hk, subD, h0]]
        refine Ans.of (σ' := []) fn13_ (by simp) (by simp) ⟨0, fun N _ => ?_⟩
        simp [i13, c13, encT, hk, h0]
    · have hk' : (k == 1) = false := by simpa using hk
      obtain ⟨fr', σ', r, h1, h2, h3, h4, h5, h6, ns, h7⟩ := lp21' (encR 4 nl (encTs l)) k n s (turnR (subD l)) ks nk (by omega) (subst15_all l nl ks hks)
      obtain ⟨q, hq⟩ := h1.den
      rw [show turnR (subD l) (.mk k n s nk ks) = .mk k n s true (ks.map (turnR (subD l))) by simp only [turnR, if_neg hk]; rw [turnRs_map]]
      refine Ans.fn (rs := []) fn13_ (by simp) ⟨q, fun N hN => ?_⟩ h7
      have hq := hq N hN
      simp [i13, c13, encT, hk', hq, h2, h3, h4, h5, h6]
theorem subst15_all (l : List Ty) (nl : Bool) : ∀ ks : List Ty, cls ks → ∀ a ∈ ks, Ans ctx 13 [encT a, encR 4 nl (encTs l)] (encT (turnR (subD l) a))
  | [], _, a, ha => by simp at ha
  | t :: r, hc, a, ha => by
    rcases List.mem_cons.1 ha with h | ha
    · rw [h]; exact subst15_ans l nl t hc.1
    · exact subst15_all l nl r hc.2 a ha
end
/-! ### by places -/
mutual
def renT (l : List Nat) : Ty → Ty
  | .mk k n s _ ks => if k = 1 then varT (placeN l n.toNat 0).toNat else .mk k n s true (renTs l ks)
def renTs (l : List Nat) : List Ty → List Ty
  | [] => []
  | t :: r => renT l t :: renTs l r
end
theorem renTs_map (l : List Nat) : ∀ r, renTs l r = r.map (renT l)
  | [] => rfl
  | t :: r => by simp [renTs, renTs_map l r]
mutual
def memV (l : List Nat) : Ty → Prop
  | .mk k n _ _ ks => (k = 1 → 0 ≤ n ∧ n.toNat ∈ l) ∧ (k ≠ 1 → memVs l ks)
def memVs (l : List Nat) : List Ty → Prop
  | [] => True
  | t :: r => memV l t ∧ memVs l r
end
mutual
theorem ren_ans (l : List Nat) (nl : Bool) (hb : l.length < big) : ∀ t : Ty, cl t → memV l t → Ans ctx 48 [encT t, encR 1 nl (encI l)] (encT (renT l t))
  | .mk k n s nk ks, hc, hm => by
    simp only [cl] at hc
    simp only [memV] at hm
    obtain ⟨_, hl, hks⟩ := hc
    by_cases hk : k = 1
    · obtain ⟨h0, hmem⟩ := hm.1 hk
      obtain ⟨i, rfl⟩ : ∃ i : Nat, n = i := ⟨n.toNat, by omega⟩
      obtain ⟨q, hq⟩ := place_ans l nl hb i
      have hp : ¬ placeN l i 0 < 0 := fun h => (placeN_iff l i 0).1 h hmem
      obtain ⟨j, hj⟩ : ∃ j : Nat, placeN l i 0 = j := ⟨(placeN l i 0).toNat, by omega⟩
      obtain ⟨q2, hq2⟩ := var_ans j
      rw [show renT l (.mk k i s nk ks) = varT j by simp [renT, hk, hj]]
      rw [hj] at hq
      refine Ans.of (σ' := []) fn48_ (by simp) (by simp) ⟨q + q2, fun N hN => ?_⟩
      have hq := hq N (by omega)
      have hq2 := hq2 N (by omega)
      generalize encR 1 nl (encI l) = Q at *
      simp [i48, c48, encT, hk, hq, hq2]
    · have hk' : (k == 1) = false := by simpa using hk
      obtain ⟨fr', σ', r, h1, h2, h3, h4, h5, h6, ns, h7⟩ := lp40' (encR 1 nl (encI l)) k n s (renT l) ks nk (by omega) (ren_all l nl hb ks hks (hm.2 hk))
      obtain ⟨q, hq⟩ := h1.den
      rw [show renT l (.mk k n s nk ks) = .mk k n s true (ks.map (renT l)) by simp only [renT, if_neg hk]; rw [renTs_map]]
      refine Ans.fn (rs := []) fn48_ (by simp) ⟨q, fun N hN => ?_⟩ h7
      have hq := hq N hN
      generalize encR 1 nl (encI l) = Q at *
      simp [i48, c48, encT, hk', hq, h2, h3, h4, h5, h6]
theorem ren_all (l : List Nat) (nl : Bool) (hb : l.length < big) : ∀ ks : List Ty, cls ks → memVs l ks → ∀ a ∈ ks, Ans ctx 48 [encT a, encR 1 nl (encI l)] (encT (renT l a))
  | [], _, _, a, ha => by simp at ha
  | t :: r, hc, hm, a, ha => by
    rcases List.mem_cons.1 ha with h | ha
    · rw [h]; exact ren_ans l nl hb t hc.1 hm.1
    · exact ren_all l nl hb r hc.2 hm.2 a ha
end
theorem varsT_sub (x : Nat) : (∀ (t : Ty) (out : List Nat), x ∈ out → x ∈ varsT out t) ∧ True := by
  refine ⟨fun t => ?_, trivial⟩
  have := @Ty.rec (fun t => ∀ out : List Nat, x ∈ out → x ∈ varsT out t) (fun l => ∀ out : List Nat, x ∈ out → x ∈ varsTs out l)
    (fun k n s nl ks ih out h => by
      simp only [varsT]
      split
      · split
        · exact h
        · simp [h]
      · exact ih out h)
    (fun out h => h) (fun t l ih1 ih2 out h => ih2 _ (ih1 _ h)) t
  exact this
end Go.Am.Tryd
