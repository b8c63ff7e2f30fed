/- Layer 17: how large a type is; whether it may be. -/
import Derived.Test.YtmhggdoanajboaaDoorLf
import Derived.KernelRfl
set_option maxRecDepth 100000
set_option linter.unusedSimpArgs false
namespace Go.Am.Tryd
open Go
mutual
def nodes : Ty → Nat
  | .mk _ _ _ _ ks => nodess ks + 1
def nodess : List Ty → Nat
  | [] => 0
  | t :: l => nodes t + nodess l
end
theorem nodes_pos (t : Ty) : 1 ≤ nodes t := by cases t; simp [nodes]
theorem nodess_mem (a : Ty) : ∀ l : List Ty, a ∈ l → nodes a ≤ nodess l
  | [], h => by simp at h
  | x :: l, h => by
    simp only [nodess]
    rcases List.mem_cons.1 h with rfl | h
    · omega
    · have := nodess_mem a l h; omega
theorem lp35 (xs : List AV) (nl : Bool) (hb : xs.length < big) : ∀ (rest : List Ty) (i n : Nat), Tail xs i (encTs rest) → n + nodess rest < lim → (∀ a ∈ rest, ∀ n : Nat, n + nodes a < lim → ∃ m : Nat, Ans ctx 38 [encT a, .int .i64 n] (.int .i64 m) ∧ min m 401 = min (n + nodes a) 401 ∧ m ≤ n + nodes a) →
    ∃ (m : Nat) (fr' : Fr), Lp ctx [] [] [1, 10, 11, 12] b38_0 ⟨[(1, .v (.int .i64 n)), (10, .v (encR 4 nl xs)), (11, .v (.int .i64 xs.length)), (12, .v (.int .i64 i))], false⟩ [] (.ex 0) fr' [] ∧
      fr'.lk = false ∧ getS fr'.sl 1 = .v (.int .i64 m) ∧ getS fr'.sl 22 = .u ∧ getS fr'.sl 4 = .u ∧ min m 401 = min (n + nodess rest) 401 ∧ m ≤ n + nodess rest
  | [], i, n, h1, _, _ => by
    have h1 := h1.nil
    refine ⟨n, ?_, Lp.exit ⟨0, fun N _ => ?_⟩ (by simp), ?_⟩
    rotate_left
    · simp [b38_0, h1]
      rfl
    · simp [nodess]
  | a :: r, i, n, h1, hl, ha => by
    simp only [encTs_cons] at h1
    have hlen := h1.len
    obtain ⟨g1, g2, g3, g4, g5⟩ := h1.cons
    have hw := wrap_succ (n := i) (by simp at hlen; omega)
    simp only [nodess] at hl ⊢
    by_cases hn : 400 < n
    · have c1 : (400 : Int) < n := by omega
      refine ⟨n, ?_, Lp.exit ⟨0, fun N _ => ?_⟩ (by simp), ?_⟩
      rotate_left
      · simp [b38_0, g1, g2, g3, g5, c1]
        rfl
      · simp; omega
    · have c1 : ¬ (400 : Int) < n := by omega
      obtain ⟨m, ⟨k, hk⟩, h2, h3⟩ := ha a (by simp) n (by omega)
      obtain ⟨m', fr', q1, q2, q3, q4, q5, q6, q7⟩ := lp35 xs nl hb r (i + 1) m g4 (by omega) (fun x hx => ha x (by simp [hx]))
      refine ⟨m', fr', Lp.step ⟨k, fun N hN => ?_⟩ q1, q2, q3, q4, q5, by omega, by omega⟩
      simp [b38_0, g1, g2, g3, g5, c1, hk N hN, hw]
mutual
theorem size1_ans : ∀ (t : Ty), t.ok → ∀ n : Nat, n + nodes t < lim → ∃ m : Nat, Ans ctx 38 [encT t, .int .i64 n] (.int .i64 m) ∧ min m 401 = min (n + nodes t) 401 ∧ m ≤ n + nodes t
  | .mk k n0 s nl ks, ho, n, hl => by
    simp only [Ty.ok] at ho
    simp only [nodes] at hl ⊢
    obtain ⟨m, fr', h1, h2, h3, h4, h5, h6, h7⟩ := lp35 (encTs ks) nl (by simpa using ho.2.1) ks 0 (n + 1) (Tail.all _) (by omega) (size1_all ks ho.2.2)
    obtain ⟨q, hq⟩ := h1.den
    have hw := wrap_succ (n := n) (by unfold lim at hl; unfold big; omega)
    refine ⟨m, Ans.of (σ' := []) fn38_ (by simp) (by simp) ⟨q, fun N hN => ?_⟩, by omega, by omega⟩
    simp [i38, c38, encT, hw, hq N hN, h2, h3, h4, h5]
theorem size1_all : ∀ (l : List Ty), Ty.oks l → ∀ a ∈ l, ∀ n : Nat, n + nodes a < lim → ∃ m : Nat, Ans ctx 38 [encT a, .int .i64 n] (.int .i64 m) ∧ min m 401 = min (n + nodes a) 401 ∧ m ≤ n + nodes a
  | [], _, a, ha => by simp at ha
  | t :: l, ho, a, ha => by
    simp only [Ty.oks] at ho
    rcases List.mem_cons.1 ha with h | ha
    · rw [h]; exact size1_ans t ho.1
    · exact size1_all l ho.2 a ha
end
theorem mm_min (m : Nat) : mmA .lss (.int .i64 (m : Int)) (.int .i64 401) = some (.int .i64 ((min m 401 : Nat) : Int)) := by
  simp only [mmA, if_pos]
  split <;> congr 2 <;> omega
theorem size_ans (t : Ty) (ho : t.ok) (hl : nodes t < lim) : Ans ctx 9 [encT t] (.int .i64 ((min (nodes t) 401 : Nat) : Int)) := by
  obtain ⟨m, ⟨k, hk⟩, h2, h3⟩ := size1_ans t ho 0 (by omega)
  have e : min m 401 = min (nodes t) 401 := by omega
  have hm := mm_min m
  rw [e] at hm
  refine Ans.of (σ' := []) fn9_ (by simp) (by simp) ⟨k, fun N hN => ?_⟩
  have hk := hk N hN
  have hk : ∀ σ, acall ctx N 38 [encT t, .int .i64 0] σ = some (.int .i64 m, σ) := hk
  generalize ((min (nodes t) 401 : Nat) : Int) = z at *
  simp [i9, c9, hk, hm, -mmA]
theorem lp17 (K N0 S : AV) (xs : List AV) (nl : Bool) (hb : xs.length < big) : ∀ (rest : List Ty) (i n : Nat), Tail xs i (encTs rest) → n ≤ 801 → (∀ a ∈ rest, Ans ctx 10 [encT a] (.int .i64 ((min (nodes a) 401 : Nat) : Int))) →
    ∃ (m : Nat) (fr' : Fr), Lp ctx [] [] [1, 3, 4] b10_0 ⟨[(1, .bx (.agg [K, N0, S, encR 4 nl xs])), (3, .v (.int .i64 n)), (4, .v (.int .i64 i))], false⟩ [] (.ex 0) fr' [] ∧
      fr'.lk = false ∧ getS fr'.sl 3 = .v (.int .i64 m) ∧ getS fr'.sl 24 = .u ∧ getS fr'.sl 25 = .u ∧ getS fr'.sl 2 = .u ∧ min m 401 = min (n + nodess rest) 401 ∧ m ≤ 801
  | [], i, n, h1, hn, _ => by
    have h1 := h1.nil
    refine ⟨n, ?_, Lp.exit ⟨0, fun N _ => ?_⟩ (by simp), ?_⟩
    rotate_left
    · simp [b10_0, h1]
      rfl
    · simp [nodess]; omega
  | a :: r, i, n, h1, hn, ha => by
    simp only [encTs_cons] at h1
    have hlen := h1.len
    obtain ⟨g1, g2, g3, g4, g5⟩ := h1.cons
    have hw := wrap_succ (n := i) (by simp at hlen; omega)
    simp only [nodess]
    by_cases hn4 : 400 < n
    · have c1 : ¬ (n : Int) ≤ 400 := by omega
      refine ⟨n, ?_, Lp.exit ⟨0, fun N _ => ?_⟩ (by simp), ?_⟩
      rotate_left
      · simp [b10_0, g1, g2, g3, g5, c1]
        rfl
      · simp; omega
    · have c1 : (n : Int) ≤ 400 := by omega
      obtain ⟨k, hk⟩ := ha a (by simp)
      obtain ⟨z, hz⟩ : ∃ z, z = min (nodes a) 401 := ⟨_, rfl⟩
      rw [← hz] at hk
      have hw2 : IntKind.i64.wrap ((n : Int) + (z : Int)) = ((n + z : Nat) : Int) := by rw [wrap_i64 (by omega)]; omega
      obtain ⟨m', fr', q1, q2, q3, q4, q5, q6, q7, q8⟩ := lp17 K N0 S xs nl hb r (i + 1) (n + z) g4 (by omega) (fun x hx => ha x (by simp [hx]))
      refine ⟨m', fr', Lp.step ⟨k, fun N hN => ?_⟩ q1, q2, q3, q4, q5, q6, by omega, q8⟩
      simp [b10_0, g1, g2, g3, g5, c1, hk N hN, hw, hw2]
mutual
theorem size15_ans : ∀ (t : Ty), t.ok → Ans ctx 10 [encT t] (.int .i64 ((min (nodes t) 401 : Nat) : Int))
  | .mk k n0 s nl ks, ho => by
    simp only [Ty.ok] at ho
    obtain ⟨m, fr', h1, h2, h3, h4, h5, h6, h7, h8⟩ := lp17 (.int .i64 k) (.int .i64 n0) (.str s) (encTs ks) nl (by simpa using ho.2.1) ks 0 1 (Tail.all _) (by omega) (size15_all ks ho.2.2)
    obtain ⟨q, hq⟩ := h1.den
    have e : min m 401 = min (nodes (.mk k n0 s nl ks)) 401 := by simp only [nodes]; omega
    have hm := mm_min m
    rw [e] at hm
    generalize ((min (nodes (.mk k n0 s nl ks)) 401 : Nat) : Int) = z at *
    refine Ans.of (σ' := []) fn10_ (by simp) (by simp) ⟨q, fun N hN => ?_⟩
    have hq := hq N hN
    have hq : ∀ fr, norm [1, 3, 4] fr = some ⟨[(1, .bx (.agg [.int .i64 k, .int .i64 n0, .str s, encR 4 nl (encTs ks)])), (3, .v (.int .i64 1)), (4, .v (.int .i64 0))], false⟩ → _ := hq
    simp [i10, c10, encT, hq, h2, h3, h4, h5, h6, hm, -mmA]
theorem size15_all : ∀ (l : List Ty), Ty.oks l → ∀ a ∈ l, Ans ctx 10 [encT a] (.int .i64 ((min (nodes a) 401 : Nat) : Int))
  | [], _, a, ha => by simp at ha
  | t :: l, ho, a, ha => by
    simp only [Ty.oks] at ho
    rcases List.mem_cons.1 ha with h | ha
    · rw [h]; exact size15_ans t ho.1
    · exact size15_all l ho.2 a ha
end
/-! ### may -/
def okc (c : UInt8) : Bool := (97 ≤ c && c ≤ 122) || (65 ≤ c && c ≤ 90) || (48 ≤ c && c ≤ 57) || c == 95
def conB : List UInt8 → Bool
  | [] => false
  | c :: l => decide (l.length < 30) && (65 ≤ c && c ≤ 90) && (c :: l).all okc
def namedB (s : List UInt8) (n : Nat) : Bool :=
  if s = sArrow then n == 2 else if s = sComma then 2 ≤ n && n ≤ 8 else conB s && n ≤ 20
mutual
def mayT : Nat → Ty → Bool
  | d, .mk k n s _ ks => decide (1 ≤ d) && (if k = 1 then decide (0 ≤ n) && (decide (n ≤ 2147483647) && (s == [] && ks.length == 0)) else k == 2 && (n == 0 && (namedB s ks.length && mayTs (d - 1) ks)))
def mayTs : Nat → List Ty → Bool
  | _, [] => true
  | d, t :: l => mayT d t && mayTs d l
end
def nameA (s : List UInt8) : Prop := s = sArrow ∨ s = sComma ∨ Ans ctx 71 [.str s] (.bool (conB s))
mutual
def namesA : Ty → Prop
  | .mk k _ s _ ks => (k ≠ 1 → nameA s) ∧ namesAs ks
def namesAs : List Ty → Prop
  | [] => True
  | t :: l => namesA t ∧ namesAs l
end
theorem con_Int : Ans ctx 71 [.str sInt] (.bool (conB sInt)) := by
  refine ⟨40, fun N hN σ => ?_⟩
  obtain ⟨n, rfl⟩ : ∃ n, N = n + 40 := ⟨N - 40, by omega⟩
  kernel_rfl
theorem con_Bool : Ans ctx 71 [.str sBool] (.bool (conB sBool)) := by
  refine ⟨40, fun N hN σ => ?_⟩
  obtain ⟨n, rfl⟩ : ∃ n, N = n + 40 := ⟨N - 40, by omega⟩
  kernel_rfl
theorem con_List : Ans ctx 71 [.str sList] (.bool (conB sList)) := by
  refine ⟨40, fun N hN σ => ?_⟩
  obtain ⟨n, rfl⟩ : ∃ n, N = n + 40 := ⟨N - 40, by omega⟩
  kernel_rfl
def sWide : List UInt8 := [87, 105, 100, 101]
theorem con_Wide : Ans ctx 71 [.str sWide] (.bool (conB sWide)) := by
  refine ⟨40, fun N hN σ => ?_⟩
  obtain ⟨n, rfl⟩ : ∃ n, N = n + 40 := ⟨N - 40, by omega⟩
  kernel_rfl
theorem nat_eq (n k : Nat) : ((n : Int) == (k : Int)) = (n == k) := by
  by_cases h : n = k
  · simp [h]
  · have : (n == k) = false := by simpa using h
    rw [this]
    simp only [beq_eq_false_iff_ne, ne_eq]
    omega
theorem named_ans (s : List UInt8) (n : Nat) (h : nameA s) : Ans ctx 62 [.str s, .int .i64 n] (.bool (namedB s n)) := by
  unfold namedB
  by_cases h1 : s = sArrow
  · rw [if_pos h1]
    subst h1
    have e := nat_eq n 2
    have e : ((n : Int) == 2) = (n == 2) := e
    refine Ans.of (σ' := []) fn62_ (by simp) (by simp) ⟨0, fun N _ => ?_⟩
    simp [i62, c62, sArrow, e]
  · rw [if_neg h1]
    have b1 : (s == [45, 62]) = false := by simpa [sArrow] using h1
    by_cases h2 : s = sComma
    · rw [if_pos h2]
      subst h2
      refine Ans.of (σ' := []) fn62_ (by simp) (by simp) ⟨0, fun N _ => ?_⟩
      by_cases c1 : 2 ≤ n
      · have d1 : (2 : Int) ≤ n := by omega
        by_cases c2 : n ≤ 8
        · have d2 : (n : Int) ≤ 8 := by omega
          simp [i62, c62, sComma, c1, c2, d1, d2]
        · have d2 : ¬ (n : Int) ≤ 8 := by omega
          simp [i62, c62, sComma, c1, c2, d1, d2]
      · have d1 : ¬ (2 : Int) ≤ n := by omega
        simp [i62, c62, sComma, c1, d1]
    · rw [if_neg h2]
      have b2 : (s == [44]) = false := by simpa [sComma] using h2
      obtain ⟨k, hk⟩ := (h.resolve_left h1).resolve_left h2
      refine Ans.of (σ' := []) fn62_ (by simp) (by simp) ⟨k, fun N hN => ?_⟩
      have hk := hk N hN
      cases hc : conB s <;> rw [hc] at hk
      · simp [i62, c62, b1, b2, hk]
      · by_cases c2 : n ≤ 20
        · have d2 : (n : Int) ≤ 20 := by omega
          simp [i62, c62, b1, b2, hk, c2, d2]
        · have d2 : ¬ (n : Int) ≤ 20 := by omega
          simp [i62, c62, b1, b2, hk, c2, d2]
theorem lp57 (g : Nat) (caps : List AV) (P : Ty → Bool) (xs : List AV) (nl : Bool) (hb : xs.length < big) : ∀ (rest : List Ty) (i : Nat), Tail xs i (encTs rest) → (∀ a ∈ rest, Ans ctx g (encT a :: caps) (.bool (P a))) →
    ∃ (e : Ext) (fr' : Fr), Lp ctx [] [] [0, 1, 7, 8] b69_0 ⟨[(0, .v (encR 4 nl xs)), (1, .v (.fn g caps)), (7, .v (.int .i64 xs.length)), (8, .v (.int .i64 i))], false⟩ [] e fr' [] ∧
      fr'.lk = false ∧ cond (rest.any P) (e = .ret ∧ ∃ j : Nat, getS fr'.sl 4 = .v (.int .i64 j)) (e = .ex 0 ∧ getS fr'.sl 4 = .u)
  | [], i, h1, _ => by
    have h1 := h1.nil
    refine ⟨.ex 0, ?_, Lp.exit ⟨0, fun N _ => ?_⟩ (by simp), ?_⟩
    rotate_left
    · simp [b69_0, h1]
      rfl
    · simp
  | a :: r, i, h1, ha => by
    simp only [encTs_cons] at h1
    have hlen := h1.len
    obtain ⟨g1, g2, g3, g4, g5⟩ := h1.cons
    have hw := wrap_succ (n := i) (by simp at hlen; omega)
    obtain ⟨k, hk⟩ := ha a (by simp)
    cases hp : P a with
    | true =>
      rw [hp] at hk
      refine ⟨.ret, ?_, Lp.exit ⟨k, fun N hN => ?_⟩ (by simp), ?_⟩
      rotate_left
      · simp [b69_0, g1, g2, g3, g5, hk N hN]
        rfl
      · simp [hp]
        exact ⟨i, rfl⟩
    | false =>
      rw [hp] at hk
      obtain ⟨e, fr', q1, q2, q3⟩ := lp57 g caps P xs nl hb r (i + 1) g4 (fun x hx => ha x (by simp [hx]))
      refine ⟨e, fr', Lp.step ⟨k, fun N hN => ?_⟩ q1, q2, by simpa [hp] using q3⟩
      simp [b69_0, g1, g2, g3, g5, hk N hN, hw]
theorem any_ans (g : Nat) (caps : List AV) (hcaps : AV.noRefs caps = true) (P : Ty → Bool) (l : List Ty) (nl : Bool) (hb : l.length < big) (ha : ∀ a ∈ l, Ans ctx g (encT a :: caps) (.bool (P a))) :
    Ans ctx 54 [encR 4 nl (encTs l), .fn g caps] (.bool (l.any P)) := by
  have h57 : ∃ j : Int, Ans ctx 69 [encR 4 nl (encTs l), .fn g caps] (.int .i64 j) ∧ decide (0 ≤ j) = l.any P := by
    obtain ⟨e, fr', h1, h2, h3⟩ := lp57 g caps P (encTs l) nl (by simpa using hb) l 0 (Tail.all _) ha
    obtain ⟨k, hk⟩ := h1.den
    cases hs : l.any P with
    | true =>
      rw [hs] at h3
      obtain ⟨rfl, j, h4⟩ := h3
      refine ⟨j, Ans.of (σ' := []) fn69_ (by simp [hcaps]) (by simp) ⟨k, fun N hN => ?_⟩, by simp⟩
      simp [i69, c69, hk N hN, h2, h4]
    | false =>
      rw [hs] at h3
      obtain ⟨rfl, h4⟩ := h3
      refine ⟨-1, Ans.of (σ' := []) fn69_ (by simp [hcaps]) (by simp) ⟨k, fun N hN => ?_⟩, by simp⟩
      simp [i69, c69, hk N hN, h2, h4]
  obtain ⟨j, ⟨k, hk⟩, hj⟩ := h57
  refine Ans.of (σ' := []) fn54_ (by simp [hcaps]) (by simp) ⟨k, fun N hN => ?_⟩
  rw [← hj]
  simp [i54, c54, hk N hN]
theorem mayTs_any (d : Nat) : ∀ l, mayTs d l = !(l.any fun a => !mayT d a)
  | [] => rfl
  | t :: l => by simp [mayTs, mayTs_any d l, Bool.not_or]
mutual
theorem may1_ans : ∀ (t : Ty), t.ok → namesA t → ∀ d : Nat, d < 1000 → Ans ctx 36 [encT t, .int .i64 d] (.bool (mayT d t))
  | .mk k n s nl ks, ho, hn, d, hd => by
    simp only [Ty.ok] at ho
    simp only [namesA] at hn
    simp only [mayT]
    by_cases hd1 : 1 ≤ d
    · have d1 : ¬ (d : Int) < 1 := by omega
      by_cases hk : k = 1
      · rw [if_pos hk]
        have hk' : (k == 1) = true := by simpa using hk
        by_cases c1 : 0 ≤ n
        · by_cases c2 : n ≤ 2147483647
          · cases c3 : s == []
            · refine Ans.of (σ' := []) fn36_ (by simp) (by simp) ⟨0, fun N _ => ?_⟩
              simp [i36, c36, encT, hk, hd1, d1, c1, c2, c3]
            · have e := nat_eq ks.length 0
              have e : ((ks.length : Int) == 0) = (ks.length == 0) := e
              refine Ans.of (σ' := []) fn36_ (by simp) (by simp) ⟨0, fun N _ => ?_⟩
              simp [i36, c36, encT, hk, hd1, d1, c1, c2, c3, e]
          · refine Ans.of (σ' := []) fn36_ (by simp) (by simp) ⟨0, fun N _ => ?_⟩
            simp [i36, c36, encT, hk, hd1, d1, c1, c2]
        · refine Ans.of (σ' := []) fn36_ (by simp) (by simp) ⟨0, fun N _ => ?_⟩
          simp [i36, c36, encT, hk, hd1, d1, c1]
      · rw [if_neg hk]
        have hk' : (k == 1) = false := by simpa using hk
        cases c1 : k == 2
        · refine Ans.of (σ' := []) fn36_ (by simp) (by simp) ⟨0, fun N _ => ?_⟩
          have c1' : (k != 2) = true := by simp only [bne, c1]; rfl
          simp [i36, c36, encT, hk', hd1, d1, c1, c1']
        · have c1' : (k != 2) = false := by simp only [bne, c1]; rfl
          cases c2 : n == 0
          · have c2' : (n != 0) = true := by simp only [bne, c2]; rfl
            refine Ans.of (σ' := []) fn36_ (by simp) (by simp) ⟨0, fun N _ => ?_⟩
            simp [i36, c36, encT, hk', hd1, d1, c1, c1', c2, c2']
          · have c2' : (n != 0) = false := by simp only [bne, c2]; rfl
            obtain ⟨q, hq⟩ := named_ans s ks.length (hn.1 hk)
            cases c3 : namedB s ks.length <;> rw [c3] at hq
            · refine Ans.of (σ' := []) fn36_ (by simp) (by simp) ⟨q, fun N hN => ?_⟩
              simp [i36, c36, encT, hk', hd1, d1, c1, c1', c2, c2', c3, hq N hN]
            · obtain ⟨q2, hq2⟩ := any_ans 63 [.adr (.int .i64 d)] (by simp) (fun a => !mayT (d - 1) a) ks nl ho.2.1 (may1_all ks ho.2.2 hn.2 d hd1 hd)
              refine Ans.of (σ' := []) fn36_ (by simp) (by simp) ⟨q + q2, fun N hN => ?_⟩
              have hq := hq N (by omega)
              have hq2 := hq2 N (by omega)
              rw [mayTs_any]
              generalize (ks.any fun a => !mayT (d - 1) a) = z at *
              simp [i36, c36, encT, hk', hd1, d1, c1, c1', c2, c2', c3, hq, hq2]
    · have d1 : (d : Int) < 1 := by omega
      refine Ans.of (σ' := []) fn36_ (by simp) (by simp) ⟨0, fun N _ => ?_⟩
      simp [i36, c36, hd1, d1]
theorem may1_all : ∀ (l : List Ty), Ty.oks l → namesAs l → ∀ d : Nat, 1 ≤ d → d < 1000 → ∀ a ∈ l, Ans ctx 63 [encT a, .adr (.int .i64 d)] (.bool !mayT (d - 1) a)
  | [], _, _, _, _, _, a, ha => by simp at ha
  | t :: l, ho, hn, d, hd1, hd, a, ha => by
    simp only [Ty.oks] at ho
    simp only [namesAs] at hn
    rcases List.mem_cons.1 ha with h | ha
    · rw [h]
      obtain ⟨k, hk⟩ := may1_ans t ho.1 hn.1 (d - 1) (by omega)
      have hw : IntKind.i64.wrap ((d : Int) - 1) = ((d - 1 : Nat) : Int) := by rw [wrap_i64 (by omega)]; omega
      generalize ((d - 1 : Nat) : Int) = z at *
      refine Ans.of (σ' := []) fn63_ (by simp) (by simp) ⟨k, fun N hN => ?_⟩
      simp [i63, c63, hw, hk N hN]
    · exact may1_all l ho.2 hn.2 d hd1 hd a ha
end
theorem may_ans (t : Ty) (ho : t.ok) (hn : namesA t) : Ans ctx 7 [encT t] (.bool (mayT 100 t)) := by
  obtain ⟨k, hk⟩ := may1_ans t ho hn 100 (by omega)
  have hk : ∀ N, k ≤ N → ∀ σ, acall ctx N 36 [encT t, .int .i64 100] σ = some (.bool (mayT 100 t), σ) := hk
  refine Ans.of (σ' := []) fn7_ (by simp) (by simp) ⟨k, fun N hN => ?_⟩
  simp [i7, c7, hk N hN]
end Go.Am.Tryd
