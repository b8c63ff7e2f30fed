/- Layers 12 to 14: the reference's parser: Cons; how deep something is. -/
import Derived.Test.YtjbmnkchnbnhcaaGreatDoorP14
import Derived.Test.YtjbmnkchnbnhcaaGreatDoorP15
set_option linter.unusedVariables false
set_option maxRecDepth 100000
set_option linter.unusedSimpArgs false
namespace Go.Am.Tryz
open Go Go.Am.Ps
def encC (c : Cn) : AV := .agg [.str c.s, .int .i64 c.a, encR 4 true (encYs c.as)]
def encCs (l : List Cn) : List AV := l.map encC
def encD (d : Da) : AV := .agg [.str d.s, .int .i64 d.a, encR 1 true (encSs d.vs), encR 3 true (encCs d.cs)]
def encDs (l : List Da) : List AV := l.map encD
def encB (b : Bi) : AV := .agg (.str b.s :: .int .i64 b.a :: cellsE b.b)
def encBs (l : List Bi) : List AV := l.map encB
@[simp] theorem encCs_nil : encCs [] = [] := rfl
@[simp] theorem encDs_nil : encDs [] = [] := rfl
@[simp] theorem encBs_nil : encBs [] = [] := rfl
@[simp] theorem encCs_cons (c : Cn) (l : List Cn) : encCs (c :: l) = encC c :: encCs l := rfl
@[simp] theorem encDs_cons (c : Da) (l : List Da) : encDs (c :: l) = encD c :: encDs l := rfl
@[simp] theorem encBs_cons (c : Bi) (l : List Bi) : encBs (c :: l) = encB c :: encBs l := rfl
@[simp] theorem encCs_app (l m : List Cn) : encCs (l ++ m) = encCs l ++ encCs m := by simp [encCs]
@[simp] theorem encDs_app (l m : List Da) : encDs (l ++ m) = encDs l ++ encDs m := by simp [encDs]
@[simp] theorem encBs_app (l m : List Bi) : encBs (l ++ m) = encBs l ++ encBs m := by simp [encBs]
@[simp] theorem encCs_length (l : List Cn) : (encCs l).length = l.length := by simp [encCs]
@[simp] theorem encDs_length (l : List Da) : (encDs l).length = l.length := by simp [encDs]
@[simp] theorem encBs_length (l : List Bi) : (encBs l).length = l.length := by simp [encBs]
@[simp] theorem noRef_encC (c : Cn) : (encC c).noRef = true := by simp [encC]
@[simp] theorem noRefs_encCs : ∀ l, AV.noRefs (encCs l) = true
  | [] => rfl
  | c :: l => by simp [noRefs_encCs l]
@[simp] theorem noRef_encD (d : Da) : (encD d).noRef = true := by simp [encD]
@[simp] theorem noRefs_encDs : ∀ l, AV.noRefs (encDs l) = true
  | [] => rfl
  | c :: l => by simp [noRefs_encDs l]
@[simp] theorem noRef_encB (b : Bi) : (encB b).noRef = true := by simp [encB]
@[simp] theorem noRefs_encBs : ∀ l, AV.noRefs (encBs l) = true
  | [] => rfl
  | c :: l => by simp [noRefs_encBs l]
@[simp] theorem encC_fits (c : Cn) (ti : TI) : (encC c).fits ti = (ti.k.isAgg && 3 == ti.size) := rfl
@[simp] theorem encD_fits (c : Da) (ti : TI) : (encD c).fits ti = (ti.k.isAgg && 4 == ti.size) := rfl
@[simp] theorem encB_fits (c : Bi) (ti : TI) : (encB c).fits ti = (ti.k.isAgg && 8 == ti.size) := by simp [encB]
theorem lp45_0 (T : List Tok) (E q : Nat) (σ0 : H) (Z V : AV) (vs : List Str) (A : Nat) (S : Str) : ∀ (n : Nat), (∀ m, m < n → AtyOK T E vs m) → ∀ (p : PS) (acc : List Ps.Ty) (σ : H) (q2 : Nat), 4 * mu p + 2 ≤ n → acc.length + mu p ≤ 70000 → PO T E q σ p → VA q σ0 V vs → Own q σ0 σ q2 4 (encYs acc) →
    ∃ fr' σ' q3, Lp ctx [22] [] [0, 1, 4, 6] b79_0 ⟨[(0, .v (.ptr q 1 0 0)), (1, .v V), (4, .bx Z), (6, .bx (.agg [.str S, .int .i64 A, rowV q2 acc.length 4]))], false⟩ σ (.ex 0) fr' σ' ∧ fr'.lk = false ∧ Hi 24 fr' ∧ getS fr'.sl 4 = .bx Z ∧
      getS fr'.sl 6 = .bx (.agg [.str S, .int .i64 A, rowV q3 (acc ++ (targs E vs n p).1).length 4]) ∧ PO T E q σ' (targs E vs n p).2 ∧ Own q σ0 σ' q3 4 (encYs (acc ++ (targs E vs n p).1))
  | 0, _, _, _, _, _, h, _, _, _, _ => by omega
  | n + 1, hE, p, acc, σ, q2, hn, hl, hp, hV, ho => by
    obtain ⟨k1, hk1⟩ := atypic_ans hp
    cases ha : p.atypic with
    | false =>
      rw [show targs E vs (n + 1) p = ([], p) by simp [targs, ha]]
      simp only [List.append_nil]
      refine ⟨?_, σ, q2, Lp.exit ⟨k1, fun N hN => ?_⟩ (by simp), ?_⟩
      rotate_left
      · have hk1 := hk1 N hN
        rw [ha] at hk1
        simp -implicitDefEqProofs [b79_0, hk1]
        rfl
      · exact ⟨by simp, hi_of (by simp), by simp, by simp, hp, ho⟩
    | true =>
      obtain ⟨d, m1, m2⟩ := hE n (by omega) p (by omega)
      have m2 := m2 ha
      obtain ⟨σ2, ⟨k2, hk2⟩, p2, x2⟩ := d q σ V hp (hV.ext ho.ext)
      rw [show targs E vs (n + 1) p = ((atype E vs n p).1 :: (targs E vs n (atype E vs n p).2).1, (targs E vs n (atype E vs n p).2).2) by simp [targs, ha]]
      obtain ⟨q3, σ3, hap, ho3, hq⟩ := (ho.call x2).app ⟨.strct [(0, 3), (1, 3), (2, 9), (3, 33)], 4, 56, .agg [.int .i64 0, .int .i64 0, .str [], .nil], []⟩ (encY (atype E vs n p).1) rfl (by simp) (by simp) (by simp; omega) (by simp; omega)
      rw [encYs_length] at hap
      have hacc : encYs acc ++ [encY (atype E vs n p).1] = encYs (acc ++ [(atype E vs n p).1]) := by simp
      rw [hacc] at ho3
      obtain ⟨fr', σ', q4, l1, l2, l3, l4, l5, l6, l7⟩ := lp45_0 T E q σ0 Z V vs A S n (fun m hm => hE m (by omega)) (atype E vs n p).2 (acc ++ [(atype E vs n p).1]) σ3 q3 (by omega) (by simp; omega) (p2.ext hq) hV ho3
      simp only [List.append_assoc, List.singleton_append] at l5 l7
      refine ⟨fr', σ', q4, Lp.step ⟨k1 + k2, fun N hN => ?_⟩ l1, l2, l3, l4, l5, l6, l7⟩
      have hk1 := hk1 N (by omega)
      have hk2 := hk2 N (by omega)
      rw [ha] at hk1
      generalize (atype E vs n p).1 = a at *
      simp -implicitDefEqProofs [b79_0, hk1, hk2, hap, -appendH]
theorem con_does (T : List Tok) (E : Nat) (vs : List Str) (n : Nat) (p : PS) (hn : 4 * mu p + 2 ≤ n) : DoesV T E 79 vs (encC (con E vs n p).1) p (con E vs n p).2 ∧ mu (con E vs n p).2 ≤ mu p := by
  have hA := (all_typ T E vs n).2
  have m1 := mu_eat E p 2 []
  have m2 := mu_targs E vs n (p.eat E 2 []).2 (fun m hm p' hp' => (hA m (by omega) p' hp').2) (by omega)
  have e : con E vs n p = (⟨(p.eat E 2 []).1.s, (p.eat E 2 []).1.at_, (targs E vs n (p.eat E 2 []).2).1⟩, (targs E vs n (p.eat E 2 []).2).2) := by simp [con]
  rw [e]
  refine ⟨fun q σ V h hV => ?_, by simp only; omega⟩
  obtain ⟨σ1, ⟨k1, hk1⟩, p1, x1⟩ := eat_ans (E := E) h 2 []
  have own : Own q σ σ1 0 4 (encYs []) := ⟨h.lt, x1, fun h => absurd rfl h, rfl⟩
  have hsm := mu_small h
  obtain ⟨fr', σ2, q3, l1, l2, l3, l4, l5, l6, l7⟩ := lp45_0 T E q σ (.agg [.str [], .int .i64 0, .nil]) V vs (p.eat E 2 []).1.at_ (p.eat E 2 []).1.s n (fun m hm => hA m (by omega)) (p.eat E 2 []).2 [] σ1 0 (by omega) (by simp; omega) p1 hV own
  simp only [List.nil_append] at l5 l7
  obtain ⟨k2, hk2⟩ := l1.den
  unfold Hi at l3
  obtain ⟨ns, w1, w2, w3⟩ := l7.snap 198
  rw [encYs_length] at w1
  generalize (targs E vs n (p.eat E 2 []).2).1 = l at *
  generalize (p.eat E 2 []).1 = c at *
  have hs : snapA σ2 200 (.agg [.str c.s, .int .i64 c.at_, rowV q3 l.length 4]) = some (encC ⟨c.s, c.at_, l⟩, ns) := by
    unfold snapA
    split
    · rename_i hnr
      have : (rowV q3 l.length 4).noRef = true := by simpa using hnr
      have h9 := (snapA_noRef (σ := σ2) (n := 199) this).symm.trans w1
      simp only [Option.some.injEq, Prod.mk.injEq] at h9
      rw [← h9.2, h9.1]; rfl
    · simp only [mapO2, w1, snapA_noRef (a := .str c.s) rfl, snapA_noRef (a := .int .i64 c.at_) rfl, encC, List.append_nil, List.nil_append]
  refine ⟨frzH σ2 ns, AnsH.fn fn79_ (by simp) (snapPtr _ _ _) ⟨k1 + k2, fun N hN => ?_⟩ hs, l6.ext (frz_get ns σ2 q w3), l7.ext.frz w2⟩
  have hk1 := hk1 N (by omega)
  have hk2 := hk2 N (by omega)
  simp only [Int.cast_ofNat_Int] at hk1
  rw [encTok_k] at hk1
  simp only [List.length_nil, rowV] at hk2
  simp -implicitDefEqProofs [i79, c79, hk1, hk2, l2, l3, l4, l5]
/-! ### how deep -/
theorem wrap_inc {n : Int} (h0 : 0 ≤ n) (h1 : n ≤ 9223372036854775807) : IntKind.i64.wrap (n + 1) = incI n := by
  unfold incI
  split
  · rw [wrap_i64 (by omega)]
  · have : n = 9223372036854775807 := by omega
    rw [this]
    simp [IntKind.wrap, IntKind.signed, IntKind.bits]
def I64 (n : Int) : Prop := -9223372036854775808 ≤ n ∧ n ≤ 9223372036854775807
theorem incI_64 {n : Int} (h : I64 n) : I64 (incI n) := by
  unfold incI I64 at *
  split <;> omega
theorem maxI_64 {m n : Int} (h : I64 m) (h' : I64 n) : I64 (maxI m n) := by
  unfold maxI; split <;> assumption
theorem maxI_0 {m n : Int} (h : 0 ≤ m) : 0 ≤ maxI m n := by
  unfold maxI; split <;> omega
mutual
theorem deepT_64 : ∀ t, I64 (deepT t)
  | .mk _ _ _ ks => by simp only [deepT]; exact incI_64 (deepTs_64 ks 0 (by unfold I64; omega))
theorem deepTs_64 : ∀ (l : List Ps.Ty) (n : Int), I64 n → I64 (deepTs n l)
  | [], n, h => h
  | t :: l, n, h => by simp only [deepTs]; exact deepTs_64 l _ (maxI_64 h (deepT_64 t))
end
theorem deepTs_0 : ∀ (l : List Ps.Ty) (n : Int), 0 ≤ n → 0 ≤ deepTs n l
  | [], n, h => h
  | t :: l, n, h => by simp only [deepTs]; exact deepTs_0 l _ (maxI_0 h)
theorem max_if (m n : Int) : (if m < n then n else m) = maxI m n := rfl
theorem lp84_0 (K : Nat) (M : Int) (S : Str) (L : List AV) (nl : Bool) (hL : L.length < big) : ∀ (r : List Ps.Ty) (i : Nat) (n : Int), Tail L i (encYs r) → (∀ t ∈ r, Ans ctx 128 [encY t] (.int .i64 (deepT t))) →
    ∃ fr', Lp ctx [] [] [1, 3, 4] b128_0 ⟨[(1, .bx (.agg [.int .i64 K, .int .i64 M, .str S, encR 4 nl L])), (3, .v (.int .i64 n)), (4, .v (.int .i64 i))], false⟩ [] (.ex 0) fr' [] ∧ fr'.lk = false ∧ Hi 20 fr' ∧ getS fr'.sl 2 = .u ∧ getS fr'.sl 3 = .v (.int .i64 (deepTs n r))
  | [], i, n, h, _ => by
    have h' := h.nil
    refine ⟨?_, Lp.exit ⟨0, fun N _ => ?_⟩ (by simp), ?_⟩
    rotate_left
    · simp -implicitDefEqProofs [b128_0, h']
      rfl
    · exact ⟨by simp, hi_of (by simp), by simp, by simp [deepTs]⟩
  | t :: r, i, n, h, ht => by
    have hlen := h.len
    simp only [encYs_cons] at h
    obtain ⟨g1, g2, g3, g4, g5⟩ := h.cons
    simp at hlen
    have hw := wrap_succ (n := i) (by omega)
    obtain ⟨k, hk⟩ := ht t (by simp)
    obtain ⟨fr', l1, l2⟩ := lp84_0 K M S L nl hL r (i + 1) (maxI n (deepT t)) g4 (fun x hx => ht x (by simp [hx]))
    have g6 := g5 4 nl
    rw [g6] at l1 ⊢
    refine ⟨fr', Lp.step ⟨k, fun N hN => ?_⟩ l1, l2⟩
    have hk := hk N hN
    simp -implicitDefEqProofs [b128_0, g1, g2, g3, hw, hk, mmA, max_if]
mutual
theorem deepT_ans : ∀ t, okT t → Ans ctx 128 [encY t] (.int .i64 (deepT t))
  | .mk k m s ks, h => by
    simp only [okT] at h
    obtain ⟨fr', l1, l2, l3, l4, l5⟩ := lp84_0 k m s (encYs ks) true (by simp [big]; have := h.1; unfold lim at this; omega) ks 0 0 (Tail.all _) (deepTs_all ks h.2)
    obtain ⟨q, hq⟩ := l1.den
    unfold Hi at l3
    have hw := wrap_inc (deepTs_0 ks 0 (by omega)) (deepTs_64 ks 0 (by unfold I64; omega)).2
    refine Ans.of (σ' := []) fn128_ (by simp) (by simp) ⟨q, fun N hN => ?_⟩
    have hq := hq N hN
    rw [encY_mk]
    simp -implicitDefEqProofs [i128, c128, hq, l2, l3, l4, l5, hw, deepT]
theorem deepTs_all : ∀ l, okTs l → ∀ t ∈ l, Ans ctx 128 [encY t] (.int .i64 (deepT t))
  | [], _, t, ht => by simp at ht
  | x :: l, h, t, ht => by
    rcases List.mem_cons.1 ht with e | ht
    · rw [e]; exact deepT_ans x h.1
    · exact deepTs_all l h.2 t ht
end
mutual
theorem deepE_64 : ∀ e, I64 (deepE e)
  | .mk _ _ _ _ ks as => by simp only [deepE]; exact incI_64 (deepAs_64 as _ (deepEs_64 ks 0 (by unfold I64; omega)))
theorem deepEs_64 : ∀ (l : List Ex) (n : Int), I64 n → I64 (deepEs n l)
  | [], n, h => h
  | t :: l, n, h => by simp only [deepEs]; exact deepEs_64 l _ (maxI_64 h (deepE_64 t))
theorem deepAs_64 : ∀ (l : List Al) (n : Int), I64 n → I64 (deepAs n l)
  | [], n, h => h
  | .mk a c ns b :: l, n, h => by simp only [deepAs, deepA]; exact deepAs_64 l _ (maxI_64 h (deepE_64 b))
end
theorem deepEs_0 : ∀ (l : List Ex) (n : Int), 0 ≤ n → 0 ≤ deepEs n l
  | [], n, h => h
  | t :: l, n, h => by simp only [deepEs]; exact deepEs_0 l _ (maxI_0 h)
theorem deepAs_0 : ∀ (l : List Al) (n : Int), 0 ≤ n → 0 ≤ deepAs n l
  | [], n, h => h
  | t :: l, n, h => by simp only [deepAs]; exact deepAs_0 l _ (maxI_0 h)
theorem lp83_0 (c0 c1 c2 c3 c5 : AV) (L : List AV) (nl : Bool) (hL : L.length < big) : ∀ (r : List Ex) (i : Nat) (n : Int), Tail L i (encEs r) → (∀ t ∈ r, Ans ctx 127 [encE t] (.int .i64 (deepE t))) →
    ∃ fr', Lp ctx [] [] [1, 3, 4] b127_0 ⟨[(1, .bx (.agg [c0, c1, c2, c3, encR 6 nl L, c5])), (3, .v (.int .i64 n)), (4, .v (.int .i64 i))], false⟩ [] (.ex 0) fr' [] ∧ fr'.lk = false ∧ Hi 21 fr' ∧ getS fr'.sl 1 = .bx (.agg [c0, c1, c2, c3, encR 6 nl L, c5]) ∧ getS fr'.sl 2 = .u ∧ getS fr'.sl 5 = .u ∧ getS fr'.sl 3 = .v (.int .i64 (deepEs n r))
  | [], i, n, h, _ => by
    have h' := h.nil
    refine ⟨?_, Lp.exit ⟨0, fun N _ => ?_⟩ (by simp), ?_⟩
    rotate_left
    · simp -implicitDefEqProofs [b127_0, h']
      rfl
    · exact ⟨by simp, hi_of (by simp), by simp, by simp, by simp, by simp [deepEs]⟩
  | t :: r, i, n, h, ht => by
    have hlen := h.len
    simp only [encEs_cons] at h
    obtain ⟨g1, g2, g3, g4, g5⟩ := h.cons
    simp at hlen
    have hw := wrap_succ (n := i) (by omega)
    obtain ⟨k, hk⟩ := ht t (by simp)
    obtain ⟨fr', l1, l2⟩ := lp83_0 c0 c1 c2 c3 c5 L nl hL r (i + 1) (maxI n (deepE t)) g4 (fun x hx => ht x (by simp [hx]))
    have g6 := g5 6 nl
    rw [g6] at l1 l2 ⊢
    refine ⟨fr', Lp.step ⟨k, fun N hN => ?_⟩ l1, l2⟩
    have hk := hk N hN
    simp -implicitDefEqProofs [b127_0, g1, g2, g3, hw, hk, mmA, max_if]
theorem lp83_1 (c0 c1 c2 c3 c4 : AV) (L : List AV) (nl : Bool) (hL : L.length < big) : ∀ (r : List Al) (i : Nat) (n : Int), Tail L i (encAs r) → (∀ t ∈ r, Ans ctx 127 [encE (match t with | .mk _ _ _ b => b)] (.int .i64 (deepA t))) →
    ∃ fr', Lp ctx [] [] [1, 3, 5] b127_1 ⟨[(1, .bx (.agg [c0, c1, c2, c3, c4, encR 9 nl L])), (3, .v (.int .i64 n)), (5, .v (.int .i64 i))], false⟩ [] (.ex 2) fr' [] ∧ fr'.lk = false ∧ Hi 37 fr' ∧ getS fr'.sl 2 = .u ∧ getS fr'.sl 3 = .v (.int .i64 (deepAs n r))
  | [], i, n, h, _ => by
    have h' := h.nil
    refine ⟨?_, Lp.exit ⟨0, fun N _ => ?_⟩ (by simp), ?_⟩
    rotate_left
    · simp -implicitDefEqProofs [b127_1, h']
      rfl
    · exact ⟨by simp, hi_of (by simp), by simp, by simp [deepAs]⟩
  | .mk a c ns b :: r, i, n, h, ht => by
    have hlen := h.len
    simp only [encAs_cons] at h
    obtain ⟨g1, g2, g3, g4, g5⟩ := h.cons
    simp at hlen
    have hw := wrap_succ (n := i) (by omega)
    obtain ⟨k, hk⟩ := ht _ (List.mem_cons_self ..)
    obtain ⟨fr', l1, l2⟩ := lp83_1 c0 c1 c2 c3 c4 L nl hL r (i + 1) (maxI n (deepE b)) g4 (fun x hx => ht x (by simp [hx]))
    have g6 := g5 9 nl
    rw [g6] at l1 ⊢
    have e : deepAs n (.mk a c ns b :: r) = deepAs (maxI n (deepE b)) r := by simp [deepAs, deepA]
    rw [e]
    refine ⟨fr', Lp.step ⟨k, fun N hN => ?_⟩ l1, l2⟩
    have hk := hk N hN
    simp only [deepA] at hk
    obtain ⟨bk, ba, bs, bn, bks, bas⟩ := b
    simp only [encA, cellsE] at g1
    rw [encE_mk] at hk
    simp -implicitDefEqProofs [b127_1, g1, g2, g3, hw, hk, mmA, max_if]
mutual
theorem deepE_ans : ∀ e, okE e → Ans ctx 127 [encE e] (.int .i64 (deepE e))
  | .mk k a s n ks as, h => by
    simp only [okE] at h
    obtain ⟨h1, h2, h3, h4⟩ := h
    obtain ⟨fr1, l1, l2, l3, l4, l5, l6, l7⟩ := lp83_0 (.int .i64 k) (.int .i64 a) (.str s) (.int .i64 n) (encR 9 true (encAs as)) (encEs ks) true (by simp [big]; unfold lim at h1; omega) ks 0 0 (Tail.all _) (deepEs_all ks h3)
    obtain ⟨q1, hq1⟩ := l1.den
    unfold Hi at l3
    obtain ⟨fr2, j1, j2, j3, j4, j5⟩ := lp83_1 (.int .i64 k) (.int .i64 a) (.str s) (.int .i64 n) (encR 6 true (encEs ks)) (encAs as) true (by simp [big]; unfold lim at h2; omega) as 0 (deepEs 0 ks) (Tail.all _) (deepAs_all as h4)
    obtain ⟨q2, hq2⟩ := j1.den
    unfold Hi at j3
    have h64 : I64 (0 : Int) := by unfold I64; omega
    have hw := wrap_inc (deepAs_0 as _ (deepEs_0 ks 0 (by omega))) (deepAs_64 as _ (deepEs_64 ks 0 h64)).2
    refine Ans.of (σ' := []) fn127_ (by simp) (by simp) ⟨q1 + q2, fun N hN => ?_⟩
    have hq1 := hq1 N (by omega)
    have hq2 := hq2 N (by omega)
    rw [encE_mk]
    simp -implicitDefEqProofs [i127, c127, hq1, hq2, l2, l3, l4, l5, l6, l7, j2, j3, j4, j5, hw, deepE]
theorem deepEs_all : ∀ l, okEs l → ∀ t ∈ l, Ans ctx 127 [encE t] (.int .i64 (deepE t))
  | [], _, t, ht => by simp at ht
  | x :: l, h, t, ht => by
    rcases List.mem_cons.1 ht with e | ht
    · rw [e]; exact deepE_ans x h.1
    · exact deepEs_all l h.2 t ht
theorem deepAs_all : ∀ l, okAs l → ∀ t ∈ l, Ans ctx 127 [encE (match t with | .mk _ _ _ b => b)] (.int .i64 (deepA t))
  | [], _, t, ht => by simp at ht
  | .mk a c ns b :: l, h, t, ht => by
    rcases List.mem_cons.1 ht with e | ht
    · rw [e]; simp only [deepA]; exact deepE_ans b h.1.2
    · exact deepAs_all l h.2 t ht
end
end Go.Am.Tryz
