/- Layers 12 to 14: the reference's tooDeep. -/
import Derived.Test.YtjbmnkchnbnhcaaGreatDoorP16
set_option linter.unusedVariables false
set_option maxRecDepth 100000
set_option linter.unusedSimpArgs false
namespace Go.Am.Tryz
open Go Go.Am.Ps
def atI : Option Nat → Int
  | none => -1
  | some a => a
def okB (b : Bi) : Prop := okE b.b
def okC (c : Cn) : Prop := c.as.length ≤ lim ∧ okTs c.as
def okD (d : Da) : Prop := d.vs.length ≤ lim ∧ d.cs.length ≤ lim ∧ ∀ c ∈ d.cs, okC c
structure okP (p : Pg) : Prop where
  ds : p.ds.length ≤ lim
  bs : p.bs.length ≤ lim
  d : ∀ d ∈ p.ds, okD d
  b : ∀ b ∈ p.bs, okB b
theorem lp49_0 (DV : AV) (hD : DV.cells = [DV]) (L : List AV) (nl : Bool) (hL : L.length < big) : ∀ (r : List Bi) (i : Nat) (o : Option Nat), Tail L i (encBs r) → (∀ b ∈ r, okB b) →
    ∃ fr', Lp ctx [] [] [1, 3, 4] b83_0 ⟨[(1, .bx (.agg [DV, encR 8 nl L])), (3, .v (.int .i64 (atI o))), (4, .v (.int .i64 i))], false⟩ [] (.ex 0) fr' [] ∧ fr'.lk = false ∧ Hi 44 fr' ∧ getS fr'.sl 1 = .bx (.agg [DV, encR 8 nl L]) ∧ getS fr'.sl 2 = .u ∧ getS fr'.sl 5 = .u ∧ getS fr'.sl 3 = .v (.int .i64 (atI (tooB o r)))
  | [], i, o, h, _ => by
    have h' := h.nil
    refine ⟨?_, Lp.exit ⟨0, fun N _ => ?_⟩ (by simp), ?_⟩
    rotate_left
    · simp -implicitDefEqProofs [b83_0, h']
      rfl
    · exact ⟨by simp, hi_of (by simp), by simp, by simp, by simp, by simp [tooB]⟩
  | b :: r, i, o, h, hb => by
    have hlen := h.len
    simp only [encBs_cons] at h
    obtain ⟨g1, g2, g3, g4, g5⟩ := h.cons
    simp at hlen
    have hw := wrap_succ (n := i) (by omega)
    obtain ⟨k, hk⟩ := deepE_ans b.b (hb b (by simp))
    have g6 := g5 8 nl
    have hrec := fun o' => lp49_0 DV hD L nl hL r (i + 1) o' g4 (fun x hx => hb x (by simp [hx]))
    rw [g6] at hrec ⊢
    obtain ⟨s, a, ⟨bk, ba, bs, bn, bks, bas⟩⟩ := b
    simp only [encB, cellsE] at g1
    simp only at hk
    rw [encE_mk] at hk
    by_cases hd : 60 < deepE (.mk bk ba bs bn bks bas)
    · cases o with
      | none =>
        obtain ⟨fr', l1, l2⟩ := hrec (some a)
        have e : tooB none (⟨s, a, .mk bk ba bs bn bks bas⟩ :: r) = tooB (some a) r := by simp [tooB, hd, less]
        rw [e]
        refine ⟨fr', Lp.step ⟨k, fun N hN => ?_⟩ l1, l2⟩
        have hk := hk N hN
        simp -implicitDefEqProofs [b83_0, g1, g2, g3, hw, hk, hd, atI]
      | some x =>
        have hx : ¬ (x : Int) < 0 := by omega
        by_cases hax : a < x
        · have hax' : (a : Int) < (x : Int) := by omega
          obtain ⟨fr', l1, l2⟩ := hrec (some a)
          have e : tooB (some x) (⟨s, a, .mk bk ba bs bn bks bas⟩ :: r) = tooB (some a) r := by simp [tooB, hd, less, hax]
          rw [e]
          refine ⟨fr', Lp.step ⟨k, fun N hN => ?_⟩ l1, l2⟩
          have hk := hk N hN
          simp only [atI]
          simp -implicitDefEqProofs [b83_0, g1, g2, g3, hw, hk, hd, hx, hax']
        · have hax' : ¬ (a : Int) < (x : Int) := by omega
          obtain ⟨fr', l1, l2⟩ := hrec (some x)
          have e : tooB (some x) (⟨s, a, .mk bk ba bs bn bks bas⟩ :: r) = tooB (some x) r := by simp [tooB, hd, less, hax]
          rw [e]
          refine ⟨fr', Lp.step ⟨k, fun N hN => ?_⟩ l1, l2⟩
          have hk := hk N hN
          simp only [atI]
          simp -implicitDefEqProofs [b83_0, g1, g2, g3, hw, hk, hd, hx, hax']
    · obtain ⟨fr', l1, l2⟩ := hrec o
      have e : tooB o (⟨s, a, .mk bk ba bs bn bks bas⟩ :: r) = tooB o r := by simp [tooB, hd]
      rw [e]
      refine ⟨fr', Lp.step ⟨k, fun N hN => ?_⟩ l1, l2⟩
      have hk := hk N hN
      simp -implicitDefEqProofs [b83_0, g1, g2, g3, hw, hk, hd]
theorem lp49_1 (X1 : AV) (X5 X6 : AV) (S : Str) (A : Nat) (L : List AV) (nl : Bool) (hL : L.length < big) : ∀ (r : List Ps.Ty) (i : Nat) (o : Option Nat), Tail L i (encYs r) → okTs r →
    ∃ fr', Lp ctx [] [] [1, 3, 5, 6, 7, 8] b83_1 ⟨[(1, .bx X1), (3, .v (.int .i64 (atI o))), (5, .v X5), (6, .v X6), (7, .bx (.agg [.str S, .int .i64 A, encR 4 nl L])), (8, .v (.int .i64 i))], false⟩ [] (.ex 6) fr' [] ∧ fr'.lk = false ∧ getS fr'.sl 1 = .bx X1 ∧ getS fr'.sl 5 = .v X5 ∧ getS fr'.sl 6 = .v X6 ∧ (∀ t, 49 ≤ t → t < 71 → getS fr'.sl t = .u) ∧ getS fr'.sl 3 = .v (.int .i64 (atI (tooT A o r)))
  | [], i, o, h, _ => by
    have h' := h.nil
    refine ⟨?_, Lp.exit ⟨0, fun N _ => ?_⟩ (by simp), ?_⟩
    rotate_left
    · simp -implicitDefEqProofs [b83_1, h']
      rfl
    · refine ⟨by simp, by simp, by simp, by simp, fun t h1 h2 => ?_, by simp [tooT]⟩
      simp only [getS_nil, getS_cons]
      repeat rw [if_neg (by omega)]
  | t :: r, i, o, h, hb => by
    have hlen := h.len
    simp only [encYs_cons] at h
    obtain ⟨g1, g2, g3, g4, g5⟩ := h.cons
    simp at hlen
    have hw := wrap_succ (n := i) (by omega)
    obtain ⟨k, hk⟩ := deepT_ans t hb.1
    have g6 := g5 4 nl
    have hrec := fun o' => lp49_1 X1 X5 X6 S A L nl hL r (i + 1) o' g4 hb.2
    rw [g6] at hrec ⊢
    by_cases hd : 60 < deepT t
    · cases o with
      | none =>
        obtain ⟨fr', l1, l2⟩ := hrec (some A)
        have e : tooT A none (t :: r) = tooT A (some A) r := by simp [tooT, hd, less]
        rw [e]
        refine ⟨fr', Lp.step ⟨k, fun N hN => ?_⟩ l1, l2⟩
        have hk := hk N hN
        simp -implicitDefEqProofs [b83_1, g1, g2, g3, hw, hk, hd, atI]
      | some x =>
        have hx : ¬ (x : Int) < 0 := by omega
        by_cases hax : A < x
        · have hax' : (A : Int) < (x : Int) := by omega
          obtain ⟨fr', l1, l2⟩ := hrec (some A)
          have e : tooT A (some x) (t :: r) = tooT A (some A) r := by simp [tooT, hd, less, hax]
          rw [e]
          refine ⟨fr', Lp.step ⟨k, fun N hN => ?_⟩ l1, l2⟩
          have hk := hk N hN
          simp only [atI]
          simp -implicitDefEqProofs [b83_1, g1, g2, g3, hw, hk, hd, hx, hax']
        · have hax' : ¬ (A : Int) < (x : Int) := by omega
          obtain ⟨fr', l1, l2⟩ := hrec (some x)
          have e : tooT A (some x) (t :: r) = tooT A (some x) r := by simp [tooT, hd, less, hax]
          rw [e]
          refine ⟨fr', Lp.step ⟨k, fun N hN => ?_⟩ l1, l2⟩
          have hk := hk N hN
          simp only [atI]
          simp -implicitDefEqProofs [b83_1, g1, g2, g3, hw, hk, hd, hx, hax']
    · obtain ⟨fr', l1, l2⟩ := hrec o
      have e : tooT A o (t :: r) = tooT A o r := by simp [tooT, hd]
      rw [e]
      refine ⟨fr', Lp.step ⟨k, fun N hN => ?_⟩ l1, l2⟩
      have hk := hk N hN
      simp -implicitDefEqProofs [b83_1, g1, g2, g3, hw, hk, hd]
theorem lp49_2 (BV : AV) (hB : BV.cells = [BV]) (DL : List AV) (di : Nat) (d : Da) (hd1 : idxN (di : Int) DL.length = some di) (hd2 : DL[di]? = some (encD d)) (hd : okD d) : ∀ (r : List Cn) (i : Nat) (o : Option Nat), Tail (encCs d.cs) i (encCs r) → (∀ c ∈ r, okC c) →
    ∃ fr', Lp ctx [] [] [1, 3, 5, 6] b83_2 ⟨[(1, .bx (.agg [.sl 4 DL, BV])), (3, .v (.int .i64 (atI o))), (5, .v (.int .i64 di)), (6, .v (.int .i64 i))], false⟩ [] (.ex 4) fr' [] ∧ fr'.lk = false ∧ getS fr'.sl 1 = .bx (.agg [.sl 4 DL, BV]) ∧ getS fr'.sl 5 = .v (.int .i64 di) ∧ (∀ t, 49 ≤ t → t < 51 → getS fr'.sl t = .u) ∧ getS fr'.sl 3 = .v (.int .i64 (atI (tooC o r)))
  | [], i, o, h, _ => by
    have h' := h.nil
    simp at h'
    unfold encD at hd2
    refine ⟨?_, Lp.exit ⟨0, fun N _ => ?_⟩ (by simp), ?_⟩
    rotate_left
    · simp -implicitDefEqProofs [b83_2, hd1, hd2, h']
      rfl
    · refine ⟨by simp, by simp, by simp, fun t h1 h2 => ?_, by simp [tooC]⟩
      simp only [getS_nil, getS_cons]
      repeat rw [if_neg (by omega)]
  | c :: r, i, o, h, hb => by
    have hlen := h.len
    simp only [encCs_cons] at h
    obtain ⟨g1, g2, g3, g4, g5⟩ := h.cons
    have hd' := hd
    unfold okD at hd'
    simp at hlen
    have hcl : d.cs.length < big := by have := hd'.2.1; unfold lim at this; unfold big; omega
    have hw := wrap_succ (n := i) (by omega)
    have hc := hb c (by simp)
    obtain ⟨fr1, j1, j2, j3, j4, j5, j6, j7⟩ := lp49_1 (.agg [.sl 4 DL, BV]) (.int .i64 di) (.int .i64 i) c.s c.a (encYs c.as) true (by simp [big]; have := hc.1; unfold lim at this; omega) c.as 0 o (Tail.all _) hc.2
    obtain ⟨k, hk⟩ := j1.den
    obtain ⟨fr', l1, l2⟩ := lp49_2 BV hB DL di d hd1 hd2 hd r (i + 1) (tooT c.a o c.as) g4 (fun x hx => hb x (by simp [hx]))
    have g6 := g5 3 true
    have e : tooC o (c :: r) = tooC (tooT c.a o c.as) r := by simp [tooC]
    rw [e]
    unfold encD at hd2
    unfold encC at g1
    rw [g6] at hd2
    simp only [encCs_length] at g2 g3
    refine ⟨fr', Lp.step ⟨k, fun N hN => ?_⟩ l1, l2⟩
    have hk := hk N hN
    simp -implicitDefEqProofs [b83_2, hd1, hd2, g1, g2, g3, hw, hk, j2, j3, j4, j5, j6, j7]
theorem lp49_3 (BV : AV) (hB : BV.cells = [BV]) (L : List AV) (nl : Bool) (hL : L.length < big) : ∀ (r : List Da) (i : Nat) (o : Option Nat), Tail L i (encDs r) → (∀ d ∈ r, okD d) →
    ∃ fr', Lp ctx [] [] [1, 3, 5] b83_3 ⟨[(1, .bx (.agg [encR 4 nl L, BV])), (3, .v (.int .i64 (atI o))), (5, .v (.int .i64 i))], false⟩ [] (.ex 2) fr' [] ∧ fr'.lk = false ∧ Hi 97 fr' ∧ getS fr'.sl 2 = .u ∧ getS fr'.sl 3 = .v (.int .i64 (atI (tooD o r)))
  | [], i, o, h, _ => by
    have h' := h.nil
    refine ⟨?_, Lp.exit ⟨0, fun N _ => ?_⟩ (by simp), ?_⟩
    rotate_left
    · simp -implicitDefEqProofs [b83_3, h']
      rfl
    · exact ⟨by simp, hi_of (by simp), by simp, by simp [tooD]⟩
  | d :: r, i, o, h, hb => by
    have hlen := h.len
    simp only [encDs_cons] at h
    obtain ⟨g1, g2, g3, g4, g5⟩ := h.cons
    simp at hlen
    have hw := wrap_succ (n := i) (by omega)
    have hd := hb d (by simp)
    obtain ⟨fr1, j1, j2, j3, j4, j5, j6⟩ := lp49_2 BV hB L i d g3 g1 hd d.cs 0 o (Tail.all _) hd.2.2
    obtain ⟨k, hk⟩ := j1.den
    obtain ⟨fr', l1, l2⟩ := lp49_3 BV hB L nl hL r (i + 1) (tooC o d.cs) g4 (fun x hx => hb x (by simp [hx]))
    have g6 := g5 4 nl
    rw [g6] at l1 ⊢
    have e : tooD o (d :: r) = tooD (tooC o d.cs) r := by simp [tooD]
    rw [e]
    refine ⟨fr', Lp.step ⟨k, fun N hN => ?_⟩ l1, l2⟩
    have hk := hk N hN
    simp -implicitDefEqProofs [b83_3, g1, g2, g3, hw, hk, j2, j3, j4, j5, j6]
def encPg (p : Pg) : AV := .agg [encR 4 true (encDs p.ds), encR 8 true (encBs p.bs)]
theorem tooDeep_ans (p : Pg) (h : okP p) : Ans ctx 83 [encPg p] (.int .i64 (atI (tooDeep p))) := by
  have hd := h.ds
  have hb := h.bs
  unfold lim at hd hb
  obtain ⟨fr1, j1, j2, j3, j4, j5, j6, j7⟩ := lp49_0 (encR 4 true (encDs p.ds)) (by simp) (encBs p.bs) true (by simp [big]; omega) p.bs 0 none (Tail.all _) h.b
  obtain ⟨k1, hk1⟩ := j1.den
  unfold Hi at j3
  obtain ⟨fr2, l1, l2, l3, l4, l5⟩ := lp49_3 (encR 8 true (encBs p.bs)) (by simp) (encDs p.ds) true (by simp [big]; omega) p.ds 0 (tooB none p.bs) (Tail.all _) h.d
  obtain ⟨k2, hk2⟩ := l1.den
  unfold Hi at l3
  refine Ans.of (σ' := []) fn83_ (by simp [encPg]) (by simp) ⟨k1 + k2, fun N hN => ?_⟩
  have hk1 := hk1 N (by omega)
  have hk2 := hk2 N (by omega)
  have e0 : atI none = -1 := rfl
  rw [e0] at hk1
  unfold encPg tooDeep
  simp -implicitDefEqProofs [i83, c83, hk1, hk2, j2, j3, j4, j5, j6, j7, l2, l3, l4, l5]
end Go.Am.Tryz
