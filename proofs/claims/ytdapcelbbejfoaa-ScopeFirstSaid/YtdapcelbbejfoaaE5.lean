/- Layer 13: scope.Check. -/
import Derived.Test.YtdapcelbbejfoaaE4
set_option linter.unusedVariables false
set_option maxRecDepth 100000
set_option linter.unusedSimpArgs false
namespace Go.Am.Try
open Go Go.Am.Ps

@[simp] theorem cells_map_ (r : Nat) : (AV.map r).cells = [.map r] := rfl
@[simp] theorem cells_nilm_ : AV.nilm.cells = [.nilm] := rfl

/-- the loop over Binds' names -/
theorem lp36_0 (ds : List Da) (X1 : AV) (L : List AV) (nl : Bool) (hL : L.length < big) : ∀ (r : List Bi) (i : Nat) (B : List Str) (σ : H), Tail L i (encBs r) → B.length + r.length ≤ 2 ^ 60 → SS ds σ B →
    ∃ e fr' σ', Lp ctx [26] [] [1, 6, 26, 28, 29, 30] b36_0 ⟨[(1, .bx X1), (6, .v (.ptr 1 1 0 0)), (26, .v (.ptr 1 1 0 0)), (28, .v (encR 8 nl L)), (29, .v (.int .i64 L.length)), (30, .v (.int .i64 i))], false⟩ σ e fr' σ' ∧ fr'.lk = false ∧
      (match twiceB B r with
       | .error a => e = .ret ∧ getS fr'.sl 2 = .v (.int .i64 7) ∧ getS fr'.sl 3 = .v (.int .i64 a)
       | .ok B' => e = .ex 0 ∧ SS ds σ' B' ∧ B'.length = B.length + r.length ∧ getS fr'.sl 1 = .bx X1 ∧ getS fr'.sl 6 = .v (.ptr 1 1 0 0) ∧ getS fr'.sl 26 = .v (.ptr 1 1 0 0) ∧ getS fr'.sl 2 = .u ∧ getS fr'.sl 3 = .u ∧ (∀ t, 57 ≤ t → t < 61 → getS fr'.sl t = .u))
  | [], i, B, σ, h, hb, hs => by
    have h' := h.nil
    refine ⟨.ex 0, ?_, σ, Lp.exit ⟨0, fun N _ => ?_⟩ (by simp), ?_⟩
    rotate_left
    · simp -implicitDefEqProofs [b36_0, h']
      rfl
    · refine ⟨by simp, rfl, hs, by simp, by simp, by simp, by simp, by simp, by simp, fun t h1 h2 => ?_⟩
      simp only [getS]
      repeat rw [if_neg (by omega)]
  | b :: r, i, B, σ, h, hb, hs => by
    have hlen := h.len
    simp only [encBs_cons] at h
    obtain ⟨g1, g2, g3, g4, g5⟩ := h.cons
    simp at hlen hb
    have hw := wrap_succ (n := i) (by omega)
    have g6 := g5 8 nl
    have ho := hs.o
    obtain ⟨s, a, ⟨bk, ba, bs, bn, bks, bas⟩⟩ := b
    simp only [encB, cellsE] at g1
    have hcnt : B.count s ≤ B.length := List.count_le_length
    have e0 := hs.look s
    have hac := any_count B s
    rw [g6]
    unfold twiceB
    cases hany : B.any (eqS s) with
    | true =>
      rw [hany] at hac
      have hz : (0 : Int) < (B.count s : Int) := by
        have : ((B.count s : Int) == 0) = false := by
          cases h : ((B.count s : Int) == 0) with
          | false => rfl
          | true => rw [h] at hac; cases hac
        simp at this; omega
      generalize (B.count s : Int) = c0 at e0 hz
      refine ⟨.ret, ?_, σ, Lp.exit ⟨0, fun N hN => ?_⟩ (by simp), ?_⟩
      rotate_left
      · simp -implicitDefEqProofs [b36_0, g1, g2, g3, ho, e0, hz]
        rfl
      · exact ⟨by simp, rfl, by simp, by simp⟩
    | false =>
      rw [hany] at hac
      have hc0 : (B.count s : Int) = 0 := by
        have : ((B.count s : Int) == 0) = true := by
          cases h : ((B.count s : Int) == 0) with
          | true => rfl
          | false => rw [h] at hac; cases hac
        exact eq_of_beq this
      obtain ⟨ei, σa, σb, e1, e2, e3, s1, k1, _⟩ := hs.turn s 1 (s :: B) (by simp; omega) (fun x hx => List.count_cons_of_ne (Ne.symm hx))
      rw [hc0] at e0 e1 e2
      obtain ⟨e, fr', σ', q1, q2, q3⟩ := lp36_0 ds X1 L nl hL r (i + 1) (s :: B) σb g4 (by simp; omega) s1
      rw [g6] at q1
      refine ⟨e, fr', σ', Lp.step ⟨0, fun N hN => ?_⟩ q1, q2, ?_⟩
      · have hw1 : IntKind.i64.wrap 1 = 1 := wrap_i64 (by omega)
        simp -implicitDefEqProofs [b36_0, g1, g2, g3, hw, ho, e0, e1, e2, e3, hw1]
      · simp only
        cases ht : twiceB (s :: B) r with
        | error x => rw [ht] at q3; exact q3
        | ok B' =>
          rw [ht] at q3
          obtain ⟨a1, a2, a3, a4⟩ := q3
          exact ⟨a1, a2, by simp at a3 ⊢; omega, a4⟩

/-- the loop over Binds -/
theorem lp36_1 {ds : List Da} (hd : okDs ds) (L : List AV) (nl : Bool) (hL : L.length < big) (B : List Str) (hB : B.length ≤ 2 ^ 60) : ∀ (r : List Bi) (i : Nat) (σ : H), Tail L i (encBs r) → (∀ b ∈ r, okE b.b ∧ bdE b.b ≤ 2 ^ 50) → SS ds σ B →
    ∃ e fr' σ', Lp ctx [26] [] [6, 26, 58, 59, 60] b36_1 ⟨[(6, .v (.ptr 1 1 0 0)), (26, .v (.ptr 1 1 0 0)), (58, .v (encR 8 nl L)), (59, .v (.int .i64 L.length)), (60, .v (.int .i64 i))], false⟩ σ e fr' σ' ∧ fr'.lk = false ∧
      (match wrBs ds B r with
       | some x => e = .ret ∧ getS fr'.sl 2 = .v (.int .i64 7) ∧ getS fr'.sl 3 = .v (.int .i64 x)
       | none => e = .ex 2 ∧ getS fr'.sl 2 = .u ∧ getS fr'.sl 3 = .u)
  | [], i, σ, h, _, hs => by
    have h' := h.nil
    refine ⟨.ex 2, ?_, σ, Lp.exit ⟨0, fun N _ => ?_⟩ (by simp), ?_⟩
    rotate_left
    · simp -implicitDefEqProofs [b36_1, h']
      rfl
    · exact ⟨by simp, rfl, by simp, by simp⟩
  | b :: r, i, σ, h, hb, hs => by
    have hlen := h.len
    simp only [encBs_cons] at h
    obtain ⟨g1, g2, g3, g4, g5⟩ := h.cons
    simp at hlen
    have hw := wrap_succ (n := i) (by omega)
    have g6 := g5 8 nl
    obtain ⟨hb1, hb2⟩ := hb b (by simp)
    obtain ⟨σ1, ⟨k, hk⟩, s1, p1⟩ := wrong_ok hd b.b hb1 B σ (by omega) hs
    rw [g6]
    obtain ⟨s, a, ⟨bk, ba, bs, bn, bks, bas⟩⟩ := b
    simp only [encB, cellsE] at g1
    simp only at hk
    rw [encE_mk] at hk
    unfold wrBs
    simp only
    cases hw' : wrE ds B (.mk bk ba bs bn bks bas) with
    | some x =>
      rw [hw'] at hk
      simp only [orM1] at hk
      refine ⟨.ret, ?_, σ1, Lp.exit ⟨k, fun N hN => ?_⟩ (by simp), ?_⟩
      rotate_left
      · have hk := hk N hN
        simp -implicitDefEqProofs [b36_1, g1, g2, g3, hk]
        rfl
      · exact ⟨by simp, rfl, by simp, by simp⟩
    | none =>
      rw [hw'] at hk
      simp only [orM1] at hk
      obtain ⟨e, fr', σ', q1, q2, q3⟩ := lp36_1 hd L nl hL B hB r (i + 1) σ1 g4 (fun x hx => hb x (by simp [hx])) s1
      rw [g6] at q1
      refine ⟨e, fr', σ', Lp.step ⟨k, fun N hN => ?_⟩ q1, q2, q3⟩
      have hk := hk N hN
      simp -implicitDefEqProofs [b36_1, g1, g2, g3, hw, hk]

def scI : Option (Nat × Nat) → Int × Int
  | some (e, a) => ((e : Int), (a : Int))
  | none => (0, 0)

set_option maxHeartbeats 1000000 in
/-- scope.Check -/
theorem scheck_ans (p : Pg) (hp : okP p) (hb : ∀ b ∈ p.bs, bdE b.b ≤ 2 ^ 50) : Ans ctx 36 [.agg [encR 4 true (encDs p.ds), encR 8 true (encBs p.bs)]] (.tup [.int .i64 (scI (checkScope p)).1, .int .i64 (scI (checkScope p)).2]) := by
  have hds := hp.ds
  have hbs := hp.bs
  unfold lim at hds hbs
  obtain ⟨k1, hk1⟩ := check_ans p.ds true (by unfold big; omega) hp.d
  unfold checkScope
  cases hc : checkData p.ds with
  | some a =>
    rw [hc] at hk1
    simp only [chkI] at hk1
    refine Ans.of (σ' := []) fn36_ (by simp) (by simp) ⟨k1, fun N hN => ?_⟩
    have hk1 := hk1 N hN
    simp -implicitDefEqProofs [i36, c36, hk1, scI]
  | none =>
    rw [hc] at hk1
    simp only [chkI] at hk1
    have hs : SS p.ds [.map [], .arr false 2 [.agg [encR 4 true (encDs p.ds), .map 0]]] [] := ⟨⟨[], rfl, fun s => by simp⟩, rfl⟩
    obtain ⟨e, fr1, σ1, j1, j2, j3⟩ := lp36_0 p.ds (.agg [encR 4 true (encDs p.ds), encR 8 true (encBs p.bs)]) (encBs p.bs) true (by simp [big]; omega) p.bs 0 [] _ (Tail.all _) (by simp; omega) hs
    obtain ⟨k2, hk2⟩ := j1.den
    simp only
    cases ht : twiceB [] p.bs with
    | error a =>
      rw [ht] at j3
      obtain ⟨rfl, j4, j5⟩ := j3
      refine Ans.of (σ' := σ1) fn36_ (by simp) (by simp) ⟨k1 + k2, fun N hN => ?_⟩
      have hk1 := hk1 N (by omega)
      have hk2 := hk2 N (by omega)
      simp only [encBs_length, Int.cast_ofNat_Int] at hk2
      simp -implicitDefEqProofs [i36, c36, hk1, hk2, j2, j4, j5, scI]
    | ok B =>
      rw [ht] at j3
      obtain ⟨rfl, s1, jl, j4, j5, j6, j7, j8, j9⟩ := j3
      simp only [List.length_nil, Nat.zero_add] at jl
      obtain ⟨e, fr2, σ2, l1, l2, l3⟩ := lp36_1 ⟨hp.ds, hp.d⟩ (encBs p.bs) true (by simp [big]; omega) B (by omega) p.bs 0 σ1 (Tail.all _) (fun b h => ⟨hp.b b h, hb b h⟩) s1
      obtain ⟨k3, hk3⟩ := l1.den
      simp only
      cases hw : wrBs p.ds B p.bs with
      | some a =>
        rw [hw] at l3
        obtain ⟨rfl, l4, l5⟩ := l3
        refine Ans.of (σ' := σ2) fn36_ (by simp) (by simp) ⟨k1 + k2 + k3, fun N hN => ?_⟩
        have hk1 := hk1 N (by omega)
        have hk2 := hk2 N (by omega)
        have hk3 := hk3 N (by omega)
        simp only [encBs_length, Int.cast_ofNat_Int] at hk2 hk3
        simp -implicitDefEqProofs [i36, c36, hk1, hk2, hk3, j2, j4, j5, j6, j7, j8, j9, l2, l4, l5, scI]
      | none =>
        rw [hw] at l3
        obtain ⟨rfl, l4, l5⟩ := l3
        refine Ans.of (σ' := σ2) fn36_ (by simp) (by simp) ⟨k1 + k2 + k3, fun N hN => ?_⟩
        have hk1 := hk1 N (by omega)
        have hk2 := hk2 N (by omega)
        have hk3 := hk3 N (by omega)
        simp only [encBs_length, Int.cast_ofNat_Int] at hk2 hk3
        simp -implicitDefEqProofs [i36, c36, hk1, hk2, hk3, j2, j4, j5, j6, j7, j8, j9, l2, l4, l5, scI]

end Go.Am.Try
