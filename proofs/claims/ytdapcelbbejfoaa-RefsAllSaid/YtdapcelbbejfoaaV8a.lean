/- Layer 14: RefsAll. -/
import Derived.Test.YtdapcelbbejfoaaVA
import Derived.Test.YtdapcelbbejfoaaGB
set_option linter.unusedVariables false
set_option maxRecDepth 100000
set_option linter.unusedSimpArgs false
namespace Go.Am.Try
open Go Go.Am.Ps
set_option maxHeartbeats 2000000 in
theorem lp5_0 (D : AV) (bs : List Bi) (hL : bs.length < big) : ∀ (r : List Bi) (i : Nat), Tail (encBs bs) i (encBs r) → (∀ b ∈ r, okG b) →
    ∃ fr', Lp ctx [] [] [3, 4] b5_0 ⟨[(3, .bx (.agg [D, encR 8 true (encBs bs), .int .i64 0, .int .i64 0])), (4, .v (.int .i64 i))], false⟩ [] (.ex 0) fr' [] ∧ fr'.lk = false ∧ getS fr'.sl 3 = .bx (.agg [D, encR 8 true (encBs bs), .int .i64 0, .int .i64 0]) ∧ getS fr'.sl 2 = .u ∧ Hi2 27 59 fr'
  | [], i, h, _ => by
    have h' := h.nil
    simp only [encBs_length] at h'
    refine ⟨?_, Lp.exit ⟨0, fun N _ => ?_⟩ (by simp), ?_⟩
    rotate_left
    · simp -implicitDefEqProofs [b5_0, h']
      rfl
    · refine ⟨rfl, by simp, by simp, fun t h1 h2 => ?_⟩
      simp only [getS]
      repeat rw [if_neg (by omega)]
  | b :: r, i, h, hr => by
    have hlen := h.len
    simp only [encBs_cons] at h
    obtain ⟨g1, g2, g3, g4, g5⟩ := h.cons
    simp at hlen
    simp only [encBs_length] at g2 g3
    have hw := wrap_succ (n := i) (by unfold big at *; omega)
    have g6 := g5 8 true
    have hb := hr b (by simp)
    have hFl := frE_len b.b [] []
    have hv := hb.v
    simp only [List.length_nil, Nat.zero_add] at hFl
    obtain ⟨k1, hk1⟩ := free_ans b.b hb.f
    obtain ⟨k2, hk2⟩ := rfree_ans b.b hb.f hb.bd
    generalize frE [] [] b.b = F at *
    have hts := texts_ans F F true true (by unfold big; omega)
    have hss : sameSs F F = true := by rw [sameSs_iff]; simp
    rw [hss] at hts
    obtain ⟨k3, hk3⟩ := hts
    obtain ⟨fr', l1, l2⟩ := lp5_0 D bs hL r (i + 1) g4 (fun x hx => hr x (by simp [hx]))
    rw [g6] at l1 l2 ⊢
    refine ⟨fr', Lp.step ⟨k1 + k2 + k3, fun N hN => ?_⟩ l1, l2⟩
    have hk1 := hk1 N (by omega)
    have hk2 := hk2 N (by omega)
    have hk3 := hk3 N (by omega)
    clear l1 l2
    obtain ⟨s, a, bk, ba, bS, bn, bks, bas⟩ := b
    simp only [encB, cellsE] at g1
    simp only [encE_mk] at hk1 hk2
    simp -implicitDefEqProofs [b5_0, g1, g2, g3, hw, hk1, hk2, hk3]
theorem refsAll_ans (s : Str) : Ans ctx 5 [.str s] (.bool true) := by
  obtain ⟨k1, hk1⟩ := (parse_ans s).1
  obtain ⟨k2, hk2⟩ := awake_ans
  by_cases h1 : (2000 : Int) < (s.length : Int)
  · refine Ans.of (σ' := []) fn5_ (by simp) (by simp) ⟨k1 + k2, fun N hN => ?_⟩
    have hk1 := hk1 N (by omega)
    have hk2 := hk2 N (by omega)
    cases hp : parse s with
    | bad e a =>
      rw [hp] at hk1
      simp only [encPd] at hk1
      simp -implicitDefEqProofs [i5, c5, hk1, hk2, h1]
    | ok p =>
      rw [hp] at hk1
      simp only [encPd] at hk1
      simp -implicitDefEqProofs [i5, c5, hk1, hk2, h1]
  · cases hp : parse s with
    | bad e a =>
      rw [hp] at hk1
      have he := parse_nz hp
      have he' : ((e : Int) != 0) = true := by simp; omega
      refine Ans.of (σ' := []) fn5_ (by simp) (by simp) ⟨k1 + k2, fun N hN => ?_⟩
      have hk1 := hk1 N (by omega)
      have hk2 := hk2 N (by omega)
      simp only [encPd] at hk1
      simp -implicitDefEqProofs [i5, c5, hk1, hk2, h1, he', -bne_iff_ne]
    | ok p =>
      rw [hp] at hk1
      obtain ⟨⟨k3, hk3⟩, ⟨k4, hk4⟩, ⟨k5, hk5⟩, hG, hbl, hok⟩ := graphs_ans hp
      obtain ⟨b, ⟨k7, hk7⟩⟩ := great_ans p hok
      obtain ⟨fr', l1, l2, l3, l4, l5⟩ := lp5_0 (encR 4 true (encDs p.ds)) p.bs hbl p.bs 0 (Tail.all _) hG
      obtain ⟨k6, hk6⟩ := l1.den
      unfold Hi2 at l5
      refine Ans.of (σ' := []) fn5_ (by simp) (by simp) ⟨k1 + k2 + k3 + k4 + k5 + k6 + k7, fun N hN => ?_⟩
      have hk1 := hk1 N (by omega)
      have hk2 := hk2 N (by omega)
      have hk3 := hk3 N (by omega)
      have hk4 := hk4 N (by omega)
      have hk5 := hk5 N (by omega)
      have hk6 := hk6 N (by omega)
      have hk7 := hk7 N (by omega)
      simp only [encPd] at hk1
      simp only [Int.cast_ofNat_Int] at hk6
      cases b with
      | true => simp -implicitDefEqProofs [i5, c5, hk1, hk2, hk7, h1]
      | false => simp -implicitDefEqProofs [i5, c5, d5_1, hk1, hk2, hk3, hk4, hk5, hk6, hk7, h1, l2, l3, l4, l5]
end Go.Am.Try
