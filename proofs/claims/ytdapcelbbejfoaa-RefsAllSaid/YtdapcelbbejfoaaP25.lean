/- Layer 14: refs.Free, and two lists of texts. -/
import Derived.Test.YtdapcelbbejfoaaP23
set_option linter.unusedVariables false
set_option maxRecDepth 100000
set_option linter.unusedSimpArgs false
namespace Go.Am.Try
open Go Go.Am.Ps
@[simp] theorem cells_map (r : Nat) : (AV.map r).cells = [.map r] := rfl
@[simp] theorem cells_nilm : AV.nilm.cells = [.nilm] := rfl
@[simp] theorem cells_ptr (r v i o : Nat) : (AV.ptr r v i o).cells = [.ptr r v i o] := rfl
structure okF (e : Ex) : Prop where
  ok : okE e
  mx : mxE e ≤ 2 ^ 60
  v : vE e ≤ 2 ^ 38
theorem free_ans (e : Ex) (h : okF e) : Ans ctx 20 [encE e] (encR 1 true (encSs (frE [] [] e))) := by
  have hm := h.mx
  have hv := h.v
  have hf : FS [.map (encKL []), .arr false 2 [.agg [.map 0, .nil]]] [] [] := ⟨rfl, 0, rfl, fun h => absurd rfl h, fun h => absurd rfl h⟩
  have hk : KR [] [] [] := ⟨fun s => by simp [getK, findK], fun s => by simp [getK, findK]⟩
  obtain ⟨σ', l', ⟨k, hk1⟩, f1, r1⟩ := find_ok e h.ok [] [] [] _ (by simp; omega) (by simp; omega) hf hk
  obtain ⟨qO, h1, h2, h3⟩ := f1.o
  obtain ⟨ns, w⟩ := snapR h3 (by simp) 199
  rw [encSs_length] at w
  refine Ans.fn (σ' := σ') (rs := []) fn20_ (by simp) ⟨k, fun N hN => ?_⟩ w
  have hk1 := hk1 N hN
  have e0 : encKL [] = [] := rfl
  rw [e0] at hk1
  simp -implicitDefEqProofs [i20, c20, hk1, h1]
def sameSs : List Str → List Str → Bool
  | [], [] => true
  | a :: l, b :: m => (a == b) && sameSs l m
  | _, _ => false
theorem sameSs_iff : ∀ a b : List Str, sameSs a b = (a == b)
  | [], [] => rfl
  | [], _ :: _ => rfl
  | _ :: _, [] => rfl
  | x :: a, y :: b => by
    simp only [sameSs, sameSs_iff a b]
    rfl
theorem lp21 (L M : List AV) (n1 n2 : Bool) (hL : L.length < big) : ∀ (r1 r2 : List Str) (i : Nat), Tail L i (encSs r1) → Tail M i (encSs r2) → r1.length = r2.length →
    ∃ e fr', Lp ctx [] [] [0, 1, 5] b21_0 ⟨[(0, .v (encR 1 n1 L)), (1, .v (encR 1 n2 M)), (5, .v (.int .i64 i))], false⟩ [] e fr' [] ∧ fr'.lk = false ∧ cond (sameSs r1 r2) (e = .ex 0 ∧ getS fr'.sl 4 = .u) (e = .ret ∧ getS fr'.sl 4 = .v (.bool false))
  | [], [], i, h1, h2, _ => by
    have h' := h1.nil
    refine ⟨.ex 0, ?_, Lp.exit ⟨0, fun N _ => ?_⟩ (by simp), ?_⟩
    rotate_left
    · simp -implicitDefEqProofs [b21_0, h']
      rfl
    · exact ⟨by simp, by simp [sameSs]⟩
  | a :: r1, b :: r2, i, h1, h2, hr => by
    have hlen := h1.len
    simp only [encSs_cons] at h1 h2
    obtain ⟨g1, g2, g3, g4, g5⟩ := h1.cons
    obtain ⟨k1, k2, k3, k4, k5⟩ := h2.cons
    simp at hlen hr
    have hw := wrap_succ (n := i) (by omega)
    have g6 := g5 1 n1
    have k6 := k5 1 n2
    cases hab : a == b with
    | false =>
      refine ⟨.ret, ?_, Lp.exit ⟨0, fun N _ => ?_⟩ (by simp), ?_⟩
      rotate_left
      · rw [g6, k6]
        simp -implicitDefEqProofs [b21_0, g1, g2, g3, k1, k2, k3, hab, -beq_eq_false_iff_ne]
        rfl
      · exact ⟨by simp, by simp [sameSs, hab, -beq_eq_false_iff_ne]⟩
    | true =>
      obtain ⟨e, fr', q1, q2, q3⟩ := lp21 L M n1 n2 hL r1 r2 (i + 1) g4 k4 hr
      have e1 : sameSs (a :: r1) (b :: r2) = sameSs r1 r2 := by simp only [sameSs, hab, Bool.true_and]
      rw [e1]
      rw [g6, k6] at q1 ⊢
      refine ⟨e, fr', Lp.step ⟨0, fun N hN => ?_⟩ q1, q2, q3⟩
      simp -implicitDefEqProofs [b21_0, g1, g2, g3, k1, k2, k3, hab, hw, -beq_iff_eq]
  | [], _ :: _, _, _, _, h => by simp at h
  | _ :: _, [], _, _, _, h => by simp at h
theorem sameSs_len : ∀ a b, sameSs a b = true → a.length = b.length
  | [], [], _ => rfl
  | [], _ :: _, h => by cases h
  | _ :: _, [], h => by cases h
  | x :: a, y :: b, h => by
    simp only [sameSs, Bool.and_eq_true] at h
    simp [sameSs_len a b h.2]
theorem texts_ans (l m : List Str) (n1 n2 : Bool) (hl : l.length < big) : Ans ctx 21 [encR 1 n1 (encSs l), encR 1 n2 (encSs m)] (.bool (sameSs l m)) := by
  by_cases hlen : l.length = m.length
  · obtain ⟨e, fr', q1, q2, q3⟩ := lp21 (encSs l) (encSs m) n1 n2 (by simpa using hl) l m 0 (Tail.all _) (Tail.all _) hlen
    obtain ⟨k, hk⟩ := q1.den
    refine Ans.of (σ' := []) fn21_ (by simp) (by simp) ⟨k, fun N hN => ?_⟩
    have hk := hk N hN
    cases hs : sameSs l m with
    | true =>
      rw [hs] at q3
      obtain ⟨rfl, q4⟩ := q3
      simp -implicitDefEqProofs [i21, c21, hlen, hk, q2, q4]
    | false =>
      rw [hs] at q3
      obtain ⟨rfl, q4⟩ := q3
      simp -implicitDefEqProofs [i21, c21, hlen, hk, q2, q4]
  · have : sameSs l m = false := by
      cases hs : sameSs l m with
      | false => rfl
      | true => exact absurd (sameSs_len _ _ hs) hlen
    rw [this]
    have e1 : ((l.length : Int) != m.length) = true := by simp; omega
    refine Ans.of (σ' := []) fn21_ (by simp) (by simp) ⟨0, fun N hN => ?_⟩
    simp -implicitDefEqProofs [i21, c21, e1, -bne_iff_ne]
def awS : Str := [108, 101, 116, 32, 113, 32, 61, 32, 92, 120, 32, 45, 62, 32, 102, 32, 120, 59]
def awB : Bi := ⟨[113], 4, .mk 6 8 [120] 0 [.mk 5 14 [] 0 [.mk 1 14 [102] 0 [] [], .mk 1 16 [120] 0 [] []] []] []⟩
theorem aw_parse : parse awS = .ok ⟨[], [awB]⟩ := by kernel_rfl
theorem awake_ans : Ans ctx 17 [] (.bool true) := by
  obtain ⟨⟨k1, hk1⟩, _⟩ := parse_ans awS
  rw [aw_parse] at hk1
  obtain ⟨k2, hk2⟩ := free_ans awB.b ⟨by simp [awB, okE, okEs, okAs, lim], by simp [awB, mxE, mxEs, mxAs], by simp [awB, vE, vEs, vAs]⟩
  have e : frE [] [] awB.b = [[102]] := by kernel_rfl
  rw [e] at hk2
  refine Ans.of (σ' := []) fn17_ (by simp) (by simp) ⟨k1 + k2, fun N hN => ?_⟩
  have hk1 := hk1 N (by omega)
  have hk2 := hk2 N (by omega)
  simp only [awS, encPd, encDs_nil, encBs_cons, encBs_nil, encR_tnil, encR_cons] at hk1
  simp only [encSs_cons, encSs_nil, encR_cons] at hk2
  simp only [awB, encB, cellsE, encE_mk, encEs_cons, encEs_nil, encAs_nil, encR_tnil, encR_cons, Int.cast_ofNat_Int] at hk1 hk2
  simp -implicitDefEqProofs [i17, c17, hk1, hk2]
end Go.Am.Try
