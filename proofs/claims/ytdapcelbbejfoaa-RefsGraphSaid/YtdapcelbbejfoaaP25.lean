/- Layer 14: refs.Free, and two lists of texts. -/
import Derived.Test.YtdapcelbbejfoaaP23
set_option linter.unusedVariables false
set_option maxRecDepth 100000
set_option linter.unusedSimpArgs false
namespace Go.Am.Try
open Go Go.Am.Ps
@[simp] theorem cells_map (r : Nat) : (AV.map r).cells = [.map r] := rfl
@[simp] theorem cells_nilm : AV.nilm.cells = [.nilm] := rfl
@[simp] theorem cells_ptr (r v i o : Nat) : (AV.ptr r v i o).cells = [.ptr r v i o] := rfl
structure okF (e : Ex) : Prop where
  ok : okE e
  mx : mxE e ≤ 2 ^ 60
  v : vE e ≤ 2 ^ 38
theorem free_ans (e : Ex) (h : okF e) : Ans ctx 20 [encE e] (encR 1 true (encSs (frE [] [] e))) := by
  have hm := h.mx
  have hv := h.v
  have hf : FS [.map (encKL []), .arr false 2 [.agg [.map 0, .nil]]] [] [] := ⟨rfl, 0, rfl, fun h => absurd rfl h, fun h => absurd rfl h⟩
  have hk : KR [] [] [] := ⟨fun s => by simp [getK, findK], fun s => by simp [getK, findK]⟩
  obtain ⟨σ', l', ⟨k, hk1⟩, f1, r1⟩ := find_ok e h.ok [] [] [] _ (by simp; omega) (by simp; omega) hf hk
  obtain ⟨qO, h1, h2, h3⟩ := f1.o
  obtain ⟨ns, w⟩ := snapR h3 (by simp) 199
  rw [encSs_length] at w
  refine Ans.fn (σ' := σ') (rs := []) fn20_ (by simp) ⟨k, fun N hN => ?_⟩ w
  have hk1 := hk1 N hN
  have e0 : encKL [] = [] := rfl
  rw [e0] at hk1
  simp -implicitDefEqProofs [i20, c20, hk1, h1]
def awS : Str := [108, 101, 116, 32, 113, 32, 61, 32, 92, 120, 32, 45, 62, 32, 102, 32, 120, 59]
def awB : Bi := ⟨[113], 4, .mk 6 8 [120] 0 [.mk 5 14 [] 0 [.mk 1 14 [102] 0 [] [], .mk 1 16 [120] 0 [] []] []] []⟩
theorem aw_parse : parse awS = .ok ⟨[], [awB]⟩ := by kernel_rfl
theorem awake_ans : Ans ctx 17 [] (.bool true) := by
  obtain ⟨⟨k1, hk1⟩, _⟩ := parse_ans awS
  rw [aw_parse] at hk1
  obtain ⟨k2, hk2⟩ := free_ans awB.b ⟨by simp [awB, okE, okEs, okAs, lim], by simp [awB, mxE, mxEs, mxAs], by simp [awB, vE, vEs, vAs]⟩
  have e : frE [] [] awB.b = [[102]] := by kernel_rfl
  rw [e] at hk2
  refine Ans.of (σ' := []) fn17_ (by simp) (by simp) ⟨k1 + k2, fun N hN => ?_⟩
  have hk1 := hk1 N (by omega)
  have hk2 := hk2 N (by omega)
  simp only [awS, encPd, encDs_nil, encBs_cons, encBs_nil, encR_tnil, encR_cons] at hk1
  simp only [encSs_cons, encSs_nil, encR_cons] at hk2
  simp only [awB, encB, cellsE, encE_mk, encEs_cons, encEs_nil, encAs_nil, encR_tnil, encR_cons, Int.cast_ofNat_Int] at hk1 hk2
  simp -implicitDefEqProofs [i17, c17, hk1, hk2]
end Go.Am.Try
