/- The abstract machine and the model: a call from outside; arguments as they lie in memory. -/
import Derived.Test.YtmhggdoanajboaaDoorM3
import Derived.Test.YtmhggdoanajboaaDoorMTyp
import Derived.ProofKit
import Derived.Below
set_option linter.unusedVariables false
namespace Go.Am
open Go
def G0 (w : World) : G := ⟨fun b o => w.cell? ⟨b, o, none⟩, fun _ _ => none⟩
def TabMet (w : World) : Prop := ∀ x ∈ TAB, TabAt w x ∧ ∃ u, w.cell? ⟨x.1, 0, none⟩ = some u
theorem HR0 (w : World) (ht : TabMet w) : HR (G0 w) [] w where
  im := fun _ _ _ h => h
  ob := fun r o h => by simp at h
  inj := fun r r' o o' b h => by simp at h
  free := fun b h => by obtain ⟨r, o, h1, _⟩ := h; simp at h1
  dom := fun r v p h => by simp [G0] at h
  top := fun r o v p h => by simp at h
  tb := ht
theorem calls_of_ans {P : Program} {C : Ctx} (hC : CtxOK P C) {f : Nat} {l : List AV} {r : AV} (h : Ans C f l r) {w : World} {vs : Array Value} (hv : VRs (G0 w) l vs) (he : (callFunc f vs).run P w = .ok (.enter f vs) w) (ht : TabMet w := by exact fun x h => by simp [TAB] at h) :
    Calls P f vs w fun e w' => ∃ v, e = .returned v ∧ (∃ g', VR g' r v) ∧ RowKit.Below w.heap.size w w' := by
  obtain ⟨k, h⟩ := h
  rcases acall_serves hC (h k (Nat.le_refl _) []) (HR0 w ht) hv with ⟨_, h2⟩ | ⟨v, w', h1, _⟩
  · refine h2.mono fun e w' he => ?_
    cases e with
    | returned v =>
      obtain ⟨g', _, h4, h5⟩ := he
      exact ⟨v, rfl, ⟨g', h5⟩, h4.os, h4.tape, h4.output, h4.size, fun b hb => h4.keep b hb (fun ho => by obtain ⟨r, o, h1, _⟩ := ho; simp at h1)⟩
    | panicked c => exact he.elim
    | _ => exact he.elim
  · rw [he] at h1
    cases h1
theorem VRs_nil {g : G} : VRs g [] #[] := ⟨rfl, fun j c h => by simp at h⟩
theorem VRs_push {g : G} {l : List AV} {vs : List Value} {a : AV} {v : Value} (h : VR g a v) (hl : VRs g l vs.toArray) : VRs g (a :: l) (v :: vs).toArray := by
  refine ⟨by have := hl.1; simp at this; simp [this], fun j c hj => ?_⟩
  cases j with
  | zero => simp at hj; subst hj; exact ⟨v, by simp, h⟩
  | succ j =>
    obtain ⟨u, h1, h2⟩ := hl.2 j c (by simpa using hj)
    exact ⟨u, by simpa using h1, h2⟩
/-! ### rows of bytes -/
def bytesOfInts (zs : List Int) : List UInt8 := zs.map fun z => UInt8.ofNat z.toNat
theorem ofBytes_ints (zs : List Int) (h : ∀ z ∈ zs, 0 ≤ z ∧ z < 256) : ofBytes (bytesOfInts zs) = zs.map fun z => AV.int .u8 z := by
  unfold ofBytes bytesOfInts
  rw [List.map_map]
  refine List.map_congr_left fun z hz => ?_
  obtain ⟨h1, h2⟩ := h z hz
  have : (UInt8.ofNat z.toNat).toNat = z.toNat := by
    rw [UInt8.toNat_ofNat']
    exact Nat.mod_eq_of_lt (by omega)
  simp [this]
  omega
theorem cell_spot {w : World} {a : Addr} {u : Value} (h : w.cell? a = some u) : a = ⟨a.block, a.off, none⟩ := by
  unfold World.cell? at h
  split at h <;> try (simp at h; done)
  obtain ⟨b, o, sp⟩ := a
  cases sp with
  | none => rfl
  | some s => simp at h
theorem VR_bytes {w : World} {a : Addr} {len cap : Nat} {zs : List Int} (hl : len ≤ zs.length) (hc : len ≤ cap) (h : ∀ i, i < zs.length → w.cell? (a.add i) = some (.int .u8 (zs.getD i 0))) (hw : ∀ n ∈ zs, (Lit.int .u8 n).wf = true) :
    VR (G0 w) (.sl 1 (ofBytes (bytesOfInts (zs.take len)))) (.slice (some a) len cap) := by
  have hr : ∀ z ∈ zs.take len, 0 ≤ z ∧ z < 256 := fun z hz => by
    have := hw z (List.mem_of_mem_take hz)
    simp [Lit.wf, IntKind.min, IntKind.max, IntKind.bits, IntKind.signed] at this
    omega
  rw [ofBytes_ints _ hr]
  have hlen : (zs.take len).length = len := by simp; omega
  refine VR_sl.2 ⟨a, cap, by rw [List.length_map, hlen], by rw [List.length_map, hlen]; exact hc, ?_⟩
  by_cases h0 : len = 0
  · subst h0; simp
  right
  have hz := h 0 (by omega)
  have ha := cell_spot (by simpa [Addr.add] using hz)
  refine ⟨a.block, a.off, ha, fun i x hx => ?_⟩
  obtain ⟨z, hz, rfl⟩ : ∃ z, (zs.take len)[i]? = some z ∧ x = .int .u8 z := by
    simp only [List.getElem?_map, Option.map_eq_some_iff] at hx
    obtain ⟨z, h1, h2⟩ := hx
    exact ⟨z, h1, h2.symm⟩
  have hi : i < len := by
    have := (List.getElem?_eq_some_iff.1 hz).1
    omega
  rw [List.getElem?_take_of_lt hi] at hz
  refine ⟨rfl, fun j c hj => ?_⟩
  cases j with
  | succ j => simp [AV.cells] at hj
  | zero =>
    simp [AV.cells] at hj
    subst hj
    have := h i (by omega)
    rw [ha, cells_add, List.getD_eq_getElem?_getD, hz] at this
    exact ⟨_, by simpa [G0] using this, rfl, VR_int.2 rfl⟩
theorem bytes_arg {H : Type} {enc : TypeId × Value → H} {P : Program} {w : World} {t e : TypeId} {v : Value} {d : DataW H} {p : List MemPlace} {r : Reach} {base : Nat} (ht : P.underlying t = some (.slice e)) (he : P.underlying e = some (.int .u8)) (hc : P.cellsOf e = 1)
    (hok : Value.okWide P w r base t v) (h : DataW.Trod enc P w 0 (fun _ => true) true t v d p) : ∃ nl l, VR (G0 w) (encR 1 nl (ofBytes l)) v := by
  obtain ⟨a0, len, cap, rfl⟩ := WideShapes.okWide_slice ht hok
  obtain ⟨fuel, h⟩ := h
  rcases ChangeShapes.open_ints ht he hc h with ⟨h1, _⟩ | ⟨a, len', cap', zs, h1, _, hl, _, hz, _, hcell, hwf⟩
  · refine ⟨true, [], ?_⟩
    simp [Value.cells] at h1
    obtain ⟨rfl, rfl, rfl⟩ := h1
    exact VR_nil.2 rfl
  · simp [Value.cells] at h1
    obtain ⟨rfl, rfl, rfl⟩ := h1
    refine ⟨false, bytesOfInts (zs.take len), ?_⟩
    rw [encR_false]
    exact VR_bytes (by simp at hz; omega) hl hcell hwf
theorem u8_arg {H : Type} {enc : TypeId × Value → H} {P : Program} {w : World} {t : TypeId} {v : Value} {d : DataW H} {p : List MemPlace} {r : Reach} {base : Nat} (ht : P.underlying t = some (.int .u8))
    (hok : Value.okWide P w r base t v) (h : DataW.Trod enc P w 0 (fun _ => true) true t v d p) : ∃ n : UInt8, VR (G0 w) (.int .u8 n.toNat) v := by
  obtain ⟨n, rfl, _, _, hw⟩ := ChangeShapes.open_int ht hok h
  have hn : 0 ≤ n ∧ n < 256 := by
    simp [Lit.wf, IntKind.min, IntKind.max, IntKind.bits, IntKind.signed] at hw
    omega
  refine ⟨UInt8.ofNat n.toNat, VR_int.2 ?_⟩
  have : (UInt8.ofNat n.toNat).toNat = n.toNat := by
    rw [UInt8.toNat_ofNat']
    exact Nat.mod_eq_of_lt (by omega)
  rw [this]
  congr 1
  omega
theorem u16_arg {H : Type} {enc : TypeId × Value → H} {P : Program} {w : World} {t : TypeId} {v : Value} {d : DataW H} {p : List MemPlace} {r : Reach} {base : Nat} (ht : P.underlying t = some (.int .u16))
    (hok : Value.okWide P w r base t v) (h : DataW.Trod enc P w 0 (fun _ => true) true t v d p) : ∃ n : Nat, n < 65536 ∧ VR (G0 w) (.int .u16 n) v := by
  obtain ⟨n, rfl, _, _, hw⟩ := ChangeShapes.open_int ht hok h
  have hn : 0 ≤ n ∧ n < 65536 := by
    simp [Lit.wf, IntKind.min, IntKind.max, IntKind.bits, IntKind.signed] at hw
    omega
  refine ⟨n.toNat, by omega, VR_int.2 ?_⟩
  congr 1
  omega
end Go.Am
