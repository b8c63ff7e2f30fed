/- SchemeAll, for every input: whether a scheme may be, and what such ones are to one another, their text, their instances, are the document's. No condition. -/
import Derived.Test.YtmhggdoanajboaaDoorTie
import Derived.Test.YtmhggdoanajboaaDoorCards
import Derived.Test.YtmhggdoanajboaaDoorMh
import Derived.Test.YtmhggdoanajboaaDoorMLaw
import Derived.Test.YtmhggdoanajboaaDoorLx
import Derived.Test.YtmhggdoanajboaaDoorLy
import Derived.Lib.LaidU8
import Derived.Test.YtmhggdoanajboaaDoorPr
import Derived.ProofKit
import Derived.LaidMore
import Derived.OpenShut
import Derived.Stop.Joined
import Derived.SevenTiedAt
import Derived.SizedLaws
set_option linter.unusedVariables false
set_option maxRecDepth 100000
namespace Go.Proofs.YtmhggdoanajboaaDoor
open Go.ChangeShapes Go.WideShapes Go.ChangeAt Go.WideMaps Go.WideElems Go.RowKit
theorem own : ownKnob Tryd.prog.godebug = none := by kernel_rfl
theorem laidOut : laidOutB Tryd.prog = true := by kernel_rfl
theorem tyP : Go.Am.TyP Tryd.prog 24 22 3 3 9 := ⟨⟨_, _, _, _, Tryd.underlying24, rfl, rfl, rfl, rfl, rfl, rfl, rfl, rfl⟩, Tryd.underlying3, Tryd.underlying3, Tryd.underlying9, Tryd.underlying22, by kernel_rfl, by kernel_rfl, by kernel_rfl, by kernel_rfl, by kernel_rfl, by kernel_rfl⟩
def laidX {H : Type} : List (String × DataW H) := [("math/bits.deBruijn32tab", Rows.laid_math_bits_deBruijn32tab), ("math/bits.deBruijn64tab", Rows.laid_math_bits_deBruijn64tab), ("internal/strconv.uint64pow10", Rows.laid_internal_strconv_uint64pow10)]
theorem door_met (os : Os) (args : Array Value) : laidMetH Tryd.prog laidX ((World.doorLaid Tryd.prog 400 os).forCall (fun _ _ => 0) ⟨#[], args, []⟩).memory :=
  laidMetH_of_parts3 (fuel := 8) (laidMet_of_run' 8 (by kernel_rfl) (by kernel_rfl)) (by kernel_rfl) (by kernel_rfl)
theorem tab_met {W : World} (h : laidMetH Tryd.prog laidX W) : Go.Am.TabMet W := by
  have h : laidMet Tryd.prog laidX W := h
  obtain ⟨g, t, cs, fuel, p, h1, h2, h3, h4⟩ := Lib.laidMet.reads h (n := "internal/strconv.uint64pow10") (d := Lib.tabData .u64 Lib.pow10Tab) (by simp [laidX]; kernel_rfl)
  have hg : Tryd.prog.globalNamed "internal/strconv.uint64pow10" = some 0 := by kernel_rfl
  have hty : (Tryd.prog.globals[0]?).map (·.type) = some 115 := by kernel_rfl
  obtain rfl := Option.some.inj (hg.symm.trans h1)
  obtain rfl := Option.some.inj (hty.symm.trans h2)
  have hc := Lib.cells_of_tab Tryd.underlying115 (by kernel_rfl) (by kernel_rfl) (by kernel_rfl) h4
  have hcs : cs = (Lib.pow10Tab.map fun z => Value.int .u64 z).toArray := by rw [← hc]
  subst hcs
  intro x hx
  simp only [Go.Am.TAB, List.mem_singleton] at hx
  subst hx
  have hv := h3
  unfold World.var? at hv
  rw [hg] at hv
  simp only [Option.bind_some] at hv
  split at hv
  · rename_i c el f he
    have e := Option.some.inj hv
    exact ⟨⟨el, f, by rw [he, e]⟩, ⟨.int .u64 1, World.var?_cell hg h3 0⟩⟩
  · simp at hv
theorem lifted (os : Os) (started : os.Started) (H : Type) (enc : TypeId × Value → H) :
    ReturnsInHanded {} Tryd.checked os 4 .any (fun w args => (Rows.schemeAllSpec.pre enc Tryd.prog Tryd.f4 [] false w args ∧ laidMetH Tryd.prog laidX w) ∧ sizedMet enc Tryd.prog Tryd.f4 (OpenSpec.ofChange Rows.schemeAllSpec) false w args)
      (Rows.schemeAllSpec.post enc Tryd.prog Tryd.f4 false true false false) := by
  refine returnsInHanded_of_change_and (C := Tryd.checked) (X := fun w _ => laidMetH Tryd.prog laidX w) (fun _ _ _ hh h => h.of_heap hh) own started (by kernel_rfl) Tryd.func4
    (ChangeSpec.witness_shaped (enc := enc) (C := Tryd.checked) (os := os) (X := fun w _ => laidMetH Tryd.prog laidX w) false (World.doorLaid Tryd.prog 400 os) #[.agg #[.int .i64 0, .int .i64 0, .int .i64 0, .string ⟨#[]⟩, .slice none 0 0], .agg #[.int .i64 0, .int .i64 0, .int .i64 0, .string ⟨#[]⟩, .slice none 0 0], .slice none 0 0] 8 rfl (World.shaped_of_RefB (by kernel_rfl) (by kernel_rfl)) (by kernel_rfl) (by kernel_rfl) (by kernel_rfl) (door_met os _)) ?_
  intro W base args ds gs before hval0 hW _ hsz0 hL _
  have hval : ∀ (j : Nat) t v, Tryd.f4.params[j]? = some t → args[j]? = some v → Value.okWide Tryd.prog W .any base t v := hval0
  have hW' := hW
  obtain ⟨p, q, hA0, hV, rfl, hfz, hnd⟩ := hW
  have hA : DataW.TrodAll enc Tryd.prog W 0 (fun _ => true) true Tryd.f4.params.toList args.toList ds p := hA0
  rw [Tryd.params4] at hA hval
  obtain ⟨v0, vs0, d0, ds0, p0, q0, hargs, rfl, rfl, h0, r0⟩ := trodAll_cons hA
  obtain ⟨v1, vs1, d1, ds1, p1, q1, rfl, rfl, rfl, h1, r1⟩ := trodAll_cons r0
  obtain ⟨v2, vs2, d2, ds2, p2, q2, rfl, rfl, rfl, h2, r2⟩ := trodAll_cons r1
  obtain ⟨rfl, rfl, rfl⟩ := trodAll_nil r2
  obtain rfl : args = #[v0, v1, v2] := by cases args; simp_all
  obtain ⟨rfl, rfl⟩ := trodVars_none hV
  obtain ⟨n0, l0, c0, g0⟩ := Go.Am.Tryd.sch_arg tyP Tryd.underlying38 rfl rfl rfl rfl (by kernel_rfl) (hval 0 38 v0 rfl rfl) h0 (Go.Am.arg_sized (j := 0) hsz0 (by rw [Tryd.params4]; rfl) rfl)
  obtain ⟨n1, l1, c1, g1⟩ := Go.Am.Tryd.sch_arg tyP Tryd.underlying38 rfl rfl rfl rfl (by kernel_rfl) (hval 1 38 v1 rfl rfl) h1 (Go.Am.arg_sized (j := 1) hsz0 (by rw [Tryd.params4]; rfl) rfl)
  obtain ⟨n2, l2, c2, e2, g2⟩ := Go.Am.tys_arg tyP (hval 2 22 v2 rfl rfl) h2 (Go.Am.arg_sized (j := 2) hsz0 (by rw [Tryd.params4]; rfl) rfl)
  clear hA0 hval0
  simp only [List.append_nil] at hW'
  have hv : Go.Am.VRs (Go.Am.G0 W) [Go.Am.Tryd.encS n0 l0, Go.Am.Tryd.encS n1 l1, Go.Am.encR 4 n2 (Go.Am.encTs l2)] #[v0, v1, v2] := Go.Am.VRs_push g0 (Go.Am.VRs_push g1 (Go.Am.VRs_push g2 Go.Am.VRs_nil))
  refine (Go.Am.calls_of_ans Go.Am.Tryd.ctx_ok (Go.Am.Tryd.schemeAll_ans n0 n1 l0 l1 l2 n2 c0 c1 c2 e2) hv (by kernel_rfl) (tab_met hL)).mono fun e W' ⟨v, he, ⟨g', hv'⟩, bel⟩ => ?_
  rw [Go.Am.VR_bool] at hv'
  subst he
  subst hv'
  have hlt : ∀ x ∈ (p0 ++ (p1 ++ (p2 ++ []))), x.block < W.heap.size := fun x hx => by simpa using hW'.lt x (by simpa using hx)
  refine ⟨_, rfl, _, _, _, [], _, [], hW', trodAll_mk1 (shut_bool Tryd.underlying4 _),
    trodAll_cons_mk (Below.trod laidOut (by kernel_rfl) (of_decide_eq_true (by kernel_rfl)) h0 bel fun x hx => hlt x (by simp [hx])) (trodAll_cons_mk (Below.trod laidOut (by kernel_rfl) (of_decide_eq_true (by kernel_rfl)) h1 bel fun x hx => hlt x (by simp [hx])) (trodAll_cons_mk (Below.trod laidOut (by kernel_rfl) (of_decide_eq_true (by kernel_rfl)) h2 bel fun x hx => hlt x (by simp [hx])) trodAll_mk0)), rfl, bel.frame _, fun h => by cases h⟩
theorem schemeAll_said : Rows.SchemeAllSaid :=
  OpenClaim.holds_of_wide 4 Tryd.f4 rfl rfl rfl rfl rfl rfl rfl ⟨rfl, rfl, rfl, rfl, rfl⟩ rfl rfl rfl rfl rfl (by kernel_rfl) Tryd.func4 (by kernel_rfl)
    (of_decide_eq_true (by kernel_rfl)) (by unfold Func.isWrapper; first | (rw [if_pos (by decide +kernel)]; kernel_rfl) | (rw [if_neg (by decide +kernel)]; exact ⟨rfl, rfl⟩))
    (fun os started H enc _ => lifted os started H enc)
theorem schemeAll_holds : Rows.SchemeAllCardSaid :=
  Claim7.holds_tied_plain_at .later [] [.data, .data, .data] true (true, "b6e78067806e8a17d83f3644277aadf846e69e496db8c149e025d27178472270") false
    schemeAll_said (fun _ h => by cases h) (by kernel_rfl) (fun _ h => by cases h) schemeAll_row_tie rfl ⟨rfl, rfl⟩ (by kernel_rfl) rfl
    (fun f fn hf hfn => by
      obtain rfl : f = 4 := Option.some.inj ((show Tryd.prog.funcNamed "warp/warplaw19.SchemeAll" = some 4 by kernel_rfl).symm.trans hf) |>.symm
      obtain rfl : fn = Tryd.f4 := (Option.some.inj (Tryd.func4.symm.trans hfn)).symm
      exact ⟨by kernel_rfl, fun j t ht => by
        rw [Tryd.params4] at ht
        have h3 : t = 22 ∨ t = 38 := by
          rcases j with _ | _ | _ | j <;> simp at ht <;> simp [← ht]
        rcases h3 with rfl | rfl
        · exact (show Tryd.prog.wantsStandIn 22 = false by kernel_rfl)
        · exact (show Tryd.prog.wantsStandIn 38 = false by kernel_rfl)⟩)
    (by kernel_rfl)
end Go.Proofs.YtmhggdoanajboaaDoor
#print axioms Go.Proofs.YtmhggdoanajboaaDoor.schemeAll_holds
