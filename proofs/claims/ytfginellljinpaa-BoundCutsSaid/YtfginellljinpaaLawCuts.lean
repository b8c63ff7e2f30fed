/- BoundCuts: bytes and workers beyond what may be count as what may be; one byte more has a thousand nodes, a key and 2^20 steps more, one worker more 2^12 steps. No condition: n is any uint16, w any uint8, beyond any int. -/
import Derived.Test.YtfginellljinpaaHand
namespace Go.Proofs.Ytfginellljinpaa.Hand
open Go.ChangeShapes Go.WideShapes Go.ChangeAt Go.RowKit
open Go.ChangeMaps (open_string shut_string)

theorem cutB_id {n : Int} (h : 0 ≤ n) (g : n ≤ 65536) : cutB n = n := by unfold cutB; omega
theorem cutW_id {n : Int} (h : 1 ≤ n) (g : n ≤ 64) : cutW n = n := by unfold cutW; omega
theorem cutB_far {n : Int} (h : 65536 ≤ n) : cutB n = 65536 := by unfold cutB; omega
theorem cutW_far {n : Int} (h : 65536 ≤ n) : cutW n = 64 := by unfold cutW; omega
theorem cutB_few {n : Int} (h : n ≤ 0) : cutB n = 0 := by unfold cutB; omega
theorem cutW_few {n : Int} (h : n ≤ 0) : cutW n = 1 := by unfold cutW; omega
theorem nodes_in (n : Int) (w : World) (h : 0 ≤ n) (g : n ≤ 65536) : Calls Try.prog 6 #[.int .i64 n] w fun e w' => e = .returned (.int .i64 (1000 * n + 1000)) ∧ w = w' := by
  have := nodes_any n w; rwa [cutB_id h g] at this
theorem nodes_far (n : Int) (w : World) (h : 65536 ≤ n) : Calls Try.prog 6 #[.int .i64 n] w fun e w' => e = .returned (.int .i64 65537000) ∧ w = w' := by
  have := nodes_any n w; rwa [cutB_far h] at this
theorem keys_in (n : Int) (w : World) (h : 0 ≤ n) (g : n ≤ 65536) : Calls Try.prog 8 #[.int .i64 n] w fun e w' => e = .returned (.int .i64 (n + 1000)) ∧ w = w' := by
  have := keys_any n w; rwa [cutB_id h g] at this
theorem keys_few (n : Int) (w : World) (h : n ≤ 0) : Calls Try.prog 8 #[.int .i64 n] w fun e w' => e = .returned (.int .i64 1000) ∧ w = w' := by
  have := keys_any n w; rwa [cutB_few h] at this
theorem steps_in (n v : Int) (w : World) (h : 0 ≤ n) (g : n ≤ 65536) (h' : 1 ≤ v) (g' : v ≤ 64) : Calls Try.prog 10 #[.int .i64 n, .int .i64 v] w fun e w' => e = .returned (.int .i64 ((n + 1) * 1048576 + v * 4096)) ∧ w = w' := by
  have := steps_any n v w; rwa [cutB_id h g, cutW_id h' g'] at this
theorem steps_far (n v : Int) (w : World) (h : 0 ≤ n) (g : n ≤ 65536) (h' : 65536 ≤ v) : Calls Try.prog 10 #[.int .i64 n, .int .i64 v] w fun e w' => e = .returned (.int .i64 ((n + 1) * 1048576 + 64 * 4096)) ∧ w = w' := by
  have := steps_any n v w; rwa [cutB_id h g, cutW_far h'] at this
theorem steps_few (n v : Int) (w : World) (h : 0 ≤ n) (g : n ≤ 65536) (h' : v ≤ 0) : Calls Try.prog 10 #[.int .i64 n, .int .i64 v] w fun e w' => e = .returned (.int .i64 ((n + 1) * 1048576 + 1 * 4096)) ∧ w = w' := by
  have := steps_any n v w; rwa [cutB_id h g, cutW_few h'] at this

set_option maxRecDepth 100000 in
set_option maxHeartbeats 4000000 in
theorem cuts_walk (n v b : Int) (w : World) (hn : 0 ≤ n) (hn' : n ≤ 65535) (hv : 0 ≤ v) (hv' : v ≤ 255) :
    Calls Try.prog 5 #[.int .u16 n, .int .u8 v, .int .i64 b] w fun e w' => e = .returned (.bool true) ∧ w = w' := by
  have hm1 : 0 ≤ v % 64 := by omega
  have hm2 : v % 64 ≤ 63 := by omega
  by_cases h1 : 65536 > b <;> by_cases h2 : 0 < b
  all_goals
    go_enter Try.func5, Try.ntmps5
    go_wp2_with (first | (go_at_call 6; first | ((with_reducible refine (nodes_in _ _ (by omega) (by omega)).mono ?_); rintro e w' ⟨rfl, rfl⟩) | ((with_reducible refine (nodes_far _ _ (by omega)).mono ?_); rintro e w' ⟨rfl, rfl⟩)) | (go_at_call 8; first | ((with_reducible refine (keys_in _ _ (by omega) (by omega)).mono ?_); rintro e w' ⟨rfl, rfl⟩) | ((with_reducible refine (keys_few _ _ (by omega)).mono ?_); rintro e w' ⟨rfl, rfl⟩)) | (go_at_call 10; first | ((with_reducible refine (steps_in _ _ _ (by omega) (by omega) (by omega) (by omega)).mono ?_); rintro e w' ⟨rfl, rfl⟩) | ((with_reducible refine (steps_far _ _ _ (by omega) (by omega) (by omega)).mono ?_); rintro e w' ⟨rfl, rfl⟩) | ((with_reducible refine (steps_few _ _ _ (by omega) (by omega) (by omega)).mono ?_); rintro e w' ⟨rfl, rfl⟩)) | (go_at_call 12; refine (awake_any _).mono ?_; rintro e w' ⟨rfl, rfl⟩))
    all_goals first | (exfalso; omega) | (go_ret; exact ⟨rfl, rfl⟩)
noncomputable section
theorem ownCuts : ownKnob Try.prog.godebug = none := by kernel_rfl
set_option maxRecDepth 100000 in
theorem liftedCuts (os : Os) (started : os.Started) (H : Type) (enc : TypeId × Value → H) :
    ReturnsInHanded {} Try.checked os 5 .any (Rows.boundCutsSpec.pre6 enc Try.prog Try.f5 Rows.boundCutsRow.domain false) (Rows.boundCutsSpec.post enc Try.prog Try.f5 false true false false) := by
  refine returnsInHanded_of_change_sized (C := Try.checked) ownCuts started (by kernel_rfl) Try.func5
    (ChangeSpec.witness6 (enc := enc) (C := Try.checked) false ⟨#[], #[.int .u16 0, .int .u8 0, .int .i64 0], []⟩ 8 (by kernel_rfl) (by kernel_rfl) (by kernel_rfl) (by kernel_rfl)) ?_
  intro W base args ds gs before hval0 hW hcnd hsz0 _
  have hval : ∀ (j : Nat) t v, Try.f5.params[j]? = some t → args[j]? = some v → Value.okWide Try.prog W .any base t v := hval0
  have hW' := hW
  obtain ⟨p, q, hA0, hV, rfl, hfz, hnd⟩ := hW
  have hA : DataW.TrodAll enc Try.prog W 0 (fun _ => true) true Try.f5.params.toList args.toList ds p := hA0
  rw [Try.params5] at hA hval
  obtain ⟨v0, vs0, d0, ds0, p0, q0, hargs, rfl, rfl, h0, r0⟩ := trodAll_cons hA
  obtain ⟨v1, vs1, d1, ds1, p1, q1, rfl, rfl, rfl, h1, r1⟩ := trodAll_cons r0
  obtain ⟨v2, vs2, d2, ds2, p2, q2, rfl, rfl, rfl, h2, r2⟩ := trodAll_cons r1
  obtain ⟨rfl, rfl, rfl⟩ := trodAll_nil r2
  obtain rfl : args = #[v0, v1, v2] := by cases args; simp_all
  obtain ⟨rfl, rfl⟩ := trodVars_none hV
  obtain ⟨a0, rfl, rfl, rfl, w0⟩ := open_int Try.underlying27 (hval 0 27 v0 rfl rfl) h0
  obtain ⟨a1, rfl, rfl, rfl, w1⟩ := open_int Try.underlying5 (hval 1 5 v1 rfl rfl) h1
  obtain ⟨a2, rfl, rfl, rfl, w2⟩ := open_int Try.underlying3 (hval 2 3 v2 rfl rfl) h2
  clear hA0 hval0 hsz0
  have g0 : 0 ≤ a0 ∧ a0 ≤ 65535 := wf_u16 w0
  have g1 : 0 ≤ a1 ∧ a1 ≤ 255 := wf_u8 w1
  refine (cuts_walk a0 a1 a2 W g0.1 g0.2 g1.1 g1.2).mono fun e W' ⟨he, hw⟩ => ?_
  subst he
  subst hw
  exact ⟨_, rfl, _, _, _, [], _, [], hW', trodAll_mk1 (shut_bool Try.underlying4 _), trodAll_cons_mk (shut_int Try.underlying27 w0) (trodAll_cons_mk (shut_int Try.underlying5 w1) (trodAll_cons_mk (shut_int Try.underlying3 w2) trodAll_mk0)), rfl, (Below.refl W.heap.size W).frame _, fun h => by cases h⟩
theorem overCuts : Rows.boundCutsRow.holds Try.pinned (OpenSpec.ofChange Rows.boundCutsSpec) :=
  OpenClaim.holds_of_wide 5 Try.f5 rfl rfl rfl rfl rfl rfl rfl ⟨rfl, rfl, rfl, rfl, rfl⟩ rfl rfl rfl rfl rfl (by kernel_rfl) Try.func5 (by kernel_rfl)
    (of_decide_eq_true (by kernel_rfl)) (by unfold Func.isWrapper; first | (rw [if_pos (by decide +kernel)]; kernel_rfl) | (rw [if_neg (by decide +kernel)]; exact ⟨rfl, rfl⟩))
    (fun os started H enc _ => liftedCuts os started H enc)
end
end Go.Proofs.Ytfginellljinpaa.Hand
namespace Go.Proofs.Ytfginellljinpaa
/-- The row. -/
theorem boundCuts_holds : Rows.BoundCutsSaid := Hand.overCuts
end Go.Proofs.Ytfginellljinpaa
#print axioms Go.Proofs.Ytfginellljinpaa.boundCuts_holds
