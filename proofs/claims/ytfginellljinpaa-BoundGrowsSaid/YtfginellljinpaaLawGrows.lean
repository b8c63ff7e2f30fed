/- BoundGrows: of two numbers of bytes, and two of workers, the greater one never has a lesser bound, and each bound is above 0. No condition: the four numbers are any int. -/
import Derived.Test.YtfginellljinpaaHand
namespace Go.Proofs.Ytfginellljinpaa.Hand
open Go.ChangeShapes Go.WideShapes Go.ChangeAt Go.RowKit
open Go.ChangeMaps (open_string shut_string)

theorem cutB_le {n m : Int} (h : n ≤ m) : cutB n ≤ cutB m := by unfold cutB; omega
theorem cutW_le {n m : Int} (h : n ≤ m) : cutW n ≤ cutW m := by unfold cutW; omega

set_option maxHeartbeats 1000000 in
theorem grows_walk (n m v u : Int) (w : World) :
    Calls Try.prog 4 #[.int .i64 n, .int .i64 m, .int .i64 v, .int .i64 u] w fun e w' => e = .returned (.bool true) ∧ w = w' := by
  obtain ⟨a, ha⟩ : ∃ a, a = min n m := ⟨_, rfl⟩
  obtain ⟨b, hb⟩ : ∃ b, b = max n m := ⟨_, rfl⟩
  obtain ⟨c, hc⟩ : ∃ c, c = min v u := ⟨_, rfl⟩
  obtain ⟨d, hd⟩ : ∃ d, d = max v u := ⟨_, rfl⟩
  have q1 := cutB_in a
  have q2 := cutW_in c
  have q3 := cutB_in b
  have q4 := cutW_in d
  have l1 := cutB_le (show a ≤ b by omega)
  have l2 := cutW_le (show c ≤ d by omega)
  by_cases h1 : m < n <;> by_cases h2 : u < v
  · obtain rfl : a = m := by omega
    obtain rfl : b = n := by omega
    obtain rfl : c = u := by omega
    obtain rfl : d = v := by omega
    clear ha hb hc hd
    go_enter Try.func4, Try.ntmps4
    go_wp2_with (first | (go_at_call 6; refine (nodes_any _ _).mono ?_; rintro e w' ⟨rfl, rfl⟩) | (go_at_call 8; refine (keys_any _ _).mono ?_; rintro e w' ⟨rfl, rfl⟩) | (go_at_call 10; refine (steps_any _ _ _).mono ?_; rintro e w' ⟨rfl, rfl⟩) | (go_at_call 12; refine (awake_any _).mono ?_; rintro e w' ⟨rfl, rfl⟩))
    all_goals first | (exfalso; omega) | (go_ret; exact ⟨rfl, rfl⟩)
  · obtain rfl : a = m := by omega
    obtain rfl : b = n := by omega
    obtain rfl : c = v := by omega
    obtain rfl : d = u := by omega
    clear ha hb hc hd
    go_enter Try.func4, Try.ntmps4
    go_wp2_with (first | (go_at_call 6; refine (nodes_any _ _).mono ?_; rintro e w' ⟨rfl, rfl⟩) | (go_at_call 8; refine (keys_any _ _).mono ?_; rintro e w' ⟨rfl, rfl⟩) | (go_at_call 10; refine (steps_any _ _ _).mono ?_; rintro e w' ⟨rfl, rfl⟩) | (go_at_call 12; refine (awake_any _).mono ?_; rintro e w' ⟨rfl, rfl⟩))
    all_goals first | (exfalso; omega) | (go_ret; exact ⟨rfl, rfl⟩)
  · obtain rfl : a = n := by omega
    obtain rfl : b = m := by omega
    obtain rfl : c = u := by omega
    obtain rfl : d = v := by omega
    clear ha hb hc hd
    go_enter Try.func4, Try.ntmps4
    go_wp2_with (first | (go_at_call 6; refine (nodes_any _ _).mono ?_; rintro e w' ⟨rfl, rfl⟩) | (go_at_call 8; refine (keys_any _ _).mono ?_; rintro e w' ⟨rfl, rfl⟩) | (go_at_call 10; refine (steps_any _ _ _).mono ?_; rintro e w' ⟨rfl, rfl⟩) | (go_at_call 12; refine (awake_any _).mono ?_; rintro e w' ⟨rfl, rfl⟩))
    all_goals first | (exfalso; omega) | (go_ret; exact ⟨rfl, rfl⟩)
  · obtain rfl : a = n := by omega
    obtain rfl : b = m := by omega
    obtain rfl : c = v := by omega
    obtain rfl : d = u := by omega
    clear ha hb hc hd
    go_enter Try.func4, Try.ntmps4
    go_wp2_with (first | (go_at_call 6; refine (nodes_any _ _).mono ?_; rintro e w' ⟨rfl, rfl⟩) | (go_at_call 8; refine (keys_any _ _).mono ?_; rintro e w' ⟨rfl, rfl⟩) | (go_at_call 10; refine (steps_any _ _ _).mono ?_; rintro e w' ⟨rfl, rfl⟩) | (go_at_call 12; refine (awake_any _).mono ?_; rintro e w' ⟨rfl, rfl⟩))
    all_goals first | (exfalso; omega) | (go_ret; exact ⟨rfl, rfl⟩)
noncomputable section
theorem ownGrows : ownKnob Try.prog.godebug = none := by kernel_rfl
set_option maxRecDepth 100000 in
theorem liftedGrows (os : Os) (started : os.Started) (H : Type) (enc : TypeId × Value → H) :
    ReturnsInHanded {} Try.checked os 4 .any (Rows.boundGrowsSpec.pre6 enc Try.prog Try.f4 Rows.boundGrowsRow.domain false) (Rows.boundGrowsSpec.post enc Try.prog Try.f4 false true false false) := by
  refine returnsInHanded_of_change_sized (C := Try.checked) ownGrows started (by kernel_rfl) Try.func4
    (ChangeSpec.witness6 (enc := enc) (C := Try.checked) false ⟨#[], #[.int .i64 0, .int .i64 0, .int .i64 0, .int .i64 0], []⟩ 8 (by kernel_rfl) (by kernel_rfl) (by kernel_rfl) (by kernel_rfl)) ?_
  intro W base args ds gs before hval0 hW hcnd hsz0 _
  have hval : ∀ (j : Nat) t v, Try.f4.params[j]? = some t → args[j]? = some v → Value.okWide Try.prog W .any base t v := hval0
  have hW' := hW
  obtain ⟨p, q, hA0, hV, rfl, hfz, hnd⟩ := hW
  have hA : DataW.TrodAll enc Try.prog W 0 (fun _ => true) true Try.f4.params.toList args.toList ds p := hA0
  rw [Try.params4] at hA hval
  obtain ⟨v0, vs0, d0, ds0, p0, q0, hargs, rfl, rfl, h0, r0⟩ := trodAll_cons hA
  obtain ⟨v1, vs1, d1, ds1, p1, q1, rfl, rfl, rfl, h1, r1⟩ := trodAll_cons r0
  obtain ⟨v2, vs2, d2, ds2, p2, q2, rfl, rfl, rfl, h2, r2⟩ := trodAll_cons r1
  obtain ⟨v3, vs3, d3, ds3, p3, q3, rfl, rfl, rfl, h3, r3⟩ := trodAll_cons r2
  obtain ⟨rfl, rfl, rfl⟩ := trodAll_nil r3
  obtain rfl : args = #[v0, v1, v2, v3] := by cases args; simp_all
  obtain ⟨rfl, rfl⟩ := trodVars_none hV
  obtain ⟨a0, rfl, rfl, rfl, w0⟩ := open_int Try.underlying3 (hval 0 3 v0 rfl rfl) h0
  obtain ⟨a1, rfl, rfl, rfl, w1⟩ := open_int Try.underlying3 (hval 1 3 v1 rfl rfl) h1
  obtain ⟨a2, rfl, rfl, rfl, w2⟩ := open_int Try.underlying3 (hval 2 3 v2 rfl rfl) h2
  obtain ⟨a3, rfl, rfl, rfl, w3⟩ := open_int Try.underlying3 (hval 3 3 v3 rfl rfl) h3
  clear hA0 hval0 hsz0
  refine (grows_walk a0 a1 a2 a3 W).mono fun e W' ⟨he, hw⟩ => ?_
  subst he
  subst hw
  exact ⟨_, rfl, _, _, _, [], _, [], hW', trodAll_mk1 (shut_bool Try.underlying4 _), trodAll_cons_mk (shut_int Try.underlying3 w0) (trodAll_cons_mk (shut_int Try.underlying3 w1) (trodAll_cons_mk (shut_int Try.underlying3 w2) (trodAll_cons_mk (shut_int Try.underlying3 w3) trodAll_mk0))), rfl, (Below.refl W.heap.size W).frame _, fun h => by cases h⟩
theorem overGrows : Rows.boundGrowsRow.holds Try.pinned (OpenSpec.ofChange Rows.boundGrowsSpec) :=
  OpenClaim.holds_of_wide 4 Try.f4 rfl rfl rfl rfl rfl rfl rfl ⟨rfl, rfl, rfl, rfl, rfl⟩ rfl rfl rfl rfl rfl (by kernel_rfl) Try.func4 (by kernel_rfl)
    (of_decide_eq_true (by kernel_rfl)) (by unfold Func.isWrapper; first | (rw [if_pos (by decide +kernel)]; kernel_rfl) | (rw [if_neg (by decide +kernel)]; exact ⟨rfl, rfl⟩))
    (fun os started H enc _ => liftedGrows os started H enc)
end
end Go.Proofs.Ytfginellljinpaa.Hand
namespace Go.Proofs.Ytfginellljinpaa
/-- The row. -/
theorem boundGrows_holds : Rows.BoundGrowsSaid := Hand.overGrows
end Go.Proofs.Ytfginellljinpaa
#print axioms Go.Proofs.Ytfginellljinpaa.boundGrows_holds
