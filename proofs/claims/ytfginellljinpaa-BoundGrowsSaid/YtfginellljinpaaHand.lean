/- BoundGrows and BoundCuts: the functions of layer 23, each walked once: what they answer. -/
import Derived.Test.YtfginellljinpaaRows
import Derived.WalkKit
import Derived.ProofKit
import Derived.OpenShut
import Derived.ShutString
import Derived.ChangeOld
import Derived.Below
import Derived.SizedLaws
import Derived.Outline
import Derived.WalkLawsBesides
namespace Go.Proofs.Ytfginellljinpaa.Hand
open Go.RowKit

def cutB (n : Int) : Int := max 0 (min n 65536)
def cutW (n : Int) : Int := max 1 (min n 64)
theorem cutB_in (n : Int) : 0 ≤ cutB n ∧ cutB n ≤ 65536 := by unfold cutB; omega
theorem cutW_in (n : Int) : 1 ≤ cutW n ∧ cutW n ≤ 64 := by unfold cutW; omega
theorem ret_int {k : IntKind} {a b : Int} (h : a = b) : Ending.returned (.int k a) = .returned (.int k b) := by rw [h]

set_option maxHeartbeats 400000 in
theorem cut_any (n l m : Int) (w : World) :
    Calls Try.prog 13 #[.int .i64 n, .int .i64 l, .int .i64 m] w fun e w' => e = .returned (.int .i64 (max l (min n m))) ∧ w = w' := by
  by_cases h1 : m < n
  · by_cases h2 : m > l
    · go_enter Try.func13, Try.ntmps13
      go_wp2
      go_ret
      exact ⟨ret_int (by omega), rfl⟩
    · go_enter Try.func13, Try.ntmps13
      go_wp2
      go_ret
      exact ⟨ret_int (by omega), rfl⟩
  · by_cases h2 : n > l
    · go_enter Try.func13, Try.ntmps13
      go_wp2
      go_ret
      exact ⟨ret_int (by omega), rfl⟩
    · go_enter Try.func13, Try.ntmps13
      go_wp2
      go_ret
      exact ⟨ret_int (by omega), rfl⟩
set_option maxHeartbeats 400000 in
theorem nodes_any (n : Int) (w : World) :
    Calls Try.prog 6 #[.int .i64 n] w fun e w' => e = .returned (.int .i64 (1000 * cutB n + 1000)) ∧ w = w' := by
  have hb := cutB_in n
  go_enter Try.func6, Try.ntmps6
  go_wp2_with (go_at_call 13; refine (cut_any _ _ _ _).mono ?_; rintro e w' ⟨rfl, rfl⟩; rw [show max 0 (min n 65536) = cutB n from rfl])
  go_ret
  exact ⟨ret_int (by omega), rfl⟩
set_option maxHeartbeats 400000 in
theorem keys_any (n : Int) (w : World) :
    Calls Try.prog 8 #[.int .i64 n] w fun e w' => e = .returned (.int .i64 (cutB n + 1000)) ∧ w = w' := by
  have hb := cutB_in n
  go_enter Try.func8, Try.ntmps8
  go_wp2_with (go_at_call 13; refine (cut_any _ _ _ _).mono ?_; rintro e w' ⟨rfl, rfl⟩; rw [show max 0 (min n 65536) = cutB n from rfl])
  go_ret
  exact ⟨ret_int (by omega), rfl⟩
set_option maxHeartbeats 400000 in
theorem steps_any (n v : Int) (w : World) :
    Calls Try.prog 10 #[.int .i64 n, .int .i64 v] w fun e w' => e = .returned (.int .i64 ((cutB n + 1) * 1048576 + cutW v * 4096)) ∧ w = w' := by
  have hb := cutB_in n
  have hv := cutW_in v
  go_enter Try.func10, Try.ntmps10
  go_wp2_with (go_at_call 13; refine (cut_any _ _ _ _).mono ?_; rintro e w' ⟨rfl, rfl⟩; first | rw [show max 0 (min n 65536) = cutB n from rfl] | rw [show max 1 (min v 64) = cutW v from rfl])
  go_ret
  exact ⟨ret_int (by omega), rfl⟩
set_option maxHeartbeats 400000 in
theorem awake_any (w : World) :
    Calls Try.prog 12 #[] w fun e w' => e = .returned (.bool true) ∧ w = w' := by
  have h0 : cutB 0 = 0 := by decide
  go_enter Try.func12, Try.ntmps12
  go_wp2_with (go_at_call 6; refine (nodes_any _ _).mono ?_; rintro e w' ⟨rfl, rfl⟩; rw [h0])
  go_ret
  exact ⟨rfl, rfl⟩
theorem wf_u16 {a : Int} (h : (Lit.int .u16 a).wf = true) : 0 ≤ a ∧ a ≤ 65535 := by
  have e1 : IntKind.u16.min = 0 := by decide
  have e2 : IntKind.u16.max = 65535 := by decide
  simp [Lit.wf, e1, e2] at h
  exact h
theorem wf_u8 {a : Int} (h : (Lit.int .u8 a).wf = true) : 0 ≤ a ∧ a ≤ 255 := by
  have e1 : IntKind.u8.min = 0 := by decide
  have e2 : IntKind.u8.max = 255 := by decide
  simp [Lit.wf, e1, e2] at h
  exact h
end Go.Proofs.Ytfginellljinpaa.Hand
