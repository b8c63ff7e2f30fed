/- scc.Of's comparison of two groups, by their first nodes. -/
import Derived.Test.YtflhndopabnipaaShelf
import Derived.WalkKit
import Derived.Deep.RegionHeld3
set_option linter.unusedVariables false
set_option maxRecDepth 100000
namespace Go.Proofs
open Go Go.Shelf Go.RowKit Go.Lib Go.Sort
set_option maxHeartbeats 1000000 in
theorem Try.closure30 (b1 o1 c1 n1 b2 o2 c2 n2 : Nat) (h1 h2 : Int) (W : World) (k1 : 0 < n1) (k2 : 0 < n2) (e1 : W.cell? ⟨b1, o1, none⟩ = some (.int .i64 h1)) (e2 : W.cell? ⟨b2, o2, none⟩ = some (.int .i64 h2)) :
    Calls Try.prog 30 #[.slice (some ⟨b1, o1, none⟩) n1 c1, .slice (some ⟨b2, o2, none⟩) n2 c2] W fun e w' => e = .returned (.int .i64 (Lib.compareInt h1 h2)) ∧ ∃ q, w' = W.drewN q := by
  have hcon := fun w => AnyG.cmp_Compare_int Try.laysCmp h1 h2 w
  change ∀ w, Calls Try.prog 31 _ _ _ at hcon
  generalize Lib.compareInt h1 h2 = r at hcon ⊢
  have l1 : (0 : Int) < (n1 : Int) := by omega
  have l2 : (0 : Int) < (n2 : Int) := by omega
  go_enter Try.func30, Try.ntmps30
  go_wp2
  go_region_held3 (fun w' => w'.cell? ⟨b1, o1, none⟩ = some (.int .i64 h1) ∧ w'.cell? ⟨b2, o2, none⟩ = some (.int .i64 h2)) (go_keep) (first | (go_at_call 31; refine (hcon _).mono ?_; rintro e w' ⟨rfl, rfl⟩))
  all_goals go_wp2
  all_goals go_ret
  all_goals exact ⟨rfl, 1, rfl⟩
end Go.Proofs
