/- BoundAll: for every n and workers, bound.Nodes, bound.Keys and bound.Steps answer what the reference's Nodes, Keys and Steps answer. No condition: n and workers are any int. -/
import Derived.Test.YtfginellljinpaaPBoundAllx1
namespace Go.Proofs.Ytfginellljinpaa.Pure
open Go.RowKit Go.Proofs.Ytfginellljinpaa.PBoundAll Go.Proofs.YtfginellljinpaaW.PrintWords Go.Proofs.YtfginellljinpaaW.PrintLast Go.Proofs.YtfginellljinpaaW.PrintMore

theorem BoundAll : warplaw23_BoundAll.Pure := by
  intro a b _ _
  have hs : bound_Steps.f a b = warpref20_Steps.f a b := by
    unfold bound_Steps.f warpref20_Steps.f bound_cut.f warpref20_bytes.f
    simp only [Option.bind_some]
    rw [Int.mul_comm (wrap64 (mx 0 (mn a 65536) + 1)) 1048576, Int.mul_comm (mx 1 (mn b 64)) 4096]
    congr 1
    unfold mx mn wrap64
    (repeat' split) <;> omega
  unfold warplaw23_BoundAll.f
  have hn : bound_Nodes.f a = warpref20_Nodes.f a := rfl
  have hk : bound_Keys.f a = warpref20_Keys.f a := rfl
  have en : warpref20_Nodes.f a = some (wrap64 (wrap64 (1000 * mx 0 (mn a 65536)) + 1000)) := rfl
  have ek : warpref20_Keys.f a = some (wrap64 (mx 0 (mn a 65536) + 1000)) := rfl
  obtain ⟨s, es⟩ : ∃ s, warpref20_Steps.f a b = some s := ⟨_, rfl⟩
  have aw : warplaw23_awake.f = some true := by simp [warplaw23_awake.f, bound_Nodes.f, bound_cut.f, mx, mn, wrap64]
  rw [hn, hk, hs, en, ek, es, aw]
  simp

end Go.Proofs.Ytfginellljinpaa.Pure
