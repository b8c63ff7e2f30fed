/- Layer 19: scheme.Inst. -/
import Derived.Test.YtmhggdoanajboaaDoorMe
set_option maxRecDepth 100000
set_option linter.unusedSimpArgs false
set_option linter.unusedVariables false
namespace Go.Am.Tryd
open Go
mutual
def cntT (l : List Ty) (z : Nat) : Ty → Nat
  | .mk k n _ _ ks => if 400 < z then z else if k = 1 ∧ n < l.length then z + min (nodes (l.getD n.toNat noTy)) 401 else cntTs l (z + 1) ks
def cntTs (l : List Ty) (z : Nat) : List Ty → Nat
  | [] => z
  | t :: r => cntTs l (cntT l z t) r
end
mutual
theorem cnt_spec (l : List Ty) : ∀ (t : Ty) (z : Nat), vok t → z ≤ cntT l z t ∧ min (cntT l z t) 401 = min (z + nodes (turnR (subD l) t)) 401
  | .mk k n s nl ks, z, hv => by
    simp only [vok] at hv
    have hp := nodes_pos (turnR (subD l) (.mk k n s nl ks))
    unfold cntT
    by_cases hz : 400 < z
    · rw [if_pos hz]; omega
    · rw [if_neg hz]
      unfold turnR
      by_cases hk : k = 1
      · obtain ⟨h0, rfl⟩ := hv.1 hk
        by_cases hn : n < l.length
        · have hlt : n.toNat < l.length := by omega
          rw [if_pos ⟨hk, hn⟩, if_pos hk]
          have e : subD l n = some (l.getD n.toNat noTy) := by
            unfold subD
            rw [if_pos h0, List.getD_eq_getElem?_getD, List.getElem?_eq_getElem hlt]
            rfl
          rw [e]
          simp only [Option.getD_some]
          omega
        · rw [if_neg (fun h => hn h.2), if_pos hk]
          have e : subD l n = none := by
            unfold subD
            rw [if_pos h0]
            exact List.getElem?_eq_none (by omega)
          rw [e]
          refine ⟨by simp only [cntTs]; omega, ?_⟩
          simp [cntTs, nodes, nodess]
      · rw [if_neg (fun h => hk h.1), if_neg hk]
        obtain ⟨h1, h2⟩ := cnts_spec l ks (z + 1) hv.2
        simp only [nodes]
        omega
theorem cnts_spec (l : List Ty) : ∀ (ks : List Ty) (z : Nat), voks ks → z ≤ cntTs l z ks ∧ min (cntTs l z ks) 401 = min (z + nodess (turnRs (subD l) ks)) 401
  | [], z, _ => by simp [cntTs, turnRs, nodess]
  | t :: r, z, hv => by
    obtain ⟨h1, h2⟩ := cnt_spec l t z hv.1
    obtain ⟨h3, h4⟩ := cnts_spec l r (cntT l z t) hv.2
    simp only [cntTs, turnRs, nodess]
    omega
end
mutual
theorem cnt_le (l : List Ty) : ∀ (t : Ty) (z : Nat), z ≤ 1000 → cntT l z t ≤ 1000
  | .mk k n s nl ks, z, hz => by
    unfold cntT
    split
    · exact hz
    · split
      · omega
      · exact cnts_le l ks (z + 1) (by omega)
theorem cnts_le (l : List Ty) : ∀ (ks : List Ty) (z : Nat), z ≤ 1000 → cntTs l z ks ≤ 1000
  | [], z, hz => by unfold cntTs; exact hz
  | t :: r, z, hz => by unfold cntTs; exact cnts_le l r _ (cnt_le l t z hz)
end
def hs (l : List Ty) (nl : Bool) (z : Nat) : H := [.arr false 1 [.int .i64 (z : Int)], .arr false 1 [.fn 56 [.ptr 0 1 0 0, .adr (encR 4 nl (encTs l)), .ptr 1 1 0 0]]]
theorem t74 : ctx.ti 74 = some ⟨.func, 1, 8, .nilf, []⟩ := by rfl
set_option maxHeartbeats 4000000
theorem lp56 (l : List Ty) (nl nk : Bool) (xs : List AV) (hb : xs.length < big) : ∀ (rest : List Ty) (i z : Nat), Tail xs i (encTs rest) → z ≤ 1000 → (∀ a ∈ rest, ∀ z : Nat, z ≤ 1000 → AnsH ctx 56 [encT a, .ptr 0 1 0 0, .adr (encR 4 nl (encTs l)), .ptr 1 1 0 0] (hs l nl z) (.tup []) (hs l nl (cntT l z a))) →
    ∃ fr', Lp ctx [] [] [3, 10, 11, 12] b56_0 ⟨[(3, .v (.ptr 1 1 0 0)), (10, .v (encR 4 nk xs)), (11, .v (.int .i64 xs.length)), (12, .v (.int .i64 i))], false⟩ (hs l nl z) (.ex 1) fr' (hs l nl (cntTs l z rest))
  | [], i, z, h1, _, _ => by
    have h1 := h1.nil
    refine ⟨?_, Lp.exit ⟨0, fun N _ => ?_⟩ (by simp)⟩
    rotate_left
    · simp -implicitDefEqProofs [b56_0, h1, cntTs]
      rfl
  | a :: r, i, z, h1, hz, ha => by
    simp only [encTs_cons] at h1
    have hlen := h1.len
    obtain ⟨g1, g2, g3, g4, g5⟩ := h1.cons
    have hw := wrap_succ (n := i) (by simp at hlen; omega)
    obtain ⟨k, hk⟩ := ha a (by simp) z hz
    obtain ⟨fr', q1⟩ := lp56 l nl nk xs hb r (i + 1) (cntT l z a) g4 (cnt_le l a z hz) (fun x hx => ha x (by simp [hx]))
    refine ⟨fr', Lp.step (σ1 := hs l nl (cntT l z a)) ⟨k, fun N hN => ?_⟩ q1⟩
    have hk := hk N hN
    clear q1
    unfold hs at hk ⊢
    generalize encR 4 nl (encTs l) = Q at *
    simp -implicitDefEqProofs [b56_0, g1, g2, g3, g5, hk, hw, t74]
theorem cnt_var (l : List Ty) (nl : Bool) (hl : cls l) (hn : nodess l ≤ 900) (n : Nat) (hlt : n < l.length) (z : Nat) (hz : z ≤ 400) (s : List UInt8) (nk : Bool) (ks : List Ty) :
    AnsH ctx 56 [encT (.mk 1 n s nk ks), .ptr 0 1 0 0, .adr (encR 4 nl (encTs l)), .ptr 1 1 0 0] (hs l nl z) (.tup []) (hs l nl (z + min (nodes (l.getD n noTy)) 401)) := by
  have hw := encTs_at l n hlt
  obtain ⟨w, hwd⟩ : ∃ w, w = l.getD n noTy := ⟨_, rfl⟩
  have hwm : w ∈ l := by rw [hwd, List.getD_eq_getElem?_getD, List.getElem?_eq_getElem hlt]; simp
  have hwn : nodes w ≤ 900 := Nat.le_trans (nodess_mem w l hwm) hn
  have hwo : w.ok := by
    obtain ⟨i, hi⟩ := List.getElem?_of_mem hwm
    exact cl_ok _ (cls_get l i w hl hi)
  rw [← hwd] at hw ⊢
  obtain ⟨k2, e9⟩ := size_ans w hwo (by unfold lim; omega)
  have hi : idxN (n : Int) (encTs l).length = some n := idx_at (by simpa using hlt)
  have hR : encR 4 nl (encTs l) = .sl 4 (encTs l) := encR_some _ _ _ (by intro e; rw [e] at hw; simp at hw)
  have hltx : n < (encTs l).length := by simpa using hlt
  have c0 : ¬ (400 : Int) < z := by omega
  obtain ⟨Z, hZ⟩ : ∃ Z, Z = min (nodes w) 401 := ⟨_, rfl⟩
  rw [← hZ] at e9 ⊢
  have hwr : IntKind.i64.wrap ((z : Int) + (Z : Int)) = ((z + Z : Nat) : Int) := by rw [wrap_i64 (by omega)]; omega
  unfold hs
  rw [hR]
  have hll : (encTs l).length = l.length := by simp
  refine AnsH.of fn56_ (by simp) (by simp [snapL, mapO2, snapA]) (by simp) ⟨k2, fun N hN => ?_⟩
  have e9 := e9 N hN
  generalize encTs l = W at *
  generalize z + Z = z' at *
  obtain ⟨_, _, _, _, _⟩ := w
  simp only [encT] at e9 hw
  simp -implicitDefEqProofs [i56, c56, encT, c0, ↓hw, hi, hltx, e9, hwr]
mutual
theorem cnt_ans (l : List Ty) (nl : Bool) (hl : cls l) (hn : nodess l ≤ 900) : ∀ t : Ty, t.ok → vok t → ∀ z : Nat, z ≤ 1000 → AnsH ctx 56 [encT t, .ptr 0 1 0 0, .adr (encR 4 nl (encTs l)), .ptr 1 1 0 0] (hs l nl z) (.tup []) (hs l nl (cntT l z t))
  | .mk k n s nk ks, ho, hv, z, hz => by
    simp only [Ty.ok] at ho
    simp only [vok] at hv
    unfold cntT
    by_cases h4 : 400 < z
    · rw [if_pos h4]
      have c0 : (400 : Int) < z := by omega
      unfold hs
      refine AnsH.of fn56_ (by simp) (by simp [snapL, mapO2, snapA]) (by simp) ⟨0, fun N hN => ?_⟩
      generalize encR 4 nl (encTs l) = Q at *
      simp -implicitDefEqProofs [i56, c56, encT, c0]
    · rw [if_neg h4]
      have c0 : ¬ (400 : Int) < z := by omega
      by_cases hk : k = 1
      · obtain ⟨h0, hks⟩ := hv.1 hk
        obtain ⟨j, rfl⟩ : ∃ j : Nat, n = j := ⟨n.toNat, by omega⟩
        by_cases hlt : (j : Int) < l.length
        · rw [if_pos ⟨hk, hlt⟩]
          subst hk
          simpa using cnt_var l nl hl hn j (by omega) z (by omega) s nk ks
        · rw [if_neg (fun h => hlt h.2)]
          subst hks
          have hw1 : IntKind.i64.wrap ((z : Int) + 1) = ((z + 1 : Nat) : Int) := by rw [wrap_i64 (by omega)]; omega
          obtain ⟨fr', l1⟩ := lp56 l nl nk (encTs []) (by rw [encTs_nil]; unfold big; simp) [] 0 (z + 1) (Tail.all _) (by omega) (by simp)
          obtain ⟨q, hq⟩ := l1.den
          have hlen : (encTs l).length = l.length := by simp
          unfold hs at hq ⊢
          refine AnsH.of fn56_ (by simp) (by simp [snapL, mapO2, snapA]) (by simp) ⟨q, fun N hN => ?_⟩
          have hq := hq N hN
          generalize encTs l = W at *
          generalize z + 1 = z1 at *
          generalize cntTs l z1 [] = z2 at *
          rw [encTs_nil] at hq
          simp -implicitDefEqProofs [i56, c56, encT, c0, hk, hlt, hlen, hq, hw1]
      · rw [if_neg (fun h => hk h.1)]
        have hk' : (k == 1) = false := by simpa using hk
        have hw1 : IntKind.i64.wrap ((z : Int) + 1) = ((z + 1 : Nat) : Int) := by rw [wrap_i64 (by omega)]; omega
        obtain ⟨fr', l1⟩ := lp56 l nl nk (encTs ks) (by simpa using ho.2.1) ks 0 (z + 1) (Tail.all _) (by omega) (cnt_all l nl hl hn ks ho.2.2 hv.2)
        obtain ⟨q, hq⟩ := l1.den
        unfold hs at hq ⊢
        refine AnsH.of fn56_ (by simp) (by simp [snapL, mapO2, snapA]) (by simp) ⟨q, fun N hN => ?_⟩
        have hq := hq N hN
        generalize encR 4 nl (encTs l) = Q at *
        generalize z + 1 = z1 at *
        generalize cntTs l z1 ks = z2 at *
        simp -implicitDefEqProofs [i56, c56, encT, c0, hk', hq, hw1]
theorem cnt_all (l : List Ty) (nl : Bool) (hl : cls l) (hn : nodess l ≤ 900) : ∀ ks : List Ty, Ty.oks ks → voks ks → ∀ a ∈ ks, ∀ z : Nat, z ≤ 1000 → AnsH ctx 56 [encT a, .ptr 0 1 0 0, .adr (encR 4 nl (encTs l)), .ptr 1 1 0 0] (hs l nl z) (.tup []) (hs l nl (cntT l z a))
  | [], _, _, a, ha => by simp at ha
  | t :: ks, ho, hv, a, ha => by
    simp only [Ty.oks] at ho
    simp only [voks] at hv
    rcases List.mem_cons.1 ha with h | ha
    · rw [h]; exact cnt_ans l nl hl hn t ho.1 hv.1
    · exact cnt_all l nl hl hn ks ho.2 hv.2 a ha
end
end Go.Am.Tryd
