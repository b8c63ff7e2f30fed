/- Layer 12: is a declared type right? -/
import Derived.Test.YtdapcelbbejfoaaD2
set_option linter.unusedVariables false
set_option maxRecDepth 100000
set_option linter.unusedSimpArgs false
namespace Go.Am.Try
open Go Go.Am.Ps

theorem any_right (l : List Da) (v : Int) : ∀ ts : List Ps.Ty, (ts.map fun t => !rightT l v t).any id = !rightTs l v ts
  | [] => rfl
  | t :: ts => by
    have := any_right l v ts
    simp only [List.map_cons, List.any_cons, rightTs, this, id, Bool.not_and]

theorem cl95 {l : List Da} {nl : Bool} {v : Int} {t : Ps.Ty} (h : Ans ctx 62 [encR 4 nl (encDs l), encY t, .int .i64 v] (.bool (rightT l v t))) :
    Ans ctx 95 [encY t, .adr (encR 4 nl (encDs l)), .adr (.int .i64 v)] (.bool (!rightT l v t)) := by
  obtain ⟨k, hk⟩ := h
  refine Ans.of (σ' := []) fn95_ (by simp) (by simp) ⟨k, fun N hN => ?_⟩
  have hk := hk N hN
  simp -implicitDefEqProofs [i95, c95, hk]

set_option maxHeartbeats 2000000 in
theorem right_body {l : List Da} {nl : Bool} (hl : l.length < big) {v : Int} (k : Nat) (n : Int) (s : Str) (ks : List Ps.Ty) (hks : ks.length < big) (h : ∀ t ∈ ks, Ans ctx 62 [encR 4 nl (encDs l), encY t, .int .i64 v] (.bool (rightT l v t))) :
    Ans ctx 62 [encR 4 nl (encDs l), encY (.mk k n s ks), .int .i64 v] (.bool (rightT l v (.mk k n s ks))) := by
  obtain ⟨e1, e2⟩ := map_pair encY (fun t => !rightT l v t) ks
  obtain ⟨k1, hk1⟩ := has60_ans 95 [.adr (encR 4 nl (encDs l)), .adr (.int .i64 v)] (ks.map fun t => (encY t, !rightT l v t)) true (by simpa using hks) (by rw [e1, ← encYs_map]; exact noRefs_encYs ks) (by simp)
    (fun q hq => by obtain ⟨t, ht, rfl⟩ := List.mem_map.1 hq; exact cl95 (h t ht)) (fun q hq ti => by obtain ⟨t, _, rfl⟩ := List.mem_map.1 hq; exact encY_fits t ti)
  rw [e1, e2, any_right, ← encYs_map] at hk1
  obtain ⟨k2, hk2⟩ := arity_ans l nl hl s
  refine Ans.of (σ' := []) fn62_ (by simp) (by simp) ⟨k1 + k2, fun N hN => ?_⟩
  have hk1 := hk1 N (by omega)
  have hk2 := hk2 N (by omega)
  rw [encY_mk]
  unfold rightT
  cases hr : rightTs l v ks with
  | false =>
    rw [hr] at hk1
    simp -implicitDefEqProofs [i62, c62, hk1]
  | true =>
    rw [hr] at hk1
    unfold rightH
    simp only [Bool.true_and]
    have hb1 := beq_int k 1
    have hb2 := beq_int k 2
    have hm0 := beq_int ks.length 0
    have hm2 := beq_int ks.length 2
    simp only [eqS_iff, sArr, sComma]
    cases h1 : Nat.beq k 1 with
    | true =>
      rw [h1] at hb1
      simp only [Int.cast_ofNat_Int] at hb1
      have hb1 := hb1.symm
      cases h0 : Nat.beq ks.length 0 with
      | false =>
        rw [h0] at hm0
        simp only [Int.cast_ofNat_Int] at hm0
        have hm0 := hm0.symm
        simp -implicitDefEqProofs [i62, c62, hk1, hb1, hm0, -beq_iff_eq, -beq_eq_false_iff_ne]
      | true =>
        rw [h0] at hm0
        simp only [Int.cast_ofNat_Int] at hm0
        have hm0 := hm0.symm
        by_cases hn : 0 ≤ n
        · simp -implicitDefEqProofs [i62, c62, hk1, hb1, hm0, hn, -beq_iff_eq, -beq_eq_false_iff_ne]
        · simp -implicitDefEqProofs [i62, c62, hk1, hb1, hm0, hn, -beq_iff_eq, -beq_eq_false_iff_ne]
    | false =>
      rw [h1] at hb1
      simp only [Int.cast_ofNat_Int] at hb1
      have hb1 := hb1.symm
      cases h2 : Nat.beq k 2 with
      | false =>
        rw [h2] at hb2
        simp only [Int.cast_ofNat_Int] at hb2
        have hb2 : ((k : Int) != 2) = true := by rw [bne, ← hb2]; rfl
        simp -implicitDefEqProofs [i62, c62, hk1, hb1, hb2, -beq_iff_eq, -beq_eq_false_iff_ne, -bne_iff_ne]
      | true =>
        rw [h2] at hb2
        simp only [Int.cast_ofNat_Int] at hb2
        have hb2 : ((k : Int) != 2) = false := by rw [bne, ← hb2]; rfl
        cases h3 : s == [45, 62] with
        | true =>
          rw [hm2]
          simp -implicitDefEqProofs [i62, c62, hk1, hb1, hb2, h3, -beq_iff_eq, -beq_eq_false_iff_ne, -bne_iff_ne]
        | false =>
          cases h4 : s == [44] with
          | true =>
            have hle1 := ble_int 2 ks.length
            have hle2 := ble_int ks.length 8
            simp only [Int.cast_ofNat_Int] at hle1 hle2
            rw [hle1, hle2]
            by_cases h5 : (2 : Int) ≤ (ks.length : Int)
            · simp -implicitDefEqProofs [i62, c62, hk1, hb1, hb2, h3, h4, h5, -beq_iff_eq, -beq_eq_false_iff_ne, -bne_iff_ne]
            · simp -implicitDefEqProofs [i62, c62, hk1, hb1, hb2, h3, h4, h5, -beq_iff_eq, -beq_eq_false_iff_ne, -bne_iff_ne]
          | false =>
            simp -implicitDefEqProofs [i62, c62, hk1, hk2, hb1, hb2, h3, h4, -beq_iff_eq, -beq_eq_false_iff_ne, -bne_iff_ne]
            try rfl

mutual
/-- data.right -/
theorem right_ans (l : List Da) (nl : Bool) (hl : l.length < big) (v : Int) : ∀ t : Ps.Ty, okT t → Ans ctx 62 [encR 4 nl (encDs l), encY t, .int .i64 v] (.bool (rightT l v t))
  | .mk k n s ks, h => by
    unfold okT at h
    exact right_body hl k n s ks (by have := h.1; unfold lim at this; unfold big; omega) (rights_ans l nl hl v ks h.2)
theorem rights_ans (l : List Da) (nl : Bool) (hl : l.length < big) (v : Int) : ∀ ts : List Ps.Ty, okTs ts → ∀ t ∈ ts, Ans ctx 62 [encR 4 nl (encDs l), encY t, .int .i64 v] (.bool (rightT l v t))
  | [], _, t, ht => by cases ht
  | u :: us, h, t, ht => by
    unfold okTs at h
    rcases List.mem_cons.1 ht with e | ht
    · rw [e]; exact right_ans l nl hl v u h.1
    · exact rights_ans l nl hl v us h.2 t ht
end

end Go.Am.Try
