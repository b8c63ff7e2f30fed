/- Layer 17: others for variables. -/
import Derived.Test.YtmhggdoanajboaaDoorLb
import Derived.Test.YtmhggdoanajboaaDoorPr
set_option maxRecDepth 100000
set_option linter.unusedSimpArgs false
namespace Go.Am.Tryd
open Go
mutual
def cl : Ty → Prop
  | .mk _ _ s nl ks => s.length < 2 ^ 38 ∧ ks.length < 2 ^ 38 ∧ cls ks
def cls : List Ty → Prop
  | [] => True
  | t :: l => cl t ∧ cls l
end
mutual
def turnedT (d : Int → Option Ty) : Ty → Ty
  | .mk k n s nl ks => if k = 1 then (d n).getD (.mk k n s nl ks) else .mk k n s nl (turnedTs d ks)
def turnedTs (d : Int → Option Ty) : List Ty → List Ty
  | [] => []
  | t :: l => turnedT d t :: turnedTs d l
end
theorem turnedTs_length (d : Int → Option Ty) : ∀ l, (turnedTs d l).length = l.length
  | [] => rfl
  | t :: l => by simp [turnedTs, turnedTs_length d l]
def noTy : Ty := .mk 0 0 [] true []
theorem set_mid (p : List AV) (x y : AV) (r : List AV) : (p ++ x :: r).set p.length y = p ++ y :: r := by simp
theorem clone_ans (σ : H) (t : Ty) (l : List Ty) (hl : l.length + 1 < 2 ^ 39) : AnsH ctx 66 [.sl 4 (encT t :: encTs l)] σ (.hs σ.length (l.length + 1) 0 (l.length + 1) 4) (σ ++ [.arr false 4 (encT t :: encTs l)]) := by
  refine AnsH.prim fn66_ rfl rfl ?_
  have := clone_cons σ (encT t) (encTs l) ?_ (by simpa using hl)
  · simpa using this
  · simp only [fitAll, fits_encT]
    simp
    clear hl
    induction l with
    | nil => rfl
    | cons x l ih => simp [ih]
theorem lp30 (g : Nat) (caps : List AV) (K N S : AV) (d : Int → Option Ty) (M : Nat) (hM : M < 2 ^ 39) : ∀ (rest : List Ty) (p : List AV) (i : Nat), p.length = i → i + rest.length = M → (∀ a ∈ rest, Ans ctx 44 [encT a, .fn g caps] (encT (turnedT d a))) →
    ∃ fr', Lp ctx [] [] [1, 2, 4, 27, 28, 29] b44_0 ⟨[(1, .v (.fn g caps)), (2, .bx (.agg [K, N, S, .hs 0 M 0 M 4])), (4, .bx (.agg [.int .i64 0, .int .i64 0, .str [], .nil])), (27, .v (.hs 0 M 0 M 4)), (28, .v (.int .i64 M)), (29, .v (.int .i64 i))], false⟩ [.arr false 4 (p ++ encTs rest)] (.ex 0) fr' [.arr false 4 (p ++ encTs (turnedTs d rest))] ∧
      fr'.lk = false ∧ getS fr'.sl 2 = .bx (.agg [K, N, S, .hs 0 M 0 M 4]) ∧ getS fr'.sl 4 = .bx (.agg [.int .i64 0, .int .i64 0, .str [], .nil]) ∧ getS fr'.sl 42 = .u
  | [], p, i, hp, hi, _ => by
    have hi : i = M := by simpa using hi
    subst hi
    refine ⟨?_, Lp.exit ⟨0, fun N _ => ?_⟩ (by simp), ?_⟩
    rotate_left
    · simp [b44_0, turnedTs]
      rfl
    · simp
  | a :: r, p, i, hp, hi, ha => by
    obtain ⟨k, hk⟩ := ha a (by simp)
    simp at hi
    have hlt : i < M := by omega
    have hw := wrap_succ (n := i) (by unfold big; omega)
    have hix : idxN (i : Int) M = some i := by unfold idxN; rw [if_pos (by omega)]; simp
    subst hp
    obtain ⟨fr', h1, h2⟩ := lp30 g caps K N S d M hM r (p ++ [encT (turnedT d a)]) (p.length + 1) (by simp) (by omega) (fun x hx => ha x (by simp [hx]))
    simp only [List.append_assoc, List.singleton_append] at h1
    simp only [turnedTs, encTs_cons]
    refine ⟨fr', Lp.step ⟨k, fun N hN => ?_⟩ h1, h2⟩
    have hpl : p.length + (r.length + 1) = M := by omega
    simp [b44_0, hlt, hw, hix, hk N hN, hpl]
theorem noRef_fn {g : Nat} {caps : List AV} (h : AV.noRefs caps = true) : (AV.fn g caps).noRef = true := by simpa [AV.noRef] using h
theorem snap_encTs (σ : H) (n : Nat) (h : 0 < n) : ∀ l : List Ty, mapO2 (snapA σ n) (encTs l) = some (encTs l, [])
  | [] => by simp [mapO2]
  | t :: l => by
    have h1 : snapA σ n (encT t) = some (encT t, []) := by
      obtain ⟨n, rfl⟩ : ∃ m, n = m + 1 := ⟨n - 1, by omega⟩
      unfold snapA
      rw [if_pos (noRef_encT t)]
    simp [mapO2, snap_encTs σ n h l, h1]
theorem encT_flag' (k n : Int) (s : List UInt8) (l : List Ty) (h : l ≠ []) (b c : Bool) : encT (.mk k n s b l) = encT (.mk k n s c l) := by
  cases l with
  | nil => exact absurd rfl h
  | cons a r => simp [encT]
theorem snap_kids (k n : Int) (s : List UInt8) (l : List Ty) (hl : l ≠ []) (M : Nat) (hM : l.length = M) : snapA [.arr false 4 (encTs l)] 200 (.agg [.int .i64 k, .int .i64 n, .str s, .hs 0 M 0 M 4]) = some (encT (.mk k n s true l), [0]) := by
  have h1 : ∀ n, snapA [.arr false 4 (encTs l)] (n + 1) (.int .i64 k) = some (.int .i64 k, []) := fun n => by unfold snapA; rw [if_pos (by simp)]
  have h2 : ∀ m, snapA [.arr false 4 (encTs l)] (m + 1) (.int .i64 n) = some (.int .i64 n, []) := fun n => by unfold snapA; rw [if_pos (by simp)]
  have h3 : ∀ n, snapA [.arr false 4 (encTs l)] (n + 1) (.str s) = some (.str s, []) := fun n => by unfold snapA; rw [if_pos (by simp)]
  have h4 : snapA [.arr false 4 (encTs l)] 199 (.hs 0 M 0 M 4) = some (encR 4 true (encTs l), [0]) := by
    unfold snapA
    rw [if_neg (by simp)]
    have := snap_encTs [.arr false 4 (encTs l)] 198 (by omega) l
    have ht : (encTs l).take M = encTs l := by rw [← hM, ← encTs_length l, List.take_length]
    simp [hM, ht, this]
    cases l with
    | nil => exact absurd rfl hl
    | cons a r => simp
  unfold snapA
  rw [if_neg (by simp)]
  simp [mapO2, h1 198, h2 198, h3 198, h4, encT]
theorem snap_hs (σ : H) (n r : Nat) (fz : Bool) (l : List Ty) (M : Nat) (h : σ[r]? = some (.arr fz 4 (encTs l))) (hM : l.length = M) : snapA σ (n + 2) (.hs r M 0 M 4) = some (.sl 4 (encTs l), [r]) := by
  unfold snapA
  rw [if_neg (by simp)]
  have := snap_encTs σ (n + 1) (by omega) l
  have ht : (encTs l).take M = encTs l := by rw [← hM, ← encTs_length l, List.take_length]
  simp [h, hM, ht, this]
theorem snap_kidsG (σ : H) (r : Nat) (fz : Bool) (k n : Int) (s : List UInt8) (l : List Ty) (M : Nat) (h : σ[r]? = some (.arr fz 4 (encTs l))) (hM : l.length = M) : snapA σ 200 (.agg [.int .i64 k, .int .i64 n, .str s, .hs r M 0 M 4]) = some (encT (.mk k n s false l), [r]) := by
  have h1 : ∀ m, snapA σ (m + 1) (.int .i64 k) = some (.int .i64 k, []) := fun n => by unfold snapA; rw [if_pos (by simp)]
  have h2 : ∀ m, snapA σ (m + 1) (.int .i64 n) = some (.int .i64 n, []) := fun n => by unfold snapA; rw [if_pos (by simp)]
  have h3 : ∀ m, snapA σ (m + 1) (.str s) = some (.str s, []) := fun n => by unfold snapA; rw [if_pos (by simp)]
  have h4 := snap_hs σ 197 r fz l M h hM
  unfold snapA
  rw [if_neg (by simp)]
  simp [mapO2, h1 198, h2 198, h3 198, h4, encT]
mutual
theorem turned_ans (g : Nat) (caps : List AV) (hc : AV.noRefs caps = true) (d : Int → Option Ty) (hd : ∀ n, Ans ctx g (.int .i64 n :: caps) (.tup [encT ((d n).getD noTy), .bool (d n).isSome])) :
    ∀ (t : Ty), cl t → Ans ctx 44 [encT t, .fn g caps] (encT (turnedT d t))
  | .mk k n s nl ks, hcl => by
    simp only [cl] at hcl
    obtain ⟨_, hl, hks⟩ := hcl
    have hall := turned_all g caps hc d hd ks hks
    by_cases hk : k = 1
    · obtain ⟨q, hq⟩ := hd n
      refine Ans.of (σ' := []) fn44_ (by simp [hc]) (by simp) ⟨q, fun N hN => ?_⟩
      cases hdn : d n with
      | none =>
        have := hq N hN
        rw [hdn] at this
        simp [i44, c44, encT, hk, turnedT, hdn, this, noTy]
      | some u =>
        have := hq N hN
        rw [hdn] at this
        simp [i44, c44, encT, hk, turnedT, hdn, this]
    · have hk' : (k == 1) = false := by simpa using hk
      cases ks with
      | nil =>
       cases nl with
       | false =>
        obtain ⟨fr', h1, h2, h3, h4, h5⟩ : ∃ fr', Lp ctx [] [] [1, 2, 4, 27, 28, 29] b44_0 ⟨[(1, .v (.fn g caps)), (2, .bx (.agg [.int .i64 k, .int .i64 n, .str s, .hs 0 0 0 0 4])), (4, .bx (.agg [.int .i64 0, .int .i64 0, .str [], .nil])), (27, .v (.hs 0 0 0 0 4)), (28, .v (.int .i64 0)), (29, .v (.int .i64 0))], false⟩ [.arr false 4 []] (.ex 0) fr' [.arr false 4 []] ∧ fr'.lk = false ∧ getS fr'.sl 2 = .bx (.agg [.int .i64 k, .int .i64 n, .str s, .hs 0 0 0 0 4]) ∧ getS fr'.sl 4 = .bx (.agg [.int .i64 0, .int .i64 0, .str [], .nil]) ∧ getS fr'.sl 42 = .u := by
          refine ⟨?_, Lp.exit ⟨0, fun N _ => ?_⟩ (by simp), ?_⟩
          rotate_left
          · simp [b44_0]
            rfl
          · simp
        obtain ⟨q1, hq1⟩ := h1.den
        obtain ⟨q2, hq2⟩ : AnsH ctx 66 [.sl 4 []] [] (.hs 0 0 0 0 4) [.arr false 4 []] := AnsH.prim fn66_ rfl rfl (clone_empty [])
        rw [show turnedT d (.mk k n s false []) = .mk k n s false [] by simp [turnedT, hk, turnedTs]]
        refine Ans.fn (rs := []) fn44_ (by simp [hc]) ⟨max q1 q2, fun N hN => ?_⟩ (snap_kidsG [.arr false 4 []] 0 false k n s [] 0 rfl rfl)
        have hq2 := hq2 N (by omega)
        have hq1 := hq1 N (by omega)
        simp [i44, c44, encT, hk', turnedTs, hk, hq1, hq2, h2, h3, h4, h5]
       | true =>
        obtain ⟨fr', h1, h2, h3, h4, h5⟩ : ∃ fr', Lp ctx [] [] [1, 2, 4, 27, 28, 29] b44_0 ⟨[(1, .v (.fn g caps)), (2, .bx (.agg [.int .i64 k, .int .i64 n, .str s, .nil])), (4, .bx (.agg [.int .i64 0, .int .i64 0, .str [], .nil])), (27, .v .nil), (28, .v (.int .i64 0)), (29, .v (.int .i64 0))], false⟩ [] (.ex 0) fr' [] ∧ fr'.lk = false ∧ getS fr'.sl 2 = .bx (.agg [.int .i64 k, .int .i64 n, .str s, .nil]) ∧ getS fr'.sl 4 = .bx (.agg [.int .i64 0, .int .i64 0, .str [], .nil]) ∧ getS fr'.sl 42 = .u := by
          refine ⟨?_, Lp.exit ⟨0, fun N _ => ?_⟩ (by simp), ?_⟩
          rotate_left
          · simp [b44_0]
            rfl
          · simp
        obtain ⟨q1, hq1⟩ := h1.den
        obtain ⟨q2, hq2⟩ : AnsH ctx 66 [.nil] [] .nil [] := AnsH.prim fn66_ rfl rfl (clone_nil [])
        refine Ans.of (σ' := []) fn44_ (by simp [hc]) (by simp) ⟨max q1 q2, fun N hN => ?_⟩
        have hq2 := hq2 N (by omega)
        have hq1 := hq1 N (by omega)
        simp [i44, c44, encT, hk', turnedT, turnedTs, hk, hq1, hq2, h2, h3, h4, h5]
      | cons a r =>
        obtain ⟨fr', h1, h2, h3, h4, h5⟩ := lp30 g caps (.int .i64 k) (.int .i64 n) (.str s) d (r.length + 1) (by simp at hl; omega) (a :: r) [] 0 rfl (by simp) hall
        obtain ⟨q1, hq1⟩ := h1.den
        obtain ⟨q2, hq2⟩ := clone_ans [] a r (by simp at hl; omega)
        rw [show turnedT d (.mk k n s nl (a :: r)) = .mk k n s nl (turnedTs d (a :: r)) by simp [turnedT, hk], encT_flag' k n s (turnedTs d (a :: r)) (by simp [turnedTs]) nl true]
        refine Ans.fn (rs := []) fn44_ (by simp [hc]) ⟨max q1 q2, fun N hN => ?_⟩ (snap_kids k n s (turnedTs d (a :: r)) (by simp [turnedTs]) (r.length + 1) (by simp [turnedTs_length]))
        have hq2 := hq2 N (by omega)
        have hq1 := hq1 N (by omega)
        simp only [List.nil_append, encTs_cons] at hq1
        simp only [List.nil_append, List.length_nil] at hq2
        simp [i44, c44, encT, hk', turnedTs, hk, hq1, hq2, h2, h3, h4, h5]
theorem turned_all (g : Nat) (caps : List AV) (hc : AV.noRefs caps = true) (d : Int → Option Ty) (hd : ∀ n, Ans ctx g (.int .i64 n :: caps) (.tup [encT ((d n).getD noTy), .bool (d n).isSome])) :
    ∀ (l : List Ty), cls l → ∀ a ∈ l, Ans ctx 44 [encT a, .fn g caps] (encT (turnedT d a))
  | [], _, a, ha => by simp at ha
  | t :: l, hcl, a, ha => by
    simp only [cls] at hcl
    rcases List.mem_cons.1 ha with h | ha
    · rw [h]; exact turned_ans g caps hc d hd t hcl.1
    · exact turned_all g caps hc d hd l hcl.2 a ha
end
mutual
theorem turnedT_none : ∀ t, turnedT (fun _ => none) t = t
  | .mk k n s nl ks => by simp [turnedT, turnedTs_none ks]
theorem turnedTs_none : ∀ l, turnedTs (fun _ => none) l = l
  | [] => rfl
  | t :: l => by simp [turnedTs, turnedT_none t, turnedTs_none l]
end
theorem copied1_ans (n : Int) : Ans ctx 67 [.int .i64 n] (.tup [encT noTy, .bool false]) :=
  Ans.of (σ' := []) fn67_ (by simp) (by simp) ⟨0, fun N _ => by simp [i67, c67, noTy, encT]⟩
theorem copied_ans (t : Ty) (ht : cl t) : Ans ctx 46 [encT t] (encT t) := by
  obtain ⟨k, hk⟩ := turned_ans 67 [] (by simp) (fun _ => none) (fun n => copied1_ans n) t ht
  rw [turnedT_none] at hk
  refine Ans.of (σ' := []) fn46_ (by simp) (by simp) ⟨k, fun N hN => ?_⟩
  simp [i46, c46, hk N hN]
def subD (l : List Ty) (n : Int) : Option Ty := if 0 ≤ n then l[n.toNat]? else none
theorem cls_get : ∀ (l : List Ty) (i : Nat) (t : Ty), cls l → l[i]? = some t → cl t
  | [], _, _, _, h => by simp at h
  | x :: l, 0, t, hc, h => by simp at h; subst h; exact hc.1
  | x :: l, i + 1, t, hc, h => cls_get l i t hc.2 (by simpa using h)
theorem subst1_ans (l : List Ty) (nl : Bool) (hc : cls l) (n : Int) : Ans ctx 45 [.int .i64 n, .adr (encR 4 nl (encTs l))] (.tup [encT ((subD l n).getD noTy), .bool (subD l n).isSome]) := by
  unfold subD
  by_cases h0 : 0 ≤ n
  · rw [if_pos h0]
    by_cases h1 : n < l.length
    · obtain ⟨i, rfl⟩ : ∃ i : Nat, n = i := ⟨n.toNat, by omega⟩
      have hi : i < l.length := by omega
      have hg : l[i]? = some l[i] := List.getElem?_eq_getElem hi
      obtain ⟨k, hk⟩ := copied_ans l[i] (cls_get l i _ hc hg)
      have hg2 : (encTs l)[i]? = some (encT l[i]) := by simp [encTs_map, hg]
      have hix : idxN (i : Int) l.length = some i := by unfold idxN; rw [if_pos (by omega)]; simp
      have hK : encR 4 nl (encTs l) = .sl 4 (encTs l) := by
        cases l with
        | nil => simp at hi
        | cons a r => simp
      have n0 : ¬ ((i : Int) < 0) := by omega
      have n1 : ¬ (l.length ≤ i) := by omega
      refine Ans.of (σ' := []) fn45_ (by simp) (by simp) ⟨k, fun N hN => ?_⟩
      simp [i45, c45, hK, hix, hg, hg2, hk N hN, n0, n1]
    · have hn : l[n.toNat]? = none := List.getElem?_eq_none (by omega)
      have n0 : ¬ (n < 0) := by omega
      have n1 : (l.length : Int) ≤ n := by omega
      refine Ans.of (σ' := []) fn45_ (by simp) (by simp) ⟨0, fun N hN => ?_⟩
      simp [i45, c45, hn, n0, n1, noTy, encT]
  · rw [if_neg h0]
    have n0 : n < 0 := by omega
    refine Ans.of (σ' := []) fn45_ (by simp) (by simp) ⟨0, fun N hN => ?_⟩
    simp [i45, c45, n0, noTy, encT]
theorem subst_ans (t : Ty) (l : List Ty) (nl : Bool) (ht : cl t) (hl : cls l) : Ans ctx 17 [encT t, encR 4 nl (encTs l)] (encT (turnedT (subD l) t)) := by
  obtain ⟨k, hk⟩ := turned_ans 45 [.adr (encR 4 nl (encTs l))] (by simp) (subD l) (fun n => subst1_ans l nl hl n) t ht
  refine Ans.of (σ' := []) fn17_ (by simp) (by simp) ⟨k, fun N hN => ?_⟩
  simp [i17, c17, hk N hN]
end Go.Am.Tryd
