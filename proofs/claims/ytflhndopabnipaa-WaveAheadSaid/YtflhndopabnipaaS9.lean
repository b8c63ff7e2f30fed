/- Tarjan's finder: where a node stands, a copy of a row, a row sorted. -/
import Derived.Test.YtflhndopabnipaaS8
set_option linter.unusedVariables false
set_option linter.unusedSimpArgs false
set_option maxRecDepth 100000
namespace Go.Am.Try
open Go Go.Am.Sc
theorem lp39 (x : Nat) (A : List Nat) (hA : A.length ≤ 2 ^ 40) : ∀ (r : List Nat) (i : Nat), Tail (encNs A) i (encNs r) → x ∈ r →
    ∃ fr', Lp ctx [] [] [0, 1, 7, 8] b39_0 ⟨[(0, .v (.sl 1 (encNs A))), (1, .v (.int .i64 x)), (7, .v (.int .i64 A.length)), (8, .v (.int .i64 i))], false⟩ [] .ret fr' [] ∧ fr'.lk = false ∧ getS fr'.sl 4 = .v (.int .i64 ((i + (cutAt x r).1.length : Nat) : Int))
  | [], i, ha, hx => by cases hx
  | a :: r, i, ha, hx => by
    rw [encNs_cons] at ha
    obtain ⟨a1, a2, a3, a4, a5⟩ := ha.cons
    simp only [encNs_length] at a2 a3
    have hw := wrap_succ (n := i) (by have := ha.len; simp at this; unfold big; omega)
    by_cases hax : a = x
    · subst hax
      refine ⟨?_, Lp.exit ⟨0, fun N _ => ?_⟩ (by simp), ?_⟩
      rotate_left
      · simp -implicitDefEqProofs [b39_0, a1, a2, a3]
        rfl
      · simp [cutAt]
    · have hb : ((x : Int) == (a : Int)) = false := by rw [beq_eq_false_iff_ne]; omega
      obtain ⟨fr', l1, l2, l3⟩ := lp39 x A hA r (i + 1) a4 ((List.mem_cons.1 hx).resolve_left fun e => hax e.symm)
      refine ⟨fr', Lp.step ⟨0, fun N hN => ?_⟩ l1, l2, ?_⟩
      · simp -implicitDefEqProofs [b39_0, a1, a2, a3, hw, hb]
      · rw [l3]
        have e : (cutAt x (a :: r)).1.length = (cutAt x r).1.length + 1 := by rw [cutAt, if_neg hax]; rfl
        rw [e]
        congr 3; omega
theorem index_ans (x : Nat) (A : List Nat) (hA : A.length ≤ 2 ^ 40) (hx : x ∈ A) : Ans ctx 39 [.sl 1 (encNs A), .int .i64 x] (.int .i64 ((cutAt x A).1.length : Nat)) := by
  obtain ⟨fr', l1, l2, l3⟩ := lp39 x A hA A 0 (Tail.all _) hx
  obtain ⟨k, hk⟩ := l1.den
  rw [Nat.zero_add] at l3
  refine Ans.of (σ' := []) fn39_ (by simp [AV.noRefs, AV.noRef]) (by simp) ⟨k, fun N hN => ?_⟩
  have hk := hk N hN
  simp only [Int.cast_ofNat_Int] at hk
  simp -implicitDefEqProofs [i39, c39, hk, l2, l3]
def tycS : Ctx := ⟨types, [], [], []⟩
theorem tycS_ti (t : Nat) : tycS.ti t = ctx.ti t := rfl
theorem clone_at (σ : H) (q v o m : Nat) (zs xs : List AV) (h : σ[q]? = some (.arr false 1 zs)) (hv : zs.length = v) (hx : (zs.drop o).take (m + 1) = xs) (hl : o + (m + 1) ≤ v) (hm : m + 1 ≤ 2 ^ 40) (hf : fitAll tiI xs = true) :
    AnsH ctx 40 [.hs q v o (m + 1) 1] σ (.hs σ.length (m + 1) 0 (m + 1) 1) (σ ++ [.arr false 1 xs]) := by
  refine AnsH.prim (by rfl) (by rfl) (by rfl) ?_
  show runFn tycS (fun _ _ => failM) 1 i40 [.hs q v o (m + 1) 1] σ = _
  have hq : q < σ.length := (List.getElem?_eq_some_iff.1 h).1
  have h' : (σ ++ [HObj.arr false 1 []])[q]? = some (.arr false 1 zs) := by rw [List.getElem?_append_left hq]; exact h
  have hxl : xs.length = m + 1 := by rw [← hx]; simp; omega
  have hs : (σ ++ [HObj.arr false 1 []])[σ.length]? = some (.arr false 1 []) := by simp
  have he : elemsM ⟨.int .i64, 1, 8, .int .i64 0, [.int .i64]⟩ (.hs q v o (m + 1) 1) (σ ++ [HObj.arr false 1 []]) = some (xs, σ ++ [HObj.arr false 1 []]) := by
    have : o + (m + 1) ≤ zs.length := by omega
    simp only [elemsM, arrAt, h', hv, if_true, and_self, true_and]
    rw [if_pos (by omega), hx]
  have ha : appendH ⟨.int .i64, 1, 8, .int .i64 0, [.int .i64]⟩ (.hs σ.length 0 0 0 1) xs (σ ++ [HObj.arr false 1 []]) = some (.hs σ.length (m + 1) 0 (m + 1) 1, σ ++ [.arr false 1 xs]) := by
    have hc : True ∧ True ∧ 0 + 0 ≤ 0 ∧ (0 + xs.length) * 8 ≤ 2 ^ 45 ∧ 0 + xs.length ≤ 2 ^ 45 ∧ fitAll ⟨.int .i64, 1, 8, .int .i64 0, [.int .i64]⟩ xs = true := ⟨trivial, trivial, by omega, by omega, by omega, hf⟩
    simp only [appendH, arrAt, hs, List.length_nil, if_true]
    rw [if_pos hc, if_neg (by omega)]
    simp [hxl]
  simp -implicitDefEqProofs [i40, c40, tycS_ti, he, ha, -appendH, -elemsM]
theorem unAll_Is : ∀ l : List Int, unAll unI (encIs l) = some l
  | [] => rfl
  | x :: l => by simp only [encIs_cons, unAll, unI, unAll_Is l]
theorem setCells_all : ∀ (xs ys pre : List AV), xs.length = ys.length → setCells (pre ++ xs) pre.length ys = pre ++ ys
  | [], [], pre, _ => by simp [setCells]
  | [], _ :: _, _, h => by simp at h
  | _ :: _, [], _, h => by simp at h
  | x :: xs, y :: ys, pre, h => by
    simp only [setCells]
    have e : (pre ++ x :: xs).set pre.length y = (pre ++ [y]) ++ xs := by
      rw [List.set_append_right _ _ (Nat.le_refl _)]
      simp
    rw [e]
    have := setCells_all xs ys (pre ++ [y]) (by simpa using h)
    simp only [List.length_append, List.length_singleton] at this
    rw [this]; simp
theorem sort_nats (l : List Nat) (hl : l.Nodup) : (l.map fun (n : Nat) => (n : Int)).mergeSort (fun x y => decide (x ≤ y)) = (sortN l).map fun (n : Nat) => (n : Int) := by
  generalize hM : (l.map fun (n : Nat) => (n : Int)).mergeSort (fun x y => decide (x ≤ y)) = M
  have hperm : M.Perm (l.map fun (n : Nat) => (n : Int)) := by rw [← hM]; exact List.mergeSort_perm _ _
  have hsorted : M.Pairwise fun a b => a ≤ b := by
    have := List.pairwise_mergeSort (le := fun (x y : Int) => decide (x ≤ y)) (fun a b c h1 h2 => by simp at *; omega) (fun a b => by simp; omega) (l.map fun (n : Nat) => (n : Int))
    rw [hM] at this
    exact this.imp fun h => by simpa using h
  have hnn : ∀ x ∈ M, 0 ≤ x := fun x hx => by
    have := (hperm.mem_iff).1 hx
    obtain ⟨n, _, rfl⟩ := List.mem_map.1 this
    omega
  have hnd : M.Nodup := hperm.nodup_iff.2 (by
    rw [List.nodup_iff_pairwise_ne, List.pairwise_map]
    rw [List.nodup_iff_pairwise_ne] at hl
    exact hl.imp fun h e => h (by omega))
  have hlt : M.Pairwise fun a b => a < b := by
    rw [List.nodup_iff_pairwise_ne] at hnd
    exact (hsorted.and hnd).imp fun ⟨h1, h2⟩ => by omega
  have e : M.map Int.toNat = sortN l := by
    refine pw_ext ?_ (sortN_lt hl) fun x => ?_
    · rw [List.pairwise_map]
      exact hlt.imp_of_mem fun ha hb h => by have := hnn _ ha; have := hnn _ hb; omega
    · rw [sortN_mem, List.mem_map]
      constructor
      · rintro ⟨y, hy, rfl⟩
        obtain ⟨n, hn, rfl⟩ := List.mem_map.1 (hperm.mem_iff.1 hy)
        simpa using hn
      · intro hx
        exact ⟨(x : Int), hperm.mem_iff.2 (List.mem_map.2 ⟨x, hx, rfl⟩), by simp⟩
  rw [← e, List.map_map]
  have : ∀ (L : List Int), (∀ x ∈ L, 0 ≤ x) → L.map ((fun (n : Nat) => (n : Int)) ∘ Int.toNat) = L := fun L => by
    induction L with
    | nil => intro _; rfl
    | cons x L ih =>
      intro h
      rw [List.map_cons, ih fun y hy => h y (by simp [hy])]
      congr 1
      have := h x (by simp)
      show ((x.toNat : Nat) : Int) = x
      omega
  exact (this M hnn).symm
theorem sort_at (σ : H) (q : Nat) (l : List Nat) (h : σ[q]? = some (.arr false 1 (encNs l))) (hl : l.Nodup) (hb : l.length ≤ 2 ^ 40) : AnsH ctx 41 [.hs q l.length 0 l.length 1] σ (.tup []) (σ.set q (.arr false 1 (encNs (sortN l)))) := by
  refine AnsH.prim (by rfl) (by rfl) (by rfl) ?_
  show primSortI [.hs q l.length 0 l.length 1] σ = _
  have ht : ((encNs l).drop 0).take l.length = encIs (l.map fun (n : Nat) => (n : Int)) := by
    rw [List.drop_zero, List.take_of_length_le (by simp), encNs_Is]
  unfold primSortI sortRow
  simp only [arrAt, h, encNs_length, if_true, Nat.zero_add, Nat.le_refl, true_and, ht, unAll_Is]
  rw [if_pos (by omega), sort_nats l hl]
  have hsl : (sortN l).length = l.length := by
    have h1 : ∀ (x : Nat) (m : List Nat), (insN x m).length = m.length + 1 := fun x m => by
      induction m with
      | nil => rfl
      | cons y m ih => unfold insN; split <;> simp [ih]
    have h2 : ∀ m : List Nat, (sortN m).length = m.length := fun m => by
      induction m with
      | nil => rfl
      | cons y m ih => simp [sortN, h1, ih]
    exact h2 l
  have := setCells_all (encNs l) (encNs (sortN l)) [] (by simp [hsl])
  simp only [List.nil_append, List.length_nil] at this
  rw [show (List.map (AV.int IntKind.i64) ((sortN l).map fun (n : Nat) => (n : Int))) = encNs (sortN l) by simp [encNs], this]
end Go.Am.Try
