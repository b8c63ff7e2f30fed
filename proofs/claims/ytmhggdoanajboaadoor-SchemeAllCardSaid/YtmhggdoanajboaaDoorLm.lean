/- Layer 17: Vars. -/
import Derived.Test.YtmhggdoanajboaaDoorLk
set_option maxRecDepth 100000
set_option linter.unusedSimpArgs false
namespace Go.Am.Tryd
open Go
def esB (l : List Nat) : List (AV × AV) := l.map fun n : Nat => (AV.int .i64 (n : Int), AV.bool true)
theorem find_esB (m : Nat) : ∀ (l : List Nat) (i : Nat), (m ∉ l ∧ findIdx ⟨.int .i64, 1, 8, .int .i64 0, [.int .i64]⟩ (.int .i64 m) i (esB l) = some none) ∨ (m ∈ l ∧ ∃ j, findIdx ⟨.int .i64, 1, 8, .int .i64 0, [.int .i64]⟩ (.int .i64 m) i (esB l) = some (some (j, .bool true)))
  | [], i => .inl ⟨by simp, rfl⟩
  | a :: l, i => by
    have he : eqA [.int .i64] (.int .i64 (m : Int)) (.int .i64 (a : Int)) = some (m == a) := by
      simp [eqA, eqLeaves, eqLeaf, nat_eq']
    by_cases h : m = a
    · right
      refine ⟨by simp [h], i, ?_⟩
      rw [show (m == a) = true by simpa using h] at he
      simp [esB, findIdx, he]
    · rw [show (m == a) = false by simpa using h] at he
      have e : findIdx ⟨.int .i64, 1, 8, .int .i64 0, [.int .i64]⟩ (.int .i64 m) i (esB (a :: l)) = findIdx ⟨.int .i64, 1, 8, .int .i64 0, [.int .i64]⟩ (.int .i64 m) (i + 1) (esB l) := by
        simp [esB, findIdx, he]
      rw [e]
      rcases find_esB m l (i + 1) with ⟨h1, h2⟩ | ⟨h1, h2⟩
      · exact .inl ⟨by simp [h, h1], h2⟩
      · exact .inr ⟨by simp [h1], h2⟩
theorem map54 : mapOf ctx 60 = some (⟨.int .i64, 1, 8, .int .i64 0, [.int .i64]⟩, ⟨.bool, 1, 1, .bool false, [.bool]⟩) := by rfl
theorem look54 (m : Nat) (l : List Nat) (σ : H) : lookupA ctx 60 (.map 0) (.int .i64 m) false (.map (esB l) :: σ) = some (.bool (decide (m ∈ l)), .map (esB l) :: σ) := by
  unfold lookupA
  rw [map54]
  rcases find_esB m l 0 with ⟨h1, h2⟩ | ⟨h1, j, h2⟩
  · simp [keyOk, h2, backA, h1]
  · simp [keyOk, h2, backA, h1]
theorem up54 (m : Nat) (l : List Nat) (h : m ∉ l) (σ : H) : updateA ctx 60 (.map 0) (.int .i64 m) (.bool true) (.map (esB l) :: σ) = some ((), .map (esB (l ++ [m])) :: σ) := by
  unfold updateA
  rw [map54]
  rcases find_esB m l 0 with ⟨h1, h2⟩ | ⟨h1, j, h2⟩
  · rw [show esB (l ++ [m]) = esB l ++ [(.int .i64 (m : Int), .bool true)] by simp [esB]]
    simp [keyOk, h2]
  · exact absurd h1 h
def st : List Nat → H
  | [] => [.map (esB []), .arr false 1 [.map 0], .arr false 1 [.nil]]
  | a :: l => [.map (esB (a :: l)), .arr false 1 [.map 0], .arr false 1 [.hs 3 (l.length + 1) 0 (l.length + 1) 1], .arr false 1 (encI (a :: l))]
def addV (out : List Nat) (m : Nat) : List Nat := if m ∈ out then out else out ++ [m]
theorem do37 (out : List Nat) (hl : out.length < 2 ^ 39) (m : Nat) : AnsH ctx 42 [.int .i64 m, .ptr 1 1 0 0, .ptr 2 1 0 0] (st out) (.tup []) (st (addV out m)) := by
  unfold addV
  cases out with
  | nil =>
    refine AnsH.of fn42_ (by simp) (by simp [snapL, mapO2, snapA]) (by simp) ⟨0, fun N _ => ?_⟩
    have h1 := look54 m []
    have h2 := up54 m [] (by simp)
    simp only [List.nil_append, List.not_mem_nil, decide_false] at h1 h2
    simp [i42, c42, st, h1, h2]
  | cons a l =>
    by_cases hm : m ∈ a :: l
    · rw [if_pos hm]
      refine AnsH.of fn42_ (by simp) (by simp [snapL, mapO2, snapA]) (by simp) ⟨0, fun N _ => ?_⟩
      have h1 := look54 m (a :: l)
      rw [decide_eq_true hm] at h1
      simp only [st]
      generalize esB (a :: l) = E at *
      simp [i42, c42, h1]
    · rw [if_neg hm]
      refine AnsH.of fn42_ (by simp) (by simp [snapL, mapO2, snapA]) (by simp) ⟨0, fun N _ => ?_⟩
      have h1 := look54 m (a :: l)
      have h2 := up54 m (a :: l) hm
      rw [decide_eq_false hm] at h1
      have e : st (a :: l ++ [m]) = [.map (esB (a :: l ++ [m])), .arr false 1 [.map 0], .arr false 1 [.hs 3 (l.length + 1 + 1) 0 (l.length + 1 + 1) 1], .arr false 1 (encI (a :: l) ++ [.int .i64 m])] := by
        simp [st, encI_append]
      rw [e]
      simp only [st]
      have hll : (encI (a :: l)).length = l.length + 1 := by simp
      simp at hl
      generalize esB (a :: l ++ [m]) = E' at *
      generalize esB (a :: l) = E at *
      generalize encI (a :: l) = X at *
      have ht : X.take (l.length + 1) = X := by rw [← hll, List.take_length]
      have c1 : (l.length + 1 + 1) * 8 ≤ 35184372088832 := by omega
      have c2 : l.length + 1 + 1 ≤ 35184372088832 := by omega
      have c3 : l.length + 1 ≤ 35184372088831 := by omega
      have c4 : ¬ l.length + 1 + 1 ≤ l.length + 1 := by omega
      have c5 : l.length ≤ 35184372088830 := by omega
      simp [i42, c42, h1, h2, hll, ht, c1, c2, c3, c4, c5]
theorem addV_len (out : List Nat) (m : Nat) : (addV out m).length ≤ out.length + 1 := by
  unfold addV; split <;> simp
theorem lp36 (xs : List AV) (nl : Bool) (hb : xs.length < big) : ∀ (rest : List Ty) (i : Nat) (out : List Nat), Tail xs i (encTs rest) → out.length + ndss rest < 2 ^ 39 → (∀ a ∈ rest, ∀ out : List Nat, out.length + nds a < 2 ^ 39 → AnsH ctx 41 [encT a, .fn 42 [.ptr 1 1 0 0, .ptr 2 1 0 0]] (st out) (.tup []) (st (varsT out a))) →
    ∃ fr', Lp ctx [] [] [1, 14, 15, 16] b41_0 ⟨[(1, .v (.fn 42 [.ptr 1 1 0 0, .ptr 2 1 0 0])), (14, .v (encR 4 nl xs)), (15, .v (.int .i64 xs.length)), (16, .v (.int .i64 i))], false⟩ (st out) (.ex 0) fr' (st (varsTs out rest))
  | [], i, out, h1, _, _ => by
    have h1 := h1.nil
    refine ⟨?_, Lp.exit ⟨0, fun N _ => ?_⟩ (by simp)⟩
    rotate_left
    · simp [b41_0, h1, varsTs]
      rfl
  | a :: r, i, out, h1, hl, ha => by
    simp only [encTs_cons] at h1
    have hlen := h1.len
    obtain ⟨g1, g2, g3, g4, g5⟩ := h1.cons
    have hw := wrap_succ (n := i) (by simp at hlen; omega)
    simp only [ndss] at hl
    have hv := varsT_len a out
    obtain ⟨k, hk⟩ := ha a (by simp) out (by omega)
    obtain ⟨fr', q1⟩ := lp36 xs nl hb r (i + 1) (varsT out a) g4 (by omega) (fun x hx => ha x (by simp [hx]))
    refine ⟨fr', Lp.step (σ1 := st (varsT out a)) ⟨k, fun N hN => ?_⟩ q1⟩
    simp [b41_0, g1, g2, g3, g5, hk N hN, hw]
mutual
theorem each_ans : ∀ (t : Ty), t.ok → vok t → ∀ out : List Nat, out.length + nds t < 2 ^ 39 → AnsH ctx 41 [encT t, .fn 42 [.ptr 1 1 0 0, .ptr 2 1 0 0]] (st out) (.tup []) (st (varsT out t))
  | .mk k n s nk ks, ho, hv, out, hl => by
    simp only [Ty.ok] at ho
    simp only [vok] at hv
    simp only [nds] at hl
    by_cases hk : k = 1
    · obtain ⟨h0, rfl⟩ := hv.1 hk
      obtain ⟨m, rfl⟩ : ∃ m : Nat, n = m := ⟨n.toNat, by omega⟩
      obtain ⟨q, hq⟩ := do37 out (by omega) m
      rw [show varsT out (.mk k m s nk []) = addV out m by simp [varsT, hk, addV]]
      obtain ⟨fr', h1⟩ := lp36 [] nk (by simp [big]) [] 0 (addV out m) (Tail.all _) (by have := addV_len out m; simp [ndss]; omega) (by simp)
      simp only [varsTs] at h1
      obtain ⟨q2, hq2⟩ := h1.den
      refine AnsH.of fn41_ (by simp) (by simp [snapL, mapO2, snapA]) (by simp) ⟨q + q2, fun N hN => ?_⟩
      have hq := hq N (by omega)
      have hq2 := hq2 N (by omega)
      generalize st (addV out m) = hh2 at *
      generalize st out = hh1 at *
      simp [i41, c41, encT, hk, hq, hq2]
    · have hk' : (k == 1) = false := by simpa using hk
      obtain ⟨fr', h1⟩ := lp36 (encTs ks) nk (by simpa using ho.2.1) ks 0 out (Tail.all _) (by omega) (fun a ha out hl => each_all ks ho.2.2 hv.2 a ha out hl)
      obtain ⟨q2, hq2⟩ := h1.den
      rw [show varsT out (.mk k n s nk ks) = varsTs out ks by simp [varsT, hk]]
      refine AnsH.of fn41_ (by simp) (by simp [snapL, mapO2, snapA]) (by simp) ⟨q2, fun N hN => ?_⟩
      have hq2 := hq2 N (by omega)
      generalize st (varsTs out ks) = hh2 at *
      generalize st out = hh1 at *
      simp [i41, c41, encT, hk', hq2]
theorem each_all : ∀ (l : List Ty), Ty.oks l → voks l → ∀ a ∈ l, ∀ out : List Nat, out.length + nds a < 2 ^ 39 → AnsH ctx 41 [encT a, .fn 42 [.ptr 1 1 0 0, .ptr 2 1 0 0]] (st out) (.tup []) (st (varsT out a))
  | [], _, _, a, ha => by simp at ha
  | t :: l, ho, hv, a, ha => by
    simp only [Ty.oks] at ho
    simp only [voks] at hv
    rcases List.mem_cons.1 ha with h | ha
    · rw [h]; exact each_ans t ho.1 hv.1
    · exact each_all l ho.2 hv.2 a ha
end
theorem vars_ans (t : Ty) (ho : t.ok) (hv : vok t) (hl : nds t < 2 ^ 39) : Ans ctx 15 [encT t] (encR 1 true (encI (varsT [] t))) := by
  obtain ⟨k, hk⟩ := each_ans t ho hv [] (by simpa using hl)
  have hk : ∀ N, k ≤ N → acall ctx N 41 [encT t, .fn 42 [.ptr 1 1 0 0, .ptr 2 1 0 0]] [.map [], .arr false 1 [.map 0], .arr false 1 [.nil]] = some (.tup [], st (varsT [] t)) := hk
  cases hvs : varsT [] t with
  | nil =>
    rw [hvs] at hk
    have hk : ∀ N, k ≤ N → acall ctx N 41 [encT t, .fn 42 [.ptr 1 1 0 0, .ptr 2 1 0 0]] [.map [], .arr false 1 [.map 0], .arr false 1 [.nil]] = some (.tup [], [.map [], .arr false 1 [.map 0], .arr false 1 [.nil]]) := hk
    refine Ans.of (σ' := [.map [], .arr false 1 [.map 0], .arr false 1 [.nil]]) fn15_ (by simp) (by simp) ⟨k, fun N hN => ?_⟩
    simp [i15, c15, hk N hN]
  | cons a l =>
    rw [hvs] at hk
    rw [show encR 1 true (encI (a :: l)) = .sl 1 (encI (a :: l)) by simp]
    refine Ans.fn (rs := []) fn15_ (by simp) ⟨k, fun N hN => ?_⟩ (snap_hsI (st (a :: l)) 3 false (a :: l) (l.length + 1) rfl (by simp))
    have hk := hk N hN
    simp only [st] at hk ⊢
    generalize esB (a :: l) = E at *
    generalize encI (a :: l) = X at *
    simp [i15, c15, hk]
end Go.Am.Tryd
