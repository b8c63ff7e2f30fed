/- Layer 17: how much a statement goes through. -/
import Derived.Test.YtmhggdoanajboaaDoorLi
import Derived.Test.YtmhggdoanajboaaDoorLe
set_option maxRecDepth 100000
set_option linter.unusedSimpArgs false
set_option linter.unusedVariables false
namespace Go.Am.Tryd
open Go
theorem gp33 (K N0 S : AV) (d : Nat) (hd : d ≤ 130) (xs : List AV) (nl : Bool) (hb : xs.length < big) : ∀ (rest : List Ty) (i n : Nat), Tail xs i (encTs rest) → n ≤ 1000 * (132 - d) →
    (∀ a ∈ rest, ∃ m : Nat, Ans ctx 33 [encT a, .int .i64 ((d + 1 : Nat) : Int)] (.int .i64 m) ∧ m ≤ 1000 * (131 - d) ∧ (m < 1000 → cl a ∧ nodes a ≤ m)) →
    ∃ (m : Nat) (fr' : Fr), Lp ctx [] [] [1, 2, 5, 6] b33_0 ⟨[(1, .v (.int .i64 d)), (2, .bx (.agg [K, N0, S, encR 4 nl xs])), (5, .v (.int .i64 n)), (6, .v (.int .i64 i))], false⟩ [] (.ex 0) fr' [] ∧
      fr'.lk = false ∧ getS fr'.sl 5 = .v (.int .i64 m) ∧ getS fr'.sl 42 = .u ∧ getS fr'.sl 4 = .u ∧ m ≤ 1000 * (132 - d) ∧ (m < 1000 → cls rest ∧ n + nodess rest ≤ m)
  | [], i, n, h1, hn, _ => by
    have h1 := h1.nil
    refine ⟨n, ?_, Lp.exit ⟨0, fun N _ => ?_⟩ (by simp), ?_⟩
    rotate_left
    · simp [b33_0, h1]
      rfl
    · simp [nodess, cls]; omega
  | a :: r, i, n, h1, hn, ha => by
    simp only [encTs_cons] at h1
    have hlen := h1.len
    obtain ⟨g1, g2, g3, g4, g5⟩ := h1.cons
    have hw := wrap_succ (n := i) (by simp at hlen; omega)
    simp only [nodess, cls]
    by_cases hn4 : n < 1000
    · have c1 : (n : Int) < 1000 := by omega
      obtain ⟨z, ⟨k, hk⟩, hz1, hz2⟩ := ha a (by simp)
      have hw2 : IntKind.i64.wrap ((n : Int) + (z : Int)) = ((n + z : Nat) : Int) := by rw [wrap_i64 (by omega)]; omega
      have hw3 : IntKind.i64.wrap ((d : Int) + 1) = ((d + 1 : Nat) : Int) := by rw [wrap_i64 (by omega)]; omega
      obtain ⟨m, fr', q1, q2, q3, q4, q5, q6, q7⟩ := gp33 K N0 S d hd xs nl hb r (i + 1) (n + z) g4 (by omega) (fun x hx => ha x (by simp [hx]))
      refine ⟨m, fr', Lp.step ⟨k, fun N hN => ?_⟩ q1, q2, q3, q4, q5, q6, fun hm => ?_⟩
      · have hk := hk N hN
        generalize n + z = nz at *
        generalize d + 1 = d1 at *
        simp [b33_0, g1, g2, g3, g5, c1, hk, hw, hw2, hw3]
      · obtain ⟨h1, h2⟩ := q7 hm
        obtain ⟨h3, h4⟩ := hz2 (by omega)
        exact ⟨⟨h3, h1⟩, by omega⟩
    · have c1 : ¬ (n : Int) < 1000 := by omega
      refine ⟨n, ?_, Lp.exit ⟨0, fun N _ => ?_⟩ (by simp), ?_⟩
      rotate_left
      · simp [b33_0, g1, g2, g3, g5, c1]
        rfl
      · simp; omega
set_option maxHeartbeats 1000000 in
mutual
theorem parts_ans : ∀ (t : Ty), t.ok → ∀ d : Nat, d ≤ 131 → ∃ m : Nat, Ans ctx 33 [encT t, .int .i64 d] (.int .i64 m) ∧ m ≤ 1000 * (132 - d) ∧ (m < 1000 → cl t ∧ nodes t ≤ m)
  | .mk k n0 s nl ks, ho, d, hd => by
    simp only [Ty.ok] at ho
    by_cases hg : 130 < d ∨ 40 < ks.length ∨ 60 < s.length
    · refine ⟨1000, Ans.of (σ' := []) fn33_ (by simp) (by simp) ⟨0, fun N hN => ?_⟩, by omega, by omega⟩
      by_cases h1 : 130 < d
      · have c1 : (130 : Int) < d := by omega
        simp [i33, c33, encT, c1]
      · have c1 : ¬ (130 : Int) < d := by omega
        by_cases h2 : 40 < ks.length
        · have c2 : (40 : Int) < ks.length := by omega
          simp [i33, c33, encT, c1, c2]
        · have c2 : ¬ (40 : Int) < ks.length := by omega
          have c3 : (60 : Int) < s.length := by omega
          simp [i33, c33, encT, c1, c2, c3]
    · have c1 : ¬ (130 : Int) < d := by omega
      have c2 : ¬ (40 : Int) < ks.length := by omega
      have c3 : ¬ (60 : Int) < s.length := by omega
      obtain ⟨m, fr', h1, h2, h3, h4, h5, h6, h7⟩ := gp33 (.int .i64 k) (.int .i64 n0) (.str s) d (by omega) (encTs ks) nl (by simpa using ho.2.1) ks 0 1 (Tail.all _) (by omega)
        (fun a ha => by
          obtain ⟨m, hm1, hm2, hm3⟩ := parts_all ks ho.2.2 (d + 1) (by omega) a ha
          exact ⟨m, hm1, by omega, hm3⟩)
      obtain ⟨q, hq⟩ := h1.den
      refine ⟨m, Ans.of (σ' := []) fn33_ (by simp) (by simp) ⟨q, fun N hN => ?_⟩, h6, fun hm => ?_⟩
      · have hq := hq N hN
        simp [i33, c33, encT, c1, c2, c3, hq, h2, h3, h4, h5]
      · obtain ⟨h8, h9⟩ := h7 hm
        exact ⟨by simp only [cl]; exact ⟨by omega, by omega, h8⟩, by simp only [nodes]; omega⟩
theorem parts_all : ∀ (l : List Ty), Ty.oks l → ∀ d : Nat, d ≤ 131 → ∀ a ∈ l, ∃ m : Nat, Ans ctx 33 [encT a, .int .i64 d] (.int .i64 m) ∧ m ≤ 1000 * (132 - d) ∧ (m < 1000 → cl a ∧ nodes a ≤ m)
  | [], _, d, hd, a, ha => by simp at ha
  | t :: l, ho, d, hd, a, ha => by
    simp only [Ty.oks] at ho
    rcases List.mem_cons.1 ha with h | ha
    · rw [h]; exact parts_ans t ho.1 d hd
    · exact parts_all l ho.2 d hd a ha
end
theorem gp5 (xs : List AV) (nl : Bool) (hb : xs.length ≤ 2 ^ 42) : ∀ (rest : List Ty) (i n : Nat), Tail xs i (encTs rest) → n ≤ 132000 * i → Ty.oks rest →
    ∃ (m : Nat) (fr' : Fr), Lp ctx [] [] [0, 3, 4] b5_0 ⟨[(0, .v (encR 4 nl xs)), (3, .v (.int .i64 n)), (4, .v (.int .i64 i))], false⟩ [] (.ex 0) fr' [] ∧
      fr'.lk = false ∧ getS fr'.sl 3 = .v (.int .i64 m) ∧ (∀ t, 18 ≤ t → getS fr'.sl t = .u) ∧ getS fr'.sl 2 = .u ∧ n ≤ m ∧ (m ≤ 900 → cls rest ∧ n + nodess rest ≤ m)
  | [], i, n, h1, hn, _ => by
    have h1 := h1.nil
    refine ⟨n, ?_, Lp.exit ⟨0, fun N _ => ?_⟩ (by simp), ?_⟩
    rotate_left
    · simp [b5_0, h1]
      rfl
    · refine ⟨by simp, by simp, fun t ht => ?_, by simp, by omega, by simp [nodess, cls]⟩
      have e : ∀ k : Nat, k < 18 → (k == t) = false := fun k hk => by simp; omega
      rcases t with _ | _ | _ | _ | _ | _ | _ | _ | _ | t <;> first | omega | rfl
  | a :: r, i, n, h1, hn, ho => by
    simp only [encTs_cons] at h1
    have hlen := h1.len
    obtain ⟨g1, g2, g3, g4, g5⟩ := h1.cons
    have hw := wrap_succ (n := i) (by simp at hlen; unfold big; omega)
    simp only [nodess, cls]
    simp only [Ty.oks] at ho
    obtain ⟨z, ⟨k, hk⟩, hz1, hz2⟩ := parts_ans a ho.1 0 (by omega)
    have hi : i < 2 ^ 42 := by simp at hlen; omega
    have hw2 : IntKind.i64.wrap ((n : Int) + (z : Int)) = ((n + z : Nat) : Int) := by rw [wrap_i64 (by omega)]; omega
    obtain ⟨m, fr', q1, q2, q3, q4, q5, q6, q7⟩ := gp5 xs nl hb r (i + 1) (n + z) g4 (by omega) ho.2
    refine ⟨m, fr', Lp.step ⟨k, fun N hN => ?_⟩ q1, q2, q3, q4, q5, by omega, fun hm => ?_⟩
    · have hk : ∀ σ, acall ctx N 33 [encT a, .int .i64 0] σ = some (.int .i64 z, σ) := hk N hN
      generalize n + z = nz at *
      simp [b5_0, g1, g2, g3, g5, hk, hw, hw2]
    · obtain ⟨h1, h2⟩ := q7 hm
      obtain ⟨h3, h4⟩ := hz2 (by omega)
      exact ⟨⟨h3, h1⟩, by omega⟩
theorem great11_ans : Ans ctx 34 [.agg [.nil, .nil]] (.bool false) := by
  refine ⟨40, fun N hN σ => ?_⟩
  obtain ⟨n, rfl⟩ : ∃ n, N = n + 40 := ⟨N - 40, by omega⟩
  kernel_rfl
theorem great_ans (l : List Ty) (nl : Bool) (hb : l.length ≤ 2 ^ 42) (ho : Ty.oks l) : ∃ b : Bool, Ans ctx 5 [encR 4 nl (encTs l)] (.bool b) ∧ (b = false → cls l ∧ nodess l ≤ 900) := by
  obtain ⟨m, fr', h1, h2, h3, h4, h5, h6, h7⟩ := gp5 (encTs l) nl (by simpa using hb) l 0 0 (Tail.all _) (by omega) ho
  obtain ⟨q, hq⟩ := h1.den
  obtain ⟨g, hg⟩ := great11_ans
  refine ⟨decide (900 < m), Ans.of (σ' := []) fn5_ (by simp) (by simp) ⟨q + g, fun N hN => ?_⟩, fun hm => ?_⟩
  · have hq := hq N (by omega)
    have hg := hg N (by omega)
    by_cases hm : 900 < m
    · have c1 : (900 : Int) < m := by omega
      simp [i5, c5, hq, h2, h3, h4, h5, hm, c1]
    · have c1 : ¬ (900 : Int) < m := by omega
      simp [i5, c5, hq, h2, h3, h4, h5, hm, c1, hg]
  · obtain ⟨h8, h9⟩ := h7 (by simpa using hm)
    have : m ≤ 900 := by simpa using hm
    exact ⟨h8, by omega⟩
end Go.Am.Tryd
