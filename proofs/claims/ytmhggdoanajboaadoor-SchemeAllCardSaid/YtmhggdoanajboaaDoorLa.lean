/- Layer 17: are two types one? -/
import Derived.Test.YtmhggdoanajboaaDoorMKnow
import Derived.Test.YtmhggdoanajboaaDoorMTyp
set_option maxRecDepth 100000
set_option linter.unusedSimpArgs false
namespace Go.Am.Tryd
open Go
theorem lp29 (xs ys : List AV) (n1 n2 : Bool) (hb : xs.length < big) : ∀ (r1 r2 : List Ty) (i : Nat), Tail xs i (encTs r1) → Tail ys i (encTs r2) → r1.length = r2.length → (∀ a ∈ r1, ∀ b, Ans ctx 12 [encT a, encT b] (.bool (a.same b))) →
    ∃ e fr', Lp ctx [] [] [0, 1, 5] b40_0 ⟨[(0, .v (encR 4 n1 xs)), (1, .v (encR 4 n2 ys)), (5, .v (.int .i64 i))], false⟩ [] e fr' [] ∧
      fr'.lk = false ∧ cond (Ty.sames r1 r2) (e = .ex 0 ∧ getS fr'.sl 4 = .u) (e = .ret ∧ getS fr'.sl 4 = .v (.bool false))
  | [], [], i, h1, h2, _, _ => by
    have h1 := h1.nil
    refine ⟨.ex 0, ?_, Lp.exit ⟨0, fun N _ => ?_⟩ (by simp), ?_⟩
    rotate_left
    · simp [b40_0, h1]
      rfl
    · simp [Ty.sames]
  | a :: r1, b :: r2, i, h1, h2, hr, ha => by
    obtain ⟨k, hk⟩ := ha a (by simp) b
    simp only [encTs_cons] at h1 h2
    have hl := h1.len
    obtain ⟨g1, g2, g3, g4, g5⟩ := h1.cons
    obtain ⟨k1, k2, k3, k4, k5⟩ := h2.cons
    have hw := wrap_succ (n := i) (by simp at hl; omega)
    cases hab : a.same b with
    | false =>
      refine ⟨.ret, ?_, Lp.exit ⟨k, fun N hN => ?_⟩ (by simp), ?_⟩
      rotate_left
      · simp [b40_0, g1, g2, g3, g5, k1, k2, k3, k5, hk N hN, hab]
        rfl
      · simp [Ty.sames, hab]
    | true =>
      obtain ⟨e, fr', h1, h2, h3⟩ := lp29 xs ys n1 n2 hb r1 r2 (i + 1) g4 k4 (by simpa using hr) (fun x hx => ha x (by simp [hx]))
      refine ⟨e, fr', Lp.step ⟨k, fun N hN => ?_⟩ h1, h2, ?_⟩
      · simp [b40_0, g1, g2, g3, g5, k1, k2, k3, k5, hk N hN, hab, hw]
      · simpa [Ty.sames, hab] using h3
  | [], _ :: _, _, _, _, h, _ => by simp at h
  | _ :: _, [], _, _, _, h, _ => by simp at h
theorem sames_ans (r1 r2 : List Ty) (n1 n2 : Bool) (hb : r1.length < big) (ha : ∀ a ∈ r1, ∀ b, Ans ctx 12 [encT a, encT b] (.bool (a.same b))) :
    Ans ctx 40 [encR 4 n1 (encTs r1), encR 4 n2 (encTs r2)] (.bool (Ty.sames r1 r2)) := by
  by_cases hl : r1.length = r2.length
  · obtain ⟨e, fr', h1, h2, h3⟩ := lp29 (encTs r1) (encTs r2) n1 n2 (by simpa using hb) r1 r2 0 (Tail.all _) (Tail.all _) hl ha
    obtain ⟨k, hk⟩ := h1.den
    cases hs : Ty.sames r1 r2 with
    | true =>
      rw [hs] at h3
      obtain ⟨rfl, h4⟩ := h3
      refine Ans.of (σ' := []) fn40_ (by simp) (by simp) ⟨k, fun N hN => ?_⟩
      simp [i40, c40, hl, hk N hN, h2, h4]
    | false =>
      rw [hs] at h3
      obtain ⟨rfl, h4⟩ := h3
      refine Ans.of (σ' := []) fn40_ (by simp) (by simp) ⟨k, fun N hN => ?_⟩
      simp [i40, c40, hl, hk N hN, h2, h4]
  · have : Ty.sames r1 r2 = false := by
      cases hs : Ty.sames r1 r2 with
      | false => rfl
      | true => exact absurd (Ty.sames_length _ _ hs) hl
    rw [this]
    refine Ans.of (σ' := []) fn40_ (by simp) (by simp) ⟨0, fun N hN => ?_⟩
    have : ((r1.length : Int) != r2.length) = true := by simp; omega
    simp [i40, c40, this]
mutual
theorem same_ans : ∀ (a b : Ty), a.ok → Ans ctx 12 [encT a, encT b] (.bool (a.same b))
  | .mk k n s nl ks, .mk k' n' s' nl' ks', ho => by
    simp only [Ty.ok] at ho
    obtain ⟨K, hK⟩ := sames_ans ks ks' nl nl' ho.2.1 (fun a ha b => sames_all ks ho.2.2 a ha b)
    refine Ans.of (σ' := []) fn12_ (by simp) (by simp) ⟨K, fun N hN => ?_⟩
    simp only [encT, Ty.same]
    cases h1 : k == k' <;> cases h2 : n == n' <;> cases h3 : s == s' <;> simp [i12, c12, h1, h2, h3, hK N hN]
theorem sames_all : ∀ (l : List Ty), Ty.oks l → ∀ a ∈ l, ∀ b, Ans ctx 12 [encT a, encT b] (.bool (a.same b))
  | [], _, a, ha, _ => by simp at ha
  | t :: l, ho, a, ha, b => by
    simp only [Ty.oks] at ho
    rcases List.mem_cons.1 ha with h | ha
    · rw [h]; exact same_ans t b ho.1
    · exact sames_all l ho.2 a ha b
end
theorem lp33 (xs ys : List AV) (n1 n2 : Bool) (hb : xs.length < big) : ∀ (r1 r2 : List Ty) (i : Nat), Tail xs i (encTs r1) → Tail ys i (encTs r2) → r1.length = r2.length → (∀ a ∈ r1, ∀ b, Ans ctx 11 [encT a, encT b] (.bool (a.same b))) →
    ∃ e fr', Lp ctx [] [] [1, 2, 15, 16, 17] b39_0 ⟨[(1, .v (encR 4 n2 ys)), (2, .v (.fn 11 [])), (15, .v (encR 4 n1 xs)), (16, .v (.int .i64 xs.length)), (17, .v (.int .i64 i))], false⟩ [] e fr' [] ∧
      fr'.lk = false ∧ cond (Ty.sames r1 r2) (e = .ex 0 ∧ getS fr'.sl 6 = .u) (e = .ret ∧ getS fr'.sl 6 = .v (.bool false))
  | [], [], i, h1, h2, _, _ => by
    have h1 := h1.nil
    refine ⟨.ex 0, ?_, Lp.exit ⟨0, fun N _ => ?_⟩ (by simp), ?_⟩
    rotate_left
    · simp [b39_0, h1]
      rfl
    · simp [Ty.sames]
  | a :: r1, b :: r2, i, h1, h2, hr, ha => by
    obtain ⟨k, hk⟩ := ha a (by simp) b
    simp only [encTs_cons] at h1 h2
    have hl := h1.len
    obtain ⟨g1, g2, g3, g4, g5⟩ := h1.cons
    obtain ⟨k1, k2, k3, k4, k5⟩ := h2.cons
    have hw := wrap_succ (n := i) (by simp at hl; omega)
    cases hab : a.same b with
    | false =>
      refine ⟨.ret, ?_, Lp.exit ⟨k, fun N hN => ?_⟩ (by simp), ?_⟩
      rotate_left
      · simp [b39_0, g1, g2, g3, g5, k1, k2, k3, k5, hk N hN, hab]
        rfl
      · simp [Ty.sames, hab]
    | true =>
      obtain ⟨e, fr', h1, h2, h3⟩ := lp33 xs ys n1 n2 hb r1 r2 (i + 1) g4 k4 (by simpa using hr) (fun x hx => ha x (by simp [hx]))
      refine ⟨e, fr', Lp.step ⟨k, fun N hN => ?_⟩ h1, h2, ?_⟩
      · simp [b39_0, g1, g2, g3, g5, k1, k2, k3, k5, hk N hN, hab, hw]
      · simpa [Ty.sames, hab] using h3
  | [], _ :: _, _, _, _, h, _ => by simp at h
  | _ :: _, [], _, _, _, h, _ => by simp at h
theorem sames33_ans (r1 r2 : List Ty) (n1 n2 : Bool) (hb : r1.length < big) (ha : ∀ a ∈ r1, ∀ b, Ans ctx 11 [encT a, encT b] (.bool (a.same b))) :
    Ans ctx 39 [encR 4 n1 (encTs r1), encR 4 n2 (encTs r2), .fn 11 []] (.bool (Ty.sames r1 r2)) := by
  by_cases hl : r1.length = r2.length
  · obtain ⟨e, fr', h1, h2, h3⟩ := lp33 (encTs r1) (encTs r2) n1 n2 (by simpa using hb) r1 r2 0 (Tail.all _) (Tail.all _) hl ha
    obtain ⟨k, hk⟩ := h1.den
    cases hs : Ty.sames r1 r2 with
    | true =>
      rw [hs] at h3
      obtain ⟨rfl, h4⟩ := h3
      refine Ans.of (σ' := []) fn39_ (by simp) (by simp) ⟨k, fun N hN => ?_⟩
      simp [i39, c39, hl, hk N hN, h2, h4]
    | false =>
      rw [hs] at h3
      obtain ⟨rfl, h4⟩ := h3
      refine Ans.of (σ' := []) fn39_ (by simp) (by simp) ⟨k, fun N hN => ?_⟩
      simp [i39, c39, hl, hk N hN, h2, h4]
  · have : Ty.sames r1 r2 = false := by
      cases hs : Ty.sames r1 r2 with
      | false => rfl
      | true => exact absurd (Ty.sames_length _ _ hs) hl
    rw [this]
    refine Ans.of (σ' := []) fn39_ (by simp) (by simp) ⟨0, fun N hN => ?_⟩
    have : ((r1.length : Int) != r2.length) = true := by simp; omega
    simp [i39, c39, this]
mutual
theorem same13_ans : ∀ (a b : Ty), a.ok → Ans ctx 11 [encT a, encT b] (.bool (a.same b))
  | .mk k n s nl ks, .mk k' n' s' nl' ks', ho => by
    simp only [Ty.ok] at ho
    obtain ⟨K, hK⟩ := sames33_ans ks ks' nl nl' ho.2.1 (fun a ha b => sames13_all ks ho.2.2 a ha b)
    refine Ans.of (σ' := []) fn11_ (by simp) (by simp) ⟨K, fun N hN => ?_⟩
    simp only [encT, Ty.same]
    cases h1 : k == k' <;> cases h2 : n == n' <;> cases h3 : s == s' <;> simp [i11, c11, h1, h2, h3, hK N hN]
theorem sames13_all : ∀ (l : List Ty), Ty.oks l → ∀ a ∈ l, ∀ b, Ans ctx 11 [encT a, encT b] (.bool (a.same b))
  | [], _, a, ha, _ => by simp at ha
  | t :: l, ho, a, ha, b => by
    simp only [Ty.oks] at ho
    rcases List.mem_cons.1 ha with h | ha
    · rw [h]; exact same13_ans t b ho.1
    · exact sames13_all l ho.2 a ha b
end
end Go.Am.Tryd
