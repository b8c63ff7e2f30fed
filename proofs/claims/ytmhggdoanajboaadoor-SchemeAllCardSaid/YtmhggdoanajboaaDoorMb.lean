/- Layer 18: Match in plain Lean: the reference's way and the program's way. -/
import Derived.Test.YtmhggdoanajboaaDoorMa
set_option maxRecDepth 100000
set_option linter.unusedSimpArgs false
set_option linter.unusedVariables false
namespace Go.Am.Tryd
open Go
mutual
theorem same_symm : ∀ a b : Ty, a.same b = true → b.same a = true
  | .mk k n s _ ks, .mk k' n' s' _ ks', h => by
    simp only [Ty.same, Bool.and_eq_true, beq_iff_eq] at h ⊢
    exact ⟨h.1.symm, h.2.1.symm, h.2.2.1.symm, sames_symm ks ks' h.2.2.2⟩
theorem sames_symm : ∀ a b : List Ty, Ty.sames a b = true → Ty.sames b a = true
  | [], [], _ => rfl
  | [], _ :: _, h => by simp [Ty.sames] at h
  | _ :: _, [], h => by simp [Ty.sames] at h
  | a :: l, b :: m, h => by
    simp only [Ty.sames, Bool.and_eq_true] at h ⊢
    exact ⟨same_symm a b h.1, sames_symm l m h.2⟩
end
mutual
theorem same_trans : ∀ a b c : Ty, a.same b = true → b.same c = true → a.same c = true
  | .mk k n s _ ks, .mk k' n' s' _ ks', .mk k2 n2 s2 _ ks2, h, g => by
    simp only [Ty.same, Bool.and_eq_true, beq_iff_eq] at h g ⊢
    exact ⟨h.1.trans g.1, h.2.1.trans g.2.1, h.2.2.1.trans g.2.2.1, sames_trans ks ks' ks2 h.2.2.2 g.2.2.2⟩
theorem sames_trans : ∀ a b c : List Ty, Ty.sames a b = true → Ty.sames b c = true → Ty.sames a c = true
  | [], [], c, _, h => h
  | [], _ :: _, c, h, _ => by simp [Ty.sames] at h
  | _ :: _, [], c, h, _ => by simp [Ty.sames] at h
  | a :: l, b :: m, [], _, h => by simp [Ty.sames] at h
  | a :: l, b :: m, c :: n, h, g => by
    simp only [Ty.sames, Bool.and_eq_true] at h g ⊢
    exact ⟨same_trans a b c h.1 g.1, sames_trans l m n h.2 g.2⟩
end
mutual
def prs : Ty → Ty → Option (List (Int × Ty))
  | .mk k n s nl ks, u =>
    if k = 1 then some [(n, u)]
    else match u with
      | .mk k' _ s' _ ks' => if k' = 2 ∧ s = s' ∧ ks.length = ks'.length then prss ks ks' else none
def prss : List Ty → List Ty → Option (List (Int × Ty))
  | [], _ => some []
  | _ :: _, [] => none
  | t :: ts, u :: us => match prs t u, prss ts us with
    | some a, some b => some (a ++ b)
    | _, _ => none
end
def Con (l : List (Int × Ty)) : Prop := ∀ p ∈ l, ∀ q ∈ l, p.1 = q.1 → p.2.same q.2 = true
theorem Con.sub {a b : List (Int × Ty)} (h : Con b) (hs : ∀ p ∈ a, p ∈ b) : Con a := fun p hp q hq => h p (hs p hp) q (hs q hq)
theorem Con.congr {a b : List (Int × Ty)} (hs : ∀ p, p ∈ a ↔ p ∈ b) : Con a ↔ Con b := ⟨fun h => h.sub fun p hp => (hs p).2 hp, fun h => h.sub fun p hp => (hs p).1 hp⟩
theorem Con.like {a b : List (Int × Ty)} (h : Con b) (hs : ∀ p ∈ a, ∃ q ∈ b, p.1 = q.1 ∧ p.2.same q.2 = true) : Con a := fun p hp q hq he => by
  obtain ⟨p', hp', e1, s1⟩ := hs p hp
  obtain ⟨q', hq', e2, s2⟩ := hs q hq
  exact same_trans _ _ _ s1 (same_trans _ _ _ (h p' hp' q' hq' (by rw [← e1, ← e2, he])) (same_symm _ _ s2))
/-! ### the reference's way -/
structure Mat where
  nl : Bool
  vs : List Nat
  ts : List Ty
  ok : Bool
def unlike : Ty → Ty → Bool
  | .mk _ _ s _ ks, .mk k' _ s' _ ks' => k' != 2 || (s != s' || ks.length != ks'.length)
def kids : Ty → List Ty
  | .mk _ _ _ _ ks => ks
mutual
def matT : Mat → Ty → Ty → Mat
  | m, .mk k n s nl ks, u =>
    if k = 1 then (if n.toNat ∈ m.vs then { m with ok := m.ok && (m.ts.getD (placeN m.vs n.toNat 0).toNat noTy).same u } else ⟨false, m.vs ++ [n.toNat], m.ts ++ [u], m.ok⟩)
    else if unlike (.mk k n s nl ks) u then { m with ok := false } else matTs m ks (kids u)
def matTs : Mat → List Ty → List Ty → Mat
  | m, [], _ => m
  | m, _ :: _, [] => m
  | m, t :: ts, u :: us => if m.ok then matTs (matT m t u) ts us else m
end
def Mat.zip (m : Mat) : List (Int × Ty) := (m.vs.map fun n : Nat => (n : Int)).zip m.ts
structure Mat.Ok (m : Mat) : Prop where
  nd : m.vs.Nodup
  len : m.vs.length = m.ts.length
theorem zip_get {m : Mat} (hm : m.Ok) {n : Nat} (h : n ∈ m.vs) : ((n : Int), m.ts.getD (placeN m.vs n 0).toNat noTy) ∈ m.zip := by
  have key : ∀ (vs : List Nat) (ts : List Ty) (i : Nat), vs.length = ts.length → n ∈ vs → ∃ j : Nat, placeN vs n i = ((i + j : Nat) : Int) ∧ ((n : Int), ts.getD j noTy) ∈ (vs.map fun n : Nat => (n : Int)).zip ts := by
    intro vs
    induction vs with
    | nil => intro ts i _ h; simp at h
    | cons a vs ih =>
      intro ts i hl hm
      cases ts with
      | nil => simp at hl
      | cons t ts =>
        unfold placeN
        by_cases e : a = n
        · rw [if_pos e]
          exact ⟨0, by simp, by simp [e]⟩
        · rw [if_neg e]
          have hm' : n ∈ vs := by
            rcases List.mem_cons.1 hm with h | h
            · exact absurd h.symm e
            · exact h
          obtain ⟨j, h1, h2⟩ := ih ts (i + 1) (by simpa using hl) hm'
          refine ⟨j + 1, by rw [h1]; omega, ?_⟩
          simp only [List.map_cons, List.zip_cons_cons, List.getD_cons_succ]
          exact List.mem_cons_of_mem _ h2
  obtain ⟨j, h1, h2⟩ := key m.vs m.ts 0 hm.len h
  have e : (placeN m.vs n 0).toNat = j := by rw [h1]; omega
  rw [e]
  exact h2
mutual
theorem mat_ok : ∀ (t u : Ty) (m : Mat), m.Ok → (matT m t u).Ok
  | .mk k n s nl ks, u, m, hm => by
    unfold matT
    split
    · split
      · exact ⟨hm.nd, hm.len⟩
      · rename_i h
        refine ⟨?_, by simp [hm.len]⟩
        rw [List.nodup_append]
        exact ⟨hm.nd, by simp, fun a ha b hb => by simp at hb; subst hb; exact fun e => h (e ▸ ha)⟩
    · split
      · exact ⟨hm.nd, hm.len⟩
      · exact mats_ok ks (kids u) m hm
theorem mats_ok : ∀ (ts us : List Ty) (m : Mat), m.Ok → (matTs m ts us).Ok
  | [], _, m, hm => by unfold matTs; exact hm
  | _ :: _, [], m, hm => by unfold matTs; exact hm
  | t :: ts, u :: us, m, hm => by
    unfold matTs
    split
    · exact mats_ok ts us _ (mat_ok t u m hm)
    · exact hm
end
mutual
theorem mat_spec : ∀ (t u : Ty) (m : Mat), vok t → m.Ok → ∀ X, ((matT m t u).ok = true ∧ Con ((matT m t u).zip ++ X)) ↔ (m.ok = true ∧ ∃ L, prs t u = some L ∧ Con (m.zip ++ (L ++ X)))
  | .mk k n s nl ks, u, m, hv, hm, X => by
    simp only [vok] at hv
    unfold matT prs
    by_cases hk : k = 1
    · rw [if_pos hk, if_pos hk]
      obtain ⟨h0, _⟩ := hv.1 hk
      obtain ⟨j, rfl⟩ : ∃ j : Nat, n = j := ⟨n.toNat, by omega⟩
      simp only [Int.toNat_natCast, Option.some.injEq, exists_eq_left']
      by_cases hmem : j ∈ m.vs
      · rw [if_pos hmem]
        have hz := zip_get hm hmem
        generalize m.ts.getD (placeN m.vs j 0).toNat noTy = w at *
        show ((m.ok && w.same u) = true ∧ Con (m.zip ++ X)) ↔ _
        rw [Bool.and_eq_true]
        constructor
        · rintro ⟨⟨h1, h2⟩, h3⟩
          refine ⟨h1, h3.like fun p hp => ?_⟩
          simp only [List.mem_append, List.mem_cons, List.not_mem_nil, or_false] at hp
          rcases hp with hp | rfl | hp
          · exact ⟨p, by simp [hp], rfl, same_refl _⟩
          · exact ⟨(↑j, w), by simp [hz], rfl, same_symm _ _ h2⟩
          · exact ⟨p, by simp [hp], rfl, same_refl _⟩
        · rintro ⟨h1, h3⟩
          exact ⟨⟨h1, h3 (↑j, w) (by simp [hz]) (↑j, u) (by simp) rfl⟩, h3.sub fun p hp => by
            simp only [List.mem_append, List.mem_cons] at hp ⊢
            rcases hp with hp | hp <;> simp [hp]⟩
      · rw [if_neg hmem]
        have e : (Mat.mk false (m.vs ++ [j]) (m.ts ++ [u]) m.ok).zip = m.zip ++ [((j : Int), u)] := by
          simp only [Mat.zip, List.map_append, List.map_cons, List.map_nil]
          rw [List.zip_append (by simpa using hm.len)]
          rfl
        rw [e]
        simp
    · rw [if_neg hk, if_neg hk]
      obtain ⟨k', n', s', nl', ks'⟩ := u
      by_cases hu : k' = 2 ∧ s = s' ∧ ks.length = ks'.length
      · have e : unlike (.mk k n s nl ks) (.mk k' n' s' nl' ks') = false := by simp [unlike, hu.1, hu.2.1, hu.2.2]
        rw [e]
        simp only [if_pos hu, kids, Bool.false_eq_true, if_false]
        exact mats_spec ks ks' m hv.2 hm hu.2.2 X
      · have e : unlike (.mk k n s nl ks) (.mk k' n' s' nl' ks') = true := by
          unfold unlike
          simp only [Bool.or_eq_true, bne_iff_ne, ne_eq]
          by_cases h1 : k' = 2
          · by_cases h2 : s = s'
            · exact .inr (.inr fun h3 => hu ⟨h1, h2, h3⟩)
            · exact .inr (.inl h2)
          · exact .inl h1
        rw [e]
        simp [hu]
theorem mats_spec : ∀ (ts us : List Ty) (m : Mat), voks ts → m.Ok → ts.length = us.length → ∀ X, ((matTs m ts us).ok = true ∧ Con ((matTs m ts us).zip ++ X)) ↔ (m.ok = true ∧ ∃ L, prss ts us = some L ∧ Con (m.zip ++ (L ++ X)))
  | [], us, m, _, hm, _, X => by
    unfold matTs prss
    simp
  | _ :: _, [], m, _, hm, hl, X => by simp at hl
  | t :: ts, u :: us, m, hv, hm, hl, X => by
    unfold matTs prss
    by_cases hok : m.ok = true
    · rw [if_pos hok, mats_spec ts us _ hv.2 (mat_ok t u m hm) (by simpa using hl) X]
      constructor
      · rintro ⟨h1, L2, h2, h3⟩
        obtain ⟨h4, L1, h5, h6⟩ := (mat_spec t u m hv.1 hm (L2 ++ X)).1 ⟨h1, h3⟩
        exact ⟨h4, L1 ++ L2, by rw [h5, h2], by rw [List.append_assoc]; exact h6⟩
      · rintro ⟨h1, L, h2, h3⟩
        cases h5 : prs t u with
        | none => rw [h5] at h2; simp at h2
        | some L1 =>
          cases h6 : prss ts us with
          | none => rw [h5, h6] at h2; simp at h2
          | some L2 =>
            rw [h5, h6] at h2
            simp at h2
            subst h2
            rw [List.append_assoc] at h3
            obtain ⟨h7, h8⟩ := (mat_spec t u m hv.1 hm (L2 ++ X)).2 ⟨h1, L1, h5, h3⟩
            exact ⟨h7, L2, rfl, h8⟩
    · rw [if_neg hok]
      simp [hok]
end
theorem zip_con {m : Mat} (hm : m.Ok) : Con m.zip := by
  have key : ∀ (vs : List Int) (ts : List Ty), vs.Nodup → ∀ p ∈ vs.zip ts, ∀ q ∈ vs.zip ts, p.1 = q.1 → p = q := by
    intro vs
    induction vs with
    | nil => intro ts _ p hp; simp at hp
    | cons a vs ih =>
      intro ts hn p hp q hq he
      cases ts with
      | nil => simp at hp
      | cons t ts =>
        rw [List.nodup_cons] at hn
        simp only [List.zip_cons_cons] at hp hq
        rcases List.mem_cons.1 hp with h1 | h1 <;> rcases List.mem_cons.1 hq with h2 | h2
        · rw [h1, h2]
        · have := (List.of_mem_zip (show (q.1, q.2) ∈ vs.zip ts from h2)).1
          rw [← he, h1] at this
          exact absurd this hn.1
        · have := (List.of_mem_zip (show (p.1, p.2) ∈ vs.zip ts from h1)).1
          rw [he, h2] at this
          exact absurd this hn.1
        · exact ih ts hn.2 p h1 q h2 he
  intro p hp q hq he
  have hn : (m.vs.map fun n : Nat => (n : Int)).Nodup := by
    exact List.Pairwise.map _ (fun a b h e => h (by omega)) hm.nd
  rw [key _ _ hn p hp q hq he]
  exact same_refl _
def Fits (t u : Ty) : Prop := ∃ L, prs t u = some L ∧ Con L
theorem mat_fits (t u : Ty) (hv : vok t) : (matT ⟨true, [], [], true⟩ t u).ok = true ↔ Fits t u := by
  have h := mat_spec t u ⟨true, [], [], true⟩ hv ⟨by simp, rfl⟩ []
  have hz := zip_con (mat_ok t u ⟨true, [], [], true⟩ ⟨by simp, rfl⟩)
  simp only [List.append_nil, true_and] at h
  constructor
  · intro h1
    obtain ⟨L, h2, h3⟩ := h.1 ⟨h1, hz⟩
    exact ⟨L, h2, by simpa [Mat.zip] using h3⟩
  · rintro ⟨L, h2, h3⟩
    exact (h.2 ⟨L, h2, by simpa [Mat.zip] using h3⟩).1
/-! ### the program's way -/
def find : List (Int × Ty) → Int → Option Ty
  | [], _ => none
  | (m, w) :: l, n => if n = m then some w else find l n
def put : List (Int × Ty) → Int → Ty → List (Int × Ty)
  | [], n, u => [(n, u)]
  | (m, w) :: l, n, u => if n = m then (n, u) :: l else (m, w) :: put l n u
theorem find_mem : ∀ (h : List (Int × Ty)) (n : Int) (w : Ty), find h n = some w → (n, w) ∈ h
  | [], n, w, e => by simp [find] at e
  | (m, x) :: l, n, w, e => by
    unfold find at e
    split at e
    · rename_i he; subst he; simp at e; subst e; simp
    · exact List.mem_cons_of_mem _ (find_mem l n w e)
theorem put_mem : ∀ (h : List (Int × Ty)) (n : Int) (u : Ty), (n, u) ∈ put h n u ∧ (∀ p ∈ put h n u, p ∈ h ∨ p = (n, u)) ∧ (∀ p ∈ h, p ∈ put h n u ∨ ∃ w, find h n = some w ∧ p = (n, w))
  | [], n, u => by simp [put]
  | (m, x) :: l, n, u => by
    obtain ⟨h1, h2, h3⟩ := put_mem l n u
    unfold put find
    by_cases e : n = m
    · rw [if_pos e]
      subst e
      refine ⟨by simp, fun p hp => ?_, fun p hp => ?_⟩
      · rcases List.mem_cons.1 hp with h | h
        · exact .inr h
        · exact .inl (by simp [h])
      · rcases List.mem_cons.1 hp with h | h
        · exact .inr ⟨x, by simp, h⟩
        · exact .inl (by simp [h])
    · rw [if_neg e, if_neg e]
      refine ⟨by simp [h1], fun p hp => ?_, fun p hp => ?_⟩
      · rcases List.mem_cons.1 hp with h | h
        · exact .inl (by simp [h])
        · rcases h2 p h with h | h
          · exact .inl (by simp [h])
          · exact .inr h
      · rcases List.mem_cons.1 hp with h | h
        · exact .inl (by simp [h])
        · rcases h3 p h with h | h
          · exact .inl (by simp [h])
          · exact .inr h
theorem put_con (h : List (Int × Ty)) (n : Int) (u : Ty) (hw : ∀ w, find h n = some w → w.same u = true) (X : List (Int × Ty)) : Con (put h n u ++ X) ↔ Con (h ++ ((n, u) :: X)) := by
  obtain ⟨h1, h2, h3⟩ := put_mem h n u
  constructor
  · intro hc
    refine hc.like fun p hp => ?_
    simp only [List.mem_append, List.mem_cons] at hp
    rcases hp with hp | rfl | hp
    · rcases h3 p hp with h | ⟨w, h, rfl⟩
      · exact ⟨p, by simp [h], rfl, same_refl _⟩
      · exact ⟨(n, u), by simp [h1], rfl, hw w h⟩
    · exact ⟨(n, u), by simp [h1], rfl, same_refl _⟩
    · exact ⟨p, by simp [hp], rfl, same_refl _⟩
  · intro hc
    refine hc.sub fun p hp => ?_
    simp only [List.mem_append, List.mem_cons] at hp ⊢
    rcases hp with hp | hp
    · rcases h2 p hp with h | h
      · exact .inl h
      · exact .inr (.inl h)
    · exact .inr (.inr hp)
def isVar : Ty → Bool
  | .mk k _ _ _ _ => k == 1
def num : Ty → Int
  | .mk _ n _ _ _ => n
def go : Nat → List (Ty × Ty) → List (Int × Ty) → Bool
  | 0, _, _ => false
  | _ + 1, [], _ => true
  | f + 1, (t, u) :: st, h =>
    if isVar t then (match find h (num t) with
      | some w => if w.same u then go f st (put h (num t) u) else false
      | none => go f st (put h (num t) u))
    else if unlike t u then false
    else go f (((kids t).zip (kids u)).reverse ++ st) h
def P (x : Ty × Ty) : List (Int × Ty) := (prs x.1 x.2).getD []
theorem prss_zip : ∀ (ts us : List Ty), ts.length = us.length → ((prss ts us).isSome ↔ ∀ x ∈ ts.zip us, (prs x.1 x.2).isSome) ∧ ((prss ts us).isSome → ∀ p, p ∈ (prss ts us).getD [] ↔ ∃ x ∈ ts.zip us, p ∈ P x)
  | [], us, _ => by simp [prss]
  | _ :: _, [], h => by simp at h
  | t :: ts, u :: us, h => by
    obtain ⟨h1, h2⟩ := prss_zip ts us (by simpa using h)
    unfold prss
    cases e1 : prs t u with
    | none => simp [e1]
    | some a =>
      cases e2 : prss ts us with
      | none =>
        rw [e2] at h1
        simp [e1]
        simpa using h1
      | some b =>
        rw [e2] at h1 h2
        refine ⟨by simpa [e1] using h1, fun _ p => ?_⟩
        have := h2 rfl p
        simp only [Option.getD_some] at this
        simp [P, e1] at this ⊢
        rw [this]
def big' : List (Ty × Ty) → Nat
  | [] => 0
  | x :: st => nodes x.1 + big' st
theorem big'_append : ∀ a b, big' (a ++ b) = big' a + big' b
  | [], b => by simp [big']
  | x :: a, b => by simp [big', big'_append a b]; omega
theorem big'_rev : ∀ a, big' a.reverse = big' a
  | [] => rfl
  | x :: a => by simp [big'_append, big'_rev a, big']; omega
theorem big'_zip : ∀ ts us : List Ty, ts.length = us.length → big' (ts.zip us) = nodess ts
  | [], us, _ => by simp [big', nodess]
  | _ :: _, [], h => by simp at h
  | t :: ts, u :: us, h => by simp [big', nodess, big'_zip ts us (by simpa using h)]
theorem find_none : ∀ (h : List (Int × Ty)) (n : Int), find h n = none → ∀ p ∈ h, p.1 ≠ n
  | [], n, _, p, hp => by simp at hp
  | (m, w) :: l, n, e, p, hp => by
    unfold find at e
    split at e
    · simp at e
    · rename_i he
      rcases List.mem_cons.1 hp with h | h
      · rw [h]; exact fun h' => he h'.symm
      · exact find_none l n e p h
theorem con_new (h : List (Int × Ty)) (n : Int) (u : Ty) (hc : Con h) (hw : ∀ w, find h n = some w → w.same u = true) : Con (put h n u) := by
  have h1 := put_con h n u hw []
  rw [List.append_nil] at h1
  rw [h1]
  cases hf : find h n with
  | some w =>
    refine hc.like fun p hp => ?_
    simp only [List.mem_append, List.mem_cons, List.not_mem_nil, or_false] at hp
    rcases hp with hp | rfl
    · exact ⟨p, hp, rfl, same_refl _⟩
    · exact ⟨(n, w), find_mem h n w hf, rfl, same_symm _ _ (hw w hf)⟩
  | none =>
    intro p hp q hq he
    simp only [List.mem_append, List.mem_cons, List.not_mem_nil, or_false] at hp hq
    rcases hp with hp | rfl <;> rcases hq with hq | rfl
    · exact hc p hp q hq he
    · exact absurd he (find_none h n hf p hp)
    · exact absurd he.symm (find_none h n hf q hq)
    · exact same_refl _
theorem unlike_iff (k n : Int) (s : List UInt8) (nl : Bool) (ks : List Ty) (u : Ty) (hk : ¬ k = 1) : (unlike (.mk k n s nl ks) u = true → prs (.mk k n s nl ks) u = none) ∧ (unlike (.mk k n s nl ks) u = false → prs (.mk k n s nl ks) u = prss ks (kids u) ∧ ks.length = (kids u).length) := by
  obtain ⟨k', n', s', nl', ks'⟩ := u
  unfold unlike prs
  rw [if_neg hk]
  simp only [kids]
  constructor
  · intro h
    simp only [Bool.or_eq_true, bne_iff_ne, ne_eq] at h
    rw [if_neg]
    rintro ⟨h1, h2, h3⟩
    rcases h with h | h | h
    · exact h h1
    · exact h h2
    · exact h h3
  · intro h
    simp at h
    rw [if_pos ⟨h.1, h.2.1, h.2.2⟩]
    exact ⟨rfl, h.2.2⟩
theorem go_spec : ∀ (f : Nat) (st : List (Ty × Ty)) (h : List (Int × Ty)), big' st < f → Con h → (go f st h = true ↔ (∀ x ∈ st, (prs x.1 x.2).isSome) ∧ Con (h ++ st.flatMap P))
  | 0, st, h, hf, _ => by omega
  | f + 1, [], h, _, hc => by simp [go, hc]
  | f + 1, (t, u) :: st, h, hf, hc => by
    obtain ⟨k, n, s, nl, ks⟩ := t
    simp only [big', nodes] at hf
    unfold go
    by_cases hk : k = 1
    · have e1 : isVar (.mk k n s nl ks) = true := by simp [isVar, hk]
      have e2 : prs (.mk k n s nl ks) u = some [(n, u)] := by unfold prs; rw [if_pos hk]
      simp only [e1, num, if_true]
      have e3 : Con (h ++ (((Ty.mk k n s nl ks, u)) :: st).flatMap P) ↔ Con (h ++ ((n, u) :: st.flatMap P)) := by simp [P, e2]
      rw [e3]
      simp only [List.forall_mem_cons, e2, Option.isSome_some, true_and]
      cases hfd : find h n with
      | none =>
        simp only
        have hw : ∀ w, find h n = some w → w.same u = true := fun w hw => by rw [hfd] at hw; cases hw
        rw [go_spec f st (put h n u) (by omega) (con_new h n u hc hw), put_con h n u hw]
      | some w =>
        simp only
        by_cases hs : w.same u = true
        · rw [if_pos hs]
          have hw : ∀ w, find h n = some w → w.same u = true := fun w' hw => by rw [hfd] at hw; cases hw; exact hs
          rw [go_spec f st (put h n u) (by omega) (con_new h n u hc hw), put_con h n u hw]
        · rw [if_neg hs]
          simp only [Bool.false_eq_true, false_iff, not_and]
          intro _ h2
          exact hs (h2 (n, w) (by simp [find_mem h n w hfd]) (n, u) (by simp) rfl)
    · have e1 : isVar (.mk k n s nl ks) = false := by simpa [isVar] using hk
      obtain ⟨u1, u2⟩ := unlike_iff k n s nl ks u hk
      rw [e1]
      simp only [Bool.false_eq_true, if_false]
      cases hu : unlike (.mk k n s nl ks) u with
      | true =>
        simp [u1 hu]
      | false =>
        obtain ⟨h1, h2⟩ := u2 hu
        obtain ⟨z1, z2⟩ := prss_zip ks (kids u) h2
        have hb : big' ((ks.zip (kids u)).reverse ++ st) = nodess ks + big' st := by rw [big'_append, big'_rev, big'_zip ks _ h2]
        have e0 : kids (.mk k n s nl ks) = ks := rfl
        simp only [Bool.false_eq_true, if_false, e0]
        rw [go_spec f ((ks.zip (kids u)).reverse ++ st) h (by rw [hb]; omega) hc]
        simp only [List.forall_mem_cons, h1]
        constructor
        · rintro ⟨a, b⟩
          have hs : (prss ks (kids u)).isSome := z1.2 fun x hx => a x (by simp [hx])
          refine ⟨⟨hs, fun x hx => a x (by simp [hx])⟩, (Con.congr fun p => ?_).1 b⟩
          have := z2 hs p
          simp only [List.flatMap_append, List.flatMap_cons, List.mem_append, P, h1, this, List.mem_flatMap, List.mem_reverse]
        · rintro ⟨⟨hs, a⟩, b⟩
          refine ⟨fun x hx => ?_, (Con.congr fun p => ?_).1 b⟩
          · rcases List.mem_append.1 hx with hx | hx
            · exact z1.1 hs x (by simpa using hx)
            · exact a x hx
          · have := z2 hs p
            simp only [List.flatMap_append, List.flatMap_cons, List.mem_append, P, h1, this, List.mem_flatMap, List.mem_reverse]
theorem go_fits (t u : Ty) : go (nodes t + 1) [(t, u)] [] = true ↔ Fits t u := by
  rw [go_spec _ _ _ (by simp [big']) (fun p hp => by simp at hp)]
  simp [P, Fits]
  cases prs t u <;> simp
theorem go_mat (t u : Ty) (hv : vok t) : go (nodes t + 1) [(t, u)] [] = (matT ⟨true, [], [], true⟩ t u).ok := by
  rw [Bool.eq_iff_iff, go_fits, mat_fits t u hv]
end Go.Am.Tryd
