/- Layer 13: two names that are one; how many Args a Con has. -/
import Derived.Test.YtdapcelbbejfoaaD6
set_option linter.unusedVariables false
set_option maxRecDepth 100000
set_option linter.unusedSimpArgs false
namespace Go.Am.Try
open Go Go.Am.Ps

theorem lp142 (L : List AV) (nl : Bool) (hL : L.length < big) (s : Str) : ∀ (r : List Str) (i : Nat), Tail L i (encSs r) →
    ∃ e fr', Lp ctx [] [] [0, 1, 7, 8] b142_0 ⟨[(0, .v (encR 1 nl L)), (1, .v (.str s)), (7, .v (.int .i64 L.length)), (8, .v (.int .i64 i))], false⟩ [] e fr' [] ∧ fr'.lk = false ∧
      ((e = .ex 0 ∧ getS fr'.sl 4 = .u ∧ idxB i (r.map (eqS s)) = -1) ∨ (e = .ret ∧ getS fr'.sl 4 = .v (.int .i64 (idxB i (r.map (eqS s))))))
  | [], i, h => by
    have h' := h.nil
    refine ⟨.ex 0, ?_, Lp.exit ⟨0, fun N _ => ?_⟩ (by simp), ?_⟩
    rotate_left
    · simp -implicitDefEqProofs [b142_0, h']
      rfl
    · exact ⟨by simp, .inl ⟨rfl, by simp, rfl⟩⟩
  | a :: r, i, h => by
    have hlen := h.len
    simp only [encSs_cons] at h
    obtain ⟨g1, g2, g3, g4, g5⟩ := h.cons
    simp at hlen
    have hw := wrap_succ (n := i) (by omega)
    have g6 := g5 1 nl
    have he := eqS_iff s a
    cases hs : s == a with
    | true =>
      rw [hs] at he
      refine ⟨.ret, ?_, Lp.exit ⟨0, fun N _ => ?_⟩ (by simp), ?_⟩
      rotate_left
      · rw [g6]
        simp -implicitDefEqProofs [b142_0, g1, g2, g3, hs, -beq_iff_eq]
        rfl
      · exact ⟨by simp, .inr ⟨rfl, by simp [idxB, he]⟩⟩
    | false =>
      rw [hs] at he
      obtain ⟨e, fr', l1, l2, l3⟩ := lp142 L nl hL s r (i + 1) g4
      refine ⟨e, fr', Lp.step ⟨0, fun N hN => ?_⟩ l1, l2, by simpa [idxB, he] using l3⟩
      rw [g6]
      simp -implicitDefEqProofs [b142_0, g1, g2, g3, hs, hw, -beq_iff_eq, -beq_eq_false_iff_ne]

theorem index_ans (l : List Str) (nl : Bool) (hl : l.length < big) (s : Str) : Ans ctx 142 [encR 1 nl (encSs l), .str s] (.int .i64 (idxB 0 (l.map (eqS s)))) := by
  obtain ⟨e, fr', l1, l2, l3⟩ := lp142 (encSs l) nl (by simpa using hl) s l 0 (Tail.all _)
  obtain ⟨k, hk⟩ := l1.den
  refine Ans.of (σ' := []) fn142_ (by simp) (by simp) ⟨k, fun N hN => ?_⟩
  have hk := hk N hN
  simp only [encSs_length] at hk
  rcases l3 with ⟨rfl, l4, l5⟩ | ⟨rfl, l4⟩
  · rw [l5]
    simp -implicitDefEqProofs [i142, c142, hk, l2, l4]
  · simp -implicitDefEqProofs [i142, c142, hk, l2, l4]

/-- slices.Contains of texts -/
theorem contains_ans (l : List Str) (nl : Bool) (hl : l.length < big) (s : Str) : Ans ctx 136 [encR 1 nl (encSs l), .str s] (.bool (l.any (eqS s))) := by
  obtain ⟨k, hk⟩ := index_ans l nl hl s
  refine Ans.of (σ' := []) fn136_ (by simp) (by simp) ⟨k, fun N hN => ?_⟩
  have hk := hk N hN
  have := idxB_ge 0 (l.map (eqS s))
  simp -implicitDefEqProofs [i136, c136, hk]
  simpa using this

/-- is one of the rest among those ahead of it? -/
def dupF : List Str → List Str → Bool
  | _, [] => false
  | pre, s :: l => pre.any (eqS s) || dupF (pre ++ [s]) l

theorem dupF_eq : ∀ (l pre : List Str), dupF pre l = (l.any (fun s => pre.any (eqS s)) || dupS l)
  | [], pre => by simp [dupF, dupS]
  | s :: l, pre => by
    have hsym : ∀ a b : Str, eqS a b = eqS b a := fun a b => by
      rw [eqS_iff, eqS_iff]; exact Bool.eq_iff_iff.2 ⟨fun h => by simpa using (eq_of_beq h).symm, fun h => by simpa using (eq_of_beq h).symm⟩
    have e : ∀ l : List Str, (l.any fun x => (pre ++ [s]).any (eqS x)) = (l.any (fun x => pre.any (eqS x)) || l.any (eqS s)) := by
      intro l
      induction l with
      | nil => rfl
      | cons y l ih =>
        rw [List.any_cons, List.any_cons, List.any_cons, ih, List.any_append, List.any_cons, List.any_nil, Bool.or_false, hsym y s]
        cases pre.any (eqS y) <;> cases eqS s y <;> simp
    simp only [dupF, dupF_eq l (pre ++ [s]), e, List.any_cons, dupS]
    cases pre.any (eqS s) <;> cases (l.any fun x => pre.any (eqS x)) <;> simp

theorem lp119 (l : List Str) (nl : Bool) (hL : l.length < big) : ∀ (r pre : List Str), l = pre ++ r →
    ∃ e fr', Lp ctx [] [] [0, 5, 6, 7] b119_0 ⟨[(0, .v (encR 1 nl (encSs l))), (5, .v (encR 1 nl (encSs l))), (6, .v (.int .i64 l.length)), (7, .v (.int .i64 pre.length))], false⟩ [] e fr' [] ∧ fr'.lk = false ∧
      (match dupF pre r with
       | true => e = .ret ∧ getS fr'.sl 2 = .v (.bool true)
       | false => e = .ex 0 ∧ getS fr'.sl 2 = .u)
  | [], pre, h => by
    simp only [List.append_nil] at h
    subst h
    refine ⟨.ex 0, ?_, Lp.exit ⟨0, fun N _ => ?_⟩ (by simp), ?_⟩
    rotate_left
    · simp -implicitDefEqProofs [b119_0]
      rfl
    · exact ⟨by simp, rfl, by simp⟩
  | a :: r, pre, h => by
    have ht : Tail (encSs l) pre.length (encSs (a :: r)) := ⟨encSs pre, by simp, by rw [h]; simp [encSs]⟩
    simp only [encSs_cons] at ht
    obtain ⟨g1, g2, g3, g4, g5⟩ := ht.cons
    have hl : l.length = pre.length + (r.length + 1) := by rw [h]; simp
    simp only [encSs_length] at g2 g3
    have hw := wrap_succ (n := pre.length) (by omega)
    have g6 := g5 1 nl
    have hb : bounds none (some (pre.length : Int)) l.length = some (0, pre.length) := by
      unfold bounds
      simp only [Option.getD_none, Option.getD_some]
      rw [if_pos (by omega)]
      simp
    have htk : ((encSs l).take pre.length).drop 0 = encSs pre := by
      rw [h]; simp [encSs]
    obtain ⟨k, hk⟩ := contains_ans pre false (by omega) a
    rw [encR_false] at hk
    unfold dupF
    rw [g6]
    cases hc : pre.any (eqS a) with
    | true =>
      rw [hc] at hk
      refine ⟨.ret, ?_, Lp.exit ⟨k, fun N hN => ?_⟩ (by simp), ?_⟩
      rotate_left
      · have hk := hk N hN
        simp only [List.drop_zero] at htk
        simp -implicitDefEqProofs [b119_0, g1, g2, g3, hb, htk, hk]
        rfl
      · exact ⟨by simp, rfl, by simp⟩
    | false =>
      rw [hc] at hk
      obtain ⟨e, fr', l1, l2, l3⟩ := lp119 l nl hL r (pre ++ [a]) (by rw [h]; simp)
      rw [g6] at l1
      simp only [List.length_append, List.length_singleton] at l1
      refine ⟨e, fr', Lp.step ⟨k, fun N hN => ?_⟩ l1, l2, by simpa using l3⟩
      have hk := hk N hN
      simp only [List.drop_zero] at htk
      simp -implicitDefEqProofs [b119_0, g1, g2, g3, hb, htk, hk, hw]

/-- scope.twice -/
theorem stwice_ans (l : List Str) (nl : Bool) (hl : l.length < big) : Ans ctx 119 [encR 1 nl (encSs l)] (.bool (dupS l)) := by
  obtain ⟨e, fr', l1, l2, l3⟩ := lp119 l nl hl l [] rfl
  obtain ⟨k, hk⟩ := l1.den
  have hd : dupF [] l = dupS l := by rw [dupF_eq]; simp
  rw [hd] at l3
  refine Ans.of (σ' := []) fn119_ (by simp) (by simp) ⟨k, fun N hN => ?_⟩
  have hk := hk N hN
  simp only [List.length_nil, Int.cast_ofNat_Int] at hk
  cases hs : dupS l with
  | true =>
    rw [hs] at l3
    obtain ⟨rfl, l4⟩ := l3
    simp -implicitDefEqProofs [i119, c119, hk, l2, l4]
  | false =>
    rw [hs] at l3
    obtain ⟨rfl, l4⟩ := l3
    simp -implicitDefEqProofs [i119, c119, hk, l2, l4]

end Go.Am.Try
