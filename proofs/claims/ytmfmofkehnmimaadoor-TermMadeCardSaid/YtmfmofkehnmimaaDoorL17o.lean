/- Layer 17: TermMade, of the machine. -/
import Derived.Test.YtmfmofkehnmimaaDoorL17g
import Derived.Test.YtmfmofkehnmimaaDoorL17i
import Derived.Test.YtmfmofkehnmimaaDoorL17l
import Derived.Test.YtmfmofkehnmimaaDoorL17n
set_option maxRecDepth 100000
set_option linter.unusedSimpArgs false
namespace Go.Am.Tryd
open Go

namespace MT

def deep : MT → Nat
  | v _ => 1
  | i => 1
  | b => 1
  | ar x y => max x.deep y.deep + 1
  | tu x y => max x.deep y.deep + 1
  | li x => x.deep + 1

theorem names_ty : ∀ x : MT, namesA x.ty
  | v n => by simp [ty, varT, namesA, namesAs]
  | i => by simp only [ty, conT, namesA, namesAs, and_true]; exact fun _ => .inr (.inr con_Int)
  | b => by simp only [ty, conT, namesA, namesAs, and_true]; exact fun _ => .inr (.inr con_Bool)
  | ar x y => by simp only [ty, conT, namesA, namesAs, and_true]; exact ⟨fun _ => .inl rfl, names_ty x, names_ty y⟩
  | tu x y => by simp only [ty, conT, namesA, namesAs, and_true]; exact ⟨fun _ => .inr (.inl rfl), names_ty x, names_ty y⟩
  | li x => by simp only [ty, conT, namesA, namesAs, and_true]; exact ⟨fun _ => .inr (.inr con_List), names_ty x⟩

theorem vok_ty : ∀ x : MT, vok x.ty
  | v n => by simp [ty, varT, vok, voks]
  | i => by simp [ty, conT, vok, voks]
  | b => by simp [ty, conT, vok, voks]
  | ar x y => by simp [ty, conT, vok, voks, vok_ty x, vok_ty y]
  | tu x y => by simp [ty, conT, vok, voks, vok_ty x, vok_ty y]
  | li x => by simp [ty, conT, vok, voks, vok_ty x]

theorem shp_ty {k : Nat} (hk : k ≤ 52) : ∀ x : MT, x.small k → shp x.ty
  | v n, h => by
    simp only [small] at h
    simp only [ty, varT, shp, shps, and_true]
    exact ⟨fun _ => ⟨by omega, by omega⟩, fun h => absurd rfl h⟩
  | i, _ => by simp [ty, conT, shp, shps, sInt, sArrow]
  | b, _ => by simp [ty, conT, shp, shps, sBool, sArrow]
  | ar x y, h => by simp [ty, conT, shp, shps, shp_ty hk x h.1, shp_ty hk y h.2]
  | tu x y, h => by simp [ty, conT, shp, shps, sComma, sArrow, shp_ty hk x h.1, shp_ty hk y h.2]
  | li x, h => by simp [ty, conT, shp, shps, sList, sArrow, shp_ty hk x h]

theorem nds_ty : ∀ x : MT, nds x.ty = x.size ∧ nodes x.ty = x.size
  | v n => by simp [ty, varT, nds, ndss, nodes, nodess, size]
  | i => by simp [ty, conT, nds, ndss, nodes, nodess, size]
  | b => by simp [ty, conT, nds, ndss, nodes, nodess, size]
  | ar x y => by simp [ty, conT, nds, ndss, nodes, nodess, size, nds_ty x, nds_ty y]
  | tu x y => by simp [ty, conT, nds, ndss, nodes, nodess, size, nds_ty x, nds_ty y]
  | li x => by simp [ty, conT, nds, ndss, nodes, nodess, size, nds_ty x]

theorem may_ty {k : Nat} (hk : k ≤ 1000) : ∀ (x : MT) (d : Nat), x.small k → x.deep ≤ d → mayT d x.ty = true
  | v n, d, h, hd => varT_may' n d (by simp only [small] at h; omega) hd
  | i, d, _, hd => by
    have : namedB sInt 0 = true := by decide
    simp only [deep] at hd
    simp [ty, conT, mayT, mayTs, this, hd]
  | b, d, _, hd => by
    have : namedB sBool 0 = true := by decide
    simp only [deep] at hd
    simp [ty, conT, mayT, mayTs, this, hd]
  | ar x y, d, h, hd => by
    have : namedB sArrow 2 = true := by decide
    simp only [deep] at hd
    have h1 := may_ty hk x (d - 1) h.1 (by omega)
    have h2 := may_ty hk y (d - 1) h.2 (by omega)
    have h3 : 1 ≤ d := by omega
    simp [ty, conT, mayT, mayTs, this, h1, h2, h3]
  | tu x y, d, h, hd => by
    have : namedB sComma 2 = true := by decide
    simp only [deep] at hd
    have h1 := may_ty hk x (d - 1) h.1 (by omega)
    have h2 := may_ty hk y (d - 1) h.2 (by omega)
    have h3 : 1 ≤ d := by omega
    simp [ty, conT, mayT, mayTs, this, h1, h2, h3]
  | li x, d, h, hd => by
    have : namedB sList 1 = true := by decide
    simp only [deep] at hd
    have h1 := may_ty hk x (d - 1) h (by omega)
    have h3 : 1 ≤ d := by omega
    simp [ty, conT, mayT, mayTs, this, h1, h3]
where
  varT_may' (i d : Nat) (hi : i < 1000) (hd : 1 ≤ d) : mayT d (varT i) = true := by
    have : (i : Int) ≤ 2147483647 := by omega
    simp [varT, mayT, hd, this]

theorem mk_deep (k : Nat) : ∀ (n : Nat) (l : List UInt8), l.length ≤ n → (mk k l).deep ≤ n + 1
  | _, [], _ => by rw [mk]; simp [deep]
  | n + 1, c :: l, h => by
    simp at h
    have h1 := mk_deep k n l h
    have h2 := mk_deep k n (l.drop (l.length / 2)) (by simp; omega)
    rw [mk]
    split
    · simp [deep]
    · split
      · split <;> simp [deep]
      all_goals simp only [deep]; omega

theorem mk_size (k : Nat) : ∀ (n : Nat) (l : List UInt8), l.length ≤ n → (mk k l).size ≤ 3 ^ n
  | n, [], _ => by
    rw [mk]
    exact Nat.one_le_pow _ _ (by omega)
  | n + 1, c :: l, h => by
    simp at h
    have h1 := mk_size k n l h
    have h2 := mk_size k n (l.drop (l.length / 2)) (by simp; omega)
    have h3 : 1 ≤ 3 ^ n := Nat.one_le_pow _ _ (by omega)
    rw [mk, Nat.pow_succ]
    split
    · simp only [size]; omega
    · split
      · split <;> simp only [size] <;> omega
      all_goals simp only [size]; omega

end MT

set_option maxHeartbeats 16000000 in
/-- TermMade, of the machine -/
theorem f5_ans (ns : List UInt8) (n : UInt8) (xs ys : List UInt8) (n1 n2 n3 : Bool) : Ans ctx 5 [encR 1 n1 (ofBytes ns), .int .u8 n.toNat, encR 1 n2 (ofBytes xs), encR 1 n3 (ofBytes ys)] (.bool true) := by
  obtain ⟨kw, hw⟩ := awake_ans
  by_cases g1 : 24 < ns.length
  · have p1 : (24 : Int) < ns.length := by omega
    have q1 : ¬ (ns.length : Int) ≤ 24 := by omega
    refine Ans.of (σ' := []) fn5_ (by simp) (by simp) ⟨kw, fun N hN => ?_⟩
    simp [i5, c5, p1, q1, hw N hN]
  have p1 : ¬ (24 : Int) < ns.length := by omega
  have q1 : (ns.length : Int) ≤ 24 := by omega
  by_cases g2 : 12 < xs.length
  · have p2 : (12 : Int) < xs.length := by omega
    have q2 : ¬ (xs.length : Int) ≤ 12 := by omega
    refine Ans.of (σ' := []) fn5_ (by simp) (by simp) ⟨kw, fun N hN => ?_⟩
    simp [i5, c5, p1, q1, p2, q2, hw N hN]
  have p2 : ¬ (12 : Int) < xs.length := by omega
  have q2 : (xs.length : Int) ≤ 12 := by omega
  by_cases g3 : 12 < ys.length
  · have p3 : (12 : Int) < ys.length := by omega
    have q3 : ¬ (ys.length : Int) ≤ 12 := by omega
    refine Ans.of (σ' := []) fn5_ (by simp) (by simp) ⟨kw, fun N hN => ?_⟩
    simp [i5, c5, p1, q1, p2, q2, p3, q3, hw N hN]
  have p3 : ¬ (12 : Int) < ys.length := by omega
  have q3 : (ys.length : Int) ≤ 12 := by omega
  have hn : n.toNat < 256 := n.toNat_lt
  obtain ⟨k, hk⟩ : ∃ k, k = 1 + n.toNat % 40 := ⟨_, rfl⟩
  have hk40 : n.toNat % 40 < 40 := Nat.mod_lt _ (by omega)
  have m1 := make_ans k (by omega) (by omega) ns.length ns (Nat.le_refl _) (by omega) n1
  have m2 := make_ans 3 (by omega) (by omega) xs.length xs (Nat.le_refl _) (by omega) n2
  have m3 := make_ans 5 (by omega) (by omega) ys.length ys (Nat.le_refl _) (by omega) n3
  obtain ⟨f1, -, -⟩ := mkT_facts k (by omega) ns.length ns (Nat.le_refl _)
  obtain ⟨f2, -, -⟩ := mkT_facts 3 (by omega) xs.length xs (Nat.le_refl _)
  obtain ⟨f3, -, -⟩ := mkT_facts 5 (by omega) ys.length ys (Nat.le_refl _)
  have s1 := MT.mk_small k (by omega) ns.length ns (Nat.le_refl _)
  have l1 : (MT.mk k ns).text.length < lim := by
    have h1 := MT.mk_len k 24 ns (by omega)
    have : (22 * 3 ^ 24 : Nat) < lim := by decide
    omega
  have z1 : (MT.mk k ns).size ≤ 3 ^ 24 := MT.mk_size k 24 ns (by omega)
  have d1 := MT.mk_deep k 24 ns (by omega)
  rw [MT.mk_ty k _ ns (Nat.le_refl _)] at m1 f1
  have t1 := text_ans _ (MT.good_ty (by omega) _ s1) f1 (by rw [MT.text_ty]; exact l1)
  have ho := cl_ok _ f1
  have t2 := text15_ans _ (MT.shp_ty (by omega) _ s1) ho (by rw [MT.text_ty]; exact l1)
  have hnd := (MT.nds_ty (MT.mk k ns)).1
  have hnn := (MT.nds_ty (MT.mk k ns)).2
  have e15 := may_ans _ ho (MT.names_ty (MT.mk k ns))
  rw [MT.may_ty (k := k) (by omega) _ 100 s1 (by omega)] at e15
  have hz : (3 ^ 24 : Nat) < 2 ^ 39 := by decide
  have e16 := size_ans _ ho (by rw [hnn]; unfold lim; omega)
  have e17 := size15_ans _ ho
  have e19 := vars_ans _ ho (MT.vok_ty (MT.mk k ns)) (by rw [hnd]; omega)
  have e20 := Vars15_ans _ ho (MT.vok_ty (MT.mk k ns)) (by rw [hnd]; omega)
  have e18 := ints_ans (varsT [] (MT.mk k ns).ty) true true (by
    have := (varsT_len (MT.mk k ns).ty []).2
    rw [hnd] at this
    simp at this
    unfold big; omega)
  have e22 := canon_ans _ f1 (MT.vok_ty (MT.mk k ns)) (by rw [hnd]; omega)
  have e23 := canon15_ans _ f1 (MT.vok_ty (MT.mk k ns)) (by rw [hnd]; omega)
  have e12 := subst2_ans _ _ _ f1 f2 f3
  have e21 : Ans ctx 21 [encT (MT.mk k ns).ty, .sl 4 [encT (mkT 3 xs), encT (mkT 5 ys)]] (encT (turnedT (subD [mkT 3 xs, mkT 5 ys]) (MT.mk k ns).ty)) := by
    have := subst15_ans [mkT 3 xs, mkT 5 ys] true _ f1
    simpa using this
  have hr1 : cl (turnedT (subD [mkT 3 xs, mkT 5 ys]) (MT.mk k ns).ty) := cl_turned _ (cl_subD [mkT 3 xs, mkT 5 ys] ⟨f2, f3, trivial⟩) _ f1
  have c1 : Ans ctx 11 [encT (turnedT (subD [mkT 3 xs, mkT 5 ys]) (MT.mk k ns).ty), encT (turnedT (subD [mkT 3 xs, mkT 5 ys]) (MT.mk k ns).ty)] (.bool true) := by
    have := same_ans (turnedT (subD [mkT 3 xs, mkT 5 ys]) (MT.mk k ns).ty) (turnedT (subD [mkT 3 xs, mkT 5 ys]) (MT.mk k ns).ty) (cl_ok _ hr1)
    rwa [same_refl] at this
  have hr2 : cl (renT (varsT [] (MT.mk k ns).ty) (MT.mk k ns).ty) := by
    rw [← canon_ren _ _ f1]
    exact cl_turned _ (fun n u h => by cases h; simp [varT, cl, cls]) _ f1
  have c2 : Ans ctx 11 [encT (renT (varsT [] (MT.mk k ns).ty) (MT.mk k ns).ty), encT (renT (varsT [] (MT.mk k ns).ty) (MT.mk k ns).ty)] (.bool true) := by
    have := same_ans (renT (varsT [] (MT.mk k ns).ty) (MT.mk k ns).ty) (renT (varsT [] (MT.mk k ns).ty) (MT.mk k ns).ty) (cl_ok _ hr2)
    rwa [same_refl] at this
  have m2 : Ans ctx 9 [encR 1 n2 (ofBytes xs), .int .i64 3] (encT (mkT 3 xs)) := m2
  have m3 : Ans ctx 9 [encR 1 n3 (ofBytes ys), .int .i64 5] (encT (mkT 5 ys)) := m3
  generalize encR 1 true (encI (varsT [] (MT.mk k ns).ty)) = V at *
  generalize encT (renT (varsT [] (MT.mk k ns).ty) (MT.mk k ns).ty) = C at *
  generalize encT (turnedT (subD [mkT 3 xs, mkT 5 ys]) (MT.mk k ns).ty) = R at *
  generalize ((min (nodes (MT.mk k ns).ty) 401 : Nat) : Int) = Z at *
  generalize textT (MT.mk k ns).ty = S at *
  generalize (MT.mk k ns).ty = T at *
  generalize mkT 3 xs = A at *
  generalize mkT 5 ys = B at *
  obtain ⟨k1, m1⟩ := m1
  obtain ⟨k2, m2⟩ := m2
  obtain ⟨k3, m3⟩ := m3
  obtain ⟨k4, t1⟩ := t1
  obtain ⟨k5, t2⟩ := t2
  obtain ⟨k6, e15⟩ := e15
  obtain ⟨k7, e16⟩ := e16
  obtain ⟨k8, e17⟩ := e17
  obtain ⟨k9, e19⟩ := e19
  obtain ⟨k10, e20⟩ := e20
  obtain ⟨k11, e18⟩ := e18
  obtain ⟨k12, e22⟩ := e22
  obtain ⟨k13, e23⟩ := e23
  obtain ⟨k14, e12⟩ := e12
  obtain ⟨k15, e21⟩ := e21
  obtain ⟨k16, c1⟩ := c1
  obtain ⟨k17, c2⟩ := c2
  have w0 : IntKind.i64.wrap (n.toNat : Int) = n.toNat := wrap_i64 (by omega)
  have w1 : (n.toNat : Int).tmod 40 = ((n.toNat % 40 : Nat) : Int) := tmod_lit _ 40
  have w2 : IntKind.i64.wrap (1 + ((n.toNat % 40 : Nat) : Int)) = (k : Int) := by rw [wrap_i64 (by omega)]; omega
  generalize n.toNat % 40 = z at *
  refine Ans.of (σ' := []) fn5_ (by simp) (by simp) ⟨kw + k1 + k2 + k3 + k4 + k5 + k6 + k7 + k8 + k9 + k10 + k11 + k12 + k13 + k14 + k15 + k16 + k17, fun N hN => ?_⟩
  have hw := hw N (by omega)
  have m1 := m1 N (by omega)
  have m2 := m2 N (by omega)
  have m3 := m3 N (by omega)
  have t1 := t1 N (by omega)
  have t2 := t2 N (by omega)
  have e15 := e15 N (by omega)
  have e16 := e16 N (by omega)
  have e17 := e17 N (by omega)
  have e19 := e19 N (by omega)
  have e20 := e20 N (by omega)
  have e18 := e18 N (by omega)
  have e22 := e22 N (by omega)
  have e23 := e23 N (by omega)
  have e12 := e12 N (by omega)
  have e21 := e21 N (by omega)
  have c1 := c1 N (by omega)
  have c2 := c2 N (by omega)
  simp [i5, c5, p1, q1, p2, q2, p3, q3, w0, w1, w2, hw, m1, m2, m3, t1, t2, e15, e16, e17, e18, e19, e20, e22, e23, e12, e21, c1, c2]

end Go.Am.Tryd
