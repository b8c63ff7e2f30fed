/- Layer 17: TermSubst: by nothing, by one and then another. -/
import Derived.Test.YtmfmofkehnmimaaDoorL17c
import Derived.Test.YtmfmofkehnmimaaDoorL17d
set_option maxRecDepth 100000
set_option linter.unusedSimpArgs false
namespace Go.Am.Tryd
open Go

mutual
theorem same_refl : ∀ t : Ty, t.same t = true
  | .mk k n s nl ks => by simp [Ty.same, sames_refl ks]
theorem sames_refl : ∀ l : List Ty, Ty.sames l l = true
  | [] => rfl
  | t :: l => by simp [Ty.sames, same_refl t, sames_refl l]
end

mutual
/-- all variables' numbers are below m -/
def below (m : Int) : Ty → Prop
  | .mk k n _ _ ks => (k = 1 → 0 ≤ n ∧ n < m) ∧ (k ≠ 1 → belows m ks)
def belows (m : Int) : List Ty → Prop
  | [] => True
  | t :: l => below m t ∧ belows m l
end

mutual
theorem turnedT_congr (d e : Int → Option Ty) (m : Int) (h : ∀ n, 0 ≤ n → n < m → d n = e n) : ∀ t, below m t → turnedT d t = turnedT e t
  | .mk k n s nl ks, hb => by
    simp only [below] at hb
    simp only [turnedT]
    by_cases hk : k = 1
    · rw [if_pos hk, if_pos hk, h n (hb.1 hk).1 (hb.1 hk).2]
    · rw [if_neg hk, if_neg hk, turnedTs_congr d e m h ks (hb.2 hk)]
theorem turnedTs_congr (d e : Int → Option Ty) (m : Int) (h : ∀ n, 0 ≤ n → n < m → d n = e n) : ∀ l, belows m l → turnedTs d l = turnedTs e l
  | [], _ => rfl
  | t :: l, hb => by
    simp only [turnedTs]
    rw [turnedT_congr d e m h t hb.1, turnedTs_congr d e m h l hb.2]
end

mutual
theorem turnedT_comp (d e : Int → Option Ty) : ∀ t, turnedT e (turnedT d t) = turnedT (fun n => match d n with | some u => some (turnedT e u) | none => e n) t
  | .mk k n s nl ks => by
    simp only [turnedT]
    by_cases hk : k = 1
    · rw [if_pos hk, if_pos hk]
      cases hd : d n with
      | none => simp [turnedT, hk]
      | some u => simp
    · rw [if_neg hk, if_neg hk]
      simp only [turnedT, if_neg hk, turnedTs_comp d e ks]
theorem turnedTs_comp (d e : Int → Option Ty) : ∀ l, turnedTs e (turnedTs d l) = turnedTs (fun n => match d n with | some u => some (turnedT e u) | none => e n) l
  | [] => rfl
  | t :: l => by simp only [turnedTs, turnedT_comp d e t, turnedTs_comp d e l]
end

mutual
/-- variables have no name and no kids -/
def varsOk : Ty → Prop
  | .mk k _ s nl ks => (k = 1 → s = [] ∧ nl = true ∧ ks = []) ∧ (k ≠ 1 → varsOks ks)
def varsOks : List Ty → Prop
  | [] => True
  | t :: l => varsOk t ∧ varsOks l
end

mutual
theorem turnedT_var (m : Int) (d : Int → Option Ty) (h : ∀ n, 0 ≤ n → n < m → d n = some (varT n.toNat)) : ∀ t, below m t → varsOk t → turnedT d t = t
  | .mk k n s nl ks, hb, hv => by
    simp only [below] at hb
    simp only [varsOk] at hv
    simp only [turnedT]
    by_cases hk : k = 1
    · rw [if_pos hk, h n (hb.1 hk).1 (hb.1 hk).2]
      obtain ⟨rfl, rfl, rfl⟩ := hv.1 hk
      have := (hb.1 hk).1
      simp [varT, hk, Int.toNat_of_nonneg this]
    · rw [if_neg hk, turnedTs_var m d h ks (hb.2 hk) (hv.2 hk)]
theorem turnedTs_var (m : Int) (d : Int → Option Ty) (h : ∀ n, 0 ≤ n → n < m → d n = some (varT n.toNat)) : ∀ l, belows m l → varsOks l → turnedTs d l = l
  | [], _, _ => rfl
  | t :: l, hb, hv => by
    simp only [turnedTs]
    rw [turnedT_var m d h t hb.1 hv.1, turnedTs_var m d h l hb.2 hv.2]
end

/-- what holds of every type by numbers -/
theorem mkT_facts (v : Nat) (hv : 0 < v) : ∀ (n : Nat) (l : List UInt8), l.length ≤ n → cl (mkT v l) ∧ below v (mkT v l) ∧ varsOk (mkT v l)
  | _, [], _ => by rw [mkT]; simp [conT, sInt, sBool, sArrow, sComma, sList, cl, cls, below, belows, varsOk, varsOks]
  | n + 1, b :: l, hn => by
    simp at hn
    obtain ⟨a1, a2, a3⟩ := mkT_facts v hv n l hn
    obtain ⟨b1, b2, b3⟩ := mkT_facts v hv n (l.drop (l.length / 2)) (by simp; omega)
    rw [mkT]
    split
    · have : b.toNat / 3 % v < v := Nat.mod_lt _ hv
      refine ⟨by simp [varT, cl, cls], ?_, by simp [varT, varsOk]⟩
      simp only [varT, below]
      exact ⟨fun _ => ⟨by omega, by exact_mod_cast this⟩, fun h => absurd rfl h⟩
    · split
      · simp [conT, sInt, sBool, sArrow, sComma, sList, cl, cls, below, belows, varsOk, varsOks]
        split <;> simp
      · simp [conT, sInt, sBool, sArrow, sComma, sList, cl, cls, below, belows, varsOk, varsOks, a1, a2, a3, b1, b2, b3]
      · simp [conT, sInt, sBool, sArrow, sComma, sList, cl, cls, below, belows, varsOk, varsOks, a1, a2, a3, b1, b2, b3]
      · simp [conT, sInt, sBool, sArrow, sComma, sList, cl, cls, below, belows, varsOk, varsOks, a1, a2, a3, b1, b2, b3]
      · simp [conT, sInt, sBool, sArrow, sComma, sList, cl, cls, below, belows, varsOk, varsOks, a1, a2, a3]

mutual
theorem cl_ok : ∀ t, cl t → t.ok
  | .mk k n s nl ks, h => by
    simp only [cl] at h
    simp only [Ty.ok, big]
    exact ⟨by omega, by omega, cls_oks ks h.2.2.2⟩
theorem cls_oks : ∀ l, cls l → Ty.oks l
  | [], _ => trivial
  | t :: l, h => ⟨cl_ok t h.1, cls_oks l h.2⟩
end

mutual
theorem cl_turned (d : Int → Option Ty) (h : ∀ n u, d n = some u → cl u) : ∀ t, cl t → cl (turnedT d t)
  | .mk k n s nl ks, hc => by
    simp only [turnedT]
    split
    · cases hd : d n with
      | none => simpa using hc
      | some u => simpa using h n u hd
    · simp only [cl] at hc ⊢
      exact ⟨hc.1, hc.2.1, by rw [turnedTs_length]; exact hc.2.2.1, cls_turned d h ks hc.2.2.2⟩
theorem cls_turned (d : Int → Option Ty) (h : ∀ n u, d n = some u → cl u) : ∀ l, cls l → cls (turnedTs d l)
  | [], _ => trivial
  | t :: l, hc => ⟨cl_turned d h t hc.1, cls_turned d h l hc.2⟩
end

theorem cl_subD (l : List Ty) (hl : cls l) : ∀ n u, subD l n = some u → cl u := by
  intro n u h
  unfold subD at h
  split at h
  · exact cls_get l _ u hl h
  · cases h

/-- Same of two that are one -/
theorem same13_true (a b : Ty) (ha : cl a) (h : a = b) : Ans ctx 13 [encT a, encT b] (.bool true) := by
  have := same13_ans a b (cl_ok a ha)
  rw [← h, same_refl] at this
  rw [← h]; exact this

theorem subst2_ans (t a b : Ty) (ht : cl t) (ha : cl a) (hb : cl b) : Ans ctx 12 [encT t, .sl 4 [encT a, encT b]] (encT (turnedT (subD [a, b]) t)) := by
  have := subst_ans t [a, b] true ht ⟨ha, hb, trivial⟩
  simpa using this

theorem subD2 (a b : Ty) : ∀ n, 0 ≤ n → n < 2 → subD [a, b] n = some (if n = 0 then a else b) := by
  intro n h0 h1
  have : n = 0 ∨ n = 1 := by omega
  rcases this with rfl | rfl <;> simp [subD]

set_option maxHeartbeats 4000000 in
/-- TermSubst, of the machine -/
theorem f4_ans (ns xs bs cs : List UInt8) (n1 n2 n3 n4 : Bool) : Ans ctx 4 [encR 1 n1 (ofBytes ns), encR 1 n2 (ofBytes xs), encR 1 n3 (ofBytes bs), encR 1 n4 (ofBytes cs)] (.bool true) := by
  obtain ⟨kw, hw⟩ := awake_ans
  by_cases g1 : 16 < ns.length
  · have p1 : (16 : Int) < ns.length := by omega
    have q1 : ¬ (ns.length : Int) ≤ 16 := by omega
    refine Ans.of (σ' := []) fn4_ (by simp) (by simp) ⟨kw, fun N hN => ?_⟩
    simp [i4, c4, p1, q1, hw N hN]
  have p1 : ¬ (16 : Int) < ns.length := by omega
  have q1 : (ns.length : Int) ≤ 16 := by omega
  by_cases g2 : 8 < xs.length
  · have p2 : (8 : Int) < xs.length := by omega
    have q2 : ¬ (xs.length : Int) ≤ 8 := by omega
    refine Ans.of (σ' := []) fn4_ (by simp) (by simp) ⟨kw, fun N hN => ?_⟩
    simp [i4, c4, p1, q1, p2, q2, hw N hN]
  have p2 : ¬ (8 : Int) < xs.length := by omega
  have q2 : (xs.length : Int) ≤ 8 := by omega
  by_cases g3 : 8 < bs.length
  · have p3 : (8 : Int) < bs.length := by omega
    have q3 : ¬ (bs.length : Int) ≤ 8 := by omega
    refine Ans.of (σ' := []) fn4_ (by simp) (by simp) ⟨kw, fun N hN => ?_⟩
    simp [i4, c4, p1, q1, p2, q2, p3, q3, hw N hN]
  have p3 : ¬ (8 : Int) < bs.length := by omega
  have q3 : (bs.length : Int) ≤ 8 := by omega
  by_cases g4 : 8 < cs.length
  · have p4 : (8 : Int) < cs.length := by omega
    have q4 : ¬ (cs.length : Int) ≤ 8 := by omega
    refine Ans.of (σ' := []) fn4_ (by simp) (by simp) ⟨kw, fun N hN => ?_⟩
    simp [i4, c4, p1, q1, p2, q2, p3, q3, p4, q4, hw N hN]
  have p4 : ¬ (8 : Int) < cs.length := by omega
  have q4 : (cs.length : Int) ≤ 8 := by omega
  have m1 := make_ans 2 (by omega) (by omega) ns.length ns (Nat.le_refl _) (by omega) n1
  have m2 := make_ans 2 (by omega) (by omega) xs.length xs (Nat.le_refl _) (by omega) n2
  have m3 := make_ans 2 (by omega) (by omega) bs.length bs (Nat.le_refl _) (by omega) n3
  have m4 := make_ans 2 (by omega) (by omega) cs.length cs (Nat.le_refl _) (by omega) n4
  obtain ⟨f1, f2, f3⟩ := mkT_facts 2 (by omega) ns.length ns (Nat.le_refl _)
  obtain ⟨f4, f5, f6⟩ := mkT_facts 2 (by omega) xs.length xs (Nat.le_refl _)
  obtain ⟨f7, f8, f9⟩ := mkT_facts 2 (by omega) bs.length bs (Nat.le_refl _)
  obtain ⟨f10, f11, f12⟩ := mkT_facts 2 (by omega) cs.length cs (Nat.le_refl _)
  generalize mkT 2 ns = T at *
  generalize mkT 2 xs = A at *
  generalize mkT 2 bs = B at *
  generalize mkT 2 cs = D at *
  have c2 : cls [D, A] := ⟨f10, f4, trivial⟩
  have c1 : cls [A, B] := ⟨f4, f7, trivial⟩
  have b1 := subst2_ans A D A f4 f10 f4
  have b2 := subst2_ans B D A f7 f10 f4
  have u1 := cl_turned _ (cl_subD _ c2) A f4
  have u2 := cl_turned _ (cl_subD _ c2) B f7
  have u3 := cl_turned _ (cl_subD _ c1) T f1
  have e1 : Ans ctx 12 [encT T, .nil] (encT T) := by
    have := subst_ans T [] true f1 trivial
    rwa [show turnedT (subD []) T = T by rw [turnedT_congr (subD []) (fun _ => none) 2 (fun n _ _ => by simp [subD]) T f2, turnedT_none]] at this
  have s1 := same13_true T T f1 rfl
  have e2 := subst2_ans T A B f1 f4 f7
  have e3 := subst2_ans _ D A u3 f10 f4
  have e4 := subst2_ans T _ _ f1 u1 u2
  have s2 := same13_true _ _ (cl_turned _ (cl_subD _ c2) _ u3) (show turnedT (subD [D, A]) (turnedT (subD [A, B]) T) = turnedT (subD [turnedT (subD [D, A]) A, turnedT (subD [D, A]) B]) T by
    rw [turnedT_comp]
    refine turnedT_congr _ _ 2 (fun n h0 h1 => ?_) T f2
    have : n = 0 ∨ n = 1 := by omega
    rcases this with rfl | rfl <;> simp [subD])
  have e5 : Ans ctx 12 [encT T, .sl 4 [encT (varT 0), encT (varT 1)]] (encT T) := by
    have := subst2_ans T (varT 0) (varT 1) f1 (by simp [varT, cl, cls]) (by simp [varT, cl, cls])
    rwa [turnedT_var 2 (subD [varT 0, varT 1]) (fun n h0 h1 => ?_) T f2 f3] at this
    rw [subD2 _ _ n h0 h1]
    have : n = 0 ∨ n = 1 := by omega
    rcases this with rfl | rfl <;> simp
  have v0 := var_ans 0
  have v1 := var_ans 1
  generalize turnedT (subD [turnedT (subD [D, A]) A, turnedT (subD [D, A]) B]) T = U1 at *
  generalize turnedT (subD [D, A]) (turnedT (subD [A, B]) T) = U2 at *
  generalize turnedT (subD [D, A]) A = A' at *
  generalize turnedT (subD [D, A]) B = B' at *
  generalize turnedT (subD [A, B]) T = T' at *
  generalize varT 0 = V0 at *
  generalize varT 1 = V1 at *
  have m1 : Ans ctx 9 [encR 1 n1 (ofBytes ns), .int .i64 2] (encT T) := m1
  have m2 : Ans ctx 9 [encR 1 n2 (ofBytes xs), .int .i64 2] (encT A) := m2
  have m3 : Ans ctx 9 [encR 1 n3 (ofBytes bs), .int .i64 2] (encT B) := m3
  have m4 : Ans ctx 9 [encR 1 n4 (ofBytes cs), .int .i64 2] (encT D) := m4
  have v0 : Ans ctx 14 [.int .i64 0] (encT V0) := v0
  have v1 : Ans ctx 14 [.int .i64 1] (encT V1) := v1
  obtain ⟨k1, m1⟩ := m1
  obtain ⟨k2, m2⟩ := m2
  obtain ⟨k3, m3⟩ := m3
  obtain ⟨k4, m4⟩ := m4
  obtain ⟨k5, b1⟩ := b1
  obtain ⟨k6, b2⟩ := b2
  obtain ⟨k7, e1⟩ := e1
  obtain ⟨k8, s1⟩ := s1
  obtain ⟨k9, e2⟩ := e2
  obtain ⟨k10, e3⟩ := e3
  obtain ⟨k11, e4⟩ := e4
  obtain ⟨k12, s2⟩ := s2
  obtain ⟨k13, e5⟩ := e5
  obtain ⟨k14, v0⟩ := v0
  obtain ⟨k15, v1⟩ := v1
  refine Ans.of (σ' := []) fn4_ (by simp) (by simp) ⟨kw + k1 + k2 + k3 + k4 + k5 + k6 + k7 + k8 + k9 + k10 + k11 + k12 + k13 + k14 + k15, fun N hN => ?_⟩
  have hw := hw N (by omega)
  have m1 := m1 N (by omega)
  have m2 := m2 N (by omega)
  have m3 := m3 N (by omega)
  have m4 := m4 N (by omega)
  have b1 := b1 N (by omega)
  have b2 := b2 N (by omega)
  have e1 := e1 N (by omega)
  have s1 := s1 N (by omega)
  have e2 := e2 N (by omega)
  have e3 := e3 N (by omega)
  have e4 := e4 N (by omega)
  have s2 := s2 N (by omega)
  have e5 := e5 N (by omega)
  have v0 := v0 N (by omega)
  have v1 := v1 N (by omega)
  simp [i4, c4, p1, q1, p2, q2, p3, q3, p4, q4, hw, m1, m2, m3, m4, b1, b2, e1, s1, e2, e3, e4, s2, e5, v0, v1]

end Go.Am.Tryd
