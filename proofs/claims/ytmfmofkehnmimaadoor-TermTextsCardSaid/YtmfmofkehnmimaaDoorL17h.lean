/- Layer 17: TermTexts, of the machine. -/
import Derived.Test.YtmfmofkehnmimaaDoorL17g
import Derived.Test.YtmfmofkehnmimaaDoorL17d
set_option maxRecDepth 100000
set_option linter.unusedSimpArgs false
namespace Go.Am.Tryd
open Go

theorem strIdx_mid (p : List UInt8) (c : UInt8) (r : List UInt8) : strIdx (p ++ c :: r) (p.length : Int) = some (.int .u8 c.toNat) := by
  unfold strIdx idxN
  rw [if_pos ⟨by omega, by simp; omega⟩]
  simp

theorem u8_eq (c : UInt8) (k : Nat) (hk : k < 256) : (((c.toNat : Nat) : Int) == (k : Int)) = (c == UInt8.ofNat k) := by
  by_cases h : c = UInt8.ofNat k
  · subst h
    have : (UInt8.ofNat k).toNat = k := by rw [UInt8.toNat_ofNat']; exact Nat.mod_eq_of_lt hk
    simp [this]
  · have h1 : (c == UInt8.ofNat k) = false := by simpa using h
    rw [h1]
    simp only [beq_eq_false_iff_ne, ne_eq]
    intro e
    apply h
    have e : c.toNat = k := by omega
    rw [← e]
    simp

/-- the loop that counts brackets -/
theorem lp3 (T U : AV) (s : List UInt8) (hs : s.length < lim) : ∀ (rest p : List UInt8) (o o' : Nat), s = p ++ rest → o ≤ p.length → MT.cnt o rest = some o' →
    ∃ fr', Lp ctx [] [] [8, 9, 10, 11, 12] b3_0 ⟨[(8, .bx T), (9, .bx U), (10, .v (.str s)), (11, .v (.int .i64 o)), (12, .v (.int .i64 p.length))], false⟩ [] (.ex 0) fr' [] ∧
      fr'.lk = false ∧ getS fr'.sl 8 = .bx T ∧ getS fr'.sl 9 = .bx U ∧ getS fr'.sl 10 = .v (.str s) ∧ getS fr'.sl 11 = .v (.int .i64 o') ∧ getS fr'.sl 6 = .u ∧ getS fr'.sl 54 = .u ∧ getS fr'.sl 55 = .u ∧ getS fr'.sl 56 = .u ∧ getS fr'.sl 57 = .u ∧ getS fr'.sl 58 = .u ∧ getS fr'.sl 59 = .u ∧ getS fr'.sl 60 = .u ∧ getS fr'.sl 61 = .u ∧ getS fr'.sl 62 = .u ∧ getS fr'.sl 63 = .u ∧ getS fr'.sl 64 = .u ∧ getS fr'.sl 65 = .u ∧ getS fr'.sl 66 = .u ∧ getS fr'.sl 67 = .u ∧ getS fr'.sl 68 = .u
  | [], p, o, o', h1, _, h3 => by
    simp [MT.cnt] at h3
    subst h3
    have hl : s.length = p.length := by rw [h1]; simp
    refine ⟨?_, Lp.exit ⟨0, fun N _ => ?_⟩ (by simp), ?_⟩
    rotate_left
    · simp [b3_0, hl]
      rfl
    · simp
  | c :: r, p, o, o', h1, h2, h3 => by
    have hl : s.length = p.length + (r.length + 1) := by rw [h1]; simp
    have hix : strIdx s (p.length : Int) = some (.int .u8 c.toNat) := by rw [h1]; exact strIdx_mid p c r
    have hlt : (p.length : Int) < (s.length : Int) := by omega
    unfold lim at hs
    have hw : IntKind.i64.wrap ((p.length : Int) + 1) = (p.length : Int) + 1 := wrap_i64 (by omega)
    have w1 : IntKind.i64.wrap ((o : Int) + 1) = (o : Int) + 1 := wrap_i64 (by omega)
    have e40 := u8_eq c 40 (by omega)
    have e41 := u8_eq c 41 (by omega)
    have e40 : (((c.toNat : Nat) : Int) == 40) = (c == 40) := e40
    have e41 : (((c.toNat : Nat) : Int) == 41) = (c == 41) := e41
    have n0 : ¬ ((o : Int) < 0) := by omega
    have n1 : ¬ ((o : Int) + 1 < 0) := by omega
    simp only [MT.cnt] at h3
    by_cases c1 : c = 40
    · rw [if_pos c1] at h3
      obtain ⟨fr', q1, q2⟩ := lp3 T U s hs r (p ++ [c]) (o + 1) o' (by simp [h1]) (by simp; omega) h3
      have b1 : (c == 40) = true := by simpa using c1
      have b2 : (c == 41) = false := by rw [c1]; decide
      rw [b1] at e40
      rw [b2] at e41
      simp only [List.length_append, List.length_cons, List.length_nil] at q1
      refine ⟨fr', Lp.step ⟨0, fun N hN => ?_⟩ q1, q2⟩
      simp [b3_0, hix, hlt, hw, w1, e40, e41, n0, n1]
    · rw [if_neg c1] at h3
      have b1 : (c == 40) = false := by simpa using c1
      rw [b1] at e40
      by_cases c2 : c = 41
      · rw [if_pos c2] at h3
        have b2 : (c == 41) = true := by simpa using c2
        rw [b2] at e41
        cases o with
        | zero => simp at h3
        | succ o =>
          have w2 : IntKind.i64.wrap (((o + 1 : Nat) : Int) - 1) = (o : Int) := by rw [wrap_i64 (by omega)]; omega
          have n2 : ¬ ((o : Int) < 0) := by omega
          obtain ⟨fr', q1, q2⟩ := lp3 T U s hs r (p ++ [c]) o o' (by simp [h1]) (by simp; omega) (by simpa using h3)
          simp only [List.length_append, List.length_cons, List.length_nil] at q1
          refine ⟨fr', Lp.step ⟨0, fun N hN => ?_⟩ q1, q2⟩
          have w3 : IntKind.i64.wrap (o : Int) = (o : Int) := wrap_i64 (by omega)
          simp [b3_0, hix, hlt, hw, w2, w3, e40, e41, n0, n2]
      · rw [if_neg c2] at h3
        have b2 : (c == 41) = false := by simpa using c2
        rw [b2] at e41
        obtain ⟨fr', q1, q2⟩ := lp3 T U s hs r (p ++ [c]) o o' (by simp [h1]) (by simp; omega) h3
        simp only [List.length_append, List.length_cons, List.length_nil] at q1
        refine ⟨fr', Lp.step ⟨0, fun N hN => ?_⟩ q1, q2⟩
        simp [b3_0, hix, hlt, hw, e40, e41, n0]

set_option maxHeartbeats 4000000 in
/-- TermTexts, of the machine -/
theorem f3_ans (ns ms : List UInt8) (n : UInt8) (n1 n2 : Bool) : Ans ctx 3 [encR 1 n1 (ofBytes ns), encR 1 n2 (ofBytes ms), .int .u8 n.toNat] (.bool true) := by
  obtain ⟨kw, hw⟩ := awake_ans
  by_cases g1 : 24 < ns.length
  · have p1 : (24 : Int) < ns.length := by omega
    have q1 : ¬ (ns.length : Int) ≤ 24 := by omega
    refine Ans.of (σ' := []) fn3_ (by simp) (by simp) ⟨kw, fun N hN => ?_⟩
    simp [i3, c3, p1, q1, hw N hN]
  have p1 : ¬ (24 : Int) < ns.length := by omega
  have q1 : (ns.length : Int) ≤ 24 := by omega
  by_cases g2 : 24 < ms.length
  · have p2 : (24 : Int) < ms.length := by omega
    have q2 : ¬ (ms.length : Int) ≤ 24 := by omega
    refine Ans.of (σ' := []) fn3_ (by simp) (by simp) ⟨kw, fun N hN => ?_⟩
    simp [i3, c3, p1, q1, p2, q2, hw N hN]
  have p2 : ¬ (24 : Int) < ms.length := by omega
  have q2 : (ms.length : Int) ≤ 24 := by omega
  have hn : n.toNat < 256 := n.toNat_lt
  obtain ⟨k, hk⟩ : ∃ k, k = 1 + n.toNat % 60 := ⟨_, rfl⟩
  have hk60 : n.toNat % 60 < 60 := Nat.mod_lt _ (by omega)
  have m1 := make_ans k (by omega) (by omega) ns.length ns (Nat.le_refl _) (by omega) n1
  have m2 := make_ans k (by omega) (by omega) ms.length ms (Nat.le_refl _) (by omega) n2
  obtain ⟨f1, -, -⟩ := mkT_facts k (by omega) ns.length ns (Nat.le_refl _)
  obtain ⟨f2, -, -⟩ := mkT_facts k (by omega) ms.length ms (Nat.le_refl _)
  have s1 := MT.mk_small k (by omega) ns.length ns (Nat.le_refl _)
  have s2 := MT.mk_small k (by omega) ms.length ms (Nat.le_refl _)
  have l1 : (MT.mk k ns).text.length < lim := by
    have h1 := MT.mk_len k 24 ns (by omega)
    have : (22 * 3 ^ 24 : Nat) < lim := by decide
    omega
  have l2 : (MT.mk k ms).text.length < lim := by
    have h1 := MT.mk_len k 24 ms (by omega)
    have : (22 * 3 ^ 24 : Nat) < lim := by decide
    omega
  rw [MT.mk_ty k _ ns (Nat.le_refl _)] at m1 f1
  rw [MT.mk_ty k _ ms (Nat.le_refl _)] at m2 f2
  have t1 := text_ans _ (MT.good_ty (by omega) _ s1) f1 (by rw [MT.text_ty]; exact l1)
  have t2 := text_ans _ (MT.good_ty (by omega) _ s2) f2 (by rw [MT.text_ty]; exact l2)
  rw [MT.text_ty] at t1 t2
  have e1 := same_ans (MT.mk k ns).ty (MT.mk k ms).ty (cl_ok _ f1)
  have hts := MT.text_same (by omega) s1 s2
  have hcn := MT.cnt_text k (by omega) _ s1 0 []
  simp only [List.append_nil] at hcn
  obtain ⟨fr', h1, h2, h3, h4, h5, h6, u6, u54, u55, u56, u57, u58, u59, u60, u61, u62, u63, u64, u65, u66, u67, u68⟩ := lp3 (encT (MT.mk k ns).ty) (encT (MT.mk k ms).ty) (MT.mk k ns).text l1 (MT.mk k ns).text [] 0 0 rfl (by simp) hcn
  generalize (MT.mk k ns).ty = T at *
  generalize (MT.mk k ms).ty = U at *
  generalize (MT.mk k ns).text = s at *
  generalize (MT.mk k ms).text = s' at *
  obtain ⟨k1, m1⟩ := m1
  obtain ⟨k2, m2⟩ := m2
  obtain ⟨k3, t1⟩ := t1
  obtain ⟨k4, t2⟩ := t2
  obtain ⟨k5, e1⟩ := e1
  obtain ⟨k6, h1⟩ := h1.den
  have w0 : IntKind.i64.wrap (n.toNat : Int) = n.toNat := wrap_i64 (by omega)
  have w1 : (n.toNat : Int).tmod 60 = ((n.toNat % 60 : Nat) : Int) := tmod_lit _ 60
  have w2 : IntKind.i64.wrap (1 + ((n.toNat % 60 : Nat) : Int)) = (k : Int) := by rw [wrap_i64 (by omega)]; omega
  generalize n.toNat % 60 = z at *
  rw [← hts] at e1
  refine Ans.of (σ' := []) fn3_ (by simp) (by simp) ⟨kw + k1 + k2 + k3 + k4 + k5 + k6, fun N hN => ?_⟩
  have hw := hw N (by omega)
  have m1 := m1 N (by omega)
  have m2 := m2 N (by omega)
  have t1 := t1 N (by omega)
  have t2 := t2 N (by omega)
  have e1 := e1 N (by omega)
  have h1 := h1 N (by omega)
  cases hb : s == s' <;> rw [hb] at e1 <;>
    simp [i3, c3, p1, q1, p2, q2, w0, w1, w2, hw, m1, m2, t1, t2, e1, h1, h2, h3, h4, h5, h6, hb, u6, u54, u55, u56, u57, u58, u59, u60, u61, u62, u63, u64, u65, u66, u67, u68]

end Go.Am.Tryd
