/- Layer 17: names of types, whatever they are; the reference's may. -/
import Derived.Test.YtmhggdoanajboaaDoorLi
import Derived.Test.YtmhggdoanajboaaDoorLr
set_option maxRecDepth 100000
set_option linter.unusedSimpArgs false
set_option linter.unusedVariables false
namespace Go.Am.Tryd
open Go
theorem okc_nat (c : UInt8) : okc c = (decide (97 ≤ c.toNat ∧ c.toNat ≤ 122) || (decide (65 ≤ c.toNat ∧ c.toNat ≤ 90) || (decide (48 ≤ c.toNat ∧ c.toNat ≤ 57) || decide (c.toNat = 95)))) := by
  have e : (c == 95) = decide (c.toNat = 95) := by
    by_cases h : c = 95
    · subst h; rfl
    · have h2 : ¬ c.toNat = 95 := fun h2 => h (UInt8.toNat_inj.1 h2)
      simp [h, h2]
  unfold okc
  rw [e]
  simp only [UInt8.le_iff_toNat_le]
  simp [Bool.or_assoc]
theorem ofBytes_len (s : List UInt8) : (ofBytes s).length = s.length := by simp [ofBytes]
/-! ### a round of term.con's loop -/
theorem r71_0 (s : List UInt8) (i : Nat) (x : Int) (hc : (ofBytes s)[i]? = some (.int .u8 x)) (hi : idxN (i : Int) s.length = some i) (hlt : (i : Int) < s.length) (hw : IntKind.i64.wrap ((i : Int) + 1) = (i : Int) + 1) (h : x ≤ 47) : ∃ fr', (∀ N, den ctx (acall ctx N) [] [] N b71_0 ⟨[(23, .v (.sl 1 (ofBytes s))), (24, .v (.int .i64 s.length)), (25, .v (.int .i64 i))], false⟩ [] = some ((.ret, fr'), [])) ∧ fr'.lk = false ∧ getS fr'.sl 2 = .v (.bool false) := by
  have f0 : ¬ (97 : Int) ≤ x := by omega
  have f1 : x ≤ (122 : Int) := by omega
  have f2 : ¬ (65 : Int) ≤ x := by omega
  have f3 : x ≤ (90 : Int) := by omega
  have f4 : ¬ (48 : Int) ≤ x := by omega
  have f5 : x ≤ (57 : Int) := by omega
  have f6 : (x == 95) = false := by simp; omega
  refine ⟨?_, fun N => ?_, ?_⟩
  rotate_left
  · simp -implicitDefEqProofs [b71_0, ofBytes_len, hc, hi, hlt, hw, f0, f1, f2, f3, f4, f5, f6]
    rfl
  · simp
theorem r71_1 (s : List UInt8) (i : Nat) (x : Int) (hc : (ofBytes s)[i]? = some (.int .u8 x)) (hi : idxN (i : Int) s.length = some i) (hlt : (i : Int) < s.length) (hw : IntKind.i64.wrap ((i : Int) + 1) = (i : Int) + 1) (h : (48 : Int) ≤ x ∧ x ≤ 57) : ∀ N, round1 ctx (acall ctx N) [] [] N [23, 24, 25] b71_0 ⟨[(23, .v (.sl 1 (ofBytes s))), (24, .v (.int .i64 s.length)), (25, .v (.int .i64 i))], false⟩ [] = some (⟨[(23, .v (.sl 1 (ofBytes s))), (24, .v (.int .i64 s.length)), (25, .v (.int .i64 ((i : Int) + 1)))], false⟩, []) := by
  have f0 : ¬ (97 : Int) ≤ x := by omega
  have f1 : x ≤ (122 : Int) := by omega
  have f2 : ¬ (65 : Int) ≤ x := by omega
  have f3 : x ≤ (90 : Int) := by omega
  have f4 : (48 : Int) ≤ x := by omega
  have f5 : x ≤ (57 : Int) := by omega
  have f6 : (x == 95) = false := by simp; omega
  intro N
  simp -implicitDefEqProofs [b71_0, ofBytes_len, hc, hi, hlt, hw, f0, f1, f2, f3, f4, f5, f6]
theorem r71_2 (s : List UInt8) (i : Nat) (x : Int) (hc : (ofBytes s)[i]? = some (.int .u8 x)) (hi : idxN (i : Int) s.length = some i) (hlt : (i : Int) < s.length) (hw : IntKind.i64.wrap ((i : Int) + 1) = (i : Int) + 1) (h : (58 : Int) ≤ x ∧ x ≤ 64) : ∃ fr', (∀ N, den ctx (acall ctx N) [] [] N b71_0 ⟨[(23, .v (.sl 1 (ofBytes s))), (24, .v (.int .i64 s.length)), (25, .v (.int .i64 i))], false⟩ [] = some ((.ret, fr'), [])) ∧ fr'.lk = false ∧ getS fr'.sl 2 = .v (.bool false) := by
  have f0 : ¬ (97 : Int) ≤ x := by omega
  have f1 : x ≤ (122 : Int) := by omega
  have f2 : ¬ (65 : Int) ≤ x := by omega
  have f3 : x ≤ (90 : Int) := by omega
  have f4 : (48 : Int) ≤ x := by omega
  have f5 : ¬ x ≤ (57 : Int) := by omega
  have f6 : (x == 95) = false := by simp; omega
  refine ⟨?_, fun N => ?_, ?_⟩
  rotate_left
  · simp -implicitDefEqProofs [b71_0, ofBytes_len, hc, hi, hlt, hw, f0, f1, f2, f3, f4, f5, f6]
    rfl
  · simp
theorem r71_3 (s : List UInt8) (i : Nat) (x : Int) (hc : (ofBytes s)[i]? = some (.int .u8 x)) (hi : idxN (i : Int) s.length = some i) (hlt : (i : Int) < s.length) (hw : IntKind.i64.wrap ((i : Int) + 1) = (i : Int) + 1) (h : (65 : Int) ≤ x ∧ x ≤ 90) : ∀ N, round1 ctx (acall ctx N) [] [] N [23, 24, 25] b71_0 ⟨[(23, .v (.sl 1 (ofBytes s))), (24, .v (.int .i64 s.length)), (25, .v (.int .i64 i))], false⟩ [] = some (⟨[(23, .v (.sl 1 (ofBytes s))), (24, .v (.int .i64 s.length)), (25, .v (.int .i64 ((i : Int) + 1)))], false⟩, []) := by
  have f0 : ¬ (97 : Int) ≤ x := by omega
  have f1 : x ≤ (122 : Int) := by omega
  have f2 : (65 : Int) ≤ x := by omega
  have f3 : x ≤ (90 : Int) := by omega
  have f4 : (48 : Int) ≤ x := by omega
  have f5 : ¬ x ≤ (57 : Int) := by omega
  have f6 : (x == 95) = false := by simp; omega
  intro N
  simp -implicitDefEqProofs [b71_0, ofBytes_len, hc, hi, hlt, hw, f0, f1, f2, f3, f4, f5, f6]
theorem r71_4 (s : List UInt8) (i : Nat) (x : Int) (hc : (ofBytes s)[i]? = some (.int .u8 x)) (hi : idxN (i : Int) s.length = some i) (hlt : (i : Int) < s.length) (hw : IntKind.i64.wrap ((i : Int) + 1) = (i : Int) + 1) (h : (91 : Int) ≤ x ∧ x ≤ 94) : ∃ fr', (∀ N, den ctx (acall ctx N) [] [] N b71_0 ⟨[(23, .v (.sl 1 (ofBytes s))), (24, .v (.int .i64 s.length)), (25, .v (.int .i64 i))], false⟩ [] = some ((.ret, fr'), [])) ∧ fr'.lk = false ∧ getS fr'.sl 2 = .v (.bool false) := by
  have f0 : ¬ (97 : Int) ≤ x := by omega
  have f1 : x ≤ (122 : Int) := by omega
  have f2 : (65 : Int) ≤ x := by omega
  have f3 : ¬ x ≤ (90 : Int) := by omega
  have f4 : (48 : Int) ≤ x := by omega
  have f5 : ¬ x ≤ (57 : Int) := by omega
  have f6 : (x == 95) = false := by simp; omega
  refine ⟨?_, fun N => ?_, ?_⟩
  rotate_left
  · simp -implicitDefEqProofs [b71_0, ofBytes_len, hc, hi, hlt, hw, f0, f1, f2, f3, f4, f5, f6]
    rfl
  · simp
theorem r71_5 (s : List UInt8) (i : Nat) (x : Int) (hc : (ofBytes s)[i]? = some (.int .u8 x)) (hi : idxN (i : Int) s.length = some i) (hlt : (i : Int) < s.length) (hw : IntKind.i64.wrap ((i : Int) + 1) = (i : Int) + 1) (h : (95 : Int) ≤ x ∧ x ≤ 95) : ∀ N, round1 ctx (acall ctx N) [] [] N [23, 24, 25] b71_0 ⟨[(23, .v (.sl 1 (ofBytes s))), (24, .v (.int .i64 s.length)), (25, .v (.int .i64 i))], false⟩ [] = some (⟨[(23, .v (.sl 1 (ofBytes s))), (24, .v (.int .i64 s.length)), (25, .v (.int .i64 ((i : Int) + 1)))], false⟩, []) := by
  have f0 : ¬ (97 : Int) ≤ x := by omega
  have f1 : x ≤ (122 : Int) := by omega
  have f2 : (65 : Int) ≤ x := by omega
  have f3 : ¬ x ≤ (90 : Int) := by omega
  have f4 : (48 : Int) ≤ x := by omega
  have f5 : ¬ x ≤ (57 : Int) := by omega
  have f6 : (x == 95) = true := by simp; omega
  intro N
  simp -implicitDefEqProofs [b71_0, ofBytes_len, hc, hi, hlt, hw, f0, f1, f2, f3, f4, f5, f6]
theorem r71_6 (s : List UInt8) (i : Nat) (x : Int) (hc : (ofBytes s)[i]? = some (.int .u8 x)) (hi : idxN (i : Int) s.length = some i) (hlt : (i : Int) < s.length) (hw : IntKind.i64.wrap ((i : Int) + 1) = (i : Int) + 1) (h : (96 : Int) ≤ x ∧ x ≤ 96) : ∃ fr', (∀ N, den ctx (acall ctx N) [] [] N b71_0 ⟨[(23, .v (.sl 1 (ofBytes s))), (24, .v (.int .i64 s.length)), (25, .v (.int .i64 i))], false⟩ [] = some ((.ret, fr'), [])) ∧ fr'.lk = false ∧ getS fr'.sl 2 = .v (.bool false) := by
  have f0 : ¬ (97 : Int) ≤ x := by omega
  have f1 : x ≤ (122 : Int) := by omega
  have f2 : (65 : Int) ≤ x := by omega
  have f3 : ¬ x ≤ (90 : Int) := by omega
  have f4 : (48 : Int) ≤ x := by omega
  have f5 : ¬ x ≤ (57 : Int) := by omega
  have f6 : (x == 95) = false := by simp; omega
  refine ⟨?_, fun N => ?_, ?_⟩
  rotate_left
  · simp -implicitDefEqProofs [b71_0, ofBytes_len, hc, hi, hlt, hw, f0, f1, f2, f3, f4, f5, f6]
    rfl
  · simp
theorem r71_7 (s : List UInt8) (i : Nat) (x : Int) (hc : (ofBytes s)[i]? = some (.int .u8 x)) (hi : idxN (i : Int) s.length = some i) (hlt : (i : Int) < s.length) (hw : IntKind.i64.wrap ((i : Int) + 1) = (i : Int) + 1) (h : (97 : Int) ≤ x ∧ x ≤ 122) : ∀ N, round1 ctx (acall ctx N) [] [] N [23, 24, 25] b71_0 ⟨[(23, .v (.sl 1 (ofBytes s))), (24, .v (.int .i64 s.length)), (25, .v (.int .i64 i))], false⟩ [] = some (⟨[(23, .v (.sl 1 (ofBytes s))), (24, .v (.int .i64 s.length)), (25, .v (.int .i64 ((i : Int) + 1)))], false⟩, []) := by
  have f0 : (97 : Int) ≤ x := by omega
  have f1 : x ≤ (122 : Int) := by omega
  have f2 : (65 : Int) ≤ x := by omega
  have f3 : ¬ x ≤ (90 : Int) := by omega
  have f4 : (48 : Int) ≤ x := by omega
  have f5 : ¬ x ≤ (57 : Int) := by omega
  have f6 : (x == 95) = false := by simp; omega
  intro N
  simp -implicitDefEqProofs [b71_0, ofBytes_len, hc, hi, hlt, hw, f0, f1, f2, f3, f4, f5, f6]
theorem r71_8 (s : List UInt8) (i : Nat) (x : Int) (hc : (ofBytes s)[i]? = some (.int .u8 x)) (hi : idxN (i : Int) s.length = some i) (hlt : (i : Int) < s.length) (hw : IntKind.i64.wrap ((i : Int) + 1) = (i : Int) + 1) (h : (123 : Int) ≤ x) : ∃ fr', (∀ N, den ctx (acall ctx N) [] [] N b71_0 ⟨[(23, .v (.sl 1 (ofBytes s))), (24, .v (.int .i64 s.length)), (25, .v (.int .i64 i))], false⟩ [] = some ((.ret, fr'), [])) ∧ fr'.lk = false ∧ getS fr'.sl 2 = .v (.bool false) := by
  have f0 : (97 : Int) ≤ x := by omega
  have f1 : ¬ x ≤ (122 : Int) := by omega
  have f2 : (65 : Int) ≤ x := by omega
  have f3 : ¬ x ≤ (90 : Int) := by omega
  have f4 : (48 : Int) ≤ x := by omega
  have f5 : ¬ x ≤ (57 : Int) := by omega
  have f6 : (x == 95) = false := by simp; omega
  refine ⟨?_, fun N => ?_, ?_⟩
  rotate_left
  · simp -implicitDefEqProofs [b71_0, ofBytes_len, hc, hi, hlt, hw, f0, f1, f2, f3, f4, f5, f6]
    rfl
  · simp
theorem lp71 (s : List UInt8) (hb : s.length < big) : ∀ (r : List UInt8) (i : Nat), ST s i r →
    ∃ e fr', Lp ctx [] [] [23, 24, 25] b71_0 ⟨[(23, .v (.sl 1 (ofBytes s))), (24, .v (.int .i64 s.length)), (25, .v (.int .i64 i))], false⟩ [] e fr' [] ∧ fr'.lk = false ∧ cond (r.all okc) (e = .ex 0 ∧ getS fr'.sl 2 = .u) (e = .ret ∧ getS fr'.sl 2 = .v (.bool false))
  | [], i, h => by
    have h' := h.nil
    have : ¬ (i : Int) < s.length := by omega
    refine ⟨.ex 0, ?_, Lp.exit ⟨0, fun N _ => ?_⟩ (by simp), ?_⟩
    rotate_left
    · simp -implicitDefEqProofs [b71_0, h', this]
      rfl
    · simp
  | c :: r, i, h => by
    have hlen := h.len
    simp at hlen
    have hc : (ofBytes s)[i]? = some (.int .u8 (c.toNat : Int)) := by
      obtain ⟨p, hp, hs⟩ := h
      subst hp
      rw [hs]
      simp [ofBytes]
    have hi : idxN (i : Int) s.length = some i := by unfold idxN; rw [if_pos (by omega)]; simp
    have hw : IntKind.i64.wrap ((i : Int) + 1) = (i : Int) + 1 := wrap_succ (by unfold big at *; omega)
    have hlt : (i : Int) < s.length := by omega
    have hr : ST s (i + 1) r := by
      obtain ⟨p, hp, hs⟩ := h
      exact ⟨p ++ [c], by simp [hp], by rw [hs]; simp⟩
    have ok : okc c = true → (∀ N, round1 ctx (acall ctx N) [] [] N [23, 24, 25] b71_0 ⟨[(23, .v (.sl 1 (ofBytes s))), (24, .v (.int .i64 s.length)), (25, .v (.int .i64 i))], false⟩ [] = some (⟨[(23, .v (.sl 1 (ofBytes s))), (24, .v (.int .i64 s.length)), (25, .v (.int .i64 (i + 1 : Nat)))], false⟩, [])) → ∃ e fr', Lp ctx [] [] [23, 24, 25] b71_0 ⟨[(23, .v (.sl 1 (ofBytes s))), (24, .v (.int .i64 s.length)), (25, .v (.int .i64 i))], false⟩ [] e fr' [] ∧ fr'.lk = false ∧ cond ((c :: r).all okc) (e = .ex 0 ∧ getS fr'.sl 2 = .u) (e = .ret ∧ getS fr'.sl 2 = .v (.bool false)) := fun h1 h2 => by
      obtain ⟨e, fr', l1, l2, l3⟩ := lp71 s hb r (i + 1) hr
      refine ⟨e, fr', Lp.step ⟨0, fun N _ => h2 N⟩ l1, l2, ?_⟩
      simpa [h1] using l3
    have bad : okc c = false → (∃ fr', (∀ N, den ctx (acall ctx N) [] [] N b71_0 ⟨[(23, .v (.sl 1 (ofBytes s))), (24, .v (.int .i64 s.length)), (25, .v (.int .i64 i))], false⟩ [] = some ((.ret, fr'), [])) ∧ fr'.lk = false ∧ getS fr'.sl 2 = .v (.bool false)) → ∃ e fr', Lp ctx [] [] [23, 24, 25] b71_0 ⟨[(23, .v (.sl 1 (ofBytes s))), (24, .v (.int .i64 s.length)), (25, .v (.int .i64 i))], false⟩ [] e fr' [] ∧ fr'.lk = false ∧ cond ((c :: r).all okc) (e = .ex 0 ∧ getS fr'.sl 2 = .u) (e = .ret ∧ getS fr'.sl 2 = .v (.bool false)) := fun h1 ⟨fr', h2, h3, h4⟩ => by
      refine ⟨.ret, fr', Lp.exit ⟨0, fun N _ => h2 N⟩ (by simp), h3, ?_⟩
      simp [h1, h4]
    have hok := okc_nat c
    generalize hm : c.toNat = m at *
    by_cases q1 : m < 48
    · exact bad (by rw [hok]; simp; omega) (r71_0 s i m hc hi hlt hw (by omega))
    by_cases q2 : m < 58
    · exact ok (by rw [hok]; simp; omega) (r71_1 s i m hc hi hlt hw (by omega))
    by_cases q3 : m < 65
    · exact bad (by rw [hok]; simp; omega) (r71_2 s i m hc hi hlt hw (by omega))
    by_cases q4 : m < 91
    · exact ok (by rw [hok]; simp; omega) (r71_3 s i m hc hi hlt hw (by omega))
    by_cases q5 : m < 95
    · exact bad (by rw [hok]; simp; omega) (r71_4 s i m hc hi hlt hw (by omega))
    by_cases q6 : m < 96
    · exact ok (by rw [hok]; simp; omega) (r71_5 s i m hc hi hlt hw (by omega))
    by_cases q7 : m < 97
    · exact bad (by rw [hok]; simp; omega) (r71_6 s i m hc hi hlt hw (by omega))
    by_cases q8 : m < 123
    · exact ok (by rw [hok]; simp; omega) (r71_7 s i m hc hi hlt hw (by omega))
    · exact bad (by rw [hok]; simp; omega) (r71_8 s i m hc hi hlt hw (by omega))
theorem byte5 : isByte ctx 5 = true := by rfl
theorem fitAll_bytes (te : TI) (h1 : te.k = .int .u8) (h2 : te.size = 1) : ∀ l : List UInt8, fitAll te (l.map fun b => AV.int .u8 (b.toNat : Int)) = true
  | [] => rfl
  | c :: l => by simp [fitAll, fitAll_bytes te h1 h2 l, AV.fits, h1, h2, TK.isAgg]
theorem con71_ans (s : List UInt8) (hb : s.length < big) : Ans ctx 71 [.str s] (.bool (conB s)) := by
  cases s with
  | nil =>
    refine Ans.of (σ' := []) fn71_ (by simp) (by simp) ⟨0, fun N hN => ?_⟩
    simp -implicitDefEqProofs [i71, c71, conB]
  | cons c r =>
    by_cases h1 : r.length < 30
    · obtain ⟨e, fr', l1, l2, l3⟩ := lp71 (c :: r) hb (c :: r) 0 (ST.all _)
      obtain ⟨k, hk⟩ := l1.den
      have g1 : strIdx (c :: r) 0 = some (.int .u8 c.toNat) := (ST.all (c :: r)).cons.1
      have a1 : ¬ (30 : Int) < (r.length : Int) + 1 := by omega
      have hx : (65 ≤ c && c ≤ 90) = (decide ((65 : Int) ≤ c.toNat) && decide ((c.toNat : Int) ≤ 90)) := by
        simp only [UInt8.le_iff_toNat_le]
        congr 1 <;> (simp; omega)
      show Ans ctx 71 [.str (c :: r)] (.bool (decide (r.length < 30) && (65 ≤ c && c ≤ 90) && (c :: r).all okc))
      rw [hx, decide_eq_true h1, Bool.true_and]
      refine Ans.of (σ' := []) fn71_ (by simp) (by simp) ⟨k, fun N hN => ?_⟩
      have hk := hk N hN
      simp only [ofBytes, List.map_cons, List.length_cons, Int.natCast_add, Int.cast_ofNat_Int] at hk
      by_cases a2 : (65 : Int) ≤ c.toNat
      · have a2' : ¬ (c.toNat : Int) < 65 := by omega
        by_cases a3 : (c.toNat : Int) ≤ 90
        · have a3' : ¬ (90 : Int) < c.toNat := by omega
          cases hall : (c :: r).all okc with
          | true =>
            rw [hall] at l3
            obtain ⟨rfl, l4⟩ := l3
            simp -implicitDefEqProofs [i71, c71, g1, a1, a2, a2', a3, a3', hk, l2, l4, ofBytes, byte5, fitAll_bytes]
          | false =>
            rw [hall] at l3
            obtain ⟨rfl, l4⟩ := l3
            simp -implicitDefEqProofs [i71, c71, g1, a1, a2, a2', a3, a3', hk, l2, l4, ofBytes, byte5, fitAll_bytes]
        · have a3' : (90 : Int) < c.toNat := by omega
          simp -implicitDefEqProofs [i71, c71, g1, a1, a2, a2', a3, a3']
      · have a2' : (c.toNat : Int) < 65 := by omega
        simp -implicitDefEqProofs [i71, c71, g1, a1, a2, a2']
    · have a1 : (30 : Int) < (r.length : Int) + 1 := by omega
      show Ans ctx 71 [.str (c :: r)] (.bool (decide (r.length < 30) && (65 ≤ c && c ≤ 90) && (c :: r).all okc))
      rw [decide_eq_false h1, Bool.false_and, Bool.false_and]
      refine Ans.of (σ' := []) fn71_ (by simp) (by simp) ⟨0, fun N hN => ?_⟩
      simp -implicitDefEqProofs [i71, c71, a1]
end Go.Am.Tryd
