/- F1, F2, F3, F4, F5, F6, F7, F8, F9, as one -/
import Derived.Test.YtdapcelbbejfoaaEA
set_option linter.unusedVariables false
set_option maxRecDepth 100000
set_option linter.unusedSimpArgs false
namespace Go.Am.Try
open Go Go.Am.Ps
theorem lp102_0 (s : Str) (L : List AV) (di : Nat) (d : Da) (hdi : idxN (di : Int) L.length = some di) (hda : L[di]? = some (encD d)) (hcl : d.cs.length < big) : ∀ (r : List Cn) (i : Nat), Tail (encCs d.cs) i (encCs r) →
  ∃ e fr', Lp ctx [] [] [0, 1, 6, 7] b102_0 ⟨[(0, .v (.sl 4 L)), (1, .v (.str s)), (6, .v (.int .i64 di)), (7, .v (.int .i64 i))], false⟩ [] e fr' [] ∧ fr'.lk = false ∧
   (match findC s i r with
   | some k => e = .ret ∧ getS fr'.sl 4 = .v (.int .i64 di) ∧ getS fr'.sl 5 = .v (.int .i64 k)
   | none => e = .ex 2 ∧ getS fr'.sl 0 = .v (.sl 4 L) ∧ getS fr'.sl 1 = .v (.str s) ∧ getS fr'.sl 6 = .v (.int .i64 di) ∧ getS fr'.sl 12 = .u ∧ getS fr'.sl 13 = .u)
 | [], i, h => by
  have h' := h.nil
  simp only [encCs_length] at h'
  unfold encD at hda
  refine ⟨.ex 2, ?_, Lp.exit ⟨0, fun N _ => ?_⟩ (by simp), ?_⟩
  rotate_left
  ·simp -implicitDefEqProofs [b102_0, hdi, hda, h']
   rfl
  ·exact ⟨by simp, rfl, by simp, by simp, by simp, by simp, by simp⟩
 | c :: r, i, h => by
  have hlen := h.len
  simp only [encCs_cons] at h
  obtain ⟨g1, g2, g3, g4, g5⟩ := h.cons
  simp only [encCs_length] at hlen g2 g3
  have hw := wrap_succ (n := i) (by simp at hlen; omega)
  have g6 := g5 3 true
  have hda' := hda
  unfold encD at hda
  rw [g6] at hda
  unfold encC at g1
  unfold findC
  rw [eqS_iff]
  cases hs : c.s == s with
  | true =>
   refine ⟨.ret, ?_, Lp.exit ⟨0, fun N _ => ?_⟩ (by simp), ?_⟩
   rotate_left
   ·simp -implicitDefEqProofs [b102_0, hdi, hda, g1, g2, g3, hs, -beq_iff_eq]
    rfl
   ·exact ⟨by simp, rfl, by simp, by simp⟩
  | false =>
   obtain ⟨e, fr', l1, l2, l3⟩ := lp102_0 s L di d hdi hda' hcl r (i + 1) g4
   refine ⟨e, fr', Lp.step ⟨0, fun N hN => ?_⟩ l1, l2, l3⟩
   simp -implicitDefEqProofs [b102_0, hdi, hda, g1, g2, g3, hs, hw, -beq_iff_eq, -beq_eq_false_iff_ne]
theorem lp102_1 (s : Str) (L : List AV) (nl : Bool) (hL : L.length < big) : ∀ (r : List Da) (i : Nat), Tail L i (encDs r) → (∀ d ∈ r, okD d) →
  ∃ e fr', Lp ctx [] [] [0, 1, 6] b102_1 ⟨[(0, .v (encR 4 nl L)), (1, .v (.str s)), (6, .v (.int .i64 i))], false⟩ [] e fr' [] ∧ fr'.lk = false ∧
   (match findCon s i r with
   | some p => e = .ret ∧ getS fr'.sl 4 = .v (.int .i64 p.1) ∧ getS fr'.sl 5 = .v (.int .i64 p.2)
   | none => e = .ex 0 ∧ getS fr'.sl 4 = .u ∧ getS fr'.sl 5 = .u)
 | [], i, h, _ => by
  have h' := h.nil
  refine ⟨.ex 0, ?_, Lp.exit ⟨0, fun N _ => ?_⟩ (by simp), ?_⟩
  rotate_left
  ·simp -implicitDefEqProofs [b102_1, h']
   rfl
  ·exact ⟨by simp, rfl, by simp, by simp⟩
 | d :: r, i, h, hd => by
  have hlen := h.len
  simp only [encDs_cons] at h
  obtain ⟨g1, g2, g3, g4, g5⟩ := h.cons
  simp at hlen
  have hw := wrap_succ (n := i) (by omega)
  have g6 := g5 4 nl
  have hdk := hd d (by simp)
  obtain ⟨e1, fr1, q1, q2, q3⟩ := lp102_0 s L i d g3 g1 (by have := hdk.2.1; unfold lim at this; unfold big; omega) d.cs 0 (Tail.all _)
  obtain ⟨k, hk⟩ := q1.den
  simp only [Int.cast_ofNat_Int] at hk
  unfold findCon
  rw [g6]
  cases hf : findC s 0 d.cs with
  | some c =>
   rw [hf] at q3
   obtain ⟨rfl, q4, q5⟩ := q3
   refine ⟨.ret, fr1, Lp.exit ⟨k, fun N hN => ?_⟩ (by simp), q2, rfl, q4, q5⟩
   have hk := hk N hN
   simp -implicitDefEqProofs [b102_1, g2, hk]
  | none =>
   rw [hf] at q3
   obtain ⟨rfl, q4, q5, q6, q7, q8⟩ := q3
   obtain ⟨e, fr', l1, l2, l3⟩ := lp102_1 s L nl hL r (i + 1) g4 (fun x hx => hd x (by simp [hx]))
   rw [g6] at l1
   refine ⟨e, fr', Lp.step ⟨k, fun N hN => ?_⟩ l1, l2, l3⟩
   have hk := hk N hN
   simp -implicitDefEqProofs [b102_1, g2, hk, hw, q2, q4, q5, q6, q7, q8]
theorem fcon_ans (l : List Da) (nl : Bool) (hl : l.length < big) (hd : ∀ d ∈ l, okD d) (s : Str) : Ans ctx 102 [encR 4 nl (encDs l), .str s] (.tup [.int .i64 (conI (findCon s 0 l)).1, .int .i64 (conI (findCon s 0 l)).2]) := by
 obtain ⟨e, fr', l1, l2, l3⟩ := lp102_1 s (encDs l) nl (by simpa using hl) l 0 (Tail.all _) hd
 obtain ⟨k, hk⟩ := l1.den
 refine Ans.of (σ' := []) fn102_ (by simp) (by simp) ⟨k, fun N hN => ?_⟩
 have hk := hk N hN
 simp only [Int.cast_ofNat_Int] at hk
 cases hf : findCon s 0 l with
 | some p =>
  rw [hf] at l3
  obtain ⟨rfl, l4, l5⟩ := l3
  simp -implicitDefEqProofs [i102, c102, hk, l2, l4, l5, conI]
 | none =>
  rw [hf] at l3
  obtain ⟨rfl, l4, l5⟩ := l3
  simp -implicitDefEqProofs [i102, c102, hk, l2, l4, l5, conI]
theorem lp120 (s : Str) (L : List AV) (nl : Bool) (hL : L.length < big) : ∀ (r : List Da) (i : Nat), Tail L i (encDs r) →
  ∃ e fr', Lp ctx [] [] [0, 1, 5] b120_0 ⟨[(0, .v (encR 4 nl L)), (1, .v (.str s)), (5, .v (.int .i64 i))], false⟩ [] e fr' [] ∧ fr'.lk = false ∧
   (match findD s r with
   | some d => e = .ret ∧ getS fr'.sl 4 = .v (.int .i64 d.vs.length)
   | none => e = .ex 0 ∧ getS fr'.sl 4 = .u)
 | [], i, h => by
  have h' := h.nil
  refine ⟨.ex 0, ?_, Lp.exit ⟨0, fun N _ => ?_⟩ (by simp), ?_⟩
  rotate_left
  ·simp -implicitDefEqProofs [b120_0, h']
   rfl
  ·exact ⟨by simp, rfl, by simp⟩
 | d :: r, i, h => by
  have hlen := h.len
  simp only [encDs_cons] at h
  obtain ⟨g1, g2, g3, g4, g5⟩ := h.cons
  simp at hlen
  have hw := wrap_succ (n := i) (by omega)
  have g6 := g5 4 nl
  unfold encD at g1
  unfold findD
  rw [eqS_iff, g6]
  cases hs : d.s == s with
  | true =>
   refine ⟨.ret, ?_, Lp.exit ⟨0, fun N _ => ?_⟩ (by simp), ?_⟩
   rotate_left
   ·simp -implicitDefEqProofs [b120_0, g1, g2, g3, hs, -beq_iff_eq]
    rfl
   ·exact ⟨by simp, rfl, by simp⟩
  | false =>
   obtain ⟨e, fr', l1, l2, l3⟩ := lp120 s L nl hL r (i + 1) g4
   rw [g6] at l1
   refine ⟨e, fr', Lp.step ⟨0, fun N hN => ?_⟩ l1, l2, l3⟩
   simp -implicitDefEqProofs [b120_0, g1, g2, g3, hs, hw, -beq_iff_eq, -beq_eq_false_iff_ne]
theorem vars_ans (l : List Da) (nl : Bool) (hl : l.length < big) (s : Str) : Ans ctx 120 [encR 4 nl (encDs l), .str s] (.int .i64 (arity l s)) := by
 obtain ⟨e, fr', l1, l2, l3⟩ := lp120 s (encDs l) nl (by simpa using hl) l 0 (Tail.all _)
 obtain ⟨k, hk⟩ := l1.den
 refine Ans.of (σ' := []) fn120_ (by simp) (by simp) ⟨k, fun N hN => ?_⟩
 have hk := hk N hN
 simp only [Int.cast_ofNat_Int] at hk
 unfold arity
 simp only [eqS_iff, sInt, sBool]
 cases h1 : s == [73, 110, 116] with
 | true => simp -implicitDefEqProofs [i120, c120, h1, -beq_iff_eq]
 | false =>
  cases h2 : s == [66, 111, 111, 108] with
  | true => simp -implicitDefEqProofs [i120, c120, h1, h2, -beq_iff_eq, -beq_eq_false_iff_ne]
  | false =>
   cases hf : findD s l with
   | some d =>
    rw [hf] at l3
    obtain ⟨rfl, l4⟩ := l3
    simp -implicitDefEqProofs [i120, c120, h1, h2, hk, l2, l4, -beq_iff_eq, -beq_eq_false_iff_ne]
   | none =>
    rw [hf] at l3
    obtain ⟨rfl, l4⟩ := l3
    simp -implicitDefEqProofs [i120, c120, h1, h2, hk, l2, l4, -beq_iff_eq, -beq_eq_false_iff_ne]
mutual
def txT : Ps.Ty → Prop
 | .mk k n s ks => (k = 1 ∧ ks = [] ∨ k = 2) ∧ txTs ks
def txTs : List Ps.Ty → Prop
 | [] => True
 | t :: l => txT t ∧ txTs l
end
theorem lp101 (l : List Da) (nl : Bool) (v : Int) (K : Nat) (M : Int) (S : Str) (L : List AV) (hL : L.length < big) : ∀ (r : List Ps.Ty) (i : Nat), Tail L i (encYs r) → (∀ t ∈ r, Ans ctx 101 [encR 4 nl (encDs l), encY t, .int .i64 v] (.bool (rightT l v t))) →
  ∃ e fr', Lp ctx [] [] [0, 2, 4, 7, 8] b101_0 ⟨[(0, .v (encR 4 nl (encDs l))), (2, .v (.int .i64 v)), (4, .bx (.agg [.int .i64 K, .int .i64 M, .str S, encR 4 true L])), (7, .v (.int .i64 L.length)), (8, .v (.int .i64 i))], false⟩ [] e fr' [] ∧ fr'.lk = false ∧
   (match rightTs l v r with
   | true => e = .ex 1 ∧ getS fr'.sl 6 = .u
   | false => e = .ret ∧ getS fr'.sl 6 = .v (.bool false))
 | [], i, h, _ => by
  have h' := h.nil
  refine ⟨.ex 1, ?_, Lp.exit ⟨0, fun N _ => ?_⟩ (by simp), ?_⟩
  rotate_left
  ·simp -implicitDefEqProofs [b101_0, h']
   rfl
  ·exact ⟨by simp, by simp [rightTs]⟩
 | t :: r, i, h, hc => by
  have hlen := h.len
  simp only [encYs_cons] at h
  obtain ⟨g1, g2, g3, g4, g5⟩ := h.cons
  simp at hlen
  have hw := wrap_succ (n := i) (by omega)
  have g6 := g5 4 true
  obtain ⟨k, hk⟩ := hc t (by simp)
  rw [g6]
  unfold rightTs
  cases hr : rightT l v t with
  | false =>
   rw [hr] at hk
   refine ⟨.ret, ?_, Lp.exit ⟨k, fun N hN => ?_⟩ (by simp), ?_⟩
   rotate_left
   ·have hk := hk N hN
    simp -implicitDefEqProofs [b101_0, g1, g2, g3, hk]
    rfl
   ·exact ⟨by simp, by simp⟩
  | true =>
   rw [hr] at hk
   obtain ⟨e, fr', l1, l2, l3⟩ := lp101 l nl v K M S L hL r (i + 1) g4 (fun x hx => hc x (by simp [hx]))
   rw [g6] at l1
   refine ⟨e, fr', Lp.step ⟨k, fun N hN => ?_⟩ l1, l2, by simpa using l3⟩
   have hk := hk N hN
   simp -implicitDefEqProofs [b101_0, g1, g2, g3, hk, hw]
set_option maxHeartbeats 2000000 in
theorem rright_body {l : List Da} {nl : Bool} (hl : l.length < big) {v : Int} (k : Nat) (n : Int) (s : Str) (ks : List Ps.Ty) (hks : ks.length < big) (hx : k = 1 ∧ ks = [] ∨ k = 2) (h : ∀ t ∈ ks, Ans ctx 101 [encR 4 nl (encDs l), encY t, .int .i64 v] (.bool (rightT l v t))) :
  Ans ctx 101 [encR 4 nl (encDs l), encY (.mk k n s ks), .int .i64 v] (.bool (rightT l v (.mk k n s ks))) := by
 rw [encY_mk]
 rcases hx with ⟨rfl, rfl⟩ | rfl
 ·refine Ans.of (σ' := []) fn101_ (by simp) (by simp) ⟨0, fun N hN => ?_⟩
  simp only [rightT, rightTs, rightH, Bool.true_and, List.length_nil]
  by_cases hn : 0 ≤ n
  ·simp -implicitDefEqProofs [i101, c101, hn]
  ·simp -implicitDefEqProofs [i101, c101, hn]
 ·obtain ⟨e, fr', l1, l2, l3⟩ := lp101 l nl v 2 n s (encYs ks) (by simpa using hks) ks 0 (Tail.all _) h
  obtain ⟨k1, hk1⟩ := l1.den
  obtain ⟨k2, hk2⟩ := vars_ans l nl hl s
  refine Ans.of (σ' := []) fn101_ (by simp) (by simp) ⟨k1 + k2, fun N hN => ?_⟩
  have hk1 := hk1 N (by omega)
  have hk2 := hk2 N (by omega)
  simp only [encYs_length, Int.cast_ofNat_Int] at hk1
  have hm2 := beq_int ks.length 2
  simp only [rightT, rightH, eqS_iff, sArr, sComma]
  have e12 : Nat.beq 2 1 = false := rfl
  have e22 : Nat.beq 2 2 = true := rfl
  try simp only [eqS_iff]
  have fin : ∀ (P : Bool), (P = true → (∀ N, k1 + k2 ≤ N → True)) → True := fun _ _ => trivial
  cases h3 : s == [45, 62] with
  | true =>
   simp only
   cases h2 : Nat.beq ks.length 2 with
   | false =>
    rw [h2] at hm2
    have hm2 : ((ks.length : Int) != 2) = true := by
     have e2 : ((2 : Nat) : Int) = 2 := rfl
     rw [e2] at hm2
     rw [bne, ← hm2]; rfl
    simp -implicitDefEqProofs [i101, c101, h3, hm2, -beq_iff_eq, -bne_iff_ne]
   | true =>
    rw [h2] at hm2
    have hm2 : ((ks.length : Int) != 2) = false := by
     have e2 : ((2 : Nat) : Int) = 2 := rfl
     rw [e2] at hm2
     rw [bne, ← hm2]; rfl
    cases hr : rightTs l v ks with
    | true =>
     rw [hr] at l3
     obtain ⟨rfl, l4⟩ := l3
     simp -implicitDefEqProofs [i101, c101, h3, hm2, hk1, l2, l4, -beq_iff_eq, -bne_iff_ne]
    | false =>
     rw [hr] at l3
     obtain ⟨rfl, l4⟩ := l3
     simp -implicitDefEqProofs [i101, c101, h3, hm2, hk1, l2, l4, -beq_iff_eq, -bne_iff_ne]
  | false =>
   simp only
   cases h4 : s == [44] with
   | true =>
    simp only
    have hle1 := ble_int 2 ks.length
    have hle2 := ble_int ks.length 8
    simp only [Int.cast_ofNat_Int] at hle1 hle2
    rw [hle1, hle2]
    by_cases h5 : (2 : Int) ≤ (ks.length : Int)
    ·have h5' : ¬ (ks.length : Int) < 2 := by omega
     by_cases h6 : (ks.length : Int) ≤ 8
     ·have h6' : ¬ (8 : Int) < (ks.length : Int) := by omega
      cases hr : rightTs l v ks with
      | true =>
       rw [hr] at l3
       obtain ⟨rfl, l4⟩ := l3
       simp -implicitDefEqProofs [i101, c101, h3, h4, h5, h5', h6, h6', hk1, l2, l4, -beq_iff_eq, -beq_eq_false_iff_ne, -bne_iff_ne]
      | false =>
       rw [hr] at l3
       obtain ⟨rfl, l4⟩ := l3
       simp -implicitDefEqProofs [i101, c101, h3, h4, h5, h5', h6, h6', hk1, l2, l4, -beq_iff_eq, -beq_eq_false_iff_ne, -bne_iff_ne]
     ·have h6' : (8 : Int) < (ks.length : Int) := by omega
      simp -implicitDefEqProofs [i101, c101, h3, h4, h5, h5', h6, h6', -beq_iff_eq, -beq_eq_false_iff_ne, -bne_iff_ne]
    ·have h5' : (ks.length : Int) < 2 := by omega
     simp -implicitDefEqProofs [i101, c101, h3, h4, h5, h5', -beq_iff_eq, -beq_eq_false_iff_ne, -bne_iff_ne]
   | false =>
    simp only
    by_cases ha : (ks.length : Int) = arity l s
    ·have ha' : (arity l s != (ks.length : Int)) = false := by rw [bne, ha]; simp
     cases hr : rightTs l v ks with
     | true =>
      rw [hr] at l3
      obtain ⟨rfl, l4⟩ := l3
      simp -implicitDefEqProofs [i101, c101, h3, h4, ha, ha', hk1, hk2, l2, l4, -beq_iff_eq, -beq_eq_false_iff_ne, -bne_iff_ne]
     | false =>
      rw [hr] at l3
      obtain ⟨rfl, l4⟩ := l3
      simp -implicitDefEqProofs [i101, c101, h3, h4, ha, ha', hk1, hk2, l2, l4, -beq_iff_eq, -beq_eq_false_iff_ne, -bne_iff_ne]
    ·have ha' : (arity l s != (ks.length : Int)) = true := by simp; exact fun e => ha e.symm
     simp -implicitDefEqProofs [i101, c101, h3, h4, ha, ha', hk2, -beq_iff_eq, -beq_eq_false_iff_ne, -bne_iff_ne]
mutual
theorem rright_ans (l : List Da) (nl : Bool) (hl : l.length < big) (v : Int) : ∀ t : Ps.Ty, okT t → txT t → Ans ctx 101 [encR 4 nl (encDs l), encY t, .int .i64 v] (.bool (rightT l v t))
 | .mk k n s ks, h, hx => by
  unfold okT at h
  unfold txT at hx
  exact rright_body hl k n s ks (by have := h.1; unfold lim at this; unfold big; omega) hx.1 (rrights_ans l nl hl v ks h.2 hx.2)
theorem rrights_ans (l : List Da) (nl : Bool) (hl : l.length < big) (v : Int) : ∀ ts : List Ps.Ty, okTs ts → txTs ts → ∀ t ∈ ts, Ans ctx 101 [encR 4 nl (encDs l), encY t, .int .i64 v] (.bool (rightT l v t))
 | [], _, _, t, ht => by cases ht
 | u :: us, h, hx, t, ht => by
  unfold okTs at h
  unfold txTs at hx
  rcases List.mem_cons.1 ht with e | ht
  ·rw [e]; exact rright_ans l nl hl v u h.1 hx.1
  ·exact rrights_ans l nl hl v us h.2 hx.2 t ht
end
theorem eqS_symm (a b : Str) : eqS a b = eqS b a := by
 rw [eqS_iff, eqS_iff]; exact Bool.eq_iff_iff.2 ⟨fun h => by simpa using (eq_of_beq h).symm, fun h => by simpa using (eq_of_beq h).symm⟩
theorem eqS_refl (a : Str) : eqS a a = true := by rw [eqS_iff]; simp
theorem placeF_no : ∀ (l : List Str) (i : Nat) (s : Str), l.any (eqS s) = false → placeF i l s = -1
 | [], i, s, h => rfl
 | a :: l, i, s, h => by
  simp only [List.any_cons, Bool.or_eq_false_iff] at h
  have h1 := h.1
  rw [eqS_symm] at h1
  simp only [placeF, h1]
  exact placeF_no l (i + 1) s h.2
theorem placeF_yes : ∀ (l : List Str) (i : Nat) (s : Str), l.any (eqS s) = true → ∃ k : Nat, placeF i l s = (k : Int) ∧ i ≤ k ∧ k < i + l.length
 | [], i, s, h => by simp at h
 | a :: l, i, s, h => by
  simp only [placeF]
  cases h1 : eqS a s with
  | true => exact ⟨i, by simp, Nat.le_refl _, by simp⟩
  | false =>
   rw [eqS_symm] at h1
   simp only [List.any_cons, h1, Bool.false_or] at h
   obtain ⟨k, a1, a2, a3⟩ := placeF_yes l (i + 1) s h
   exact ⟨k, by simpa using a1, by omega, by simp; omega⟩
theorem placeF_app : ∀ (p r : List Str) (i : Nat) (s : Str), placeF i (p ++ s :: r) s = match p.any (eqS s) with | true => placeF i p s | false => ((i + p.length : Nat) : Int)
 | [], r, i, s => by simp [placeF, eqS_refl]
 | a :: p, r, i, s => by
  have := placeF_app p r (i + 1) s
  simp only [List.cons_append, placeF, List.any_cons]
  rw [eqS_symm a s]
  cases h1 : eqS s a with
  | true => simp
  | false =>
   simp only [Bool.false_or, Bool.false_eq_true, if_false]
   rw [this]
   cases p.any (eqS s) with
   | true => rfl
   | false => simp; omega
theorem place_no {l : List Str} {s : Str} (h : l.any (eqS s) = false) : place l s = -1 := placeF_no l 0 s h
theorem place_yes {l : List Str} {s : Str} (h : l.any (eqS s) = true) : 0 ≤ place l s := by
 obtain ⟨k, h1, _⟩ := placeF_yes l 0 s h
 unfold place; rw [h1]; omega
theorem place_lt {p r : List Str} {s : Str} (h : p.any (eqS s) = true) : place (p ++ s :: r) s < (p.length : Int) := by
 unfold place
 rw [placeF_app, h]
 obtain ⟨k, h1, h2, h3⟩ := placeF_yes p 0 s h
 simp only
 rw [h1]; omega
theorem place_ge {p r : List Str} {s : Str} (h : p.any (eqS s) = false) : place (p ++ s :: r) s = (p.length : Int) := by
 unfold place
 rw [placeF_app, h]
 simp
theorem place_st (C : List Str) (hC : C.length < big) (s : Str) : AnsH ctx 58 [rowV 0 C.length 1, .str s] (stH 1 (encSs C)) (.int .i64 (place C s)) (stH 1 (encSs C)) := by
 refine place_at (q := 1) ⟨⟨0, rfl, fun hv => ⟨by omega, false, ?_⟩⟩, hC⟩ s
 cases C with
 | nil => exact absurd rfl hv
 | cons a l => simp [stH]
theorem app_names (C : List Str) (hC : C.length ≤ 2 ^ 38) (s : Str) : appendH ⟨.str, 1, 16, .str [], [.str]⟩ (rowV 0 C.length 1) [.str s] (stH 1 (encSs C)) = some (rowV 0 (C ++ [s]).length 1, stH 1 (encSs (C ++ [s]))) := by
 have happ := app_own ⟨.str, 1, 16, .str [], [.str]⟩ (encSs C) (.str s) (by simp) (by simp; omega) (by simp; omega)
 simp only [encSs_length] at happ
 have e1 : encSs C ++ [.str s] = encSs (C ++ [s]) := by simp [encSs]
 rw [e1] at happ
 simp only [encSs_length] at happ
 exact happ
/-! ### membership is all that counts -/
theorem any_cons_congr {B B' : List Str} (h : ∀ s, B.any (eqS s) = B'.any (eqS s)) (x : Str) : ∀ s, (x :: B).any (eqS s) = (x :: B').any (eqS s) := fun s => by
 rw [List.any_cons, List.any_cons, h]
theorem any_app_congr {B B' : List Str} (h : ∀ s, B.any (eqS s) = B'.any (eqS s)) (l : List Str) : ∀ s, (l ++ B).any (eqS s) = (l ++ B').any (eqS s) := fun s => by
 rw [List.any_append, List.any_append, h]
mutual
theorem wrE_congr (ds : List Da) : ∀ (e : Ex) (B B' : List Str), (∀ s, B.any (eqS s) = B'.any (eqS s)) → wrE ds B e = wrE ds B' e
 | .mk k a s n ks as, B, B', h => by
  unfold wrE
  have e1 : headW ds B k a s = headW ds B' k a s := by unfold headW; rw [h s]
  rw [e1, wrK_congr ds k s 0 ks B B' h, wrA_congr ds as B B' [] h]
theorem wrK_congr (ds : List Da) (k : Nat) (s : Str) : ∀ (i : Nat) (l : List Ex) (B B' : List Str), (∀ s, B.any (eqS s) = B'.any (eqS s)) → wrK ds k s i B l = wrK ds k s i B' l
 | i, [], B, B', h => by unfold wrK; rfl
 | i, e :: l, B, B', h => by
  unfold wrK
  rw [wrE_congr ds e (s :: B) (s :: B') (any_cons_congr h s), wrE_congr ds e B B' h, wrK_congr ds k s (i + 1) l B B' h]
theorem wrA_congr (ds : List Da) : ∀ (l : List Al) (B B' had : List Str), (∀ s, B.any (eqS s) = B'.any (eqS s)) → wrA ds B had l = wrA ds B' had l
 | [], B, B', had, h => by unfold wrA; rfl
 | .mk a c ns b :: l, B, B', had, h => by
  unfold wrA
  rw [wrE_congr ds b (ns ++ B) (ns ++ B') (any_app_congr h ns), wrA_congr ds l B B' (c :: had) h]
end
theorem any_snoc (B : List Str) (x s : Str) : (B ++ [x]).any (eqS s) = (x :: B).any (eqS s) := by
 rw [List.any_append, List.any_cons, List.any_cons, List.any_nil, Bool.or_false, Bool.or_comm]
theorem any_swap (B l : List Str) (s : Str) : (B ++ l).any (eqS s) = (l ++ B).any (eqS s) := by
 rw [List.any_append, List.any_append, Bool.or_comm]
theorem memK_cons (had : List Key) (x : Str) (b : Bool) (s : Str) (c : Bool) : memK ((x, b) :: had) (s, c) = (eqS s x && (c == b) || memK had (s, c)) := by
 simp [memK, eqK]
theorem chkC_keeps (l : List Da) (v : Int) : ∀ (cs : List Cn) (had had' : List Key), chkC l v had cs = .ok had' → ∀ x, memK had' (x, false) = memK had (x, false)
 | [], had, had', h, x => by simp only [chkC, Except.ok.injEq] at h; rw [h]
 | c :: cs, had, had', h, x => by
  simp only [chkC] at h
  split at h
  ·cases h
  ·rw [chkC_keeps l v cs _ _ h x, memK_cons]; simp
def zW : AV := .agg [.int .i64 0, .int .i64 0]
def wW (e : Int) (a : Nat) : AV := .agg [.int .i64 e, .int .i64 a]
def Hi2 (n m : Nat) (fr : Fr) : Prop := ∀ t, n ≤ t → t < m → getS fr.sl t = .u
theorem lp67_0 (l : List Da) (L : List AV) (nl : Bool) (hL : L.length < big) (NV VV CV : AV) (σ : H) (s : Str) (a : Nat) (i : Nat) (X : List AV) : ∀ (r : List Da) (k : Nat), Tail L k (encDs r ++ X) → i = k + r.length →
  ∃ e fr', Lp ctx [92] [] [0, 2, 3, 4, 5, 6] b67_0 ⟨[(0, .v (encR 4 nl L)), (2, .bx zW), (3, .v NV), (4, .v (.int .i64 i)), (5, .bx (.agg [.str s, .int .i64 a, VV, CV])), (6, .v (.int .i64 k))], false⟩ σ e fr' σ ∧ fr'.lk = false ∧
   (match r.any (fun d => eqS d.s s) with
   | true => e = .ret ∧ getS fr'.sl 2 = .bx (wW 6 a)
   | false => e = .ex 2 ∧ getS fr'.sl 0 = .v (encR 4 nl L) ∧ getS fr'.sl 2 = .bx zW ∧ getS fr'.sl 3 = .v NV ∧ getS fr'.sl 4 = .v (.int .i64 i) ∧ getS fr'.sl 5 = .bx (.agg [.str s, .int .i64 a, VV, CV]) ∧ Hi2 7 32 fr' ∧ Hi2 35 115 fr')
 | [], k, h, hi => by
  simp only [List.length_nil, Nat.add_zero] at hi
  subst hi
  refine ⟨.ex 2, ?_, Lp.exit ⟨0, fun N _ => ?_⟩ (by simp), ?_⟩
  rotate_left
  ·simp -implicitDefEqProofs [b67_0]
   rfl
  ·refine ⟨by simp, rfl, by simp, by simp, by simp, by simp, by simp, fun t h1 h2 => ?_, fun t h1 h2 => ?_⟩
   all_goals simp only [getS]
   all_goals repeat rw [if_neg (by omega)]
 | d :: r, k, h, hi => by
  have hlen := h.len
  simp only [encDs_cons, List.cons_append] at h
  obtain ⟨g1, g2, g3, g4, g5⟩ := h.cons
  simp at hlen hi
  have hw := wrap_succ (n := k) (by omega)
  have g6 := g5 4 nl
  have hlt : (k : Int) < (i : Int) := by omega
  unfold encD at g1
  rw [List.any_cons, eqS_iff]
  rw [g6]
  cases hs : d.s == s with
  | true =>
   refine ⟨.ret, ?_, Lp.exit ⟨0, fun N hN => ?_⟩ (by simp), ?_⟩
   rotate_left
   ·simp -implicitDefEqProofs [b67_0, d67_0, g1, g2, g3, hs, hlt, zW, -beq_iff_eq]
    rfl
   ·simp [wW]
  | false =>
   obtain ⟨e, fr', l1, l2, l3⟩ := lp67_0 l L nl hL NV VV CV σ s a i X r (k + 1) g4 (by omega)
   rw [g6] at l1 l3
   refine ⟨e, fr', Lp.step ⟨0, fun N hN => ?_⟩ l1, l2, by simpa using l3⟩
   simp -implicitDefEqProofs [b67_0, d67_0, g1, g2, g3, hs, hlt, hw, zW, -beq_iff_eq, -beq_eq_false_iff_ne]
theorem lp67_1 (AL NV IV CV : AV) (σ : H) (s : Str) (a : Nat) (vs : List Str) (hL : vs.length < big) : ∀ (r pre : List Str), vs = pre ++ r →
  ∃ e fr', Lp ctx [92] [] [0, 2, 3, 4, 5, 7] b67_1 ⟨[(0, .v AL), (2, .bx zW), (3, .v NV), (4, .v IV), (5, .bx (.agg [.str s, .int .i64 a, encR 1 true (encSs vs), CV])), (7, .v (.int .i64 pre.length))], false⟩ σ e fr' σ ∧ fr'.lk = false ∧
   (match dupF pre r with
   | true => e = .ret ∧ getS fr'.sl 2 = .bx (wW 6 a)
   | false => e = .ex 4 ∧ getS fr'.sl 0 = .v AL ∧ getS fr'.sl 2 = .bx zW ∧ getS fr'.sl 3 = .v NV ∧ getS fr'.sl 4 = .v IV ∧ getS fr'.sl 5 = .bx (.agg [.str s, .int .i64 a, encR 1 true (encSs vs), CV]) ∧ Hi2 8 48 fr' ∧ Hi2 53 115 fr')
 | [], pre, h => by
  simp only [List.append_nil] at h
  subst h
  refine ⟨.ex 4, ?_, Lp.exit ⟨0, fun N _ => ?_⟩ (by simp), ?_⟩
  rotate_left
  ·simp -implicitDefEqProofs [b67_1]
   rfl
  ·refine ⟨by simp, rfl, by simp, by simp, by simp, by simp, by simp, fun t h1 h2 => ?_, fun t h1 h2 => ?_⟩
   all_goals simp only [getS]
   all_goals repeat rw [if_neg (by omega)]
 | x :: r, pre, h => by
  have ht : Tail (encSs vs) pre.length (encSs (x :: r)) := ⟨encSs pre, by simp, by rw [h]; simp [encSs]⟩
  simp only [encSs_cons] at ht
  obtain ⟨g1, g2, g3, g4, g5⟩ := ht.cons
  have hl : vs.length = pre.length + (r.length + 1) := by rw [h]; simp
  simp only [encSs_length] at g2 g3
  have hw := wrap_succ (n := pre.length) (by omega)
  have g6 := g5 1 true
  obtain ⟨k, hk⟩ := place_ans vs true hL x
  unfold dupF
  rw [g6] at hk ⊢
  cases hc : pre.any (eqS x) with
  | true =>
   have hp : place vs x < (pre.length : Int) := by rw [h]; exact place_lt hc
   refine ⟨.ret, ?_, Lp.exit ⟨k, fun N hN => ?_⟩ (by simp), ?_⟩
   rotate_left
   ·have hk := hk N hN
    simp -implicitDefEqProofs [b67_1, d67_2, g1, g2, g3, hk, hp, zW]
    rfl
   ·simp [wW]
  | false =>
   have hp : place vs x = (pre.length : Int) := by rw [h]; exact place_ge hc
   rw [hp] at hk
   obtain ⟨e, fr', l1, l2, l3⟩ := lp67_1 AL NV IV CV σ s a vs hL r (pre ++ [x]) (by rw [h]; simp)
   rw [g6] at l1 l3
   simp only [List.length_append, List.length_singleton] at l1
   refine ⟨e, fr', Lp.step ⟨k, fun N hN => ?_⟩ l1, l2, by simpa using l3⟩
   have hk := hk N hN
   simp -implicitDefEqProofs [b67_1, d67_2, g1, g2, g3, hk, hw, zW]
theorem lp67_2 (l : List Da) (nl : Bool) (NV IV KV CV : AV) (σ : H) (s : Str) (a : Nat) (vs : List Str) (cs : Str) (ca : Nat) (L : List AV) (hL : L.length < big) : ∀ (r : List Ps.Ty) (i : Nat), Tail L i (encYs r) → (∀ t ∈ r, Ans ctx 101 [encR 4 nl (encDs l), encY t, .int .i64 (vs.length : Nat)] (.bool (rightT l (vs.length : Nat) t))) →
  ∃ e fr', Lp ctx [92] [] [0, 2, 3, 4, 5, 8, 9, 10] b67_2 ⟨[(0, .v (encR 4 nl (encDs l))), (2, .bx zW), (3, .v NV), (4, .v IV), (5, .bx (.agg [.str s, .int .i64 a, encR 1 true (encSs vs), CV])), (8, .v KV), (9, .bx (.agg [.str cs, .int .i64 ca, encR 4 true L])), (10, .v (.int .i64 i))], false⟩ σ e fr' σ ∧ fr'.lk = false ∧
   (match rightTs l (vs.length : Nat) r with
   | false => e = .ret ∧ getS fr'.sl 2 = .bx (wW 6 ca)
   | true => e = .ex 8 ∧ getS fr'.sl 0 = .v (encR 4 nl (encDs l)) ∧ getS fr'.sl 2 = .bx zW ∧ getS fr'.sl 3 = .v NV ∧ getS fr'.sl 4 = .v IV ∧ getS fr'.sl 5 = .bx (.agg [.str s, .int .i64 a, encR 1 true (encSs vs), CV]) ∧ getS fr'.sl 8 = .v KV ∧ Hi2 11 93 fr' ∧ Hi2 98 115 fr')
 | [], i, h, _ => by
  have h' := h.nil
  refine ⟨.ex 8, ?_, Lp.exit ⟨0, fun N _ => ?_⟩ (by simp), ?_⟩
  rotate_left
  ·simp -implicitDefEqProofs [b67_2, h']
   rfl
  ·refine ⟨by simp, rfl, by simp, by simp, by simp, by simp, by simp, by simp, fun t h1 h2 => ?_, fun t h1 h2 => ?_⟩
   all_goals simp only [getS]
   all_goals repeat rw [if_neg (by omega)]
 | t :: r, i, h, hc => by
  have hlen := h.len
  simp only [encYs_cons] at h
  obtain ⟨g1, g2, g3, g4, g5⟩ := h.cons
  simp at hlen
  have hw := wrap_succ (n := i) (by omega)
  have g6 := g5 4 true
  obtain ⟨k, hk⟩ := hc t (by simp)
  rw [g6]
  unfold rightTs
  cases hr : rightT l (vs.length : Nat) t with
  | false =>
   rw [hr] at hk
   refine ⟨.ret, ?_, Lp.exit ⟨k, fun N hN => ?_⟩ (by simp), ?_⟩
   rotate_left
   ·have hk := hk N hN
    simp -implicitDefEqProofs [b67_2, d67_4, g1, g2, g3, hk, zW]
    rfl
   ·simp [wW]
  | true =>
   rw [hr] at hk
   obtain ⟨e, fr', l1, l2, l3⟩ := lp67_2 l nl NV IV KV CV σ s a vs cs ca L hL r (i + 1) g4 (fun x hx => hc x (by simp [hx]))
   rw [g6] at l1
   refine ⟨e, fr', Lp.step ⟨k, fun N hN => ?_⟩ l1, l2, by simpa using l3⟩
   have hk := hk N hN
   simp -implicitDefEqProofs [b67_2, d67_4, g1, g2, g3, hk, hw, zW]
set_option maxHeartbeats 2000000 in
theorem lp67_3 (l : List Da) (nl : Bool) (IV : AV) (s : Str) (a : Nat) (vs : List Str) (CS : List AV) (hC : CS.length < big) : ∀ (r : List Cn) (i : Nat) (C : List Str) (had : List Key), Tail CS i (encCs r) → (∀ x, memK had (x, true) = C.any (eqS x)) → C.length + r.length ≤ 2 ^ 38 →
  (∀ c ∈ r, c.as.length < big ∧ ∀ t ∈ c.as, Ans ctx 101 [encR 4 nl (encDs l), encY t, .int .i64 (vs.length : Nat)] (.bool (rightT l (vs.length : Nat) t))) →
  ∃ e fr' σ', Lp ctx [92] [] [0, 2, 3, 4, 5, 8] b67_3 ⟨[(0, .v (encR 4 nl (encDs l))), (2, .bx zW), (3, .v (rowV 0 C.length 1)), (4, .v IV), (5, .bx (.agg [.str s, .int .i64 a, encR 1 true (encSs vs), encR 3 true CS])), (8, .v (.int .i64 i))], false⟩ (stH 1 (encSs C)) e fr' σ' ∧ fr'.lk = false ∧
   (match chkC l (vs.length : Nat) had r with
   | .error x => e = .ret ∧ getS fr'.sl 2 = .bx (wW 6 x)
   | .ok had' => ∃ C', e = .ex 6 ∧ σ' = stH 1 (encSs C') ∧ (∀ x, memK had' (x, true) = C'.any (eqS x)) ∧ C'.length = C.length + r.length ∧ getS fr'.sl 0 = .v (encR 4 nl (encDs l)) ∧ getS fr'.sl 2 = .bx zW ∧ getS fr'.sl 3 = .v (rowV 0 C'.length 1) ∧ getS fr'.sl 4 = .v IV ∧ Hi2 9 68 fr' ∧ Hi2 73 115 fr')
 | [], i, C, had, h, hm, hb, _ => by
  have h' := h.nil
  refine ⟨.ex 6, ?_, stH 1 (encSs C), Lp.exit ⟨0, fun N _ => ?_⟩ (by simp), ?_⟩
  rotate_left
  ·simp -implicitDefEqProofs [b67_3, h']
   rfl
  ·refine ⟨by simp, C, rfl, rfl, hm, by simp, by simp, by simp, by simp, by simp, fun t h1 h2 => ?_, fun t h1 h2 => ?_⟩
   all_goals simp only [getS]
   all_goals repeat rw [if_neg (by omega)]
 | c :: r, i, C, had, h, hm, hb, hc => by
  have hlen := h.len
  simp only [encCs_cons] at h
  obtain ⟨g1, g2, g3, g4, g5⟩ := h.cons
  simp at hlen hb
  have hw := wrap_succ (n := i) (by omega)
  have g6 := g5 3 true
  obtain ⟨hc1, hc2⟩ := hc c (by simp)
  obtain ⟨k1, hk1⟩ := place_st C (by unfold big; omega) c.s
  have happ := app_names C (by omega) c.s
  obtain ⟨C1, hC1⟩ : ∃ C1, C1 = C ++ [c.s] := ⟨_, rfl⟩
  have hl1 : C1.length = C.length + 1 := by rw [hC1]; simp
  rw [← hC1] at happ
  obtain ⟨e2, fr2, q1, q2, q3⟩ := lp67_2 l nl (rowV 0 C1.length 1) IV (.int .i64 i) (encR 3 true CS) (stH 1 (encSs C1)) s a vs c.s c.a (encYs c.as) (by simpa using hc1) c.as 0 (Tail.all _) hc2
  obtain ⟨k2, hk2⟩ := q1.den
  unfold encC at g1
  unfold chkC
  rw [g6] at hk2 ⊢
  simp only [Int.cast_ofNat_Int] at hk2
  rw [hm]
  cases hany : C.any (eqS c.s) with
  | true =>
   have hp := place_yes hany
   simp only [Bool.true_or]
   refine ⟨.ret, ?_, stH 1 (encSs C), Lp.exit ⟨k1, fun N hN => ?_⟩ (by simp), ?_⟩
   rotate_left
   ·have hk1 := hk1 N hN
    simp -implicitDefEqProofs [b67_3, g1, g2, g3, hk1, hp, zW]
    rfl
   ·simp [wW]
  | false =>
   rw [place_no hany] at hk1
   simp only [Bool.false_or]
   cases hr : rightTs l (vs.length : Nat) c.as with
   | false =>
    rw [hr] at q3
    obtain ⟨rfl, q4⟩ := q3
    refine ⟨.ret, fr2, stH 1 (encSs C1), Lp.exit ⟨k1 + k2, fun N hN => ?_⟩ (by simp), ?_⟩
    ·have hk1 := hk1 N (by omega)
     have hk2 := hk2 N (by omega)
     simp -implicitDefEqProofs [b67_3, g1, g2, g3, hk1, hk2, happ, q2, -appendH]
    ·exact ⟨q2, rfl, q4⟩
   | true =>
    rw [hr] at q3
    obtain ⟨rfl, q4, q5, q6, q7, q8, q9, q10, q11⟩ := q3
    have hm' : ∀ x, memK ((c.s, true) :: had) (x, true) = C1.any (eqS x) := fun x => by
     rw [memK_cons, hC1, any_snoc, List.any_cons, hm]; simp
    obtain ⟨e, fr', σ', l1, l2, l3⟩ := lp67_3 l nl IV s a vs CS hC r (i + 1) C1 ((c.s, true) :: had) g4 hm' (by omega) (fun x hx => hc x (by simp [hx]))
    rw [g6] at l1 q8
    unfold Hi2 at q10 q11
    refine ⟨e, fr', σ', Lp.step ⟨k1 + k2, fun N hN => ?_⟩ l1, l2, ?_⟩
    ·have hk1 := hk1 N (by omega)
     have hk2 := hk2 N (by omega)
     simp -implicitDefEqProofs [b67_3, g1, g2, g3, hk1, hk2, happ, hw, q2, q4, q5, q6, q7, q8, q9, q10, q11, -appendH]
    ·simp only [Bool.not_true]
     cases hk : chkC l (vs.length : Nat) ((c.s, true) :: had) r with
     | error x => rw [hk] at l3; exact l3
     | ok had' =>
      rw [hk] at l3
      obtain ⟨C', a1, a2, a3, a4, a5⟩ := l3
      exact ⟨C', a1, a2, a3, by simp at a4 ⊢; omega, a5⟩
def sumC : List Da → Nat
 | [] => 0
 | d :: l => d.cs.length + sumC l
def txD (d : Da) : Prop := ∀ c ∈ d.cs, txTs c.as
theorem rrights_of {l : List Da} {nl : Bool} (hl : l.length < big) {d : Da} (hd : okD d) (ht : txD d) : ∀ c ∈ d.cs, c.as.length < big ∧ ∀ t ∈ c.as, Ans ctx 101 [encR 4 nl (encDs l), encY t, .int .i64 (d.vs.length : Nat)] (.bool (rightT l (d.vs.length : Nat) t)) := fun c hc => by
 have h1 := hd.2.2 c hc
 refine ⟨?_, rrights_ans l nl hl _ c.as h1.2 (ht c hc)⟩
 have := h1.1
 unfold lim at this; unfold big; omega
def wO : Option Nat → AV
 | some x => wW 6 x
 | none => zW
set_option maxHeartbeats 4000000 in
theorem lp67_4 (l : List Da) (nl : Bool) (hl : l.length < big) (hok : ∀ d ∈ l, okD d ∧ txD d) : ∀ (r pre : List Da) (C : List Str) (had : List Key), l = pre ++ r → (∀ x, memK had (x, true) = C.any (eqS x)) → (∀ x, memK had (x, false) = (eqS x sInt || (eqS x sBool || pre.any (fun d => eqS d.s x)))) → C.length + sumC r ≤ 2 ^ 38 →
  ∃ e fr' σ', Lp ctx [92] [] [0, 2, 3, 4] b67_4 ⟨[(0, .v (encR 4 nl (encDs l))), (2, .bx zW), (3, .v (rowV 0 C.length 1)), (4, .v (.int .i64 pre.length))], false⟩ (stH 1 (encSs C)) e fr' σ' ∧ fr'.lk = false ∧
   (match chkD l had r with
   | some x => e = .ret ∧ getS fr'.sl 2 = .bx (wW 6 x)
   | none => e = .ex 0 ∧ getS fr'.sl 2 = .bx zW ∧ getS fr'.sl 114 = .u)
 | [], pre, C, had, h, hm, hf, hb => by
  simp only [List.append_nil] at h
  subst h
  refine ⟨.ex 0, ?_, stH 1 (encSs C), Lp.exit ⟨0, fun N _ => ?_⟩ (by simp), ?_⟩
  rotate_left
  ·simp -implicitDefEqProofs [b67_4]
   rfl
  ·exact ⟨by simp, rfl, by simp, by simp⟩
 | d :: r, pre, C, had, h, hm, hf, hb => by
  have ht : Tail (encDs l) pre.length (encDs (d :: r)) := ⟨encDs pre, by simp, by rw [h]; simp [encDs]⟩
  simp only [encDs_cons] at ht
  obtain ⟨g1, g2, g3, g4, g5⟩ := ht.cons
  have hlen : l.length = pre.length + (r.length + 1) := by rw [h]; simp
  simp only [encDs_length] at g2 g3
  have hw := wrap_succ (n := pre.length) (by omega)
  have g6 := g5 4 nl
  obtain ⟨hd1, hd2⟩ := hok d (by rw [h]; simp)
  have hvl := hd1.1
  have hcl := hd1.2.1
  unfold lim at hvl hcl
  simp only [sumC] at hb
  -- the three loops
  obtain ⟨e0, fr0, p1, p2, p3⟩ := lp67_0 l (encDs l) nl (by simpa using hl) (rowV 0 C.length 1) (encR 1 true (encSs d.vs)) (encR 3 true (encCs d.cs)) (stH 1 (encSs C)) d.s d.a pre.length (encDs (d :: r)) pre 0 ⟨[], rfl, by rw [h]; simp [encDs]⟩ (by simp)
  obtain ⟨k0, hk0⟩ := p1.den
  obtain ⟨e1, fr1, q1, q2, q3⟩ := lp67_1 (encR 4 nl (encDs l)) (rowV 0 C.length 1) (.int .i64 pre.length) (encR 3 true (encCs d.cs)) (stH 1 (encSs C)) d.s d.a d.vs (by unfold big; omega) d.vs [] rfl
  obtain ⟨k1, hk1⟩ := q1.den
  have hm' : ∀ x, memK ((d.s, false) :: had) (x, true) = C.any (eqS x) := fun x => by rw [memK_cons, hm]; simp
  obtain ⟨e2, fr2, σ2, s1, s2, s3⟩ := lp67_3 l nl (.int .i64 pre.length) d.s d.a d.vs (encCs d.cs) (by simp; unfold big; omega) d.cs 0 C ((d.s, false) :: had) (Tail.all _) hm' (by omega) (rrights_of hl hd1 hd2)
  obtain ⟨k2, hk2⟩ := s1.den
  rw [dupF_eq] at q3
  have hdup : ((d.vs.any fun s => ([] : List Str).any (eqS s)) || dupS d.vs) = dupS d.vs := by simp
  rw [hdup] at q3
  unfold encD at g1
  unfold chkD
  have ei : eqS d.s sInt = (d.s == [73, 110, 116]) := eqS_iff _ _
  have eb : eqS d.s sBool = (d.s == [66, 111, 111, 108]) := eqS_iff _ _
  rw [hf, ei, eb]
  rw [g6] at hk0 hk1 hk2 p3 q3 s3 ⊢
  simp only [Int.cast_ofNat_Int, List.length_nil] at hk0 hk1 hk2
  cases h1 : d.s == [73, 110, 116] with
  | true =>
   try simp only [Bool.true_or]
   refine ⟨.ret, ?_, stH 1 (encSs C), Lp.exit ⟨0, fun N hN => ?_⟩ (by simp), ?_⟩
   rotate_left
   ·simp -implicitDefEqProofs [b67_4, g1, g2, g3, h1, zW, -beq_iff_eq]
    rfl
   ·simp [wW]
  | false =>
  cases h2 : d.s == [66, 111, 111, 108] with
  | true =>
   try simp only [Bool.true_or, Bool.false_or]
   refine ⟨.ret, ?_, stH 1 (encSs C), Lp.exit ⟨0, fun N hN => ?_⟩ (by simp), ?_⟩
   rotate_left
   ·simp -implicitDefEqProofs [b67_4, g1, g2, g3, h1, h2, zW, -beq_iff_eq, -beq_eq_false_iff_ne]
    rfl
   ·simp [wW]
  | false =>
  try simp only [Bool.false_or]
  cases h3 : pre.any (fun x => eqS x.s d.s) with
  | true =>
   rw [h3] at p3
   obtain ⟨rfl, p4⟩ := p3
   try simp only [Bool.true_or]
   refine ⟨.ret, fr0, stH 1 (encSs C), Lp.exit ⟨k0, fun N hN => ?_⟩ (by simp), p2, rfl, p4⟩
   have hk0 := hk0 N (by omega)
   simp -implicitDefEqProofs [b67_4, g1, g2, g3, h1, h2, hk0, -beq_iff_eq, -beq_eq_false_iff_ne]
  | false =>
  rw [h3] at p3
  obtain ⟨rfl, p4, p5, p6, p7, p8, p9, p10⟩ := p3
  unfold Hi2 at p9 p10
  try simp only [Bool.false_or]
  cases h4 : dupS d.vs with
  | true =>
   rw [h4] at q3
   obtain ⟨rfl, q4⟩ := q3
   refine ⟨.ret, fr1, stH 1 (encSs C), Lp.exit ⟨k0 + k1, fun N hN => ?_⟩ (by simp), q2, rfl, q4⟩
   have hk0 := hk0 N (by omega)
   have hk1 := hk1 N (by omega)
   simp -implicitDefEqProofs [b67_4, g1, g2, g3, h1, h2, hk0, hk1, p2, p4, p5, p6, p7, p8, p9, p10, -beq_iff_eq, -beq_eq_false_iff_ne]
  | false =>
  rw [h4] at q3
  obtain ⟨rfl, q4, q5, q6, q7, q8, q9, q10⟩ := q3
  unfold Hi2 at q9 q10
  simp only
  cases h5 : chkC l (d.vs.length : Nat) ((d.s, false) :: had) d.cs with
  | error x =>
   rw [h5] at s3
   obtain ⟨rfl, s4⟩ := s3
   refine ⟨.ret, fr2, σ2, Lp.exit ⟨k0 + k1 + k2, fun N hN => ?_⟩ (by simp), s2, rfl, s4⟩
   have hk0 := hk0 N (by omega)
   have hk1 := hk1 N (by omega)
   have hk2 := hk2 N (by omega)
   simp -implicitDefEqProofs [b67_4, g1, g2, g3, h1, h2, hk0, hk1, hk2, p2, p4, p5, p6, p7, p8, p9, p10, q2, q4, q5, q6, q7, q8, q9, q10, -beq_iff_eq, -beq_eq_false_iff_ne]
  | ok had' =>
   rw [h5] at s3
   obtain ⟨C', rfl, rfl, s4, s5, s6, s7, s8, s9, s10, s11⟩ := s3
   unfold Hi2 at s10 s11
   have hf' : ∀ x, memK had' (x, false) = (eqS x sInt || (eqS x sBool || (pre ++ [d]).any (fun d => eqS d.s x))) := fun x => by
    rw [chkC_keeps l _ d.cs _ _ h5 x, memK_cons, hf, List.any_append, List.any_cons, List.any_nil, Bool.or_false, eqS_symm x d.s]
    cases eqS d.s x <;> cases eqS x sInt <;> cases eqS x sBool <;> cases (pre.any fun d => eqS d.s x) <;> rfl
   obtain ⟨e, fr', σ', l1, l2, l3⟩ := lp67_4 l nl hl hok r (pre ++ [d]) C' had' (by rw [h]; simp) s4 hf' (by omega)
   rw [g6] at l1
   simp only [List.length_append, List.length_singleton] at l1
   refine ⟨e, fr', σ', Lp.step ⟨k0 + k1 + k2, fun N hN => ?_⟩ l1, l2, l3⟩
   have hk0 := hk0 N (by omega)
   have hk1 := hk1 N (by omega)
   have hk2 := hk2 N (by omega)
   simp -implicitDefEqProofs [b67_4, g1, g2, g3, h1, h2, hw, hk0, hk1, hk2, p2, p4, p5, p6, p7, p8, p9, p10, q2, q4, q5, q6, q7, q8, q9, q10, s2, s6, s7, s8, s9, s10, s11, -beq_iff_eq, -beq_eq_false_iff_ne]
theorem rcheckData_ans (l : List Da) (nl : Bool) (hl : l.length < big) (hok : ∀ d ∈ l, okD d ∧ txD d) (hs : sumC l ≤ 2 ^ 38) : Ans ctx 67 [encR 4 nl (encDs l)] (wO (checkData l)) := by
 obtain ⟨e, fr', σ', l1, l2, l3⟩ := lp67_4 l nl hl hok l [] [] [(sInt, false), (sBool, false)] rfl (fun x => by simp [memK, eqK]) (fun x => by rw [memK_cons, memK_cons]; simp [memK]) (by simpa using hs)
 obtain ⟨k, hk⟩ := l1.den
 unfold checkData
 have e0 : rowV 0 ([] : List Str).length 1 = .nil := rfl
 have e1 : stH 1 (encSs []) = [] := rfl
 rw [e0, e1] at hk
 simp only [Int.cast_ofNat_Int, List.length_nil] at hk
 cases hc : chkD l [(sInt, false), (sBool, false)] l with
 | some x =>
  rw [hc] at l3
  obtain ⟨rfl, l4⟩ := l3
  refine Ans.of (σ' := σ') fn67_ (by simp) (by simp [wO, wW]) ⟨k, fun N hN => ?_⟩
  have hk := hk N hN
  unfold zW at hk
  unfold wW at l4
  simp -implicitDefEqProofs [i67, c67, hk, l2, l4, wO, wW]
 | none =>
  rw [hc] at l3
  obtain ⟨rfl, l4, l5⟩ := l3
  refine Ans.of (σ' := σ') fn67_ (by simp) (by simp [wO, zW]) ⟨k, fun N hN => ?_⟩
  have hk := hk N hN
  unfold zW at hk l4
  simp -implicitDefEqProofs [i67, c67, hk, l2, l4, l5, wO, wW, zW]
theorem elemsM_encS (nl : Bool) (l : List AV) : elemsM ⟨.str, 1, 16, .str [], [.str]⟩ (encR 1 nl l) = pureM l := by
 cases nl <;> cases l <;> rfl
theorem elemsM_sl (l : List AV) : elemsM ⟨.str, 1, 16, .str [], [.str]⟩ (.sl 1 l) = pureM l := rfl
theorem fitS : ∀ B : List Str, fitAll ⟨.str, 1, 16, .str [], [.str]⟩ (encSs B) = true
 | [] => rfl
 | s :: B => by
  have := fitS B
  simp [encSs, fitAll] at this ⊢
  exact this
theorem setCells_nil (l : List AV) (o : Nat) : setCells l o [] = l := rfl
theorem app_end (σ : H) (xs ys : List Str) (n : Nat) (hn : xs.length = n) (hb : n + ys.length ≤ 2 ^ 41) :
  appendH ⟨.str, 1, 16, .str [], [.str]⟩ (.hs σ.length n 0 n 1) (encSs ys) (σ ++ [.arr false 1 (encSs xs)]) = some (.hs σ.length (n + ys.length) 0 (n + ys.length) 1, σ ++ [.arr false 1 (encSs (xs ++ ys))]) := by
 have hf := fitS ys
 have h1 : (σ ++ [HObj.arr false 1 (encSs xs)])[σ.length]? = some (.arr false 1 (encSs xs)) := by simp
 have hl : (encSs xs).length = n := by simp [hn]
 have ht : (encSs xs).take n = encSs xs := List.take_of_length_le (by simp [hn])
 unfold appendH arrAt
 simp only [h1, hl, if_true]
 rw [if_pos ⟨trivial, trivial, by omega, by simp; omega, by simp; omega, hf⟩]
 cases ys with
 | nil =>
  simp [encSs, setCells_nil]
 | cons y ys =>
  rw [if_neg (by simp)]
  simp only [if_true, ht]
  have : encSs xs ++ encSs (y :: ys) = encSs (xs ++ y :: ys) := by simp [encSs]
  rw [this]
  simp
def wO7 : Option Nat → AV
 | some x => wW 7 x
 | none => zW
def PV (ds : List Da) (bs : List AV) : AV := .agg [encR 4 true (encDs ds), encR 8 true bs]
def ScOK (ds : List Da) (bs : List AV) (e : Ex) : Prop := ∀ (B : List Str) (nl : Bool), B.length + bdE e ≤ 2 ^ 40 → Ans ctx 68 [PV ds bs, encE e, encR 1 nl (encSs B)] (wO7 (wrE ds B e))
theorem ScOK.row {ds : List Da} {bs : List AV} (hP : (PV ds bs).noRef = true) {e : Ex} (h : ScOK ds bs e) (B : List Str) (hB : B.length + bdE e ≤ 2 ^ 40) (σ : H) (n : Nat) (hn : B.length = n) :
  AnsH ctx 68 [PV ds bs, encE e, .hs σ.length n 0 n 1] (σ ++ [.arr false 1 (encSs B)]) (wO7 (wrE ds B e)) (σ ++ [.arr true 1 (encSs B)]) := by
 have h1 : (σ ++ [HObj.arr false 1 (encSs B)])[σ.length]? = some (.arr false 1 (encSs B)) := by simp
 have ht : (encSs B).take n = encSs B := List.take_of_length_le (by simp [hn])
 have h2 := snapA_hs (n := 199) (v := n) (m := n) h1 (by simp [hn]) (Nat.le_refl _) (by rw [ht]; simp)
 rw [ht] at h2
 have hsn : snapL (σ ++ [HObj.arr false 1 (encSs B)]) [PV ds bs, encE e, .hs σ.length n 0 n 1] = some ([PV ds bs, encE e, .sl 1 (encSs B)], [σ.length]) := by
  simp only [snapL, mapO2, h2, snapA_noRef hP, snapA_noRef (a := encE e) (by simp), List.append_nil, List.nil_append]
 have hq := h B false hB
 rw [encR_false] at hq
 have hnr : AV.noRefs [PV ds bs, encE e, .sl 1 (encSs B)] = true := by simp [AV.noRefs, hP]
 have := AnsH.lay (ns := [σ.length]) fn68_ (by simp [AV.noRefs, AV.noRef]) hsn hnr hq
 have hfz : frzH (σ ++ [HObj.arr false 1 (encSs B)]) [σ.length] = σ ++ [.arr true 1 (encSs B)] := by simp [frzH]
 cases hw : wrE ds B e with
 | none => rw [hw] at this; rw [← hfz]; exact this
 | some x => rw [hw] at this; rw [← hfz]; exact this
set_option maxHeartbeats 2000000 in
theorem lp68_0 (ds : List Da) (bs : List AV) (hP : (PV ds bs).noRef = true) (B : List Str) (nb : Bool) (K A : Nat) (S : Str) (N' : Nat) (L : List AV) (C5 : AV) (hL : L.length < big) : ∀ (r : List Ex) (i : Nat) (σ : H), Tail L i (encEs r) → B.length + 1 + bdEs r ≤ 2 ^ 40 → (∀ e ∈ r, ScOK ds bs e) →
  ∃ e fr' σ', Lp ctx [66, 68, 72, 167, 169, 172] [] [2, 3, 4, 6, 9] b68_0 ⟨[(2, .v (encR 1 nb (encSs B))), (3, .bx (PV ds bs)), (4, .bx (.agg [.int .i64 K, .int .i64 A, .str S, .int .i64 N', encR 6 true L, C5])), (6, .bx zW), (9, .v (.int .i64 i))], false⟩ σ e fr' σ' ∧ fr'.lk = false ∧
   (match wrK ds K S i B r with
   | some x => e = .ret ∧ getS fr'.sl 6 = .bx (wW 7 x)
   | none => e = .ex 1 ∧ getS fr'.sl 2 = .v (encR 1 nb (encSs B)) ∧ getS fr'.sl 3 = .bx (PV ds bs) ∧ getS fr'.sl 4 = .bx (.agg [.int .i64 K, .int .i64 A, .str S, .int .i64 N', encR 6 true L, C5]) ∧ getS fr'.sl 6 = .bx zW ∧ Hi2 10 46 fr' ∧ Hi2 51 179 fr')
 | [], i, σ, h, _, _ => by
  have h' := h.nil
  refine ⟨.ex 1, ?_, σ, Lp.exit ⟨0, fun N _ => ?_⟩ (by simp), ?_⟩
  rotate_left
  ·simp -implicitDefEqProofs [b68_0, h']
   rfl
  ·refine ⟨by simp, rfl, by simp, by simp, by simp, by simp, fun t h1 h2 => ?_, fun t h1 h2 => ?_⟩
   all_goals simp only [getS]
   all_goals repeat rw [if_neg (by omega)]
 | e :: r, i, σ, h, hb, he => by
  have hlen := h.len
  simp only [encEs_cons] at h
  obtain ⟨g1, g2, g3, g4, g5⟩ := h.cons
  simp at hlen
  simp only [bdEs] at hb
  have hw := wrap_succ (n := i) (by omega)
  have g6 := g5 6 true
  have e6 : ((K : Int) == 6) = Nat.beq K 6 := (beq_int K 6).symm
  have e7 : ((K : Int) == 7) = Nat.beq K 7 := (beq_int K 7).symm
  have e1 : ((i : Int) == 1) = Nat.beq i 1 := (beq_int i 1).symm
  have hbk : bindsK K i = (((K : Int) == 6) || (((K : Int) == 7) && ((i : Int) == 1))) := by rw [e6, e7, e1]; rfl
  have hels := elemsM_encS nb (encSs B)
  have ap1 := app_end σ [] B 0 rfl (by omega)
  have ap2 := app_end σ B [S] B.length rfl (by simp; omega)
  obtain ⟨B1, hB1⟩ : ∃ B1, B1 = B ++ [S] := ⟨_, rfl⟩
  have hl1 : B1.length = B.length + 1 := by rw [hB1]; simp
  rw [← hB1] at ap2
  have es1 : encSs [S] = [.str S] := rfl
  have es0 : encSs ([] : List Str) = [] := rfl
  simp only [List.nil_append, es0, es1, Nat.zero_add, List.length_singleton] at ap1 ap2
  have hc := wrE_congr ds e B1 (S :: B) (fun s => by rw [hB1]; exact any_snoc B S s)
  obtain ⟨k1, hk1⟩ := (he e (by simp)).row hP B1 (by omega) σ (B.length + 1) hl1
  obtain ⟨k2, hk2⟩ := he e (by simp) B nb (by omega)
  rw [hc] at hk1
  unfold PV wO7 zW at hk1 hk2
  unfold PV zW at *
  rw [g6]
  unfold wrK
  rw [hbk]
  cases c6 : ((K : Int) == 6) with
  | true =>
   try simp only [Bool.true_or, Bool.false_or, Bool.false_and, Bool.true_and, Bool.and_false, Bool.and_true]
   cases hwr : wrE ds (S :: B) e with
   | some x =>
    rw [hwr] at hk1
    refine ⟨.ret, ?_, σ ++ [.arr true 1 (encSs B1)], Lp.exit ⟨k1, fun N hN => ?_⟩ (by simp), ?_⟩
    rotate_left
    ·have hk1 := hk1 N hN
     simp only [wW] at hk1
     simp -implicitDefEqProofs [b68_0, d68_0, g1, g2, g3, hk1, hels, elemsM_sl, ap1, ap2, c6, -appendH, -elemsM, -beq_iff_eq, -beq_eq_false_iff_ne]
     rfl
    ·simp [wW]
   | none =>
    rw [hwr] at hk1
    obtain ⟨ex, fr', σ', l1, l2, l3⟩ := lp68_0 ds bs hP B nb K A S N' L C5 hL r (i + 1) (σ ++ [.arr true 1 (encSs B1)]) g4 (by omega) (fun x hx => he x (by simp [hx]))
    unfold PV zW at l1 l3
    rw [g6] at l1 l3
    refine ⟨ex, fr', σ', Lp.step ⟨k1, fun N hN => ?_⟩ l1, l2, l3⟩
    have hk1 := hk1 N hN
    simp only at hk1
    simp -implicitDefEqProofs [b68_0, d68_0, g1, g2, g3, hw, hk1, hels, elemsM_sl, ap1, ap2, c6, -appendH, -elemsM, -beq_iff_eq, -beq_eq_false_iff_ne]
  | false =>
   cases c7 : ((K : Int) == 7) with
   | false =>
    try simp only [Bool.true_or, Bool.false_or, Bool.false_and, Bool.true_and, Bool.and_false, Bool.and_true]
    cases hwr : wrE ds B e with
    | some x =>
     rw [hwr] at hk2
     refine ⟨.ret, ?_, σ, Lp.exit ⟨k2, fun N hN => ?_⟩ (by simp), ?_⟩
     rotate_left
     ·have hk2 := hk2 N hN
      simp only [wW] at hk2
      simp -implicitDefEqProofs [b68_0, d68_0, g1, g2, g3, hk2, c6, c7, -appendH, -elemsM, -beq_iff_eq, -beq_eq_false_iff_ne]
      rfl
     ·simp [wW]
    | none =>
     rw [hwr] at hk2
     obtain ⟨ex, fr', σ', l1, l2, l3⟩ := lp68_0 ds bs hP B nb K A S N' L C5 hL r (i + 1) (σ) g4 (by omega) (fun x hx => he x (by simp [hx]))
     unfold PV zW at l1 l3
     rw [g6] at l1 l3
     refine ⟨ex, fr', σ', Lp.step ⟨k2, fun N hN => ?_⟩ l1, l2, l3⟩
     have hk2 := hk2 N hN
     simp only at hk2
     simp -implicitDefEqProofs [b68_0, d68_0, g1, g2, g3, hw, hk2, c6, c7, -appendH, -elemsM, -beq_iff_eq, -beq_eq_false_iff_ne]
   | true =>
    cases c1 : ((i : Int) == 1) with
    | true =>
     try simp only [Bool.true_or, Bool.false_or, Bool.false_and, Bool.true_and, Bool.and_false, Bool.and_true]
     cases hwr : wrE ds (S :: B) e with
     | some x =>
      rw [hwr] at hk1
      refine ⟨.ret, ?_, σ ++ [.arr true 1 (encSs B1)], Lp.exit ⟨k1, fun N hN => ?_⟩ (by simp), ?_⟩
      rotate_left
      ·have hk1 := hk1 N hN
       simp only [wW] at hk1
       simp -implicitDefEqProofs [b68_0, d68_0, g1, g2, g3, hk1, hels, elemsM_sl, ap1, ap2, c6, c7, c1, -appendH, -elemsM, -beq_iff_eq, -beq_eq_false_iff_ne]
       rfl
      ·simp [wW]
     | none =>
      rw [hwr] at hk1
      obtain ⟨ex, fr', σ', l1, l2, l3⟩ := lp68_0 ds bs hP B nb K A S N' L C5 hL r (i + 1) (σ ++ [.arr true 1 (encSs B1)]) g4 (by omega) (fun x hx => he x (by simp [hx]))
      unfold PV zW at l1 l3
      rw [g6] at l1 l3
      refine ⟨ex, fr', σ', Lp.step ⟨k1, fun N hN => ?_⟩ l1, l2, l3⟩
      have hk1 := hk1 N hN
      simp only at hk1
      simp -implicitDefEqProofs [b68_0, d68_0, g1, g2, g3, hw, hk1, hels, elemsM_sl, ap1, ap2, c6, c7, c1, -appendH, -elemsM, -beq_iff_eq, -beq_eq_false_iff_ne]
    | false =>
     try simp only [Bool.true_or, Bool.false_or, Bool.false_and, Bool.true_and, Bool.and_false, Bool.and_true]
     cases hwr : wrE ds B e with
     | some x =>
      rw [hwr] at hk2
      refine ⟨.ret, ?_, σ, Lp.exit ⟨k2, fun N hN => ?_⟩ (by simp), ?_⟩
      rotate_left
      ·have hk2 := hk2 N hN
       simp only [wW] at hk2
       simp -implicitDefEqProofs [b68_0, d68_0, g1, g2, g3, hk2, c6, c7, c1, -appendH, -elemsM, -beq_iff_eq, -beq_eq_false_iff_ne]
       rfl
      ·simp [wW]
     | none =>
      rw [hwr] at hk2
      obtain ⟨ex, fr', σ', l1, l2, l3⟩ := lp68_0 ds bs hP B nb K A S N' L C5 hL r (i + 1) (σ) g4 (by omega) (fun x hx => he x (by simp [hx]))
      unfold PV zW at l1 l3
      rw [g6] at l1 l3
      refine ⟨ex, fr', σ', Lp.step ⟨k2, fun N hN => ?_⟩ l1, l2, l3⟩
      have hk2 := hk2 N hN
      simp only at hk2
      simp -implicitDefEqProofs [b68_0, d68_0, g1, g2, g3, hw, hk2, c6, c7, c1, -appendH, -elemsM, -beq_iff_eq, -beq_eq_false_iff_ne]
theorem lp68_1 (XB X3 X4 IV : AV) (σ : H) (a : Nat) (c : Str) (D3 D4 D5 D6 D7 D8 : AV) (ns : List Str) (hL : ns.length < big) : ∀ (r pre : List Str), ns = pre ++ r →
  ∃ e fr', Lp ctx [66, 68, 72, 167, 169, 172] [] [2, 3, 4, 6, 12, 13, 16] b68_1 ⟨[(2, .v XB), (3, .bx X3), (4, .bx X4), (6, .bx zW), (12, .v IV), (13, .bx (.agg [.int .i64 a, .str c, encR 1 true (encSs ns), D3, D4, D5, D6, D7, D8])), (16, .v (.int .i64 pre.length))], false⟩ σ e fr' σ ∧ fr'.lk = false ∧
   (match dupF pre r with
   | true => e = .ret ∧ getS fr'.sl 6 = .bx (wW 7 a)
   | false => e = .ex 5 ∧ getS fr'.sl 2 = .v XB ∧ getS fr'.sl 3 = .bx X3 ∧ getS fr'.sl 4 = .bx X4 ∧ getS fr'.sl 6 = .bx zW ∧ getS fr'.sl 12 = .v IV ∧ getS fr'.sl 13 = .bx (.agg [.int .i64 a, .str c, encR 1 true (encSs ns), D3, D4, D5, D6, D7, D8]) ∧ Hi2 17 127 fr' ∧ Hi2 132 179 fr')
 | [], pre, h => by
  simp only [List.append_nil] at h
  subst h
  refine ⟨.ex 5, ?_, Lp.exit ⟨0, fun N _ => ?_⟩ (by simp), ?_⟩
  rotate_left
  ·simp -implicitDefEqProofs [b68_1]
   rfl
  ·refine ⟨by simp, rfl, by simp, by simp, by simp, by simp, by simp, by simp, fun t h1 h2 => ?_, fun t h1 h2 => ?_⟩
   all_goals simp only [getS]
   all_goals repeat rw [if_neg (by omega)]
 | x :: r, pre, h => by
  have ht : Tail (encSs ns) pre.length (encSs (x :: r)) := ⟨encSs pre, by simp, by rw [h]; simp [encSs]⟩
  simp only [encSs_cons] at ht
  obtain ⟨g1, g2, g3, g4, g5⟩ := ht.cons
  have hl : ns.length = pre.length + (r.length + 1) := by rw [h]; simp
  simp only [encSs_length] at g2 g3
  have hw := wrap_succ (n := pre.length) (by omega)
  have g6 := g5 1 true
  obtain ⟨k, hk⟩ := place_ans ns true hL x
  unfold dupF
  rw [g6] at hk ⊢
  cases hc : pre.any (eqS x) with
  | true =>
   have hp : place ns x < (pre.length : Int) := by rw [h]; exact place_lt hc
   refine ⟨.ret, ?_, Lp.exit ⟨k, fun N hN => ?_⟩ (by simp), ?_⟩
   rotate_left
   ·have hk := hk N hN
    simp -implicitDefEqProofs [b68_1, d68_3, g1, g2, g3, hk, hp, zW]
    rfl
   ·simp [wW]
  | false =>
   have hp : place ns x = (pre.length : Int) := by rw [h]; exact place_ge hc
   rw [hp] at hk
   obtain ⟨e, fr', l1, l2, l3⟩ := lp68_1 XB X3 X4 IV σ a c D3 D4 D5 D6 D7 D8 ns hL r (pre ++ [x]) (by rw [h]; simp)
   rw [g6] at l1 l3
   simp only [List.length_append, List.length_singleton] at l1
   refine ⟨e, fr', Lp.step ⟨k, fun N hN => ?_⟩ l1, l2, by simpa using l3⟩
   have hk := hk N hN
   simp -implicitDefEqProofs [b68_1, d68_3, g1, g2, g3, hk, hw, zW]
def conA : Al → Str | .mk _ c _ _ => c
theorem lp68_2 (XB X3 : AV) (K A : Nat) (S : Str) (N' : Nat) (X5 : AV) (AL : List AV) (hL : AL.length < big) (i : Nat) (σ : H) (a : Nat) (c : Str) (D2 D3 D4 D5 D6 D7 D8 : AV) (X : List AV) : ∀ (r : List Al) (k : Nat), Tail AL k (encAs r ++ X) → i = k + r.length →
  ∃ e fr', Lp ctx [66, 68, 72, 167, 169, 172] [] [2, 3, 4, 6, 12, 13, 17] b68_2 ⟨[(2, .v XB), (3, .bx X3), (4, .bx (.agg [.int .i64 K, .int .i64 A, .str S, .int .i64 N', X5, encR 9 true AL])), (6, .bx zW), (12, .v (.int .i64 i)), (13, .bx (.agg [.int .i64 a, .str c, D2, D3, D4, D5, D6, D7, D8])), (17, .v (.int .i64 k))], false⟩ σ e fr' σ ∧ fr'.lk = false ∧
   (match r.any (fun x => eqS (conA x) c) with
   | true => e = .ret ∧ getS fr'.sl 6 = .bx (wW 7 a)
   | false => e = .ex 7 ∧ getS fr'.sl 2 = .v XB ∧ getS fr'.sl 3 = .bx X3 ∧ getS fr'.sl 4 = .bx (.agg [.int .i64 K, .int .i64 A, .str S, .int .i64 N', X5, encR 9 true AL]) ∧ getS fr'.sl 6 = .bx zW ∧ getS fr'.sl 12 = .v (.int .i64 i) ∧ getS fr'.sl 13 = .bx (.agg [.int .i64 a, .str c, D2, D3, D4, D5, D6, D7, D8]) ∧ Hi2 18 147 fr' ∧ Hi2 150 179 fr')
 | [], k, h, hi => by
  simp only [List.length_nil, Nat.add_zero] at hi
  subst hi
  refine ⟨.ex 7, ?_, Lp.exit ⟨0, fun N _ => ?_⟩ (by simp), ?_⟩
  rotate_left
  ·simp -implicitDefEqProofs [b68_2]
   rfl
  ·refine ⟨by simp, rfl, by simp, by simp, by simp, by simp, by simp, by simp, fun t h1 h2 => ?_, fun t h1 h2 => ?_⟩
   all_goals simp only [getS]
   all_goals repeat rw [if_neg (by omega)]
 | x :: r, k, h, hi => by
  have hlen := h.len
  simp only [encAs_cons, List.cons_append] at h
  obtain ⟨g1, g2, g3, g4, g5⟩ := h.cons
  simp at hlen hi
  have hw := wrap_succ (n := k) (by omega)
  have g6 := g5 9 true
  have hlt : (k : Int) < (i : Int) := by omega
  obtain ⟨xa, xc, xn, ⟨bk, ba, bs, bn, bks, bas⟩⟩ := x
  simp only [encA, cellsE] at g1
  have eany : (Al.mk xa xc xn (.mk bk ba bs bn bks bas) :: r).any (fun x => eqS (conA x) c) = ((xc == c) || r.any (fun x => eqS (conA x) c)) := by
   rw [List.any_cons]
   show (eqS xc c || _) = _
   rw [eqS_iff]
  rw [eany, g6]
  cases hs : xc == c with
  | true =>
   refine ⟨.ret, ?_, Lp.exit ⟨0, fun N hN => ?_⟩ (by simp), ?_⟩
   rotate_left
   ·simp -implicitDefEqProofs [b68_2, d68_5, g1, g2, g3, hs, hlt, zW, -beq_iff_eq]
    rfl
   ·simp [wW]
  | false =>
   obtain ⟨e, fr', l1, l2, l3⟩ := lp68_2 XB X3 K A S N' X5 AL hL i σ a c D2 D3 D4 D5 D6 D7 D8 X r (k + 1) g4 (by omega)
   rw [g6] at l1 l3
   refine ⟨e, fr', Lp.step ⟨0, fun N hN => ?_⟩ l1, l2, by simpa using l3⟩
   simp -implicitDefEqProofs [b68_2, d68_5, g1, g2, g3, hs, hlt, hw, zW, -beq_iff_eq, -beq_eq_false_iff_ne]
theorem conN_some {ds : List Da} {s : Str} {i j : Nat} (h : findCon s 0 ds = some (i, j)) : ∃ d c, ds[i]? = some d ∧ d.cs[j]? = some c ∧ conN ds s = some c.as.length := by
 obtain ⟨_, d, c, h1, h2⟩ := findCon_at s ds 0 i j h
 rw [Nat.sub_zero] at h1
 refine ⟨d, c, h1, h2, ?_⟩
 unfold conN
 simp [h, h1, h2]
theorem conN_none {ds : List Da} {s : Str} (h : findCon s 0 ds = none) : conN ds s = none := by
 unfold conN
 simp [h]
set_option maxHeartbeats 4000000 in
theorem lp68_3 {ds : List Da} (hd : okDs ds) (bs : List AV) (hP : (PV ds bs).noRef = true) (B : List Str) (nb : Bool) (K A : Nat) (S : Str) (N' : Nat) (X5 : AV) (AL : List AV) (hL : AL.length < big) : ∀ (r pre : List Al) (had : List Str) (σ : H), AL = encAs (pre ++ r) → (∀ x, had.any (eqS x) = pre.any (fun y => eqS (conA y) x)) → B.length + bdAs r ≤ 2 ^ 40 → (∀ y ∈ r, match y with | .mk _ _ _ b => ScOK ds bs b) →
  ∃ e fr' σ', Lp ctx [66, 68, 72, 167, 169, 172] [] [2, 3, 4, 6, 12] b68_3 ⟨[(2, .v (encR 1 nb (encSs B))), (3, .bx (PV ds bs)), (4, .bx (.agg [.int .i64 K, .int .i64 A, .str S, .int .i64 N', X5, encR 9 true AL])), (6, .bx zW), (12, .v (.int .i64 pre.length))], false⟩ σ e fr' σ' ∧ fr'.lk = false ∧
   (match wrA ds B had r with
   | some x => e = .ret ∧ getS fr'.sl 6 = .bx (wW 7 x)
   | none => e = .ex 3 ∧ getS fr'.sl 6 = .bx zW ∧ getS fr'.sl 178 = .u)
 | [], pre, had, σ, h, _, _, _ => by
  have hl : AL.length = pre.length := by rw [h]; simp
  refine ⟨.ex 3, ?_, σ, Lp.exit ⟨0, fun N _ => ?_⟩ (by simp), ?_⟩
  rotate_left
  ·simp -implicitDefEqProofs [b68_3, hl]
   rfl
  ·exact ⟨by simp, rfl, by simp, by simp⟩
 | y :: r, pre, had, σ, h, hh, hb, hi => by
  have ht : Tail AL pre.length (encAs (y :: r)) := ⟨encAs pre, by simp, by rw [h]; simp⟩
  have hlen := ht.len
  simp only [encAs_cons] at ht
  obtain ⟨g1, g2, g3, g4, g5⟩ := ht.cons
  simp at hlen
  have hw := wrap_succ (n := pre.length) (by omega)
  have g6 := g5 9 true
  have hy := hi y (by simp)
  obtain ⟨a, c, ns, b⟩ := y
  simp only [bdAs] at hb
  simp only at hy
  have hdl := hd.len
  unfold lim at hdl
  have hnl : ns.length < big := by unfold big; omega
  obtain ⟨kf, hkf⟩ := fcon_ans ds true (by unfold big; omega) hd.d c
  obtain ⟨B1, hB1⟩ : ∃ B1, B1 = B ++ ns := ⟨_, rfl⟩
  have hl1 : B1.length = B.length + ns.length := by rw [hB1]; simp
  have hels := elemsM_encS nb (encSs B)
  have hels2 := elemsM_encS true (encSs ns)
  have ap1 := app_end σ [] B 0 rfl (by omega)
  have ap2 := app_end σ B ns B.length rfl (by omega)
  rw [← hB1] at ap2
  have es0 : encSs ([] : List Str) = [] := rfl
  simp only [List.nil_append, es0, Nat.zero_add] at ap1 ap2
  have hc := wrE_congr ds b B1 (ns ++ B) (fun s => by rw [hB1]; exact any_swap B ns s)
  obtain ⟨kr, hkr⟩ := hy.row hP B1 (by omega) σ (B.length + ns.length) hl1
  rw [hc] at hkr
  simp only [encE] at hkr
  obtain ⟨bk, ba, bS, bn, bks, bas⟩ := b
  simp only [encA, cellsE] at g1 hkr
  unfold wrA altW
  cases hf : findCon c 0 ds with
  | none =>
   rw [conN_none hf]
   rw [hf] at hkf
   simp only [conI] at hkf
   unfold PV zW
   rw [g6]
   refine ⟨.ret, ?_, σ, Lp.exit ⟨kf, fun N hN => ?_⟩ (by simp), ?_⟩
   rotate_left
   ·have hkf := hkf N hN
    simp -implicitDefEqProofs [b68_3, d68_2, g1, g2, g3, hkf, -appendH, -elemsM]
    rfl
   ·simp [wW]
  | some q =>
  obtain ⟨i, j⟩ := q
  obtain ⟨d, cn, h1, h2, hcn⟩ := conN_some hf
  rw [hcn]
  rw [hf] at hkf
  simp only [conI] at hkf
  have q1 : (encDs ds)[i]? = some (encD d) := by simp [encDs, h1]
  have hil : i < ds.length := (List.getElem?_eq_some_iff.1 h1).1
  have hjl : j < d.cs.length := (List.getElem?_eq_some_iff.1 h2).1
  have q2 : idxN (i : Int) ds.length = some i := by unfold idxN; rw [if_pos (by omega)]; simp
  have q3 : idxN (j : Int) d.cs.length = some j := by unfold idxN; rw [if_pos (by omega)]; simp
  have q4 : (encCs d.cs)[j]? = some (encC cn) := by simp [encCs, h2]
  have e1 : encR 4 true (encDs ds) = .sl 4 (encDs ds) := by
   cases ds with
   | nil => simp at hil
   | cons a l => simp
  have e2 : encR 3 true (encCs d.cs) = .sl 3 (encCs d.cs) := by
   cases hq : d.cs with
   | nil => rw [hq] at hjl; simp at hjl
   | cons a l => simp
  have hneg : ¬ (i : Int) < 0 := by omega
  unfold encD at q1
  unfold encC at q4
  rw [e2] at q1
  have ebq : Nat.beq cn.as.length ns.length = ((cn.as.length : Int) == (ns.length : Int)) := beq_int _ _
  simp only
  rw [ebq]
  -- the loops
  obtain ⟨x1, fr1, s1, s2, s3⟩ := lp68_1 (encR 1 nb (encSs B)) (PV ds bs) (.agg [.int .i64 K, .int .i64 A, .str S, .int .i64 N', X5, encR 9 true AL]) (.int .i64 pre.length) σ a c (.int .i64 bk) (.int .i64 ba) (.str bS) (.int .i64 bn) (encR 6 true (encEs bks)) (encR 9 true (encAs bas)) ns hnl ns [] rfl
  obtain ⟨k1, hk1⟩ := s1.den
  obtain ⟨x2, fr2, t1, t2, t3⟩ := lp68_2 (encR 1 nb (encSs B)) (PV ds bs) K A S N' X5 AL hL pre.length σ a c (encR 1 true (encSs ns)) (.int .i64 bk) (.int .i64 ba) (.str bS) (.int .i64 bn) (encR 6 true (encEs bks)) (encR 9 true (encAs bas)) (encAs (.mk a c ns (.mk bk ba bS bn bks bas) :: r)) pre 0 ⟨[], rfl, by rw [h]; simp⟩ (by simp)
  obtain ⟨k2, hk2⟩ := t1.den
  rw [← hh] at t3
  rw [dupF_eq] at s3
  have hdup : ((ns.any fun s => ([] : List Str).any (eqS s)) || dupS ns) = dupS ns := by simp
  rw [hdup] at s3
  unfold PV at hk1 hk2 s3 t3 hkr
  rw [g6] at hk1 hk2 s3 t3
  simp only [e1] at hkf hk1 hk2 s3 t3 hkr
  simp only [Int.cast_ofNat_Int, List.length_nil] at hk1 hk2
  have hP' : PV ds bs = .agg [.sl 4 (encDs ds), encR 8 true bs] := by unfold PV; rw [e1]
  rw [hP', g6]
  cases hn : ((cn.as.length : Int) == (ns.length : Int)) with
  | false =>
   have hn' : ((cn.as.length : Int) != (ns.length : Int)) = true := by rw [bne, hn]; rfl
   try simp only [Bool.false_and]
   unfold zW
   refine ⟨.ret, ?_, σ, Lp.exit ⟨kf, fun N hN => ?_⟩ (by simp), ?_⟩
   rotate_left
   ·have hkf := hkf N hN
    simp -implicitDefEqProofs [b68_3, d68_2, g1, g2, g3, q1, q2, q3, q4, hneg, hn', hkf, -appendH, -elemsM, -beq_iff_eq, -bne_iff_ne, -beq_eq_false_iff_ne]
    rfl
   ·simp [wW]
  | true =>
  have hn' : ((cn.as.length : Int) != (ns.length : Int)) = false := by rw [bne, hn]; rfl
  try simp only [Bool.true_and]
  cases hds : dupS ns with
  | true =>
   rw [hds] at s3
   obtain ⟨rfl, s4⟩ := s3
   try simp only [Bool.not_true, Bool.false_and]
   refine ⟨.ret, fr1, σ, Lp.exit ⟨kf + k1, fun N hN => ?_⟩ (by simp), s2, rfl, s4⟩
   have hkf := hkf N (by omega)
   have hk1 := hk1 N (by omega)
   simp -implicitDefEqProofs [b68_3, d68_2, g1, g2, g3, q1, q2, q3, q4, hneg, hn', hkf, hk1, -appendH, -elemsM, -beq_iff_eq, -bne_iff_ne, -beq_eq_false_iff_ne]
  | false =>
  rw [hds] at s3
  obtain ⟨rfl, s4, s5, s6, s7, s8, s9, s10, s11⟩ := s3
  unfold Hi2 at s10 s11
  try simp only [Bool.not_false, Bool.true_and]
  cases hha : had.any (eqS c) with
  | true =>
   rw [hha] at t3
   obtain ⟨rfl, t4⟩ := t3
   try simp only [Bool.not_true]
   refine ⟨.ret, fr2, σ, Lp.exit ⟨kf + k1 + k2, fun N hN => ?_⟩ (by simp), t2, rfl, t4⟩
   have hkf := hkf N (by omega)
   have hk1 := hk1 N (by omega)
   have hk2 := hk2 N (by omega)
   simp -implicitDefEqProofs [b68_3, d68_2, g1, g2, g3, q1, q2, q3, q4, hneg, hn', hkf, hk1, hk2, s2, s4, s5, s6, s7, s8, s9, s10, s11, -appendH, -elemsM, -beq_iff_eq, -bne_iff_ne, -beq_eq_false_iff_ne]
  | false =>
  rw [hha] at t3
  obtain ⟨rfl, t4, t5, t6, t7, t8, t9, t10, t11⟩ := t3
  unfold Hi2 at t10 t11
  try simp only [Bool.not_false]
  cases hwr : wrE ds (ns ++ B) (.mk bk ba bS bn bks bas) with
  | some x =>
   rw [hwr] at hkr
   simp only [wO7, wW] at hkr
   refine ⟨.ret, ?_, σ ++ [.arr true 1 (encSs B1)], Lp.exit ⟨kf + k1 + k2 + kr, fun N hN => ?_⟩ (by simp), ?_⟩
   rotate_left
   ·have hkf := hkf N (by omega)
    have hk1 := hk1 N (by omega)
    have hk2 := hk2 N (by omega)
    have hkr := hkr N (by omega)
    simp -implicitDefEqProofs [b68_3, d68_2, g1, g2, g3, q1, q2, q3, q4, hneg, hn', hkf, hk1, hk2, hkr, hels, hels2, ap1, ap2, s2, s4, s5, s6, s7, s8, s9, s10, s11, t2, t4, t5, t6, t7, t8, t9, t10, t11, -appendH, -elemsM, -beq_iff_eq, -bne_iff_ne, -beq_eq_false_iff_ne]
    rfl
   ·simp [wW]
  | none =>
   rw [hwr] at hkr
   simp only [wO7, zW] at hkr
   have hh' : ∀ x, (c :: had).any (eqS x) = (pre ++ [Al.mk a c ns (.mk bk ba bS bn bks bas)]).any (fun y => eqS (conA y) x) := fun x => by
    rw [List.any_cons, hh, List.any_append, List.any_cons, List.any_nil, Bool.or_false, Bool.or_comm, eqS_symm]
    rfl
   obtain ⟨ex, fr', σ', l1, l2, l3⟩ := lp68_3 hd bs hP B nb K A S N' X5 AL hL r (pre ++ [Al.mk a c ns (.mk bk ba bS bn bks bas)]) (c :: had) (σ ++ [.arr true 1 (encSs B1)]) (by rw [h]; simp) hh' (by omega) (fun y hy => hi y (by simp [hy]))
   rw [hP', g6] at l1
   simp only [List.length_append, List.length_singleton] at l1
   refine ⟨ex, fr', σ', Lp.step ⟨kf + k1 + k2 + kr, fun N hN => ?_⟩ l1, l2, l3⟩
   have hkf := hkf N (by omega)
   have hk1 := hk1 N (by omega)
   have hk2 := hk2 N (by omega)
   have hkr := hkr N (by omega)
   simp -implicitDefEqProofs [b68_3, d68_2, g1, g2, g3, q1, q2, q3, q4, hneg, hn', hw, hkf, hk1, hk2, hkr, hels, hels2, ap1, ap2, s2, s4, s5, s6, s7, s8, s9, s10, s11, t2, t4, t5, t6, t7, t8, t9, t10, t11, -appendH, -elemsM, -beq_iff_eq, -bne_iff_ne, -beq_eq_false_iff_ne]
set_option maxHeartbeats 4000000 in
theorem scoped_body {ds : List Da} (hd : okDs ds) (bs : List AV) (hP : (PV ds bs).noRef = true) (k a : Nat) (s : Str) (n : Nat) (ks : List Ex) (as : List Al) (hkl : ks.length < big) (hal : as.length < big) (h1 : ∀ x ∈ ks, ScOK ds bs x) (h2 : ∀ y ∈ as, match y with | .mk _ _ _ b => ScOK ds bs b) : ScOK ds bs (.mk k a s n ks as) := by
 intro B nb hb
 simp only [bdE] at hb
 have hBl : B.length < big := by unfold big; omega
 have hdl := hd.len
 unfold lim at hdl
 obtain ⟨e0, fr0, σ1, p1, p2, p3⟩ := lp68_0 ds bs hP B nb k a s n (encEs ks) (encR 9 true (encAs as)) (by simpa using hkl) ks 0 [] (Tail.all _) (by omega) h1
 obtain ⟨k0, hk0⟩ := p1.den
 obtain ⟨e1, fr1, σ2, q1, q2, q3⟩ := lp68_3 hd bs hP B nb k a s n (encR 6 true (encEs ks)) (encAs as) (by simpa using hal) as [] [] σ1 rfl (fun x => rfl) (by omega) h2
 obtain ⟨k3, hk3⟩ := q1.den
 obtain ⟨kp, hkp⟩ := place_ans B nb hBl s
 obtain ⟨kf, hkf⟩ := fcon_ans ds true (by unfold big; omega) hd.d s
 have hPr : AV.noRefs [PV ds bs, encE (.mk k a s n ks as), encR 1 nb (encSs B)] = true := by simp [AV.noRefs, hP]
 have b1 : Nat.beq k 1 = ((k : Int) == 1) := beq_int k 1
 have b2 : Nat.beq k 2 = ((k : Int) == 2) := beq_int k 2
 unfold wrE headW
 rw [b1, b2]
 rw [encE_mk] at hPr ⊢
 unfold PV zW at hk0 hk3 p3
 unfold zW at q3
 unfold PV at hPr ⊢
 simp only [Int.cast_ofNat_Int, List.length_nil] at hk0 hk3
 cases c1 : ((k : Int) == 1) with
 | true =>
  simp only
  cases hB : B.any (eqS s) with
  | false =>
   rw [place_no hB] at hkp
   simp only
   refine Ans.of (σ' := []) fn68_ hPr (by simp [wO7, wW]) ⟨kp, fun N hN => ?_⟩
   have hkp := hkp N (by omega)
   simp -implicitDefEqProofs [i68, c68, c1, hkp, wO7, wW, -beq_iff_eq]
  | true =>
   have hpl := place_yes hB
   have hpl' : ¬ place B s < 0 := by omega
   simp only
   cases hw0 : wrK ds k s 0 B ks with
   | some x =>
    rw [hw0] at p3
    obtain ⟨rfl, p4⟩ := p3
    simp only [wW] at p4
    simp only
    refine Ans.of (σ' := σ1) fn68_ hPr (by simp [wO7, wW]) ⟨kp + k0, fun N hN => ?_⟩
    have hkp := hkp N (by omega)
    have hk0 := hk0 N (by omega)
    simp -implicitDefEqProofs [i68, c68, c1, hkp, hpl', hk0, p2, p4, wO7, wW, -beq_iff_eq, -beq_eq_false_iff_ne]
   | none =>
    rw [hw0] at p3
    obtain ⟨rfl, p4, p5, p6, p7, p8, p9⟩ := p3
    unfold Hi2 at p8 p9
    simp only
    cases hw1 : wrA ds B [] as with
    | some x =>
     rw [hw1] at q3
     obtain ⟨rfl, q4⟩ := q3
     simp only [wW] at q4
     refine Ans.of (σ' := σ2) fn68_ hPr (by simp [wO7, wW]) ⟨kp + k0 + k3, fun N hN => ?_⟩
     have hkp := hkp N (by omega)
     have hk0 := hk0 N (by omega)
     have hk3 := hk3 N (by omega)
     simp -implicitDefEqProofs [i68, c68, c1, hkp, hpl', hk0, hk3, p2, p4, p5, p6, p7, p8, p9, q2, q4, wO7, wW, -beq_iff_eq, -beq_eq_false_iff_ne]
    | none =>
     rw [hw1] at q3
     obtain ⟨rfl, q4, q5⟩ := q3
     refine Ans.of (σ' := σ2) fn68_ hPr (by simp [wO7, zW]) ⟨kp + k0 + k3, fun N hN => ?_⟩
     have hkp := hkp N (by omega)
     have hk0 := hk0 N (by omega)
     have hk3 := hk3 N (by omega)
     simp -implicitDefEqProofs [i68, c68, c1, hkp, hpl', hk0, hk3, p2, p4, p5, p6, p7, p8, p9, q2, q4, q5, wO7, zW, -beq_iff_eq, -beq_eq_false_iff_ne]
 | false =>
  simp only
  cases c2 : ((k : Int) == 2) with
  | true =>
   simp only
   cases hf : findCon s 0 ds with
   | none =>
    rw [conN_none hf]
    rw [hf] at hkf
    simp only [conI] at hkf
    simp only
    refine Ans.of (σ' := []) fn68_ hPr (by simp [wO7, wW]) ⟨kf, fun N hN => ?_⟩
    have hkf := hkf N (by omega)
    simp -implicitDefEqProofs [i68, c68, c1, c2, hkf, wO7, wW, -beq_iff_eq, -beq_eq_false_iff_ne]
   | some q =>
    obtain ⟨i, j⟩ := q
    obtain ⟨d, cn, _, _, hcn⟩ := conN_some hf
    rw [hcn]
    rw [hf] at hkf
    simp only [conI] at hkf
    have hneg : ¬ (i : Int) < 0 := by omega
    simp only
    cases hw0 : wrK ds k s 0 B ks with
    | some x =>
     rw [hw0] at p3
     obtain ⟨rfl, p4⟩ := p3
     simp only [wW] at p4
     simp only
     refine Ans.of (σ' := σ1) fn68_ hPr (by simp [wO7, wW]) ⟨kf + k0, fun N hN => ?_⟩
     have hkf := hkf N (by omega)
     have hk0 := hk0 N (by omega)
     simp -implicitDefEqProofs [i68, c68, c1, c2, hkf, hneg, hk0, p2, p4, wO7, wW, -beq_iff_eq, -beq_eq_false_iff_ne]
    | none =>
     rw [hw0] at p3
     obtain ⟨rfl, p4, p5, p6, p7, p8, p9⟩ := p3
     unfold Hi2 at p8 p9
     simp only
     cases hw1 : wrA ds B [] as with
     | some x =>
      rw [hw1] at q3
      obtain ⟨rfl, q4⟩ := q3
      simp only [wW] at q4
      refine Ans.of (σ' := σ2) fn68_ hPr (by simp [wO7, wW]) ⟨kf + k0 + k3, fun N hN => ?_⟩
      have hkf := hkf N (by omega)
      have hk0 := hk0 N (by omega)
      have hk3 := hk3 N (by omega)
      simp -implicitDefEqProofs [i68, c68, c1, c2, hkf, hneg, hk0, hk3, p2, p4, p5, p6, p7, p8, p9, q2, q4, wO7, wW, -beq_iff_eq, -beq_eq_false_iff_ne]
     | none =>
      rw [hw1] at q3
      obtain ⟨rfl, q4, q5⟩ := q3
      refine Ans.of (σ' := σ2) fn68_ hPr (by simp [wO7, zW]) ⟨kf + k0 + k3, fun N hN => ?_⟩
      have hkf := hkf N (by omega)
      have hk0 := hk0 N (by omega)
      have hk3 := hk3 N (by omega)
      simp -implicitDefEqProofs [i68, c68, c1, c2, hkf, hneg, hk0, hk3, p2, p4, p5, p6, p7, p8, p9, q2, q4, q5, wO7, zW, -beq_iff_eq, -beq_eq_false_iff_ne]
  | false =>
   simp only
   cases hw0 : wrK ds k s 0 B ks with
   | some x =>
    rw [hw0] at p3
    obtain ⟨rfl, p4⟩ := p3
    simp only [wW] at p4
    simp only
    refine Ans.of (σ' := σ1) fn68_ hPr (by simp [wO7, wW]) ⟨k0, fun N hN => ?_⟩
    have hk0 := hk0 N (by omega)
    simp -implicitDefEqProofs [i68, c68, c1, c2, hk0, p2, p4, wO7, wW, -beq_iff_eq, -beq_eq_false_iff_ne]
   | none =>
    rw [hw0] at p3
    obtain ⟨rfl, p4, p5, p6, p7, p8, p9⟩ := p3
    unfold Hi2 at p8 p9
    simp only
    cases hw1 : wrA ds B [] as with
    | some x =>
     rw [hw1] at q3
     obtain ⟨rfl, q4⟩ := q3
     simp only [wW] at q4
     refine Ans.of (σ' := σ2) fn68_ hPr (by simp [wO7, wW]) ⟨k0 + k3, fun N hN => ?_⟩
     have hk0 := hk0 N (by omega)
     have hk3 := hk3 N (by omega)
     simp -implicitDefEqProofs [i68, c68, c1, c2, hk0, hk3, p2, p4, p5, p6, p7, p8, p9, q2, q4, wO7, wW, -beq_iff_eq, -beq_eq_false_iff_ne]
    | none =>
     rw [hw1] at q3
     obtain ⟨rfl, q4, q5⟩ := q3
     refine Ans.of (σ' := σ2) fn68_ hPr (by simp [wO7, zW]) ⟨k0 + k3, fun N hN => ?_⟩
     have hk0 := hk0 N (by omega)
     have hk3 := hk3 N (by omega)
     simp -implicitDefEqProofs [i68, c68, c1, c2, hk0, hk3, p2, p4, p5, p6, p7, p8, p9, q2, q4, q5, wO7, zW, -beq_iff_eq, -beq_eq_false_iff_ne]
mutual
theorem scoped_ans {ds : List Da} (hd : okDs ds) (bs : List AV) (hP : (PV ds bs).noRef = true) : ∀ e : Ex, okE e → ScOK ds bs e
 | .mk k a s n ks as, h => by
  unfold okE at h
  exact scoped_body hd bs hP k a s n ks as (by have := h.1; unfold lim at this; unfold big; omega) (by have := h.2.1; unfold lim at this; unfold big; omega) (scopeds_ans hd bs hP ks h.2.2.1) (scopedA_ans hd bs hP as h.2.2.2)
theorem scopeds_ans {ds : List Da} (hd : okDs ds) (bs : List AV) (hP : (PV ds bs).noRef = true) : ∀ l : List Ex, okEs l → ∀ x ∈ l, ScOK ds bs x
 | [], _, x, hx => by cases hx
 | e :: l, h, x, hx => by
  unfold okEs at h
  rcases List.mem_cons.1 hx with e1 | hx
  ·rw [e1]; exact scoped_ans hd bs hP e h.1
  ·exact scopeds_ans hd bs hP l h.2 x hx
theorem scopedA_ans {ds : List Da} (hd : okDs ds) (bs : List AV) (hP : (PV ds bs).noRef = true) : ∀ l : List Al, okAs l → ∀ y ∈ l, match y with | .mk _ _ _ b => ScOK ds bs b
 | [], _, y, hy => by cases hy
 | .mk a c ns b :: l, h, y, hy => by
  unfold okAs okA at h
  rcases List.mem_cons.1 hy with e1 | hy
  ·rw [e1]; exact scoped_ans hd bs hP b h.1.2
  ·exact scopedA_ans hd bs hP l h.2 y hy
end
end Go.Am.Try
