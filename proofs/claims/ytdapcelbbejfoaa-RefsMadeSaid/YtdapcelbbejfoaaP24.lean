/- Layers 10 to 14: expressions by numbers, as text. -/
import Derived.Test.YtdapcelbbejfoaaP21
set_option linter.unusedVariables false
set_option maxRecDepth 100000
set_option linter.unusedSimpArgs false
namespace Go.Am.Try
open Go Go.Am.Ps
def digL : Nat → Nat → Str → Nat × Str
 | 0, n, acc => (n, acc)
 | k + 1, n, acc => if n < 10 then (n, acc) else digL k (n / 10) (UInt8.ofNat (48 + n % 10) :: acc)
def digS (n : Nat) : Str := let p := digL 19 n []; UInt8.ofNat (48 + p.1) :: p.2
theorem wrap_u8n {m : Nat} (h : m < 256) : IntKind.u8.wrap (m : Int) = (m : Int) := by
 simp [IntKind.wrap, IntKind.signed, IntKind.bits]
 omega
theorem lp28 : ∀ (k n : Nat) (acc : Str), n < 10 ^ (k + 1) → n < 2 ^ 62 → acc.length + k < 1000 →
  ∃ fr', Lp ctx [] [] [0, 3] b28_0 ⟨[(0, .v (.int .i64 n)), (3, .v (.str acc))], false⟩ [] (.ex 0) fr' [] ∧ fr'.lk = false ∧ Hi 16 fr' ∧ getS fr'.sl 2 = .u ∧ getS fr'.sl 0 = .v (.int .i64 (digL k n acc).1) ∧ getS fr'.sl 3 = .v (.str (digL k n acc).2) ∧ (digL k n acc).1 < 10 ∧ (digL k n acc).2.length < 1000
 | k, n, acc, hn, hb, hl => by
  by_cases h10 : n < 10
  ·have h1 : ¬ (10 : Int) ≤ (n : Int) := by omega
   have e : digL k n acc = (n, acc) := by cases k <;> simp [digL, h10]
   rw [e]
   refine ⟨?_, Lp.exit ⟨0, fun N _ => ?_⟩ (by simp), ?_⟩
   rotate_left
   ·simp -implicitDefEqProofs [b28_0, h1]
    rfl
   ·exact ⟨by simp, hi_of (by simp), by simp, by simp, by simp, h10, by simp only; omega⟩
  ·have h1 : (10 : Int) ≤ (n : Int) := by omega
   obtain ⟨k, rfl⟩ : ∃ k', k = k' + 1 := ⟨k - 1, by
    cases k with
    | zero => simp at hn; omega
    | succ k => rfl⟩
   have e : digL (k + 1) n acc = digL k (n / 10) (UInt8.ofNat (48 + n % 10) :: acc) := by simp [digL, h10]
   rw [e]
   obtain ⟨fr', q1, q2⟩ := lp28 k (n / 10) (UInt8.ofNat (48 + n % 10) :: acc) (by rw [Nat.pow_succ] at hn; omega) (by omega) (by simp; omega)
   have g1 : (n : Int).tmod 10 = ((n % 10 : Nat) : Int) := rfl
   have hm : n % 10 < 10 := Nat.mod_lt _ (by omega)
   have w1 : IntKind.i64.wrap (48 + ((n % 10 : Nat) : Int)) = ((48 + n % 10 : Nat) : Int) := by rw [wrap_i64 (by omega)]; omega
   have w2 := wrap_u8n (m := 48 + n % 10) (by omega)
   have w3 : IntKind.i64.wrap ((n : Int) / 10) = ((n / 10 : Nat) : Int) := by rw [wrap_i64 (by omega)]; omega
   have w4 : bytesOf [.int .u8 ((48 + n % 10 : Nat) : Int)] = some [UInt8.ofNat (48 + n % 10)] := by
    simp only [bytesOf]; rfl
   have w5 : acc.length + 1 < 4611686018427387904 := by omega
   have w6 : 1 + acc.length < 4611686018427387904 := by omega
   refine ⟨fr', Lp.step ⟨0, fun N hN => ?_⟩ q1, q2⟩
   generalize 48 + n % 10 = d at *
   generalize n / 10 = n' at *
   generalize UInt8.ofNat d = u at *
   generalize n % 10 = d' at *
   simp -implicitDefEqProofs [b28_0, h1, g1, w1, w2, w3, w4, w5, w6, isByte, strOp]
theorem digits_ans (n : Nat) (hn : n < 10 ^ 18) : Ans ctx 28 [.int .i64 n] (.str (digS n)) ∧ (digS n).length ≤ 1000 := by
 obtain ⟨fr', q1, q2, q3, q4, q5, q6, q7, q8⟩ := lp28 19 n [] (by omega) (by omega) (by simp)
 obtain ⟨k, hk⟩ := q1.den
 unfold Hi at q3
 unfold digS
 simp only
 generalize (digL 19 n []).1 = m at *
 generalize (digL 19 n []).2 = acc at *
 refine ⟨?_, by simp; omega⟩
 have w1 : IntKind.i64.wrap (48 + (m : Int)) = ((48 + m : Nat) : Int) := by rw [wrap_i64 (by omega)]; omega
 have w2 := wrap_u8n (m := 48 + m) (by omega)
 have w4 : bytesOf [.int .u8 ((48 + m : Nat) : Int)] = some [UInt8.ofNat (48 + m)] := by simp only [bytesOf]; rfl
 have w6 : 1 + acc.length < 4611686018427387904 := by omega
 have w5 : acc.length + 1 < 4611686018427387904 := by omega
 refine Ans.of (σ' := []) fn28_ (by simp) (by simp) ⟨k, fun N hN => ?_⟩
 have hk := hk N hN
 generalize 48 + m = d at *
 generalize UInt8.ofNat d = u at *
 simp -implicitDefEqProofs [i28, c28, hk, q2, q3, q4, q5, q6, w1, w2, w4, w5, w6, isByte, strOp]
def pk (l : List Str) (i : Nat) : Str := (l[i]?).getD []
def halfL (l : List UInt8) : List UInt8 := l.drop (l.length / 2)
def atB (ex at_ : List UInt8 → Str) (b : UInt8) (l : List UInt8) : Str :=
 let n := b.toNat
 match n % 8 with
 | 0 => pk [[120], [121], [102], [103], [105, 100]] (n / 8 % 5)
 | 1 => pk [[120], [121], [102], [103], [105, 100]] (n / 8 % 5)
 | 2 => pk [[78, 105, 108], [67, 111, 110, 115], [83, 111, 109, 101], [78, 111, 110, 101], [79, 100, 100]] (n / 8 % 5)
 | 3 => digS n
 | 4 => pk [[116, 114, 117, 101], [102, 97, 108, 115, 101]] (n / 8 % 2)
 | 5 => [40] ++ ex l ++ [44, 32] ++ at_ (halfL (b :: l)) ++ [41]
 | _ => [40] ++ ex l ++ [41]
mutual
def exS : Nat → List UInt8 → Str
 | 0, _ => [120]
 | _ + 1, [] => [120]
 | d + 1, b :: l =>
  let n := b.toNat
  match n % 10 with
  | 0 => [92] ++ pk [[120], [121], [102]] (n / 10 % 3) ++ pk [[], [32, 103], [32, 120, 32, 121]] (n / 30 % 3) ++ [32, 45, 62, 32] ++ exS d l
  | 1 => [92] ++ pk [[120], [121], [102]] (n / 10 % 3) ++ pk [[], [32, 103], [32, 120, 32, 121]] (n / 30 % 3) ++ [32, 45, 62, 32] ++ exS d l
  | 2 => [108, 101, 116, 32] ++ pk [[105, 100, 32, 120], [121], [102, 32, 120, 32, 121]] (n / 10 % 3) ++ [32, 61, 32] ++ exS d l ++ [32, 105, 110, 32] ++ exS d (halfL (b :: l))
  | 3 => [105, 102, 32] ++ exS d l ++ [32, 116, 104, 101, 110, 32] ++ atS d (halfL (b :: l)) ++ [32, 101, 108, 115, 101, 32] ++ exS d (halfL (b :: l))
  | 4 => [99, 97, 115, 101, 32] ++ exS d l ++ [32, 111, 102, 32, 123] ++ pk [[67, 111, 110, 115, 32, 120, 32, 121, 32, 45, 62, 32], [83, 111, 109, 101, 32, 120, 32, 45, 62, 32], [78, 105, 108, 32, 45, 62, 32]] (n / 10 % 3) ++ exS d (halfL (b :: l)) ++ pk [[], [59, 32, 78, 111, 110, 101, 32, 45, 62, 32, 121], [59, 32, 78, 105, 108, 32, 45, 62, 32, 102, 32, 120]] (n / 30 % 3) ++ [125]
  | 5 => atS d l ++ [32] ++ atS d (halfL (b :: l))
  | 6 => atS d l ++ [32] ++ atS d (halfL (b :: l))
  | 7 => atS d l ++ [32] ++ atS d (halfL (b :: l)) ++ [32] ++ atS d (halfL l)
  | _ => atB (exS d) (atS d) b l
def atS : Nat → List UInt8 → Str
 | 0, _ => [120]
 | _ + 1, [] => [120]
 | d + 1, b :: l => atB (exS d) (atS d) b l
end
@[simp] theorem ofBytes_length (l : List UInt8) : (ofBytes l).length = l.length := by simp [ofBytes]
@[simp] theorem ofBytes_cons (b : UInt8) (l : List UInt8) : ofBytes (b :: l) = .int .u8 b.toNat :: ofBytes l := by simp [ofBytes]
@[simp] theorem ofBytes_nil : ofBytes [] = [] := rfl
theorem ofBytes_drop (l : List UInt8) (n : Nat) : (ofBytes l).drop n = ofBytes (l.drop n) := by simp [ofBytes, List.map_drop]
@[simp] theorem noRefs_ofBytes : ∀ l, AV.noRefs (ofBytes l) = true
 | [] => by simp
 | b :: l => by simp [AV.noRefs, AV.noRef, noRefs_ofBytes l]
theorem bounds_from {k len : Nat} (h : k ≤ len) : bounds (some (k : Int)) none len = some (k, len) := by
 unfold bounds
 simp only [Option.getD_some, Option.getD_none]
 rw [if_pos (by omega)]
 simp
theorem half_ans (l : List UInt8) (hl : l.length < 2 ^ 40) : Ans ctx 85 [.sl 1 (ofBytes l)] (.sl 1 (ofBytes (halfL l))) := by
 have wl : IntKind.i64.wrap ((l.length : Int) / 2) = ((l.length / 2 : Nat) : Int) := by rw [wrap_i64 (by omega)]; omega
 have b2 : bounds (some ((l.length / 2 : Nat) : Int)) none l.length = some (l.length / 2, l.length) := bounds_from (by omega)
 have t1 : (ofBytes l).take l.length = ofBytes l := List.take_of_length_le (by simp)
 refine Ans.of (σ' := []) fn85_ (by simp) (by simp) ⟨0, fun N hN => ?_⟩
 unfold halfL
 generalize l.length / 2 = h at *
 simp -implicitDefEqProofs [i85, c85, wl, b2, t1, ofBytes_drop]
theorem strAdd {x y : List UInt8} (h : x.length + y.length < 4611686018427387904) : strOp .add x y = some (.str (x ++ y)) := by
 unfold strOp
 simp only
 rw [if_pos (by omega)]
theorem cat (x y : List UInt8) (h : x.length + y.length < 4611686018427387904) : ∃ S, S = x ++ y ∧ S.length = x.length + y.length ∧ strOp .add x y = some (.str S) :=
 ⟨x ++ y, rfl, by simp, strAdd h⟩
def bnd (d : Nat) : Nat := 2000 * 4 ^ d
def EX (d : Nat) : Prop := ∀ l nl, l.length < 2 ^ 40 → Ans ctx 50 [encR 1 nl (ofBytes l), .int .i64 d] (.str (exS d l)) ∧ (exS d l).length ≤ bnd d
def AT (d : Nat) : Prop := ∀ l nl, l.length < 2 ^ 40 → Ans ctx 86 [encR 1 nl (ofBytes l), .int .i64 d] (.str (atS d l)) ∧ (atS d l).length ≤ bnd d
theorem pk_len {l : List Str} {k : Nat} (h : ∀ s ∈ l, s.length ≤ k) (i : Nat) : (pk l i).length ≤ k := by
 unfold pk
 cases hi : l[i]? with
 | none => simp
 | some s => exact h s (List.mem_of_getElem? hi)
theorem pk_get (l : List Str) (i : Nat) (h : i < l.length) : (encSs l)[i]? = some (.str (pk l i)) := by
 unfold pk encSs
 simp [List.getElem?_eq_getElem h]
theorem idx_lt {i n : Nat} (h : i < n) : idxN (i : Int) n = some i := by unfold idxN; rw [if_pos (by omega)]; simp
theorem half_len (l : List UInt8) : (halfL l).length ≤ l.length := by unfold halfL; simp
set_option maxHeartbeats 4000000 in
theorem at_step {d : Nat} (hd : d < 8) (hE : EX d) (hA : AT d) : AT (d + 1) := by
 intro l nl hl
 have hB : bnd d ≤ 2000 * 4 ^ 7 := Nat.mul_le_mul_left _ (Nat.pow_le_pow_right (by omega) (by omega))
 have hB1 : bnd (d + 1) = 4 * bnd d := by unfold bnd; rw [Nat.pow_succ]; omega
 have hB0 : 2000 ≤ bnd d := by unfold bnd; have := Nat.one_le_pow d 4 (by omega); omega
 cases l with
 | nil =>
  refine ⟨Ans.of (σ' := []) fn86_ (by simp) (by simp) ⟨0, fun N hN => ?_⟩, by simp [atS]; omega⟩
  simp -implicitDefEqProofs [i86, c86, atS]
 | cons b l =>
  simp at hl
  have hb256 : b.toNat < 256 := b.toNat_lt
  obtain ⟨⟨k1, hk1⟩, n1⟩ := hE l false (by omega)
  obtain ⟨k2, hk2⟩ := half_ans (b :: l) (by simp; omega)
  have hhl := half_len (b :: l)
  simp only [List.length_cons] at hhl
  obtain ⟨⟨k3, hk3⟩, n3⟩ := hA (halfL (b :: l)) false (by omega)
  obtain ⟨⟨k4, hk4⟩, n4⟩ := digits_ans b.toNat (by omega)
  rw [encR_false] at hk1 hk3
  rw [ofBytes_cons] at hk2
  have e : atS (d + 1) (b :: l) = atB (exS d) (atS d) b l := by simp [atS]
  rw [e]
  unfold atB
  simp only
  obtain ⟨m, hm⟩ : ∃ m, m = b.toNat := ⟨_, rfl⟩
  rw [← hm] at hb256 hk2 hk4 n4 ⊢
  have w0 : IntKind.i64.wrap (m : Int) = m := wrap_i64 (by omega)
  have w8 : IntKind.i64.wrap ((m : Int) / 8) = ((m / 8 : Nat) : Int) := by rw [wrap_i64 (by omega)]; omega
  have m8 : (m : Int).tmod 8 = ((m % 8 : Nat) : Int) := rfl
  have q5 : (((m / 8 : Nat) : Int)).tmod 5 = ((m / 8 % 5 : Nat) : Int) := rfl
  have q2 : (((m / 8 : Nat) : Int)).tmod 2 = ((m / 8 % 2 : Nat) : Int) := rfl
  have h5 : m / 8 % 5 < 5 := Nat.mod_lt _ (by omega)
  have h2 : m / 8 % 2 < 2 := Nat.mod_lt _ (by omega)
  have h8 : m % 8 < 8 := Nat.mod_lt _ (by omega)
  have x5 := idx_lt h5
  have x2 := idx_lt h2
  have p0 := pk_get [[120], [121], [102], [103], [105, 100]] (m / 8 % 5) h5
  have p1 := pk_get [[78, 105, 108], [67, 111, 110, 115], [83, 111, 109, 101], [78, 111, 110, 101], [79, 100, 100]] (m / 8 % 5) h5
  have p2 := pk_get [[116, 114, 117, 101], [102, 97, 108, 115, 101]] (m / 8 % 2) h2
  have l0 := pk_len (l := [[120], [121], [102], [103], [105, 100]]) (k := 5) (by decide) (m / 8 % 5)
  have l1 := pk_len (l := [[78, 105, 108], [67, 111, 110, 115], [83, 111, 109, 101], [78, 111, 110, 101], [79, 100, 100]]) (k := 5) (by decide) (m / 8 % 5)
  have l2 := pk_len (l := [[116, 114, 117, 101], [102, 97, 108, 115, 101]]) (k := 5) (by decide) (m / 8 % 2)
  simp only [encSs, List.map_cons, List.map_nil] at p0 p1 p2
  generalize pk [[120], [121], [102], [103], [105, 100]] (m / 8 % 5) = P0 at *
  generalize pk [[78, 105, 108], [67, 111, 110, 115], [83, 111, 109, 101], [78, 111, 110, 101], [79, 100, 100]] (m / 8 % 5) = P1 at *
  generalize pk [[116, 114, 117, 101], [102, 97, 108, 115, 101]] (m / 8 % 2) = P2 at *
  generalize exS d l = E1 at *
  generalize atS d (halfL (b :: l)) = A1 at *
  generalize digS m = D1 at *
  generalize halfL (b :: l) = hv at *
  generalize m / 8 % 5 = r5 at *
  generalize m / 8 % 2 = r2 at *
  generalize m / 8 = mq at *
  generalize m % 8 = r8 at *
  have i0 : idxN 0 (l.length + 1) = some 0 := by unfold idxN; rw [if_pos (by omega)]; rfl
  have b1 : bounds (some 1) none (l.length + 1) = some (1, l.length + 1) := bounds_from (k := 1) (by omega)
  have t1 : (ofBytes l).take l.length = ofBytes l := List.take_of_length_le (by simp)
  have z0 : ((l.length : Int) + 1 == 0) = false := by simp; omega
  have d1 : ¬ ((d : Int) + 1 < 1) := by omega
  have ws : IntKind.i64.wrap (d : Int) = d := wrap_i64 (by omega)
  have hcs : r8 = 0 ∨ r8 = 1 ∨ r8 = 2 ∨ r8 = 3 ∨ r8 = 4 ∨ r8 = 5 ∨ r8 = 6 ∨ r8 = 7 := by omega
  constructor
  ·refine Ans.of (σ' := []) fn86_ (by simp) (by simp) ⟨k1 + k2 + k3 + k4, fun N hN => ?_⟩
   have hk1 := hk1 N (by omega)
   have hk2 := hk2 N (by omega)
   have hk3 := hk3 N (by omega)
   have hk4 := hk4 N (by omega)
   rcases hcs with rfl | rfl | rfl | rfl | rfl | rfl | rfl | rfl
   ·simp -implicitDefEqProofs [i86, c86, w0, w8, m8, q5, q2, x5, x2, p0, p1, p2, hk1, hk2, hk3, hk4, i0, b1, t1, z0, d1, ws, ← hm]
   ·simp -implicitDefEqProofs [i86, c86, w0, w8, m8, q5, q2, x5, x2, p0, p1, p2, hk1, hk2, hk3, hk4, i0, b1, t1, z0, d1, ws, ← hm]
   ·simp -implicitDefEqProofs [i86, c86, w0, w8, m8, q5, q2, x5, x2, p0, p1, p2, hk1, hk2, hk3, hk4, i0, b1, t1, z0, d1, ws, ← hm]
   ·simp -implicitDefEqProofs [i86, c86, w0, w8, m8, q5, q2, x5, x2, p0, p1, p2, hk1, hk2, hk3, hk4, i0, b1, t1, z0, d1, ws, ← hm]
   ·simp -implicitDefEqProofs [i86, c86, w0, w8, m8, q5, q2, x5, x2, p0, p1, p2, hk1, hk2, hk3, hk4, i0, b1, t1, z0, d1, ws, ← hm]
   ·obtain ⟨S1, e1, v1, s1⟩ := cat [40] E1 (by (try simp only [List.length_cons, List.length_nil]); omega)
    try simp only [List.length_cons, List.length_nil] at v1
    obtain ⟨S2, e2, v2, s2⟩ := cat S1 [44, 32] (by (try simp only [List.length_cons, List.length_nil]); omega)
    try simp only [List.length_cons, List.length_nil] at v2
    obtain ⟨S3, e3, v3, s3⟩ := cat S2 A1 (by (try simp only [List.length_cons, List.length_nil]); omega)
    try simp only [List.length_cons, List.length_nil] at v3
    obtain ⟨S4, e4, v4, s4⟩ := cat S3 [41] (by (try simp only [List.length_cons, List.length_nil]); omega)
    try simp only [List.length_cons, List.length_nil] at v4
    show runFn ctx (acall ctx N) N i86 [encR 1 nl (ofBytes (b :: l)), .int .i64 ((d + 1 : Nat) : Int)] [] = some (.str ([40] ++ E1 ++ [44, 32] ++ A1 ++ [41]), [])
    rw [← e1, ← e2, ← e3, ← e4]
    simp -implicitDefEqProofs [i86, c86, w0, w8, m8, q5, q2, x5, x2, p0, p1, p2, hk1, hk2, hk3, hk4, i0, b1, t1, z0, d1, ws, ← hm, s1, s2, s3, s4, -strOp]
   ·obtain ⟨S1, e1, v1, s1⟩ := cat [40] E1 (by (try simp only [List.length_cons, List.length_nil]); omega)
    try simp only [List.length_cons, List.length_nil] at v1
    obtain ⟨S2, e2, v2, s2⟩ := cat S1 [41] (by (try simp only [List.length_cons, List.length_nil]); omega)
    try simp only [List.length_cons, List.length_nil] at v2
    show runFn ctx (acall ctx N) N i86 [encR 1 nl (ofBytes (b :: l)), .int .i64 ((d + 1 : Nat) : Int)] [] = some (.str ([40] ++ E1 ++ [41]), [])
    rw [← e1, ← e2]
    simp -implicitDefEqProofs [i86, c86, w0, w8, m8, q5, q2, x5, x2, p0, p1, p2, hk1, hk2, hk3, hk4, i0, b1, t1, z0, d1, ws, ← hm, s1, s2, -strOp]
   ·obtain ⟨S1, e1, v1, s1⟩ := cat [40] E1 (by (try simp only [List.length_cons, List.length_nil]); omega)
    try simp only [List.length_cons, List.length_nil] at v1
    obtain ⟨S2, e2, v2, s2⟩ := cat S1 [41] (by (try simp only [List.length_cons, List.length_nil]); omega)
    try simp only [List.length_cons, List.length_nil] at v2
    show runFn ctx (acall ctx N) N i86 [encR 1 nl (ofBytes (b :: l)), .int .i64 ((d + 1 : Nat) : Int)] [] = some (.str ([40] ++ E1 ++ [41]), [])
    rw [← e1, ← e2]
    simp -implicitDefEqProofs [i86, c86, w0, w8, m8, q5, q2, x5, x2, p0, p1, p2, hk1, hk2, hk3, hk4, i0, b1, t1, z0, d1, ws, ← hm, s1, s2, -strOp]
  ·rcases hcs with rfl | rfl | rfl | rfl | rfl | rfl | rfl | rfl <;> simp <;> omega
set_option maxHeartbeats 4000000 in
theorem ex_step {d : Nat} (hd : d < 8) (hE : EX d) (hA : AT d) : EX (d + 1) := by
 intro l nl hl
 have hB : bnd d ≤ 2000 * 4 ^ 7 := Nat.mul_le_mul_left _ (Nat.pow_le_pow_right (by omega) (by omega))
 have hB1 : bnd (d + 1) = 4 * bnd d := by unfold bnd; rw [Nat.pow_succ]; omega
 have hB0 : 2000 ≤ bnd d := by unfold bnd; have := Nat.one_le_pow d 4 (by omega); omega
 cases l with
 | nil =>
  refine ⟨Ans.of (σ' := []) fn50_ (by simp) (by simp) ⟨0, fun N hN => ?_⟩, by simp [exS]; omega⟩
  simp -implicitDefEqProofs [i50, c50, exS]
 | cons b l =>
  have hlf : (b :: l).length < 2 ^ 40 := hl
  simp at hl
  have hb256 : b.toNat < 256 := b.toNat_lt
  obtain ⟨⟨k9, hk9⟩, n9⟩ := at_step hd hE hA (b :: l) false hlf
  have e9 : atS (d + 1) (b :: l) = atB (exS d) (atS d) b l := by simp [atS]
  rw [e9, encR_false, ofBytes_cons] at hk9
  rw [e9] at n9
  obtain ⟨⟨k1, hk1⟩, n1⟩ := hE l false (by omega)
  obtain ⟨k2, hk2⟩ := half_ans (b :: l) (by simp; omega)
  have hhl := half_len (b :: l)
  simp only [List.length_cons] at hhl
  obtain ⟨⟨k3, hk3⟩, n3⟩ := hA (halfL (b :: l)) false (by omega)
  obtain ⟨⟨k4, hk4⟩, n4⟩ := hE (halfL (b :: l)) false (by omega)
  obtain ⟨⟨k5, hk5⟩, n5⟩ := hA l false (by omega)
  obtain ⟨k6, hk6⟩ := half_ans l (by omega)
  have hhl2 := half_len l
  obtain ⟨⟨k7, hk7⟩, n7⟩ := hA (halfL l) false (by omega)
  rw [encR_false] at hk1 hk3 hk4 hk5 hk7
  rw [ofBytes_cons] at hk2
  simp only [exS]
  obtain ⟨m, hm⟩ : ∃ m, m = b.toNat := ⟨_, rfl⟩
  rw [← hm] at hb256 hk2 hk9 ⊢
  have w0 : IntKind.i64.wrap (m : Int) = m := wrap_i64 (by omega)
  have w10 : IntKind.i64.wrap ((m : Int) / 10) = ((m / 10 : Nat) : Int) := by rw [wrap_i64 (by omega)]; omega
  have w30 : IntKind.i64.wrap ((m : Int) / 30) = ((m / 30 : Nat) : Int) := by rw [wrap_i64 (by omega)]; omega
  have m10 : (m : Int).tmod 10 = ((m % 10 : Nat) : Int) := rfl
  have q3 : (((m / 10 : Nat) : Int)).tmod 3 = ((m / 10 % 3 : Nat) : Int) := rfl
  have q4 : (((m / 30 : Nat) : Int)).tmod 3 = ((m / 30 % 3 : Nat) : Int) := rfl
  have h3 : m / 10 % 3 < 3 := Nat.mod_lt _ (by omega)
  have h4 : m / 30 % 3 < 3 := Nat.mod_lt _ (by omega)
  have h10 : m % 10 < 10 := Nat.mod_lt _ (by omega)
  have x3 := idx_lt h3
  have x4 := idx_lt h4
  have p0 := pk_get [[120], [121], [102]] (m / 10 % 3) h3
  have p1 := pk_get [[], [32, 103], [32, 120, 32, 121]] (m / 30 % 3) h4
  have p2 := pk_get [[105, 100, 32, 120], [121], [102, 32, 120, 32, 121]] (m / 10 % 3) h3
  have p3 := pk_get [[67, 111, 110, 115, 32, 120, 32, 121, 32, 45, 62, 32], [83, 111, 109, 101, 32, 120, 32, 45, 62, 32], [78, 105, 108, 32, 45, 62, 32]] (m / 10 % 3) h3
  have p4 := pk_get [[], [59, 32, 78, 111, 110, 101, 32, 45, 62, 32, 121], [59, 32, 78, 105, 108, 32, 45, 62, 32, 102, 32, 120]] (m / 30 % 3) h4
  have l0 := pk_len (l := [[120], [121], [102]]) (k := 20) (by decide) (m / 10 % 3)
  have l1 := pk_len (l := [[], [32, 103], [32, 120, 32, 121]]) (k := 20) (by decide) (m / 30 % 3)
  have l2 := pk_len (l := [[105, 100, 32, 120], [121], [102, 32, 120, 32, 121]]) (k := 20) (by decide) (m / 10 % 3)
  have l3 := pk_len (l := [[67, 111, 110, 115, 32, 120, 32, 121, 32, 45, 62, 32], [83, 111, 109, 101, 32, 120, 32, 45, 62, 32], [78, 105, 108, 32, 45, 62, 32]]) (k := 20) (by decide) (m / 10 % 3)
  have l4 := pk_len (l := [[], [59, 32, 78, 111, 110, 101, 32, 45, 62, 32, 121], [59, 32, 78, 105, 108, 32, 45, 62, 32, 102, 32, 120]]) (k := 20) (by decide) (m / 30 % 3)
  simp only [encSs, List.map_cons, List.map_nil] at p0 p1 p2 p3 p4
  generalize pk [[120], [121], [102]] (m / 10 % 3) = P0 at *
  generalize pk [[], [32, 103], [32, 120, 32, 121]] (m / 30 % 3) = P1 at *
  generalize pk [[105, 100, 32, 120], [121], [102, 32, 120, 32, 121]] (m / 10 % 3) = P2 at *
  generalize pk [[67, 111, 110, 115, 32, 120, 32, 121, 32, 45, 62, 32], [83, 111, 109, 101, 32, 120, 32, 45, 62, 32], [78, 105, 108, 32, 45, 62, 32]] (m / 10 % 3) = P3 at *
  generalize pk [[], [59, 32, 78, 111, 110, 101, 32, 45, 62, 32, 121], [59, 32, 78, 105, 108, 32, 45, 62, 32, 102, 32, 120]] (m / 30 % 3) = P4 at *
  generalize atB (exS d) (atS d) b l = AB at *
  generalize exS d l = E1 at *
  generalize atS d l = A2 at *
  generalize atS d (halfL (b :: l)) = A1 at *
  generalize exS d (halfL (b :: l)) = E2 at *
  generalize atS d (halfL l) = A3 at *
  generalize halfL (b :: l) = hv at *
  generalize halfL l = hv2 at *
  generalize m / 10 % 3 = r3 at *
  generalize m / 30 % 3 = r4 at *
  generalize m / 10 = mq at *
  generalize m / 30 = mq3 at *
  generalize m % 10 = r at *
  have i0 : idxN 0 (l.length + 1) = some 0 := by unfold idxN; rw [if_pos (by omega)]; rfl
  have b1 : bounds (some 1) none (l.length + 1) = some (1, l.length + 1) := bounds_from (k := 1) (by omega)
  have t1 : (ofBytes l).take l.length = ofBytes l := List.take_of_length_le (by simp)
  have z0 : ((l.length : Int) + 1 == 0) = false := by simp; omega
  have d1 : ¬ ((d : Int) + 1 < 1) := by omega
  have ws : IntKind.i64.wrap (d : Int) = d := wrap_i64 (by omega)
  have hcs : r = 0 ∨ r = 1 ∨ r = 2 ∨ r = 3 ∨ r = 4 ∨ r = 5 ∨ r = 6 ∨ r = 7 ∨ r = 8 ∨ r = 9 := by omega
  constructor
  ·refine Ans.of (σ' := []) fn50_ (by simp) (by simp) ⟨k1 + k2 + k3 + k4 + k5 + k6 + k7 + k9, fun N hN => ?_⟩
   have hk1 := hk1 N (by omega)
   have hk2 := hk2 N (by omega)
   have hk3 := hk3 N (by omega)
   have hk4 := hk4 N (by omega)
   have hk5 := hk5 N (by omega)
   have hk6 := hk6 N (by omega)
   have hk7 := hk7 N (by omega)
   have hk9 := hk9 N (by omega)
   simp only [Int.natCast_add, Int.natCast_one] at hk9
   rcases hcs with rfl | rfl | rfl | rfl | rfl | rfl | rfl | rfl | rfl | rfl
   ·obtain ⟨S1, e1, v1, s1⟩ := cat [92] P0 (by (try simp only [List.length_cons, List.length_nil]); omega)
    try simp only [List.length_cons, List.length_nil] at v1
    obtain ⟨S2, e2, v2, s2⟩ := cat S1 P1 (by (try simp only [List.length_cons, List.length_nil]); omega)
    try simp only [List.length_cons, List.length_nil] at v2
    obtain ⟨S3, e3, v3, s3⟩ := cat S2 [32, 45, 62, 32] (by (try simp only [List.length_cons, List.length_nil]); omega)
    try simp only [List.length_cons, List.length_nil] at v3
    obtain ⟨S4, e4, v4, s4⟩ := cat S3 E1 (by (try simp only [List.length_cons, List.length_nil]); omega)
    try simp only [List.length_cons, List.length_nil] at v4
    show runFn ctx (acall ctx N) N i50 [encR 1 nl (ofBytes (b :: l)), .int .i64 ((d + 1 : Nat) : Int)] [] = some (.str ([92] ++ P0 ++ P1 ++ [32, 45, 62, 32] ++ E1), [])
    rw [← e1, ← e2, ← e3, ← e4]
    simp -implicitDefEqProofs [i50, c50, w0, w10, w30, m10, q3, q4, x3, x4, p0, p1, p2, p3, p4, hk1, hk2, hk3, hk4, hk5, hk6, hk7, hk9, i0, b1, t1, z0, d1, ws, ← hm, s1, s2, s3, s4, -strOp]
   ·obtain ⟨S1, e1, v1, s1⟩ := cat [92] P0 (by (try simp only [List.length_cons, List.length_nil]); omega)
    try simp only [List.length_cons, List.length_nil] at v1
    obtain ⟨S2, e2, v2, s2⟩ := cat S1 P1 (by (try simp only [List.length_cons, List.length_nil]); omega)
    try simp only [List.length_cons, List.length_nil] at v2
    obtain ⟨S3, e3, v3, s3⟩ := cat S2 [32, 45, 62, 32] (by (try simp only [List.length_cons, List.length_nil]); omega)
    try simp only [List.length_cons, List.length_nil] at v3
    obtain ⟨S4, e4, v4, s4⟩ := cat S3 E1 (by (try simp only [List.length_cons, List.length_nil]); omega)
    try simp only [List.length_cons, List.length_nil] at v4
    show runFn ctx (acall ctx N) N i50 [encR 1 nl (ofBytes (b :: l)), .int .i64 ((d + 1 : Nat) : Int)] [] = some (.str ([92] ++ P0 ++ P1 ++ [32, 45, 62, 32] ++ E1), [])
    rw [← e1, ← e2, ← e3, ← e4]
    simp -implicitDefEqProofs [i50, c50, w0, w10, w30, m10, q3, q4, x3, x4, p0, p1, p2, p3, p4, hk1, hk2, hk3, hk4, hk5, hk6, hk7, hk9, i0, b1, t1, z0, d1, ws, ← hm, s1, s2, s3, s4, -strOp]
   ·obtain ⟨S1, e1, v1, s1⟩ := cat [108, 101, 116, 32] P2 (by (try simp only [List.length_cons, List.length_nil]); omega)
    try simp only [List.length_cons, List.length_nil] at v1
    obtain ⟨S2, e2, v2, s2⟩ := cat S1 [32, 61, 32] (by (try simp only [List.length_cons, List.length_nil]); omega)
    try simp only [List.length_cons, List.length_nil] at v2
    obtain ⟨S3, e3, v3, s3⟩ := cat S2 E1 (by (try simp only [List.length_cons, List.length_nil]); omega)
    try simp only [List.length_cons, List.length_nil] at v3
    obtain ⟨S4, e4, v4, s4⟩ := cat S3 [32, 105, 110, 32] (by (try simp only [List.length_cons, List.length_nil]); omega)
    try simp only [List.length_cons, List.length_nil] at v4
    obtain ⟨S5, e5, v5, s5⟩ := cat S4 E2 (by (try simp only [List.length_cons, List.length_nil]); omega)
    try simp only [List.length_cons, List.length_nil] at v5
    show runFn ctx (acall ctx N) N i50 [encR 1 nl (ofBytes (b :: l)), .int .i64 ((d + 1 : Nat) : Int)] [] = some (.str ([108, 101, 116, 32] ++ P2 ++ [32, 61, 32] ++ E1 ++ [32, 105, 110, 32] ++ E2), [])
    rw [← e1, ← e2, ← e3, ← e4, ← e5]
    simp -implicitDefEqProofs [i50, c50, w0, w10, w30, m10, q3, q4, x3, x4, p0, p1, p2, p3, p4, hk1, hk2, hk3, hk4, hk5, hk6, hk7, hk9, i0, b1, t1, z0, d1, ws, ← hm, s1, s2, s3, s4, s5, -strOp]
   ·obtain ⟨S1, e1, v1, s1⟩ := cat [105, 102, 32] E1 (by (try simp only [List.length_cons, List.length_nil]); omega)
    try simp only [List.length_cons, List.length_nil] at v1
    obtain ⟨S2, e2, v2, s2⟩ := cat S1 [32, 116, 104, 101, 110, 32] (by (try simp only [List.length_cons, List.length_nil]); omega)
    try simp only [List.length_cons, List.length_nil] at v2
    obtain ⟨S3, e3, v3, s3⟩ := cat S2 A1 (by (try simp only [List.length_cons, List.length_nil]); omega)
    try simp only [List.length_cons, List.length_nil] at v3
    obtain ⟨S4, e4, v4, s4⟩ := cat S3 [32, 101, 108, 115, 101, 32] (by (try simp only [List.length_cons, List.length_nil]); omega)
    try simp only [List.length_cons, List.length_nil] at v4
    obtain ⟨S5, e5, v5, s5⟩ := cat S4 E2 (by (try simp only [List.length_cons, List.length_nil]); omega)
    try simp only [List.length_cons, List.length_nil] at v5
    show runFn ctx (acall ctx N) N i50 [encR 1 nl (ofBytes (b :: l)), .int .i64 ((d + 1 : Nat) : Int)] [] = some (.str ([105, 102, 32] ++ E1 ++ [32, 116, 104, 101, 110, 32] ++ A1 ++ [32, 101, 108, 115, 101, 32] ++ E2), [])
    rw [← e1, ← e2, ← e3, ← e4, ← e5]
    simp -implicitDefEqProofs [i50, c50, w0, w10, w30, m10, q3, q4, x3, x4, p0, p1, p2, p3, p4, hk1, hk2, hk3, hk4, hk5, hk6, hk7, hk9, i0, b1, t1, z0, d1, ws, ← hm, s1, s2, s3, s4, s5, -strOp]
   ·obtain ⟨S1, e1, v1, s1⟩ := cat [99, 97, 115, 101, 32] E1 (by (try simp only [List.length_cons, List.length_nil]); omega)
    try simp only [List.length_cons, List.length_nil] at v1
    obtain ⟨S2, e2, v2, s2⟩ := cat S1 [32, 111, 102, 32, 123] (by (try simp only [List.length_cons, List.length_nil]); omega)
    try simp only [List.length_cons, List.length_nil] at v2
    obtain ⟨S3, e3, v3, s3⟩ := cat S2 P3 (by (try simp only [List.length_cons, List.length_nil]); omega)
    try simp only [List.length_cons, List.length_nil] at v3
    obtain ⟨S4, e4, v4, s4⟩ := cat S3 E2 (by (try simp only [List.length_cons, List.length_nil]); omega)
    try simp only [List.length_cons, List.length_nil] at v4
    obtain ⟨S5, e5, v5, s5⟩ := cat S4 P4 (by (try simp only [List.length_cons, List.length_nil]); omega)
    try simp only [List.length_cons, List.length_nil] at v5
    obtain ⟨S6, e6, v6, s6⟩ := cat S5 [125] (by (try simp only [List.length_cons, List.length_nil]); omega)
    try simp only [List.length_cons, List.length_nil] at v6
    show runFn ctx (acall ctx N) N i50 [encR 1 nl (ofBytes (b :: l)), .int .i64 ((d + 1 : Nat) : Int)] [] = some (.str ([99, 97, 115, 101, 32] ++ E1 ++ [32, 111, 102, 32, 123] ++ P3 ++ E2 ++ P4 ++ [125]), [])
    rw [← e1, ← e2, ← e3, ← e4, ← e5, ← e6]
    simp -implicitDefEqProofs [i50, c50, w0, w10, w30, m10, q3, q4, x3, x4, p0, p1, p2, p3, p4, hk1, hk2, hk3, hk4, hk5, hk6, hk7, hk9, i0, b1, t1, z0, d1, ws, ← hm, s1, s2, s3, s4, s5, s6, -strOp]
   ·obtain ⟨S1, e1, v1, s1⟩ := cat A2 [32] (by (try simp only [List.length_cons, List.length_nil]); omega)
    try simp only [List.length_cons, List.length_nil] at v1
    obtain ⟨S2, e2, v2, s2⟩ := cat S1 A1 (by (try simp only [List.length_cons, List.length_nil]); omega)
    try simp only [List.length_cons, List.length_nil] at v2
    show runFn ctx (acall ctx N) N i50 [encR 1 nl (ofBytes (b :: l)), .int .i64 ((d + 1 : Nat) : Int)] [] = some (.str (A2 ++ [32] ++ A1), [])
    rw [← e1, ← e2]
    simp -implicitDefEqProofs [i50, c50, w0, w10, w30, m10, q3, q4, x3, x4, p0, p1, p2, p3, p4, hk1, hk2, hk3, hk4, hk5, hk6, hk7, hk9, i0, b1, t1, z0, d1, ws, ← hm, s1, s2, -strOp]
   ·obtain ⟨S1, e1, v1, s1⟩ := cat A2 [32] (by (try simp only [List.length_cons, List.length_nil]); omega)
    try simp only [List.length_cons, List.length_nil] at v1
    obtain ⟨S2, e2, v2, s2⟩ := cat S1 A1 (by (try simp only [List.length_cons, List.length_nil]); omega)
    try simp only [List.length_cons, List.length_nil] at v2
    show runFn ctx (acall ctx N) N i50 [encR 1 nl (ofBytes (b :: l)), .int .i64 ((d + 1 : Nat) : Int)] [] = some (.str (A2 ++ [32] ++ A1), [])
    rw [← e1, ← e2]
    simp -implicitDefEqProofs [i50, c50, w0, w10, w30, m10, q3, q4, x3, x4, p0, p1, p2, p3, p4, hk1, hk2, hk3, hk4, hk5, hk6, hk7, hk9, i0, b1, t1, z0, d1, ws, ← hm, s1, s2, -strOp]
   ·obtain ⟨S1, e1, v1, s1⟩ := cat A2 [32] (by (try simp only [List.length_cons, List.length_nil]); omega)
    try simp only [List.length_cons, List.length_nil] at v1
    obtain ⟨S2, e2, v2, s2⟩ := cat S1 A1 (by (try simp only [List.length_cons, List.length_nil]); omega)
    try simp only [List.length_cons, List.length_nil] at v2
    obtain ⟨S3, e3, v3, s3⟩ := cat S2 [32] (by (try simp only [List.length_cons, List.length_nil]); omega)
    try simp only [List.length_cons, List.length_nil] at v3
    obtain ⟨S4, e4, v4, s4⟩ := cat S3 A3 (by (try simp only [List.length_cons, List.length_nil]); omega)
    try simp only [List.length_cons, List.length_nil] at v4
    show runFn ctx (acall ctx N) N i50 [encR 1 nl (ofBytes (b :: l)), .int .i64 ((d + 1 : Nat) : Int)] [] = some (.str (A2 ++ [32] ++ A1 ++ [32] ++ A3), [])
    rw [← e1, ← e2, ← e3, ← e4]
    simp -implicitDefEqProofs [i50, c50, w0, w10, w30, m10, q3, q4, x3, x4, p0, p1, p2, p3, p4, hk1, hk2, hk3, hk4, hk5, hk6, hk7, hk9, i0, b1, t1, z0, d1, ws, ← hm, s1, s2, s3, s4, -strOp]
   ·show runFn ctx (acall ctx N) N i50 [encR 1 nl (ofBytes (b :: l)), .int .i64 ((d + 1 : Nat) : Int)] [] = some (.str AB, [])
    simp -implicitDefEqProofs [i50, c50, w0, w10, w30, m10, q3, q4, x3, x4, p0, p1, p2, p3, p4, hk1, hk2, hk3, hk4, hk5, hk6, hk7, hk9, i0, b1, t1, z0, d1, ws, ← hm]
   ·show runFn ctx (acall ctx N) N i50 [encR 1 nl (ofBytes (b :: l)), .int .i64 ((d + 1 : Nat) : Int)] [] = some (.str AB, [])
    simp -implicitDefEqProofs [i50, c50, w0, w10, w30, m10, q3, q4, x3, x4, p0, p1, p2, p3, p4, hk1, hk2, hk3, hk4, hk5, hk6, hk7, hk9, i0, b1, t1, z0, d1, ws, ← hm]
  ·rcases hcs with rfl | rfl | rfl | rfl | rfl | rfl | rfl | rfl | rfl | rfl <;> simp <;> omega
theorem all_ex : ∀ d, d ≤ 8 → EX d ∧ AT d
 | 0, _ => by
  constructor
  ·intro l nl hl
   refine ⟨?_, by simp [exS, bnd]⟩
   cases l with
   | nil =>
    refine Ans.of (σ' := []) fn50_ (by simp) (by simp) ⟨0, fun N hN => ?_⟩
    simp -implicitDefEqProofs [i50, c50, exS]
   | cons b l =>
    have z0 : ((l.length : Int) + 1 == 0) = false := by simp; omega
    refine Ans.of (σ' := []) fn50_ (by simp) (by simp) ⟨0, fun N hN => ?_⟩
    simp -implicitDefEqProofs [i50, c50, exS, z0]
  ·intro l nl hl
   refine ⟨?_, by simp [atS, bnd]⟩
   cases l with
   | nil =>
    refine Ans.of (σ' := []) fn86_ (by simp) (by simp) ⟨0, fun N hN => ?_⟩
    simp -implicitDefEqProofs [i86, c86, atS]
   | cons b l =>
    have z0 : ((l.length : Int) + 1 == 0) = false := by simp; omega
    refine Ans.of (σ' := []) fn86_ (by simp) (by simp) ⟨0, fun N hN => ?_⟩
    simp -implicitDefEqProofs [i86, c86, atS, z0]
 | d + 1, h => by
  obtain ⟨h1, h2⟩ := all_ex d (by omega)
  exact ⟨ex_step (by omega) h1 h2, at_step (by omega) h1 h2⟩
theorem expr19_ans (l : List UInt8) (nl : Bool) (hl : l.length < 2 ^ 40) : Ans ctx 19 [encR 1 nl (ofBytes l)] (.str (exS 8 l)) ∧ (exS 8 l).length ≤ 2 ^ 40 := by
 obtain ⟨⟨k, hk⟩, hn⟩ := (all_ex 8 (Nat.le_refl _)).1 l nl hl
 refine ⟨Ans.of (σ' := []) fn19_ (by simp) (by simp) ⟨k, fun N hN => ?_⟩, Nat.le_trans hn (by unfold bnd; decide)⟩
 have hk := hk N hN
 simp only [Int.cast_ofNat_Int] at hk
 simp -implicitDefEqProofs [i19, c19, hk]
end Go.Am.Try
