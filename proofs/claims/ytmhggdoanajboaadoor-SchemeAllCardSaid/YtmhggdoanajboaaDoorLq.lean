/- Layer 9: Digits. -/
import Derived.Test.YtmhggdoanajboaaDoorLr
import Derived.Test.YtmhggdoanajboaaDoorLf
set_option linter.unusedVariables false
set_option maxRecDepth 100000
set_option linter.unusedSimpArgs false
namespace Go.Am.Tryd
open Go Go.Am.Ps
def digL : Nat → Nat → List UInt8 → Nat × List UInt8
  | 0, n, acc => (n, acc)
  | k + 1, n, acc => if n < 10 then (n, acc) else digL k (n / 10) (UInt8.ofNat (48 + n % 10) :: acc)
def digS (n : Nat) : List UInt8 := let p := digL 19 n []; UInt8.ofNat (48 + p.1) :: p.2
theorem digL_digits : ∀ (k n : Nat) (acc : List UInt8), n < 10 ^ (k + 1) → UInt8.ofNat (48 + (digL k n acc).1) :: (digL k n acc).2 = digitsN (k + 1) n ++ acc
  | 0, n, acc, h => by
    have : n < 10 := by simpa using h
    simp [digL, digitsN, this]
  | k + 1, n, acc, h => by
    rw [digL, digitsN]
    by_cases h10 : n < 10
    · simp [h10]
    · rw [if_neg h10, if_neg h10, digL_digits k (n / 10) _ (by rw [Nat.pow_succ] at h; omega)]
      simp
theorem digS_itoa (n : Nat) (h : n < 10 ^ 20) : digS n = itoa (n : Int) := by
  have h1 := digL_digits 19 n [] h
  unfold digS itoa
  simp only [h1]
  rw [if_neg (by omega)]
  simp
theorem wrap_u8n {m : Nat} (h : m < 256) : IntKind.u8.wrap (m : Int) = (m : Int) := by
  simp [IntKind.wrap, IntKind.signed, IntKind.bits]
  omega
theorem dg51 : ∀ (k n : Nat) (acc : List UInt8), n < 10 ^ (k + 1) → n < 2 ^ 62 → acc.length + k < 1000 →
    ∃ fr', Lp ctx [] [] [0, 3] b51_0 ⟨[(0, .v (.int .i64 n)), (3, .v (.str acc))], false⟩ [] (.ex 0) fr' [] ∧ fr'.lk = false ∧ Hi 16 fr' ∧ getS fr'.sl 2 = .u ∧ getS fr'.sl 0 = .v (.int .i64 (digL k n acc).1) ∧ getS fr'.sl 3 = .v (.str (digL k n acc).2) ∧ (digL k n acc).1 < 10 ∧ (digL k n acc).2.length < 1000
  | k, n, acc, hn, hb, hl => by
    by_cases h10 : n < 10
    · have h1 : ¬ (10 : Int) ≤ (n : Int) := by omega
      have e : digL k n acc = (n, acc) := by cases k <;> simp [digL, h10]
      rw [e]
      refine ⟨?_, Lp.exit ⟨0, fun N _ => ?_⟩ (by simp), ?_⟩
      rotate_left
      · simp -implicitDefEqProofs [b51_0, h1]
        rfl
      · exact ⟨by simp, hi_of (by simp), by simp, by simp, by simp, h10, by simp only; omega⟩
    · have h1 : (10 : Int) ≤ (n : Int) := by omega
      obtain ⟨k, rfl⟩ : ∃ k', k = k' + 1 := ⟨k - 1, by
        cases k with
        | zero => simp at hn; omega
        | succ k => rfl⟩
      have e : digL (k + 1) n acc = digL k (n / 10) (UInt8.ofNat (48 + n % 10) :: acc) := by simp [digL, h10]
      rw [e]
      obtain ⟨fr', q1, q2⟩ := dg51 k (n / 10) (UInt8.ofNat (48 + n % 10) :: acc) (by rw [Nat.pow_succ] at hn; omega) (by omega) (by simp; omega)
      have g1 : (n : Int).tmod 10 = ((n % 10 : Nat) : Int) := rfl
      have hm : n % 10 < 10 := Nat.mod_lt _ (by omega)
      have w1 : IntKind.i64.wrap (48 + ((n % 10 : Nat) : Int)) = ((48 + n % 10 : Nat) : Int) := by rw [wrap_i64 (by omega)]; omega
      have w2 := wrap_u8n (m := 48 + n % 10) (by omega)
      have w3 : IntKind.i64.wrap ((n : Int) / 10) = ((n / 10 : Nat) : Int) := by rw [wrap_i64 (by omega)]; omega
      have w4 : bytesOf [.int .u8 ((48 + n % 10 : Nat) : Int)] = some [UInt8.ofNat (48 + n % 10)] := by
        simp only [bytesOf]; rfl
      have w5 : acc.length + 1 < 4611686018427387904 := by omega
      have w6 : 1 + acc.length < 4611686018427387904 := by omega
      refine ⟨fr', Lp.step ⟨0, fun N hN => ?_⟩ q1, q2⟩
      generalize 48 + n % 10 = d at *
      generalize n / 10 = n' at *
      generalize UInt8.ofNat d = u at *
      generalize n % 10 = d' at *
      simp -implicitDefEqProofs [b51_0, h1, g1, w1, w2, w3, w4, w5, w6, isByte, strOp]
theorem digits_ans (n : Nat) (hn : n < 10 ^ 18) : Ans ctx 51 [.int .i64 n] (.str (itoa (n : Int))) := by
  rw [← digS_itoa n (by omega)]
  obtain ⟨fr', q1, q2, q3, q4, q5, q6, q7, q8⟩ := dg51 19 n [] (by omega) (by omega) (by simp)
  obtain ⟨k, hk⟩ := q1.den
  unfold Hi at q3
  unfold digS
  simp only
  generalize (digL 19 n []).1 = m at *
  generalize (digL 19 n []).2 = acc at *
  have w1 : IntKind.i64.wrap (48 + (m : Int)) = ((48 + m : Nat) : Int) := by rw [wrap_i64 (by omega)]; omega
  have w2 := wrap_u8n (m := 48 + m) (by omega)
  have w4 : bytesOf [.int .u8 ((48 + m : Nat) : Int)] = some [UInt8.ofNat (48 + m)] := by simp only [bytesOf]; rfl
  have w6 : 1 + acc.length < 4611686018427387904 := by omega
  have w5 : acc.length + 1 < 4611686018427387904 := by omega
  refine Ans.of (σ' := []) fn51_ (by simp) (by simp) ⟨k, fun N hN => ?_⟩
  have hk := hk N hN
  generalize 48 + m = d at *
  generalize UInt8.ofNat d = u at *
  simp -implicitDefEqProofs [i51, c51, hk, q2, q3, q4, q5, q6, w1, w2, w4, w5, w6, isByte, strOp]
end Go.Am.Tryd
