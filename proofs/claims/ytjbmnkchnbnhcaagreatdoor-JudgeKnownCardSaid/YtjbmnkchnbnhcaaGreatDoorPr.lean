/- The library's functions that the machine takes as one step: Itoa (of small numbers), Clone. -/
import Derived.Test.YtjbmnkchnbnhcaaGreatDoorMFacts
import Derived.Test.YtjbmnkchnbnhcaaGreatDoorMKnow
import Derived.Test.YtjbmnkchnbnhcaaGreatDoorShelf
set_option maxRecDepth 100000
namespace Go.Am.Tryz
open Go Go.Proofs
theorem digits_dec : ∀ (k n : Nat), n < 10 ^ k → 0 < k → digitsN k n = Lib.decDigits n
  | 0, _, _, h => by omega
  | k + 1, n, hn, _ => by
    rw [digitsN, Lib.decDigits]
    by_cases h : n < 10
    · simp [h]
    · rw [if_neg h, dif_neg h]
      have hk : 0 < k := by
        rcases Nat.eq_zero_or_pos k with rfl | h'
        · simp at hn; omega
        · exact h'
      rw [digits_dec k (n / 10) (by rw [Nat.pow_succ] at hn; omega) hk]
theorem itoa_small {n : Int} (h0 : 0 ≤ n) (h1 : n < 100) : itoa n = Lib.decDigits n.toNat := by
  unfold itoa
  rw [if_neg (by omega)]
  exact digits_dec 20 _ (by have : n.toNat < 100 := by omega
                            exact Nat.lt_of_lt_of_le this (by decide)) (by omega)
theorem itoa_serves : ServesM Tryz.prog 151 primItoaS := by
  intro l σ r σ' h g w vs hr hv
  obtain ⟨m, hm, h⟩ := app_eq h
  unfold primItoaS at hm
  split at hm <;> try (subst hm; exact (failM_eq h).elim)
  rename_i n
  split at hm <;> subst hm
  case isFalse => exact (failM_eq h).elim
  rename_i hn
  obtain ⟨rfl, rfl⟩ := pureM_eq h
  obtain ⟨v, h1, h2⟩ := hv.2 0 _ rfl
  rw [VR_int] at h2
  subst h2
  have hvs : vs = #[.int .i64 n] := by
    have hs := hv.1
    simp at hs
    apply Array.ext
    · simp [hs]
    · intro i hi1 hi2
      simp at hi2
      subst hi2
      rw [Array.getElem?_eq_getElem hi1] at h1
      simpa using h1
  subst hvs
  have hc := Any.strconv_Itoa_small Tryz.laysItoa n.toNat (by omega) w
  rw [show ((n.toNat : Nat) : Int) = n by omega] at hc
  left
  refine ⟨by kernel_rfl, ?_⟩
  refine hc.mono fun e w' he => ?_
  obtain ⟨rfl, rfl⟩ := he
  refine ⟨g, hr, Step.refl _ _ _ _, VR_str.2 ⟨_, rfl, ?_⟩⟩
  rw [itoa_small hn.1 hn.2]
theorem itoa_ind : ∀ l, AV.noRefs l = true → Ind (primItoaS l) := by
  intro l _
  unfold primItoaS
  split
  · split
    · exact ind_pure _
    · exact ind_fail
  · exact ind_fail
def tyc : Ctx := ⟨types, [], [], [], []⟩
theorem tyc_ti (t : Nat) : tyc.ti t = ctx.ti t := rfl
theorem clone_nil (σ : H) : primOf types i134 [.nil] σ = some (.nil, σ) := by
  show runFn tyc (fun _ _ => failM) 1 i134 [.nil] σ = _
  simp [i134, c134, tyc_ti]
theorem arrAt_last (σ : H) (v sz : Nat) (xs : List AV) (h : xs.length = v) : arrAt (σ ++ [.arr false sz xs]) σ.length v = some (false, sz, xs) := by
  simp [h]
theorem clone_cons (σ : H) (x : AV) (xs : List AV) (hf : fitAll ⟨.strct [(0, 3), (1, 3), (2, 9), (3, 33)], 4, 56, .agg [.int .i64 0, .int .i64 0, .str [], .nil], []⟩ (x :: xs) = true) (hl : xs.length + 1 < 2 ^ 39) :
    primOf types i134 [.sl 4 (x :: xs)] σ = some (.hs σ.length (xs.length + 1) 0 (xs.length + 1) 4, σ ++ [.arr false 4 (x :: xs)]) := by
  show runFn tyc (fun _ _ => failM) 1 i134 [.sl 4 (x :: xs)] σ = _
  have h1 : (xs.length + 1) * 56 ≤ 2 ^ 45 := by omega
  have h2 : xs.length + 1 ≤ 2 ^ 45 := by omega
  simp only [fitAll] at hf
  simp [i134, c134, tyc_ti, hf, h1, h2]
theorem clone_empty (σ : H) : primOf types i134 [.sl 4 []] σ = some (.hs σ.length 0 0 0 4, σ ++ [.arr false 4 []]) := by
  show runFn tyc (fun _ _ => failM) 1 i134 [.sl 4 []] σ = _
  simp [i134, c134, tyc_ti]
theorem clone_serves : ServesM Tryz.prog 134 (primOf types i134) := primOf_serves allTy mix fn134
theorem clone_ind : ∀ l, AV.noRefs l = true → Ind (primOf types i134 l) := by
  refine primOf_ind clone_nil fun s xs r h => ?_
  have h : runFn tyc (fun _ _ => failM) 1 i134 [.sl s xs] [] = some (r, []) := h
  cases xs with
  | nil =>
    by_cases hs : s = 4
    · subst hs
      simp [i134, c134, tyc_ti] at h
    · simp [i134, c134, tyc_ti, hs] at h
  | cons x xs =>
  by_cases hs : s = 4
  · subst hs
    by_cases hc : (xs.length + 1) * 56 ≤ 35184372088832 ∧ xs.length ≤ 35184372088831 ∧ AV.fits ⟨.strct [(0, 3), (1, 3), (2, 9), (3, 33)], 4, 56, .agg [.int .i64 0, .int .i64 0, .str [], .nil], []⟩ x = true ∧ fitAll ⟨.strct [(0, 3), (1, 3), (2, 9), (3, 33)], 4, 56, .agg [.int .i64 0, .int .i64 0, .str [], .nil], []⟩ xs = true
    · simp [i134, c134, tyc_ti, hc] at h
    · simp [i134, c134, tyc_ti, hc] at h
  · simp [i134, c134, tyc_ti, hs] at h
theorem allPr : AllPr Tryz.prog ctx.prim := ⟨⟨clone_serves, clone_ind⟩, ⟨itoa_serves, itoa_ind⟩, trivial⟩
theorem ctx_ok : CtxOK Tryz.prog ctx := ctxOK allPr
end Go.Am.Tryz
