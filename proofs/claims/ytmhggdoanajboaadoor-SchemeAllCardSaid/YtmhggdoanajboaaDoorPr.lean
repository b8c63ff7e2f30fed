/- The library's functions that the machine takes as one step: Itoa (of any number), Clone. -/
import Derived.Test.YtmhggdoanajboaaDoorMFacts
import Derived.Test.YtmhggdoanajboaaDoorMKnow
import Derived.Test.YtmhggdoanajboaaDoorShelf
set_option maxRecDepth 100000
namespace Go.Am.Tryd
open Go Go.Proofs
theorem digits_dec : ∀ (k n : Nat), n < 10 ^ k → 0 < k → digitsN k n = Lib.decDigits n
  | 0, _, _, h => by omega
  | k + 1, n, hn, _ => by
    rw [digitsN, Lib.decDigits]
    by_cases h : n < 10
    · simp [h]
    · rw [if_neg h, dif_neg h]
      have hk : 0 < k := by
        rcases Nat.eq_zero_or_pos k with rfl | h'
        · simp at hn; omega
        · exact h'
      rw [digits_dec k (n / 10) (by rw [Nat.pow_succ] at hn; omega) hk]
theorem itoa_all {n : Int} (h0 : -9223372036854775808 ≤ n) (h1 : n ≤ 9223372036854775807) : itoa n = Lib.itoa n := by
  unfold itoa Lib.itoa
  split
  · rw [digits_dec 20 _ (by omega) (by omega)]
  · rw [digits_dec 20 _ (by omega) (by omega)]
theorem itoa_serves : ServesM Tryd.prog 68 primItoaT := by
  intro l σ r σ' h g w vs hr hv
  obtain ⟨m, hm, h⟩ := app_eq h
  unfold primItoaT at hm
  split at hm <;> try (subst hm; exact (failM_eq h).elim)
  rename_i n
  split at hm <;> subst hm
  case isFalse => exact (failM_eq h).elim
  rename_i hn
  obtain ⟨rfl, rfl⟩ := pureM_eq h
  obtain ⟨v, h1, h2⟩ := hv.2 0 _ rfl
  rw [VR_int] at h2
  subst h2
  have hvs : vs = #[.int .i64 n] := by
    have hs := hv.1
    simp at hs
    apply Array.ext
    · simp [hs]
    · intro i hi1 hi2
      simp at hi2
      subst hi2
      rw [Array.getElem?_eq_getElem hi1] at h1
      simpa using h1
  subst hvs
  obtain ⟨⟨el, f, hT⟩, _⟩ := hr.tb (0, (Lib.pow10Tab.map fun z => Value.int .u64 z).toArray) (by simp [TAB])
  have htab : Lib.TabIs Tryd.prog w "internal/strconv.uint64pow10" .u64 Lib.pow10Tab := by
    unfold Lib.TabIs World.var?
    have hg : Tryd.prog.globalNamed "internal/strconv.uint64pow10" = some 0 := by kernel_rfl
    rw [hg]
    show (match w.heap[0]? with | some (.cells cs _ _) => some cs | _ => none) = _
    rw [hT]
  have hc := Any.strconv_Itoa Tryd.laysItoa n hn.1 hn.2 w htab
  left
  refine ⟨by kernel_rfl, ?_⟩
  refine hc.mono fun e w' he => ?_
  obtain ⟨rfl, k, os, rfl⟩ := he
  have hG : Grow w (Go.Sort.grow (w.drewN k) os) := ⟨by simp [Go.Sort.grow, World.drewN], fun b hb => by
    show (w.heap ++ os)[b]? = _
    rw [Array.getElem?_append, if_pos hb], rfl, rfl, rfl⟩
  obtain ⟨h2, h3⟩ := hr.ext hG
  refine ⟨g, h2, h3, VR_str.2 ⟨_, rfl, ?_⟩⟩
  rw [itoa_all hn.1 hn.2]
theorem itoa_ind : ∀ l, AV.noRefs l = true → Ind (primItoaT l) := by
  intro l _
  unfold primItoaT
  split
  · split
    · exact ind_pure _
    · exact ind_fail
  · exact ind_fail
def tyc : Ctx := ⟨types, [], [], [], []⟩
theorem tyc_ti (t : Nat) : tyc.ti t = ctx.ti t := rfl
theorem clone_nil (σ : H) : primOf types i66 [.nil] σ = some (.nil, σ) := by
  show runFn tyc (fun _ _ => failM) 1 i66 [.nil] σ = _
  simp [i66, c66, tyc_ti]
theorem arrAt_last (σ : H) (v sz : Nat) (xs : List AV) (h : xs.length = v) : arrAt (σ ++ [.arr false sz xs]) σ.length v = some (false, sz, xs) := by
  simp [h]
theorem clone_cons (σ : H) (x : AV) (xs : List AV) (hf : fitAll ⟨.strct [(0, 3), (1, 3), (2, 9), (3, 22)], 4, 56, .agg [.int .i64 0, .int .i64 0, .str [], .nil], []⟩ (x :: xs) = true) (hl : xs.length + 1 < 2 ^ 39) :
    primOf types i66 [.sl 4 (x :: xs)] σ = some (.hs σ.length (xs.length + 1) 0 (xs.length + 1) 4, σ ++ [.arr false 4 (x :: xs)]) := by
  show runFn tyc (fun _ _ => failM) 1 i66 [.sl 4 (x :: xs)] σ = _
  have h1 : (xs.length + 1) * 56 ≤ 2 ^ 45 := by omega
  have h2 : xs.length + 1 ≤ 2 ^ 45 := by omega
  simp only [fitAll] at hf
  simp [i66, c66, tyc_ti, hf, h1, h2]
theorem clone_empty (σ : H) : primOf types i66 [.sl 4 []] σ = some (.hs σ.length 0 0 0 4, σ ++ [.arr false 4 []]) := by
  show runFn tyc (fun _ _ => failM) 1 i66 [.sl 4 []] σ = _
  simp [i66, c66, tyc_ti]
theorem clone_serves : ServesM Tryd.prog 66 (primOf types i66) := primOf_serves allTy mix fn66
theorem clone_ind : ∀ l, AV.noRefs l = true → Ind (primOf types i66 l) := by
  refine primOf_ind clone_nil fun s xs r h => ?_
  have h : runFn tyc (fun _ _ => failM) 1 i66 [.sl s xs] [] = some (r, []) := h
  cases xs with
  | nil =>
    by_cases hs : s = 4
    · subst hs
      simp [i66, c66, tyc_ti] at h
    · simp [i66, c66, tyc_ti, hs] at h
  | cons x xs =>
  by_cases hs : s = 4
  · subst hs
    by_cases hc : (xs.length + 1) * 56 ≤ 35184372088832 ∧ xs.length ≤ 35184372088831 ∧ AV.fits ⟨.strct [(0, 3), (1, 3), (2, 9), (3, 22)], 4, 56, .agg [.int .i64 0, .int .i64 0, .str [], .nil], []⟩ x = true ∧ fitAll ⟨.strct [(0, 3), (1, 3), (2, 9), (3, 22)], 4, 56, .agg [.int .i64 0, .int .i64 0, .str [], .nil], []⟩ xs = true
    · simp [i66, c66, tyc_ti, hc] at h
    · simp [i66, c66, tyc_ti, hc] at h
  · simp [i66, c66, tyc_ti, hs] at h
theorem allPr : AllPr Tryd.prog ctx.prim := ⟨⟨clone_serves, clone_ind⟩, ⟨itoa_serves, itoa_ind⟩, trivial⟩
theorem ctx_ok : CtxOK Tryd.prog ctx := ctxOK allPr
end Go.Am.Tryd
