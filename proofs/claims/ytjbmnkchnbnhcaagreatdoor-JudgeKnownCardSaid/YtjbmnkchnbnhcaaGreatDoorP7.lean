/- Layers 12 to 14: expressions in memory; the reference's lams, alt. -/
import Derived.Test.YtjbmnkchnbnhcaaGreatDoorP6
set_option linter.unusedVariables false
set_option maxRecDepth 100000
set_option linter.unusedSimpArgs false
namespace Go.Am.Tryz
open Go Go.Am.Ps
def encSs (l : List Str) : List AV := l.map .str
mutual
def cellsE : Ex → List AV
  | .mk k a s n ks as => [.int .i64 k, .int .i64 a, .str s, .int .i64 n, encR 6 true (encEs ks), encR 9 true (encAs as)]
def encEs : List Ex → List AV
  | [] => []
  | e :: l => .agg (cellsE e) :: encEs l
def encAs : List Al → List AV
  | [] => []
  | .mk a c ns b :: l => .agg (.int .i64 a :: .str c :: encR 1 true (encSs ns) :: cellsE b) :: encAs l
end
def encE (e : Ex) : AV := .agg (cellsE e)
def encA : Al → AV
  | .mk a c ns b => .agg (.int .i64 a :: .str c :: encR 1 true (encSs ns) :: cellsE b)
theorem encEs_map : ∀ l, encEs l = l.map encE
  | [] => by simp [encEs]
  | e :: l => by simp [encEs, encEs_map l, encE]
theorem encAs_map : ∀ l, encAs l = l.map encA
  | [] => by simp [encAs]
  | .mk a c ns b :: l => by simp [encAs, encAs_map l, encA]
@[simp] theorem encEs_nil : encEs [] = [] := by simp [encEs]
@[simp] theorem encEs_cons (e : Ex) (l : List Ex) : encEs (e :: l) = encE e :: encEs l := by simp [encEs_map]
@[simp] theorem encAs_nil : encAs [] = [] := by simp [encAs]
@[simp] theorem encAs_cons (e : Al) (l : List Al) : encAs (e :: l) = encA e :: encAs l := by simp [encAs_map]
@[simp] theorem encEs_app (l m : List Ex) : encEs (l ++ m) = encEs l ++ encEs m := by simp [encEs_map]
@[simp] theorem encAs_app (l m : List Al) : encAs (l ++ m) = encAs l ++ encAs m := by simp [encAs_map]
@[simp] theorem encEs_length (l : List Ex) : (encEs l).length = l.length := by simp [encEs_map]
@[simp] theorem encAs_length (l : List Al) : (encAs l).length = l.length := by simp [encAs_map]
@[simp] theorem encSs_length (l : List Str) : (encSs l).length = l.length := by simp [encSs]
@[simp] theorem encSs_nil : encSs [] = [] := rfl
@[simp] theorem encSs_cons (s : Str) (l : List Str) : encSs (s :: l) = .str s :: encSs l := rfl
@[simp] theorem encSs_app (l m : List Str) : encSs (l ++ m) = encSs l ++ encSs m := by simp [encSs]
@[simp] theorem noRefs_encSs : ∀ l : List Str, AV.noRefs (encSs l) = true
  | [] => rfl
  | s :: l => by simp [noRefs_encSs l]
@[simp] theorem cellsE_length (e : Ex) : (cellsE e).length = 6 := by cases e; simp [cellsE]
mutual
@[simp] theorem noRefs_cellsE : ∀ e, AV.noRefs (cellsE e) = true
  | .mk k a s n ks as => by simp [cellsE, noRefs_encEs ks, noRefs_encAs as]
@[simp] theorem noRefs_encEs : ∀ l, AV.noRefs (encEs l) = true
  | [] => by simp
  | e :: l => by simp [encE, noRefs_cellsE e, noRefs_encEs l]
@[simp] theorem noRefs_encAs : ∀ l, AV.noRefs (encAs l) = true
  | [] => by simp
  | .mk a c ns b :: l => by simp [encA, noRefs_cellsE b, noRefs_encAs l]
end
@[simp] theorem noRef_encE (e : Ex) : (encE e).noRef = true := by simp [encE]
@[simp] theorem noRef_encA (e : Al) : (encA e).noRef = true := by cases e; simp [encA]
@[simp] theorem encE_fits (e : Ex) (ti : TI) : (encE e).fits ti = (ti.k.isAgg && 6 == ti.size) := by simp [encE]
@[simp] theorem encA_fits (e : Al) (ti : TI) : (encA e).fits ti = (ti.k.isAgg && 9 == ti.size) := by cases e; simp [encA]
theorem encE_mk (k a : Nat) (s : Str) (n : Nat) (ks : List Ex) (as : List Al) : encE (.mk k a s n ks as) = .agg [.int .i64 k, .int .i64 a, .str s, .int .i64 n, encR 6 true (encEs ks), encR 9 true (encAs as)] := by simp [encE, cellsE]
theorem lams_snoc (a : Nat) (t : Tok) (b : Ex) : ∀ l, lams a (l ++ [t]) b = lams a l (.mk 6 a t.s 0 [b] [])
  | [] => rfl
  | x :: l => by simp [lams, lams_snoc a t b l]
theorem lp47 (L : List Tok) (hL : L.length ≤ 65536) (a : Nat) (Z : AV) : ∀ (m : Nat) (pre suf : List Tok) (b : Ex), pre.length = m → L = pre ++ suf →
    ∃ fr', Lp ctx [] [] [0, 1, 5, 6, 7] b81_0 ⟨[(0, .v (encR 4 true (encToks L))), (1, .v (.int .i64 a)), (5, .bx (encE b)), (6, .bx Z), (7, .v (.int .i64 ((m : Int) - 1)))], false⟩ [] (.ex 0) fr' [] ∧ fr'.lk = false ∧ Hi 24 fr' ∧
      getS fr'.sl 5 = .bx (encE (lams a pre b)) ∧ getS fr'.sl 6 = .bx Z
  | 0, pre, suf, b, hp, hs => by
    obtain rfl : pre = [] := List.length_eq_zero_iff.1 hp
    refine ⟨?_, Lp.exit ⟨0, fun N _ => ?_⟩ (by simp), ?_⟩
    rotate_left
    · simp -implicitDefEqProofs [b81_0]
      rfl
    · exact ⟨by simp, hi_of (by simp), by simp [lams], by simp⟩
  | m + 1, pre, suf, b, hp, hs => by
    obtain ⟨pre', t, rfl⟩ : ∃ pre' t, pre = pre' ++ [t] := by
      have : pre ≠ [] := by intro h; rw [h] at hp; simp at hp
      exact ⟨pre.dropLast, pre.getLast this, (List.dropLast_concat_getLast this).symm⟩
    simp at hp
    have hlen : L.length = m + 1 + suf.length := by rw [hs]; simp [hp]; omega
    obtain ⟨fr', h1, h2⟩ := lp47 L hL a Z m pre' (t :: suf) (.mk 6 a t.s 0 [b] []) hp (by rw [hs]; simp)
    rw [lams_snoc]
    have g0 : encR 4 true (encToks L) = .sl 4 (encToks L) := by rw [hs]; simp
    have g1 : idxN (m : Int) L.length = some m := by unfold idxN; rw [if_pos (by omega)]; simp
    have g2 : (encToks L)[m]? = some (encTok t) := by rw [hs, ← hp]; simp
    have hw : IntKind.i64.wrap ((m : Int) - 1) = (m : Int) - 1 := wrap_i64 (by omega)
    have e1 : ((m + 1 : Nat) : Int) - 1 = (m : Int) := by omega
    have e2 : (0 : Int) ≤ (m : Int) := by omega
    rw [g0] at h1 ⊢
    rw [e1]
    unfold encTok at g2
    have g3 : encE (.mk 6 a t.s 0 [b] []) = .agg [.int .i64 6, .int .i64 a, .str t.s, .int .i64 0, .sl 6 [encE b], .nil] := by rw [encE_mk]; simp
    refine ⟨fr', Lp.step ⟨0, fun N hN => ?_⟩ h1, h2⟩
    rw [g3]
    simp -implicitDefEqProofs [b81_0, g1, g2, hw, e2]
theorem lams_ans (L : List Tok) (hL : L.length ≤ 65536) (a : Nat) (b : Ex) : Ans ctx 81 [encR 4 true (encToks L), .int .i64 a, encE b] (encE (lams a L b)) := by
  obtain ⟨fr', h1, h2, h3, h4, h5⟩ := lp47 L hL a (.agg [.int .i64 0, .int .i64 0, .str [], .int .i64 0, .nil, .nil]) L.length L [] b rfl (by simp)
  obtain ⟨k, hk⟩ := h1.den
  unfold Hi at h3
  have hw : IntKind.i64.wrap ((L.length : Int) - 1) = (L.length : Int) - 1 := wrap_i64 (by omega)
  refine Ans.of (σ' := []) fn81_ (by simp) (by simp) ⟨k, fun N hN => ?_⟩
  have hk := hk N hN
  simp -implicitDefEqProofs [i81, c81, hk, h2, h3, h4, h5, hw]
end Go.Am.Tryz
