/- The document's example; graphs by numbers. -/
import Derived.Test.YtflhndopabnipaaS12
set_option linter.unusedVariables false
set_option linter.unusedSimpArgs false
set_option maxRecDepth 100000
namespace Go.Am.Try
open Go Go.Am.Sc
def toI (L : List (List Nat)) : List (Bool × List Int) := L.map fun l => (true, l.map fun (n : Nat) => (n : Int))
theorem encU_toI (L : List (List Nat)) : encU L = encG (toI L) := by
  simp [encU, encG, toI, rowI, encNs_Is]
@[simp] theorem toI_length (L : List (List Nat)) : (toI L).length = L.length := by simp [toI]
theorem toI_inj {L M : List (List Nat)} (h : (toI L).map (·.2) = (toI M).map (·.2)) : L = M := by
  have hf : ∀ l m : List Nat, (l.map fun (n : Nat) => (n : Int)) = m.map (fun (n : Nat) => (n : Int)) → l = m := fun l m e =>
    (List.map_inj_right (fun x y e => by have e : (x : Int) = (y : Int) := e; omega)).1 e
  unfold toI at h
  simp only [List.map_map] at h
  induction L generalizing M with
  | nil =>
    cases M with
    | nil => rfl
    | cons m M => simp at h
  | cons l L ih =>
    cases M with
    | nil => simp at h
    | cons m M =>
      simp only [List.map_cons, List.cons.injEq] at h
      rw [hf l m h.1, ih h.2]
theorem same_U (L M : List (List Nat)) (na nb : Bool) (hL : L.length < big) (hr : ∀ l ∈ L, l.length < big) : Ans ctx 16 [encR 1 na (encU L), encR 1 nb (encU M)] (.bool (decide (L = M))) := by
  have := same_ans (toI L) (toI M) na nb (by simpa using hL) (fun q hq => by
    obtain ⟨l, hl, rfl⟩ := List.mem_map.1 hq
    simpa using hr l hl)
  rw [encU_toI, encU_toI]
  have e : decide ((toI L).map (·.2) = (toI M).map (·.2)) = decide (L = M) := by
    rw [decide_eq_decide]
    exact ⟨toI_inj, fun e => by rw [e]⟩
  rw [e] at this
  exact this
theorem Grp.len_le {n : Nat} {R : Nat → Nat → Prop} {L : List (List Nat)} (h : Grp n R L) (ho : L.Pairwise fun l m => hd l < hd m) : L.length ≤ n ∧ ∀ l ∈ L, l.length ≤ n := by
  constructor
  · have h1 : (L.map hd).Nodup := by
      rw [List.nodup_iff_pairwise_ne, List.pairwise_map]
      exact ho.imp fun k => by omega
    have h2 := nodup_le h1 (m := n) (fun x hx => by
      obtain ⟨l, hl, rfl⟩ := List.mem_map.1 hx
      exact h.lt l hl _ (hd_mem (h.rise l hl).1))
    simpa using h2
  · intro l hl
    exact nodup_le (nodup_of_lt (f := id) (h.rise l hl).2) (h.lt l hl)
def g01 : List (Bool × List Int) := [(false, [1]), (false, [0])]
theorem ed01 : Ed (outG g01) 0 1 ∧ Ed (outG g01) 1 0 := by
  constructor <;> simp [Ed, outs, outG, g01, cl]
theorem grp01 : Grp 2 (Rch (Ed (outG g01))) [[0, 1]] := by
  refine ⟨by simp, by simp, ?_, fun x hx => ⟨[0, 1], by simp, by simp; omega⟩⟩
  intro l hl x hx y
  simp at hl
  subst hl
  have hx2 : x = 0 ∨ x = 1 := by simpa using hx
  have hlt : ∀ a b, a < 2 → Rch (Ed (outG g01)) a b → b < 2 := fun a b ha h => h.inv (p := fun z => z < 2) (fun x y _ e => by
    have := ed_ok g01 x y e
    rw [outG_len] at this; exact this) ha
  constructor
  · intro hy
    have hy2 : y = 0 ∨ y = 1 := by simpa using hy
    rcases hx2 with rfl | rfl <;> rcases hy2 with rfl | rfl
    · exact ⟨.refl _, .refl _⟩
    · exact ⟨.one ed01.1, .one ed01.2⟩
    · exact ⟨.one ed01.2, .one ed01.1⟩
    · exact ⟨.refl _, .refl _⟩
  · rintro ⟨h1, _⟩
    have := hlt x y (by omega) h1
    simp; omega
theorem awake14_ans : Ans ctx 14 [] (.bool true) := by
  obtain ⟨G, h1, h2, k, hk⟩ := of_ans g01 false (by simp [g01]) (fun q hq => by simp [g01] at hq; rcases hq with rfl | rfl <;> simp)
  have e : G = [[0, 1]] := Grp.only h1 grp01 h2 (by simp)
  subst e
  obtain ⟨k2, hk2⟩ := same_U [[0, 1]] [[0, 1]] true false (by simp [big]) (by simp [big])
  refine Ans.of (σ' := []) fn14_ (by simp [AV.noRefs]) (by simp) ⟨k + k2, fun N hN => ?_⟩
  have hk := hk N (by omega)
  have hk2 := hk2 N (by omega)
  have ea : encR 1 false (encG g01) = .sl 1 [.sl 1 [.int .i64 1], .sl 1 [.int .i64 0]] := rfl
  have eb : encR 1 true (encU [[0, 1]]) = .sl 1 [.sl 1 [.int .i64 0, .int .i64 1]] := rfl
  have ec : encR 1 false (encU [[0, 1]]) = .sl 1 [.sl 1 [.int .i64 0, .int .i64 1]] := rfl
  rw [ea, eb] at hk
  rw [eb, ec] at hk2
  simp -implicitDefEqProofs [i14, c14, hk, hk2]
end Go.Am.Try
