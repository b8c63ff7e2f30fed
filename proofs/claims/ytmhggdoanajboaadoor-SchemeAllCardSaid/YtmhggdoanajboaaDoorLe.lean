/- Layer 17: short rows. -/
import Derived.Test.YtmhggdoanajboaaDoorLc
import Derived.Test.YtmhggdoanajboaaDoorLd
set_option maxRecDepth 100000
set_option linter.unusedSimpArgs false
namespace Go.Am.Tryd
open Go
mutual
theorem same_refl : ∀ t : Ty, t.same t = true
  | .mk k n s nl ks => by simp [Ty.same, sames_refl ks]
theorem sames_refl : ∀ l : List Ty, Ty.sames l l = true
  | [] => rfl
  | t :: l => by simp [Ty.sames, same_refl t, sames_refl l]
end
mutual
theorem cl_ok : ∀ t, cl t → t.ok
  | .mk k n s nl ks, h => by
    simp only [cl] at h
    simp only [Ty.ok, big]
    exact ⟨by omega, by omega, cls_oks ks h.2.2⟩
theorem cls_oks : ∀ l, cls l → Ty.oks l
  | [], _ => trivial
  | t :: l, h => ⟨cl_ok t h.1, cls_oks l h.2⟩
end
mutual
theorem cl_turned (d : Int → Option Ty) (h : ∀ n u, d n = some u → cl u) : ∀ t, cl t → cl (turnedT d t)
  | .mk k n s nl ks, hc => by
    simp only [turnedT]
    split
    · cases hd : d n with
      | none => simpa using hc
      | some u => simpa using h n u hd
    · simp only [cl] at hc ⊢
      exact ⟨hc.1, by rw [turnedTs_length]; exact hc.2.1, cls_turned d h ks hc.2.2⟩
theorem cls_turned (d : Int → Option Ty) (h : ∀ n u, d n = some u → cl u) : ∀ l, cls l → cls (turnedTs d l)
  | [], _ => trivial
  | t :: l, hc => ⟨cl_turned d h t hc.1, cls_turned d h l hc.2⟩
end
theorem cl_subD (l : List Ty) (hl : cls l) : ∀ n u, subD l n = some u → cl u := by
  intro n u h
  unfold subD at h
  split at h
  · exact cls_get l _ u hl h
  · cases h
end Go.Am.Tryd
