/- The abstract machine and the model: the table of types, row by row. -/
import Derived.Test.YtmhggdoanajboaaDoorM3
import Derived.Test.YtmhggdoanajboaaDoorM1
set_option linter.unusedVariables false
namespace Go.Am
open Go
variable {P : Program} {C : Ctx}
def AllTy (P : Program) : List TI → Nat → Prop
  | [], _ => True
  | ti :: l, t => (ti.k.known = true → TyOK P t ti) ∧ AllTy P l (t + 1)
theorem AllTy.get : ∀ (l : List TI) (t i : Nat) (ti : TI), AllTy P l t → l[i]? = some ti → ti.k.known = true → TyOK P (t + i) ti
  | [], _, _, _, _, h, _ => by simp at h
  | x :: l, t, 0, ti, ha, h, hk => by
    simp at h; subst h; exact ha.1 hk
  | x :: l, t, i + 1, ti, ha, h, hk => by
    have := AllTy.get l (t + 1) i ti ha.2 (by simpa using h) hk
    rw [show t + (i + 1) = t + 1 + i by omega]; exact this
theorem tys_of (h : AllTy P C.types 0) : Tys P C := by
  intro t ti hti
  unfold Ctx.ti at hti
  split at hti
  · rename_i x hx
    split at hti <;> simp at hti
    rename_i hk
    subst hti
    have := AllTy.get C.types 0 t x h hx hk
    simpa using this
  · cases hti
theorem eqTy_leaf {t : Nat} {ks : List TK} {d : TypeDesc} (hd : P.underlying t = some d) (hk : (match d with | .struct _ => false | .array _ _ => false | _ => true) = true) (h : [leafTK P t] = ks.map some) : eqTy P t ks := by
  unfold eqTy
  rw [hd]
  cases d <;> simp at hk <;> exact h
theorem eqn_leaf {n : Nat} {k : TK} (h : n = 1) : [k] ≠ [] → [k].length = n := fun _ => h.symm
def structOf : Option TypeDesc → Array Field
  | some (.struct fs) => fs
  | _ => #[]
theorem eqTy_struct {t : Nat} {ks : List TK} {fs : Array Field} (hd : P.underlying t = some (.struct fs)) (h1 : P.stoodInHeld t = false) (h2 : P.eqGuardType P.depth t = false) (h3 : (fs.toList.all fun f => f.name != "_") = true) (h4 : fs.toList.map (fun f => leafTK P f.type) = ks.map some) (h5 : fs.toList.map (·.offset) = List.range fs.size) : eqTy P t ks := by
  unfold eqTy
  rw [hd]
  exact ⟨h1, h2, h3, h4, h5⟩
theorem eqTy_array {t n e : Nat} {ks : List TK} (hd : P.underlying t = some (.array n e)) (h1 : P.eqGuardType P.depth t = false) (h2 : List.replicate n (leafTK P e) = ks.map some) (h3 : (P.info? e).map (·.size) = some 1) : eqTy P t ks := by
  unfold eqTy
  rw [hd]
  exact ⟨h1, h2, h3⟩
theorem eqn_leaf' {ks : List TK} {n : Nat} (h : ks.length = n) : ks ≠ [] → ks.length = n := fun _ => h
theorem eq_none {t : Nat} : ([] : List TK) ≠ [] → eqTy P t [] := fun h => absurd rfl h
theorem eqn_none {n : Nat} : ([] : List TK) ≠ [] → ([] : List TK).length = n := fun h => absurd rfl h
def AllFn (P : Program) : List (Nat × FnI) → Prop
  | [] => True
  | (f, fi) :: l => FnOK P f fi ∧ AllFn P l
theorem AllFn.get : ∀ (l : List (Nat × FnI)) (f : Nat) (fi : FnI), AllFn P l → look f l = some fi → FnOK P f fi
  | [], _, _, _, h => by simp [look] at h
  | (g, x) :: l, f, fi, ha, h => by
    simp only [look] at h
    split at h
    · rename_i hg
      simp at h; subst h; subst hg; exact ha.1
    · exact AllFn.get l f fi ha.2 h
def AllPr (P : Program) : List (Nat × (List AV → M AV)) → Prop
  | [] => True
  | (f, p) :: l => (ServesM P f p ∧ ∀ l, AV.noRefs l = true → Ind (p l)) ∧ AllPr P l
theorem AllPr.get : ∀ (l : List (Nat × (List AV → M AV))) (f : Nat) (p : List AV → M AV), AllPr P l → look f l = some p → ServesM P f p ∧ ∀ l, AV.noRefs l = true → Ind (p l)
  | [], _, _, _, h => by simp [look] at h
  | (g, x) :: l, f, fi, ha, h => by
    simp only [look] at h
    split at h
    · rename_i hg
      simp at h; subst h; subst hg; exact ha.1
    · exact AllPr.get l f fi ha.2 h
def AllAlt (P : Program) : List (Nat × (FnI × FnI)) → Prop
  | [] => True
  | (f, x) :: l => AltOK P f x.1 x.2 ∧ AllAlt P l
theorem AllAlt.get : ∀ (l : List (Nat × (FnI × FnI))) (f : Nat) (x : FnI × FnI), AllAlt P l → look f l = some x → AltOK P f x.1 x.2
  | [], _, _, _, h => by simp [look] at h
  | (g, x) :: l, f, fi, ha, h => by
    simp only [look] at h
    split at h
    · rename_i hg
      simp at h; subst h; subst hg; exact ha.1
    · exact AllAlt.get l f fi ha.2 h
theorem ctxOK_of (ht : AllTy P C.types 0) (hm : P.follows .mixedOrders = true) (hf : AllFn P C.fns) (hp : AllPr P C.prim) (ha : AllAlt P C.alt) (hb : ∀ f te, look f C.back = some te → BackOK P C f te := by intro f te h; exact nomatch h) : CtxOK P C :=
  ⟨tys_of ht, hm, fun f fi h => AllFn.get _ f fi hf h, fun f p h => AllPr.get _ f p hp h, fun f x h => AllAlt.get _ f x ha h, hb⟩
theorem primOf_serves {ts : List TI} {f : Nat} {fi : FnI} (ht : AllTy P ts 0) (hm : P.follows .mixedOrders = true) (hf : FnOK P f fi) : ServesM P f (primOf ts fi) := by
  intro l σ r σ' h g w vs hr hv
  have ht' : Tys P ⟨ts, [], [], [], []⟩ := tys_of ht
  have h1 : CallOK P (fun _ _ => failM) := fun f l σ r σ' h => (failM_eq (σ := σ) h).elim
  have h2 : RecInd (fun _ _ => failM) := fun f l _ r h => (failM_eq (σ := []) h).elim
  obtain ⟨m, hm', h⟩ := app_eq h
  unfold primOf at hm'
  split at hm' <;> subst hm'
  · exact runFn_to ht' h1 (fun f te hx => by cases hx) h2 hm hf h hr hv
  · exact runFn_to ht' h1 (fun f te hx => by cases hx) h2 hm hf h hr hv
  · exact runFn_to ht' h1 (fun f te hx => by cases hx) h2 hm hf h hr hv
  · exact (failM_eq h).elim
theorem primOf_ind {ts : List TI} {fi : FnI} (h1 : ∀ σ, primOf ts fi [.nil] σ = some (.nil, σ)) (h2 : ∀ s xs r, primOf ts fi [.sl s xs] [] ≠ some (r, [])) : ∀ l, AV.noRefs l = true → Ind (primOf ts fi l) := by
  intro l hn r h σ
  obtain ⟨m, hm', hs⟩ := app_eq h
  unfold primOf at hm'
  split at hm'
  · rw [h1] at h; cases h
    exact h1 σ
  · exact absurd h (h2 _ _ r)
  · simp [AV.noRefs, AV.noRef] at hn
  · subst hm'; exact (failM_eq hs).elim
end Go.Am
