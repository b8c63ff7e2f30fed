/- The abstract machine: what calls answer, with as many steps as are needed. -/
import Derived.Test.YtmhggdoanajboaaDoorM1
set_option linter.unusedVariables false
namespace Go.Am
open Go
variable {C : Ctx} {σ σ' : H}
attribute [simp] den.eq_1 den.eq_2 den.eq_3 den.eq_4 den.eq_5 den.eq_6 den.eq_7 den.eq_9 den.eq_10
attribute [simp] seqN seqD
@[simp] theorem allR_one (C : Ctx) (rec : Nat → List AV → M AV) (hp ip keep : List Nat) (D : List DOp) (q : List Nat) (fr : Fr) : allR C rec hp ip keep D [q] fr = seqN C rec hp ip keep D q fr := rfl
@[simp] theorem allR_two (C : Ctx) (rec : Nat → List AV → M AV) (hp ip keep : List Nat) (D : List DOp) (q q' : List Nat) (qs : List (List Nat)) (fr : Fr) (σ : H) :
    allR C rec hp ip keep D (q :: q' :: qs) fr σ = (match seqN C rec hp ip keep D q fr σ, allR C rec hp ip keep D (q' :: qs) fr σ with | some a, some b => cond (bothAlike a b) (some a) none | _, _ => none) := rfl
theorem bindM_app {α R : Type} (m : M α) (k : α → M R) (σ : H) : bindM m k σ = match m σ with | some (a, σ') => k a σ' | none => none := rfl
theorem obind_app {α R : Type} (o : Option α) (k : α → M R) (σ : H) : obind o k σ = match o with | some a => k a σ | none => none := rfl
mutual
@[simp] theorem AV.same_refl : ∀ a : AV, a.same a = true
  | .bool a => by simp [AV.same]
  | .int j a => by simp [AV.same]
  | .str a => by simp [AV.same]
  | .agg a => by simp [AV.same, AV.sames_refl a]
  | .tup a => by simp [AV.same, AV.sames_refl a]
  | .nil => by simp [AV.same]
  | .sl m a => by simp [AV.same, AV.sames_refl a]
  | .adr a => by simp [AV.same, AV.same_refl a]
  | .nilp => by simp [AV.same]
  | .nilm => by simp [AV.same]
  | .nilf => by simp [AV.same]
  | .map r => by simp [AV.same]
  | .ptr a b c d => by simp [AV.same]
  | .hs a b c d e => by simp [AV.same]
  | .fn f a => by simp [AV.same, AV.sames_refl a]
@[simp] theorem AV.sames_refl : ∀ a : List AV, AV.sames a a = true
  | [] => by simp [AV.sames]
  | x :: l => by simp [AV.sames, AV.same_refl x, AV.sames_refl l]
end
theorem nbeq_self (n : Nat) : Nat.beq n n = true := by simp
theorem natsAlike_self : ∀ l : List Nat, natsAlike l l = true
  | [] => rfl
  | a :: l => by simp only [natsAlike, nbeq_self, natsAlike_self l, Bool.and_self]
theorem SV.alike_self (s : SV) : s.alike s = true := by cases s <;> simp [SV.alike, AV.same_refl]
theorem slsAlike_self : ∀ l : List (Nat × SV), slsAlike l l = true
  | [] => rfl
  | (i, s) :: l => by simp only [slsAlike, nbeq_self, SV.alike_self, slsAlike_self l, Bool.and_self]
theorem entsAlike_self : ∀ l : List (AV × AV), entsAlike l l = true
  | [] => rfl
  | (k, v) :: l => by simp only [entsAlike, AV.same_refl, entsAlike_self l, Bool.and_self]
theorem HObj.alike_self (o : HObj) : o.alike o = true := by
  cases o with
  | arr f s xs => simp only [HObj.alike, nbeq_self, AV.sames_refl, Bool.and_true]; cases f <;> rfl
  | map es => simp only [HObj.alike, entsAlike_self]
  | it s =>
    rcases s with _ | ⟨a, b, l⟩
    · rfl
    · simp only [HObj.alike, nbeq_self, natsAlike_self, Bool.and_self]
theorem heapsAlike_self : ∀ l : H, heapsAlike l l = true
  | [] => rfl
  | a :: l => by simp only [heapsAlike, HObj.alike_self, heapsAlike_self l, Bool.and_self]
@[simp] theorem bothAlike_self (x : Fr × H) : bothAlike x x = true := by
  simp only [bothAlike, slsAlike_self, heapsAlike_self, Bool.and_true]
  cases x.1.lk <;> rfl
section rules
variable (ti : TI) (e : Nat)
@[simp] theorem lenOk_str (s : List UInt8) : lenOk .str (.str s) = true := rfl
@[simp] theorem lenOk_nil : lenOk (.slice e) .nil = true := rfl
@[simp] theorem lenOk_sl (z : Nat) (xs : List AV) : lenOk (.slice e) (.sl z xs) = true := rfl
@[simp] theorem lenOk_hs (r v o n z : Nat) : lenOk (.slice e) (.hs r v o n z) = true := rfl
@[simp] theorem lenM_str (s : List UInt8) : lenM (.str s) = pureM (.int .i64 s.length) := rfl
@[simp] theorem lenM_nil : lenM .nil = pureM (.int .i64 0) := rfl
@[simp] theorem lenM_sl (z : Nat) (xs : List AV) : lenM (.sl z xs) = pureM (.int .i64 xs.length) := rfl
@[simp] theorem lenM_hs (r v o n z : Nat) : lenM (.hs r v o n z) = pureM (.int .i64 n) := rfl
@[simp] theorem fits_agg (cs : List AV) : (AV.agg cs).fits ti = (ti.k.isAgg && cs.length == ti.size) := rfl
@[simp] theorem fits_bool (b : Bool) : (AV.bool b).fits ti = (!ti.k.isAgg && ti.size == 1) := rfl
@[simp] theorem fits_int (k : IntKind) (n : Int) : (AV.int k n).fits ti = (!ti.k.isAgg && ti.size == 1) := rfl
@[simp] theorem fits_str (s : List UInt8) : (AV.str s).fits ti = (!ti.k.isAgg && ti.size == 1) := rfl
@[simp] theorem fits_nil : AV.nil.fits ti = (!ti.k.isAgg && ti.size == 1) := rfl
@[simp] theorem fits_sl (z : Nat) (xs : List AV) : (AV.sl z xs).fits ti = (!ti.k.isAgg && ti.size == 1) := rfl
@[simp] theorem fits_hs (r v o n z : Nat) : (AV.hs r v o n z).fits ti = (!ti.k.isAgg && ti.size == 1) := rfl
@[simp] theorem fits_adr (a : AV) : (AV.adr a).fits ti = (!ti.k.isAgg && ti.size == 1) := rfl
@[simp] theorem fits_ptr (r v i o : Nat) : (AV.ptr r v i o).fits ti = (!ti.k.isAgg && ti.size == 1) := rfl
@[simp] theorem fits_map (r : Nat) : (AV.map r).fits ti = (!ti.k.isAgg && ti.size == 1) := rfl
@[simp] theorem fits_nilm : AV.nilm.fits ti = (!ti.k.isAgg && ti.size == 1) := rfl
@[simp] theorem fits_nilp : AV.nilp.fits ti = (!ti.k.isAgg && ti.size == 1) := rfl
@[simp] theorem fits_fn (f : Nat) (l : List AV) : (AV.fn f l).fits ti = (!ti.k.isAgg && ti.size == 1) := rfl
@[simp] theorem cells_agg (cs : List AV) : (AV.agg cs).cells = cs := rfl
@[simp] theorem cells_int (k : IntKind) (n : Int) : (AV.int k n).cells = [.int k n] := rfl
@[simp] theorem cells_bool (b : Bool) : (AV.bool b).cells = [.bool b] := rfl
@[simp] theorem cells_str (s : List UInt8) : (AV.str s).cells = [.str s] := rfl
@[simp] theorem cells_nil : AV.nil.cells = [.nil] := rfl
@[simp] theorem cells_sl (z : Nat) (xs : List AV) : (AV.sl z xs).cells = [.sl z xs] := rfl
@[simp] theorem cells_hs (r v o n z : Nat) : (AV.hs r v o n z).cells = [.hs r v o n z] := rfl
@[simp] theorem idxN_0 (n : Nat) : idxN 0 (n + 1) = some 0 := by unfold idxN; rw [if_pos (by omega)]; rfl
@[simp] theorem idxN_1 (n : Nat) : idxN 1 (n + 2) = some 1 := by unfold idxN; rw [if_pos (by omega)]; rfl
@[simp] theorem idxN_2 (n : Nat) : idxN 2 (n + 3) = some 2 := by unfold idxN; rw [if_pos (by omega)]; rfl
@[simp] theorem idxN_3 (n : Nat) : idxN 3 (n + 4) = some 3 := by unfold idxN; rw [if_pos (by omega)]; rfl
end rules
theorem hideS_nil (t : Nat) (s : SV) : hideS [] t s = s := by
  cases s <;> rfl
@[simp] theorem hideL_nil : ∀ l, hideL [] l = l
  | [] => rfl
  | (t, s) :: l => by rw [hideL, hideS_nil, hideL_nil l]
theorem getS_hideL (sd : List Nat) : ∀ (l : List (Nat × SV)) (t : Nat), getS (hideL sd l) t = hideS sd t (getS l t)
  | [], t => rfl
  | (i, s) :: l, t => by
    simp only [hideL, getS_nil, getS_cons]
    split
    · rename_i h; rw [h]
    · exact getS_hideL sd l t
theorem getS_out : ∀ (l : List (Nat × SV)) (t : Nat), memN t (l.map (·.1)) = false → getS l t = .u
  | [], _, _ => rfl
  | (i, s) :: l, t, h => by
    simp only [List.map_cons, memN] at h
    split at h
    · cases h
    · rename_i hi
      simp only [getS_nil, getS_cons, if_neg hi]
      exact getS_out l t h
def Ans (C : Ctx) (f : Nat) (l : List AV) (r : AV) : Prop := ∃ k, ∀ N, k ≤ N → ∀ σ, acall C N f l σ = some (r, σ)
def AnsH (C : Ctx) (f : Nat) (l : List AV) (σ : H) (r : AV) (σ' : H) : Prop := ∃ k, ∀ N, k ≤ N → acall C N f l σ = some (r, σ')
theorem Ans.at {f : Nat} {l : List AV} {r : AV} (h : Ans C f l r) (σ : H) : AnsH C f l σ r σ := by
  obtain ⟨k, h⟩ := h
  exact ⟨k, fun N hN => h N hN σ⟩
theorem Ans.prim {f : Nat} {l : List AV} {r : AV} {p : List AV → M AV} (hf : C.fn f = none) (hp : look f C.prim = some p) (ha : look f C.alt = none) (h : ∀ σ, p l σ = some (r, σ)) : Ans C f l r :=
  ⟨1, fun N hN σ => by
    obtain ⟨n, rfl⟩ : ∃ n, N = n + 1 := ⟨N - 1, by omega⟩
    show (match C.fn f with | some fi => isoM l fun as => runFn C (acall C n) n fi as | none => acallN C n (acall C n) f l) σ = _
    rw [hf]
    show acallN C n (acall C n) f l σ = _
    unfold acallN
    rw [ha]
    show (match look f C.prim with | some p => p l | none => failM) σ = _
    rw [hp]
    exact h σ⟩
theorem AnsH.prim {f : Nat} {l : List AV} {r : AV} {p : List AV → M AV} (hf : C.fn f = none) (hp : look f C.prim = some p) (ha : look f C.alt = none) (h : p l σ = some (r, σ')) : AnsH C f l σ r σ' :=
  ⟨1, fun N hN => by
    obtain ⟨n, rfl⟩ : ∃ n, N = n + 1 := ⟨N - 1, by omega⟩
    show (match C.fn f with | some fi => isoM l fun as => runFn C (acall C n) n fi as | none => acallN C n (acall C n) f l) σ = _
    rw [hf]
    show acallN C n (acall C n) f l σ = _
    unfold acallN
    rw [ha]
    show (match look f C.prim with | some p => p l | none => failM) σ = _
    rw [hp]
    exact h⟩
theorem Ans.fn {f : Nat} {fi : FnI} {l rs : List AV} {ns : List Nat} {r r' : AV} (hf : C.fn f = some fi) (hn : AV.noRefs l = true) (h : ∃ k, ∀ N, k ≤ N → runFn C (acall C N) N fi l [] = some (r', σ')) (hs : snapA σ' 200 r' = some (r, ns)) : Ans C f l r := by
  obtain ⟨k, h⟩ := h
  refine ⟨k + 1, fun N hN σ => ?_⟩
  obtain ⟨n, rfl⟩ : ∃ n, N = n + 1 := ⟨N - 1, by omega⟩
  show (match C.fn f with | some fi => isoM l fun as => runFn C (acall C n) n fi as | none => acallN C n (acall C n) f l) σ = _
  rw [hf]
  show isoM l (fun as => runFn C (acall C n) n fi as) σ = _
  unfold isoM
  rw [hn]
  simp only [ownM, h n (by omega), hs]
theorem Ans.of {f : Nat} {fi : FnI} {l : List AV} {r : AV} (hf : C.fn f = some fi) (hn : AV.noRefs l = true) (hr : r.noRef = true) (h : ∃ k, ∀ N, k ≤ N → runFn C (acall C N) N fi l [] = some (r, σ')) : Ans C f l r :=
  Ans.fn (rs := []) (ns := []) hf hn h (by unfold snapA; rw [if_pos hr])
theorem Ans.two {f : Nat} {fa fb : FnI} {l : List AV} {r : AV} {σ1 σ2 : H} (hf : C.fn f = none) (ha : look f C.alt = some (fa, fb)) (hn : AV.noRefs l = true) (hr : r.noRef = true) (hs : r.scalars = true)
    (h1 : ∃ k, ∀ N, k ≤ N → runFn C (acall C N) N fa l [] = some (r, σ1)) (h2 : ∃ k, ∀ N, k ≤ N → runFn C (acall C N) N fb l [] = some (r, σ2)) : Ans C f l r := by
  obtain ⟨k1, h1⟩ := h1
  obtain ⟨k2, h2⟩ := h2
  refine ⟨k1 + k2 + 1, fun N hN σ => ?_⟩
  obtain ⟨n, rfl⟩ : ∃ n, N = n + 1 := ⟨N - 1, by omega⟩
  show (match C.fn f with | some fi => isoM l fun as => runFn C (acall C n) n fi as | none => acallN C n (acall C n) f l) σ = _
  rw [hf]
  show acallN C n (acall C n) f l σ = _
  unfold acallN
  rw [ha]
  have e1 : snapA σ1 200 r = some (r, []) := by unfold snapA; rw [if_pos hr]
  have e2 : snapA σ2 200 r = some (r, []) := by unfold snapA; rw [if_pos hr]
  simp only [twoM, hn, ownM, h1 n (by omega), h2 n (by omega), e1, e2, hs, AV.same_refl, and_self, if_true]
theorem AnsH.two {f : Nat} {x : FnI × FnI} {l l' : List AV} {ns : List Nat} {r : AV} (hf : C.fn f = none) (ha : look f C.alt = some x) (hn : AV.noRefs l = false) (hl : snapL σ l = some (l', ns)) (hn' : AV.noRefs l' = true) (h : Ans C f l' r) : AnsH C f l σ r σ := by
  obtain ⟨k, h⟩ := h
  refine ⟨k + 1, fun N hN => ?_⟩
  obtain ⟨n, rfl⟩ : ∃ n, N = n + 1 := ⟨N - 1, by omega⟩
  have h1 := h (n + 1) (by omega) σ
  have e1 : ∀ l, acall C (n + 1) f l = twoM l (fun as => runFn C (acall C n) n x.1 as) (fun as => runFn C (acall C n) n x.2 as) := by
    intro l
    show (match C.fn f with | some fi => isoM l fun as => runFn C (acall C n) n fi as | none => acallN C n (acall C n) f l) = _
    rw [hf]
    show acallN C n (acall C n) f l = _
    unfold acallN
    rw [ha]
  rw [e1] at h1 ⊢
  simp only [twoM, hn'] at h1
  simp only [twoM, hn, hl]
  exact h1
noncomputable def round1 (C : Ctx) (rec : Nat → List AV → M AV) (hp ip : List Nat) (N : Nat) (keep : List Nat) (b : ACode) (fr : Fr) (σ : H) : Option (Fr × H) :=
  match den C rec hp ip N b fr σ with
  | some ((.nrm, fr1), σ1) => (match norm keep fr1 with | some fr2 => some (fr2, σ1) | none => none)
  | _ => none
noncomputable def loopF (C : Ctx) (rec : Nat → List AV → M AV) (hp ip : List Nat) (N : Nat) (keep : List Nat) (b : ACode) : (Fr → M (Ext × Fr)) → Fr → M (Ext × Fr) := fun self fr =>
  match norm keep fr with
  | some fr0 => bindM (den C rec hp ip N b fr0) fun p => match p.1 with | .nrm => self p.2 | _ => pureM p
  | none => failM
def Lp (C : Ctx) (hp ip keep : List Nat) (b : ACode) (fr0 : Fr) (σ : H) (e : Ext) (fr' : Fr) (σ' : H) : Prop :=
  ∃ k, ∀ N m, k ≤ N → k ≤ m → ∀ fr, norm keep fr = some fr0 → iter m (loopF C (acall C N) hp ip N keep b) fr σ = some ((e, fr'), σ')
theorem norm_norm {keep : List Nat} {fr fr0 : Fr} (h : norm keep fr = some fr0) : fr0.lk = fr.lk := by
  unfold norm at h
  split at h <;> simp at h
  subst h; rfl
variable {hp ip keep : List Nat} {b : ACode} {fr0 fr1 fr' : Fr} {e : Ext} {σ1 : H}
theorem Lp.step (h : ∃ k, ∀ N, k ≤ N → round1 C (acall C N) hp ip N keep b fr0 σ = some (fr1, σ1)) (hl : Lp C hp ip keep b fr1 σ1 e fr' σ') : Lp C hp ip keep b fr0 σ e fr' σ' := by
  obtain ⟨k, h⟩ := h
  obtain ⟨k', hl⟩ := hl
  refine ⟨k + k' + 1, fun N m hN hm fr hfr => ?_⟩
  obtain ⟨m, rfl⟩ : ∃ m', m = m' + 1 := ⟨m - 1, by omega⟩
  have h1 := h N (by omega)
  unfold round1 at h1
  split at h1 <;> try (cases h1; done)
  rename_i fr2 σ2 hd
  split at h1 <;> try (cases h1; done)
  rename_i fr3 hnorm
  cases h1
  show loopF C (acall C N) hp ip N keep b (iter m (loopF C (acall C N) hp ip N keep b)) fr σ = _
  unfold loopF
  rw [hfr]
  simp only [bindM, hd]
  exact hl N m (by omega) (by omega) fr2 hnorm
theorem Lp.exit (h : ∃ k, ∀ N, k ≤ N → den C (acall C N) hp ip N b fr0 σ = some ((e, fr'), σ')) (he : e ≠ .nrm) : Lp C hp ip keep b fr0 σ e fr' σ' := by
  obtain ⟨k, h⟩ := h
  refine ⟨k + 1, fun N m hN hm fr hfr => ?_⟩
  obtain ⟨m, rfl⟩ : ∃ m', m = m' + 1 := ⟨m - 1, by omega⟩
  show loopF C (acall C N) hp ip N keep b (iter m (loopF C (acall C N) hp ip N keep b)) fr σ = _
  unfold loopF
  rw [hfr]
  simp only [bindM, h N (by omega)]
  cases e <;> first | exact absurd rfl he | rfl
theorem Lp.den (h : Lp C hp ip keep b fr0 σ e fr' σ') : ∃ k, ∀ N, k ≤ N → ∀ fr, norm keep fr = some fr0 → den C (acall C N) hp ip N (.loop keep b) fr σ = some ((e, fr'), σ') := by
  obtain ⟨k, h⟩ := h
  exact ⟨k, fun N hN fr hfr => h N N hN hN fr hfr⟩
theorem AnsH.fn {f : Nat} {fi : FnI} {l : List AV} {ns : List Nat} {r r' : AV} (hf : C.fn f = some fi) (hn : AV.noRefs l = false) (hl : snapL σ l = none) (h : ∃ k, ∀ N, k ≤ N → runFn C (acall C N) N fi l σ = some (r', σ')) (hs : snapA σ' 200 r' = some (r, ns)) : AnsH C f l σ r (frzH σ' ns) := by
  obtain ⟨k, h⟩ := h
  refine ⟨k + 1, fun N hN => ?_⟩
  obtain ⟨n, rfl⟩ : ∃ n, N = n + 1 := ⟨N - 1, by omega⟩
  show (match C.fn f with | some fi => isoM l fun as => runFn C (acall C n) n fi as | none => acallN C n (acall C n) f l) σ = _
  rw [hf]
  show isoM l (fun as => runFn C (acall C n) n fi as) σ = _
  unfold isoM
  rw [hn]
  simp only [hl, snapM, h n (by omega), hs]
theorem AnsH.of {f : Nat} {fi : FnI} {l : List AV} {r : AV} (hf : C.fn f = some fi) (hn : AV.noRefs l = false) (hl : snapL σ l = none) (hr : r.noRef = true) (h : ∃ k, ∀ N, k ≤ N → runFn C (acall C N) N fi l σ = some (r, σ')) : AnsH C f l σ r σ' := by
  have := AnsH.fn (ns := []) hf hn hl h (by unfold snapA; rw [if_pos hr])
  simpa [frzH] using this
theorem AnsH.own {f : Nat} {fi : FnI} {l l' : List AV} {ns ms : List Nat} {r r' : AV} {σ1 : H} (hf : C.fn f = some fi) (hn : AV.noRefs l = false) (hl : snapL σ l = some (l', ns)) (h : ∃ k, ∀ N, k ≤ N → runFn C (acall C N) N fi l' [] = some (r', σ1)) (hs : snapA σ1 200 r' = some (r, ms)) :
    AnsH C f l σ r (match r.scalars with | true => σ | false => frzH σ ns) := by
  obtain ⟨k, h⟩ := h
  refine ⟨k + 1, fun N hN => ?_⟩
  obtain ⟨n, rfl⟩ : ∃ n, N = n + 1 := ⟨N - 1, by omega⟩
  show (match C.fn f with | some fi => isoM l fun as => runFn C (acall C n) n fi as | none => acallN C n (acall C n) f l) σ = _
  rw [hf]
  show isoM l (fun as => runFn C (acall C n) n fi as) σ = _
  unfold isoM
  rw [hn]
  simp only [hl, ownM, h n (by omega), hs]
  rfl
theorem AnsH.lay {f : Nat} {fi : FnI} {l l' : List AV} {ns : List Nat} {r : AV} (hf : C.fn f = some fi) (hn : AV.noRefs l = false) (hl : snapL σ l = some (l', ns)) (hn' : AV.noRefs l' = true) (h : Ans C f l' r) :
    AnsH C f l σ r (match r.scalars with | true => σ | false => frzH σ ns) := by
  obtain ⟨k, h⟩ := h
  refine ⟨k + 1, fun N hN => ?_⟩
  obtain ⟨n, rfl⟩ : ∃ n, N = n + 1 := ⟨N - 1, by omega⟩
  have h1 := h (n + 1) (by omega) []
  have e1 : ∀ l, acall C (n + 1) f l = isoM l (fun as => runFn C (acall C n) n fi as) := by
    intro l
    show (match C.fn f with | some fi => isoM l fun as => runFn C (acall C n) n fi as | none => acallN C n (acall C n) f l) = _
    rw [hf]
  rw [e1] at h1 ⊢
  unfold isoM at h1 ⊢
  rw [hn'] at h1
  rw [hn]
  simp only at h1
  split at h1 <;> try (cases h1; done)
  rename_i b hb
  cases h1
  simp only [hl, hb]
  rfl
theorem fitAll_replicate (te : TI) (x : AV) (h : x.fits te = true) : ∀ n, fitAll te (List.replicate n x) = true
  | 0 => rfl
  | n + 1 => by rw [List.replicate_succ]; simp only [fitAll, h, fitAll_replicate te x h n, Bool.and_self]
end Go.Am
