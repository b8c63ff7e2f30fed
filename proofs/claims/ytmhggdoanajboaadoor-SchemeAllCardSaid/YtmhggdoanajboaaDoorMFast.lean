/- The abstract machine: a region whose order is open, run in the text's order. -/
import Derived.Test.YtmhggdoanajboaaDoorMAns
set_option linter.unusedVariables false
namespace Go.Am
open Go
variable {C : Ctx} {rec : Nat → List AV → M AV} {hp ip : List Nat}
/-! ### what an operation looks at -/
def opdS : Operand → List Nat
  | .tmp t => [t]
  | _ => []
def opdsS : List Operand → List Nat
  | [] => []
  | x :: l => opdS x ++ opdsS l
def optS : Option Operand → List Nat
  | some x => opdS x
  | none => []
def opS : Op → Option (List Nat)
  | .move x => some (opdS x)
  | .assign x => some (opdS x)
  | .pick c a b => some (opdS c ++ opdS a ++ opdS b)
  | .build _ ps => some (opdsS (ps.toList.map (·.2)))
  | .buildSlice _ _ ps => some (opdsS (ps.toList.map (·.2)))
  | .makeSlice _ l c => some (opdS l ++ opdS c)
  | .load _ a => some (opdS a)
  | .store _ a x => some (opdS a ++ opdS x)
  | .nilCheck x => some (opdS x)
  | .binOp _ _ x y _ => some (opdS x ++ opdS y)
  | .unOp _ _ x => some (opdS x)
  | .convert _ _ x => some (opdS x)
  | .makeFunc (.func _) first caps => some (opdsS first.toList ++ opdsS caps.toList)
  | .makeMap _ none => some []
  | .slice _ x lo hi _ => some (opdS x ++ optS lo ++ optS hi)
  | .fieldAddr _ x _ => some (opdS x)
  | .field _ x _ => some (opdS x)
  | .indexAddr _ x i => some (opdS x ++ opdS i)
  | .index _ x i => some (opdS x ++ opdS i)
  | .lookup _ m q _ => some (opdS m ++ opdS q)
  | .mapUpdate _ m q x => some (opdS m ++ opdS q ++ opdS x)
  | .insert _ m q x => some (opdS m ++ opdS q ++ opdS x)
  | .mapEntry _ m q => some (opdS m ++ opdS q)
  | .entryStore _ m i x => some (opdS m ++ opdS i ++ opdS x)
  | .extract x _ => some (opdS x)
  | .call c => some (opdsS c.args.toList ++ (match c.callee with | .value f => opdS f | _ => []))
  | _ => none
structure Alike (l : List Nat) (fr fr' : Fr) : Prop where
  s : ∀ t ∈ l, getS fr.sl t = getS fr'.sl t
  b : ∀ d, boxAt fr d = boxAt fr' d
  k : fr.lk = fr'.lk
variable {fr fr' : Fr}
theorem Alike.sub {l m : List Nat} (h : Alike l fr fr') (hm : ∀ t ∈ m, t ∈ l) : Alike m fr fr' := ⟨fun t ht => h.s t (hm t ht), h.b, h.k⟩
theorem Alike.l {l m : List Nat} (h : Alike (l ++ m) fr fr') : Alike l fr fr' := h.sub fun t ht => by simp [ht]
theorem Alike.r {l m : List Nat} (h : Alike (l ++ m) fr fr') : Alike m fr fr' := h.sub fun t ht => by simp [ht]
theorem Alike.ev {x : Operand} (h : Alike (opdS x) fr fr') : ev fr x = ev fr' x := by
  cases x with
  | tmp t => simp only [Go.Am.ev, h.s t (by simp [opdS])]
  | _ => rfl
theorem Alike.av {x : Operand} (h : Alike (opdS x) fr fr') : av fr x = av fr' x := by
  unfold Go.Am.av
  rw [h.ev]
theorem Alike.avs : ∀ {l : List Operand}, Alike (opdsS l) fr fr' → avs fr l = avs fr' l
  | [], _ => rfl
  | x :: l, h => by
    simp only [opdsS] at h
    simp only [Go.Am.avs, h.l.av, h.r.avs]
theorem Alike.opt {x : Option Operand} (h : Alike (optS x) fr fr') : optA fr x = optA fr' x := by
  cases x with
  | none => rfl
  | some x => simp only [optA, Alike.av (x := x) h]
theorem opE_alike {o : SOp} {l : List Nat} (hl : opS o.op = some l) (h : Alike l fr fr') : opE C fr rec hp ip o = opE C fr' rec hp ip o := by
  obtain ⟨dst, op, ty⟩ := o
  simp only at hl
  unfold opE
  cases op
  case move x => cases hl; simp only [h.ev]
  case assign x => cases hl; simp only [h.ev]
  case pick c a b =>
    cases hl
    simp only [kPick, h.l.l.ev]
    split
    · rename_i t _
      cases t
      · simp only [cond, h.r.ev]
      · simp only [cond, h.l.r.ev]
    · rfl
  case build t ps => cases hl; simp only [kBuild, h.avs]
  case buildSlice t n ps => cases hl; simp only [kBuildSlice, h.avs]
  case makeSlice t a c => cases hl; simp only [kMakeSlice, h.l.av, h.r.av]
  case load t a => cases hl; simp only [kLoad, h.ev, h.b]
  case store t a x => cases hl; simp only [kStore, h.l.ev, h.r.av, h.b, h.k]
  case nilCheck x => cases hl; simp only [kNil, h.ev]
  case binOp op t x y _ => cases hl; simp only [kBin, h.l.av, h.r.av]
  case unOp op t x => cases hl; simp only [kUn, h.av]
  case convert s t x => cases hl; simp only [kConv, h.av]
  case makeFunc f first caps =>
    cases f with
    | func f => cases hl; simp only [kFunc, h.r.avs]
    | _ => rfl
  case makeMap t x => cases x <;> rfl
  case slice t x lo hi mx => cases hl; simp only [kSlice, h.l.l.av, h.l.r.opt, h.r.opt]
  case fieldAddr s x f => cases hl; simp only [kFieldAddr, h.ev]
  case field s x f => cases hl; simp only [kField, h.av]
  case indexAddr t x i => cases hl; simp only [kIndexAddr, h.l.ev, h.r.av]
  case index t x i => cases hl; simp only [kIndex, h.l.av, h.r.av]
  case lookup t m q ok => cases hl; simp only [kLookup, h.l.av, h.r.av]
  case mapUpdate t m q x => cases hl; simp only [kUpdate, h.l.l.av, h.l.r.av, h.r.av]
  case insert t m q x => cases hl; simp only [kUpdate, h.l.l.av, h.l.r.av, h.r.av]
  case mapEntry t m q => cases hl; simp only [kEntry, h.l.av, h.r.av]
  case entryStore t m i x => cases hl; simp only [kEntryStore, h.l.l.av, h.l.r.av, h.r.av]
  case extract x i => cases hl; simp only [kExtract, h.av]
  case call c =>
    cases hl
    simp only [kCall, h.l.avs]
    cases hc : c.callee with
    | value f =>
      rw [hc] at h
      simp only [h.r.av]
    | builtin b => cases b <;> rfl
    | _ => rfl
  all_goals first | cases hl | rfl
theorem quietOp_alike {op : Op} {l : List Nat} (hl : opS op = some l) (h : Alike l fr fr') : quietOp fr op = quietOp fr' op := by
  cases op
  case call c =>
    cases hl
    simp only [quietOp]
    cases hc : c.callee with
    | value f =>
      rw [hc] at h
      simp only [h.l.avs, h.r.av]
    | builtin b => cases b <;> rfl
    | _ => rfl
  all_goals rfl
def isBx : SV → Bool
  | .bx _ => true
  | .hb => true
  | _ => false
def NB (m : M Eff) : Prop := ∀ σ e σ', m σ = some (e, σ') → isBx e.r = false
theorem NB.ret {a : AV} : NB (retE a) := fun σ e σ' h => by
  simp only [retE, pureM, Option.some.injEq, Prod.mk.injEq] at h
  rw [← h.1]; rfl
theorem NB.pure {r : SV} {w : Option (Nat × AV)} (hr : isBx r = false) : NB (pureM { r := r, wr := w }) := fun σ e σ' h => by
  simp only [pureM, Option.some.injEq, Prod.mk.injEq] at h
  rw [← h.1]; exact hr
theorem NB.fail : NB failM := fun σ e σ' h => by cases h
theorem NB.retO {a : Option AV} : NB (retO a) := by
  cases a with
  | none => exact NB.fail
  | some a => exact NB.ret
theorem NB.bind {α : Type} {m : M α} {k : α → M Eff} (hk : ∀ a, NB (k a)) : NB (bindM m k) := fun σ e σ' h => by
  simp only [bindM] at h
  split at h
  · exact hk _ _ _ _ h
  · cases h
theorem NB.retM {m : M AV} : NB (retM m) := NB.bind fun _ => NB.ret
theorem NB.move {x : SV} : NB (kMove x) := by
  unfold kMove
  split
  · exact NB.ret
  · exact NB.pure rfl
  · exact NB.fail
def noBox : Op → Bool
  | .alloc _ => false
  | .box _ _ => false
  | _ => true
theorem NB.row {te : TI} {d : Nat} {xs : List AV} : NB (newRowE hp te d xs) := by
  unfold newRowE
  split
  · split
    · exact NB.bind fun _ => NB.ret
    · exact NB.ret
  · exact NB.fail
theorem NB.range {t : Nat} {x : Operand} : NB (kRange C fr t x) := fun σ e σ' h => by
  unfold kRange at h
  split at h
  case h_2 => cases h
  split at h
  case h_2 => cases h
  exact NB.bind (fun _ => NB.ret) _ _ _ h
theorem opE_NB {o : SOp} (hb : noBox o.op = true) : NB (opE C fr rec hp ip o) := by
  obtain ⟨dst, op, ty⟩ := o
  unfold opE
  cases op
  case alloc => cases hb
  case box => cases hb
  case range => exact NB.range
  case move => exact NB.move
  case assign => exact NB.move
  all_goals
    simp only [kPick, kBuild, kBuildSlice, kMakeSlice, kLoad, kStore, kNil, kBin, kUn, kConv, kFunc, kSlice, kFieldAddr, kField, kIndexAddr, kIndex, kLookup, kUpdate, kEntry, kEntryStore, kExtract, kAppend, kLen, kCall]
    repeat' split
  all_goals first
    | exact NB.fail
    | exact NB.ret
    | exact NB.retO
    | exact NB.retM
    | exact NB.move
    | exact NB.row
    | exact NB.pure rfl
    | exact NB.bind fun _ => NB.pure rfl
    | exact NB.bind fun _ => NB.ret
    | exact NB.bind fun _ => NB.retM
    | (exfalso; simp_all; done)
    | (refine NB.bind fun _ => ?_; split <;> first | exact NB.ret | exact NB.fail)
/-! ### a region, run in the text's order -/
noncomputable def oneF (C : Ctx) (rec : Nat → List AV → M AV) (hp ip : List Nat) (fr : Fr) (rs : Rs) (d : DOp) (σ : H) : Option (SV × H) :=
  match wantD rs d.guard with
  | some true => (match d.k with
    | .q => if quietOp fr d.o.op = true then quietO (opE C fr rec hp ip d.o []) σ else none
    | .l _ _ => if looksOp d.o.op = true then calmO (opE C fr rec hp ip d.o σ) else none
    | .w => calmO (opE C fr rec hp ip d.o σ)
    | .s => none)
  | some false => some (.v (.tup []), σ)
  | none => none
def putO (fr : Fr) (dst : Option Nat) (s : SV) : Fr :=
  match dst with
  | some t => fr.put t s
  | none => fr
noncomputable def allF (C : Ctx) (rec : Nat → List AV → M AV) (hp ip : List Nat) : Nat → List DOp → Rs → Fr → H → Option (Fr × H)
  | _, [], _, fr, σ => some (fr, σ)
  | i, d :: l, rs, fr, σ => match oneF C rec hp ip fr rs d σ with
    | some (s, σ') => allF C rec hp ip (i + 1) l ((i, s) :: rs) (putO fr d.o.dst s) (match d.k.isW with | true => σ' | false => σ)
    | none => none
noncomputable def runF (C : Ctx) (rec : Nat → List AV → M AV) (hp ip : List Nat) (ops : List DOp) (fr : Fr) : M Fr := fun σ =>
  match fr.lk, fr.drop (dstsD ops) with
  | false, some base => allF C rec hp ip 0 ops [] base σ
  | _, _ => none
def seenOk (bef : List Nat) (t : Nat) : Nat → List DOp → Bool
  | _, [] => true
  | j, d :: l => (memN j bef || !(match d.o.dst with | some t' => Nat.beq t t' | none => false)) && seenOk bef t (j + 1) l
def statD (done : List DOp) : List DOp → Bool
  | [] => true
  | d :: l => (match opS d.o.op with | some ts => ts.all (fun t => seenOk d.bef t 0 done) | none => false) && d.bef.all (fun j => Nat.blt j done.length)
    && noBox d.o.op && (match d.k with | .s => false | .l lo hi => Nat.beq lo hi | _ => true) && (match d.o.dst with | some t => !memN t (dstsD done) | none => true) && statD (done ++ [d]) l
/-! ### both are one -/
theorem getR_put (rs : Rs) (i j : Nat) (s : SV) : getR ((i, s) :: rs) j = if i = j then some s else getR rs j := rfl
def Full (i : Nat) (rs : Rs) : Prop := ∀ j, j < i → (getR rs j).isSome = true
theorem see_get (base : Fr) (ops : List DOp) (rs : Rs) (n : Nat) (hn : n ≤ ops.length) (hf : Full n rs) : ∀ bef : List Nat, (∀ j ∈ bef, j < n) →
    ∃ fr', seeD [] base ops rs bef = some fr' ∧ fr'.lk = base.lk ∧
      ∀ t, (∃ (j : Nat) (d : DOp) (s : SV), j ∈ bef ∧ ops[j]? = some d ∧ d.o.dst = some t ∧ getR rs j = some s ∧ getS fr'.sl t = s) ∨ ((∀ j ∈ bef, ∀ d, ops[j]? = some d → d.o.dst ≠ some t) ∧ getS fr'.sl t = getS base.sl t)
  | [], _ => ⟨{ base with sl := hideL [] base.sl }, rfl, rfl, fun t => .inr ⟨by simp, by rw [hideL_nil]⟩⟩
  | i :: l, hb => by
    obtain ⟨fr', h1, h2, h3⟩ := see_get base ops rs n hn hf l (fun j hj => hb j (by simp [hj]))
    have hi := hb i (by simp)
    obtain ⟨d, hd⟩ : ∃ d, ops[i]? = some d := ⟨_, List.getElem?_eq_getElem (by omega)⟩
    obtain ⟨s, hs⟩ := Option.isSome_iff_exists.1 (hf i hi)
    cases hdst : d.o.dst with
    | none =>
      refine ⟨fr', by simp only [seeD, h1, hd, hs, hdst], h2, fun t => ?_⟩
      rcases h3 t with ⟨j, d', s', a, b⟩ | ⟨a, b⟩
      · exact .inl ⟨j, d', s', by simp [a], b⟩
      · refine .inr ⟨fun j hj d' hd' => ?_, b⟩
        rcases List.mem_cons.1 hj with rfl | hj
        · rw [hd] at hd'; cases hd'; rw [hdst]; simp
        · exact a j hj d' hd'
    | some u =>
      refine ⟨fr'.put u (hideS [] u s), by simp only [seeD, h1, hd, hs, hdst], h2, fun t => ?_⟩
      rw [hideS_nil]
      by_cases hu : u = t
      · subst hu
        exact .inl ⟨i, d, s, by simp, hd, hdst, hs, by simp [Fr.put, getS_nil, getS_cons]⟩
      · have e : getS (fr'.put u s).sl t = getS fr'.sl t := by simp [Fr.put, getS_nil, getS_cons, hu]
        rw [e]
        rcases h3 t with ⟨j, d', s', a, b⟩ | ⟨a, b⟩
        · exact .inl ⟨j, d', s', by simp [a], b⟩
        · refine .inr ⟨fun j hj d' hd' => ?_, b⟩
          rcases List.mem_cons.1 hj with rfl | hj
          · rw [hd] at hd'; cases hd'; rw [hdst]; simpa using hu
          · exact a j hj d' hd'
theorem memN_iff (d : Nat) : ∀ l, memN d l = true ↔ d ∈ l
  | [] => by simp [memN]
  | x :: l => by
    simp only [memN]
    split
    · rename_i h; simp [h]
    · rename_i h
      rw [memN_iff d l]
      simp only [List.mem_cons]
      exact ⟨.inr, fun h' => h'.elim (fun e => absurd e.symm h) id⟩
theorem seenOk_get {bef : List Nat} {t : Nat} : ∀ {done : List DOp} {j0 : Nat}, seenOk bef t j0 done = true → ∀ j d, done[j]? = some d → d.o.dst = some t → j0 + j ∈ bef
  | [], _, _, j, d, h, _ => by simp at h
  | x :: l, j0, hs, 0, d, h, hd => by
    simp at h; subst h
    simp only [seenOk, Bool.and_eq_true, Bool.or_eq_true, hd, Bool.not_eq_true'] at hs
    rcases hs.1 with h | h
    · exact (memN_iff _ _).1 h
    · simp at h
  | x :: l, j0, hs, j + 1, d, h, hd => by
    simp only [seenOk, Bool.and_eq_true] at hs
    have := seenOk_get hs.2 j d (by simpa using h) hd
    rwa [show j0 + (j + 1) = j0 + 1 + j by omega]
theorem dstsD_mem : ∀ {l : List DOp} {j : Nat} {d : DOp} {t : Nat}, l[j]? = some d → d.o.dst = some t → t ∈ dstsD l
  | [], j, d, t, h, _ => by simp at h
  | x :: l, 0, d, t, h, hd => by simp at h; subst h; simp [dstsD, hd]
  | x :: l, j + 1, d, t, h, hd => by
    have := dstsD_mem (l := l) (j := j) (by simpa using h) hd
    simp only [dstsD, List.mem_append]
    exact .inr this
theorem mem_dstsD : ∀ {l : List DOp} {t : Nat}, t ∈ dstsD l → ∃ (j : Nat) (d : DOp), l[j]? = some d ∧ d.o.dst = some t
  | [], t, h => by simp [dstsD] at h
  | x :: l, t, h => by
    simp only [dstsD, List.mem_append] at h
    rcases h with h | h
    · cases hx : x.o.dst with
      | none => rw [hx] at h; simp at h
      | some u => rw [hx] at h; simp at h; subst h; exact ⟨0, x, rfl, hx⟩
    · obtain ⟨j, d, h1, h2⟩ := mem_dstsD h
      exact ⟨j + 1, d, by simpa using h1, h2⟩
structure At (base : Fr) (done : List DOp) (rs : Rs) (fr : Fr) : Prop where
  full : Full done.length rs
  lk : fr.lk = base.lk
  got : ∀ t, (∃ (j : Nat) (d : DOp) (s : SV), done[j]? = some d ∧ d.o.dst = some t ∧ getR rs j = some s ∧ getS fr.sl t = s) ∨ (t ∉ dstsD done ∧ getS fr.sl t = getS base.sl t)
  nb : ∀ j s, getR rs j = some s → isBx s = false
  fin : fr = endD base done.reverse rs
  lt : ∀ j s, getR rs j = some s → j < done.length
theorem boxAt_nb {fr : Fr} {d : Nat} (h : isBx (getS fr.sl d) = false) : boxAt fr d = none := by
  unfold boxAt
  split
  · rename_i h'; rw [h'] at h; cases h
  · rfl
theorem At.alike {base fr : Fr} {done : List DOp} {rs : Rs} (h : At base done rs fr) {ops : List DOp} (ho : ∃ l, ops = done ++ l) {bef ts : List Nat} (hb : ∀ j ∈ bef, j < done.length)
    (ht : ∀ t ∈ ts, seenOk bef t 0 done = true) (hu : ∀ t ∈ dstsD ops, isBx (getS base.sl t) = false) (hdis : ∀ (i j : Nat) (d e : DOp) (t : Nat), done[i]? = some d → done[j]? = some e → d.o.dst = some t → e.o.dst = some t → i = j) :
    ∃ fr', seeD [] base ops rs bef = some fr' ∧ Alike ts fr fr' := by
  obtain ⟨l, rfl⟩ := ho
  obtain ⟨fr', h1, h2, h3⟩ := see_get base (done ++ l) rs done.length (by simp) h.full bef hb
  have hg : ∀ j ∈ bef, ∀ d, (done ++ l)[j]? = some d → done[j]? = some d := fun j hj d hd => by
    rw [List.getElem?_append_left (hb j hj)] at hd; exact hd
  refine ⟨fr', h1, ⟨fun t htt => ?_, fun d => ?_, by rw [h.lk, h2]⟩⟩
  · rcases h.got t with ⟨j, d, s, a, b, c, e⟩ | ⟨a, b⟩
    · have hj := seenOk_get (ht t htt) j d a b
      rw [Nat.zero_add] at hj
      rcases h3 t with ⟨j', d', s', a', b', c', e', f'⟩ | ⟨a', b'⟩
      · have := hdis j j' d d' t a (hg j' a' d' b') b c'
        subst this
        rw [c] at e'; cases e'
        rw [e, f']
      · exact absurd b (a' j hj d (by rw [List.getElem?_append_left (hb j hj)]; exact a))
    · rcases h3 t with ⟨j', d', s', a', b', c', e', f'⟩ | ⟨a', b'⟩
      · exact absurd (dstsD_mem (hg j' a' d' b') c') a
      · rw [b, b']
  · by_cases hm : d ∈ dstsD (done ++ l)
    · have hbase := hu d hm
      have e1 : isBx (getS fr.sl d) = false := by
        rcases h.got d with ⟨j, d', s, _, _, c, e⟩ | ⟨_, b⟩
        · rw [e]; exact h.nb j s c
        · rw [b]; exact hbase
      have e2 : isBx (getS fr'.sl d) = false := by
        rcases h3 d with ⟨j, d', s, _, _, _, c, e⟩ | ⟨_, b⟩
        · rw [e]; exact h.nb j s c
        · rw [b]; exact hbase
      rw [boxAt_nb e1, boxAt_nb e2]
    · have e1 : getS fr.sl d = getS base.sl d := by
        rcases h.got d with ⟨j, d', s, a, b, _⟩ | ⟨_, b⟩
        · exact absurd (dstsD_mem (by rw [List.getElem?_append_left (List.getElem?_eq_some_iff.1 a).1]; exact a) b) hm
        · exact b
      have e2 : getS fr'.sl d = getS base.sl d := by
        rcases h3 d with ⟨j, d', s, a, b, c, _⟩ | ⟨_, b⟩
        · exact absurd (dstsD_mem b c) hm
        · exact b
      unfold boxAt
      rw [e1, e2]
theorem calm_nb {m : M Eff} (hm : NB m) {σ σ' : H} {s : SV} (h : calmO (m σ) = some (s, σ')) : isBx s = false := by
  unfold calmO at h
  split at h <;> try (cases h; done)
  rename_i e σ1 he
  unfold Eff.calm at h
  split at h <;> simp at h
  rename_i hc
  split at hc <;> simp at hc
  rw [← h.1, ← hc]
  exact hm _ _ _ he
theorem quiet_nb {m : M Eff} (hm : NB m) {σ τ σ' : H} {s : SV} (h : quietO (m τ) σ = some (s, σ')) : isBx s = false := by
  unfold quietO at h
  split at h <;> try (cases h; done)
  rename_i s' hs
  simp at h
  rw [← h.1]
  exact calm_nb hm hs
theorem oneF_nb {fr : Fr} {rs : Rs} {d : DOp} {σ σ' : H} {s : SV} (hb : noBox d.o.op = true) (h : oneF C rec hp ip fr rs d σ = some (s, σ')) : isBx s = false := by
  unfold oneF at h
  split at h
  · split at h
    · split at h
      · exact quiet_nb (opE_NB hb) h
      · cases h
    · split at h
      · exact calm_nb (opE_NB hb) h
      · cases h
    · exact calm_nb (opE_NB hb) h
    · cases h
  · simp at h; rw [← h.1]; rfl
  · cases h
theorem one_eq {base fr : Fr} {done : List DOp} {rs : Rs} (h : At base done rs fr) {ops : List DOp} (ho : ∃ l, ops = done ++ l) {d : DOp} {ts : List Nat} (hts : opS d.o.op = some ts) (hk : d.k.isS = false)
    (hb : ∀ j ∈ d.bef, j < done.length) (ht : ∀ t ∈ ts, seenOk d.bef t 0 done = true) (hu : ∀ t ∈ dstsD ops, isBx (getS base.sl t) = false) (hdis : ∀ (i j : Nat) (d e : DOp) (t : Nat), done[i]? = some d → done[j]? = some e → d.o.dst = some t → e.o.dst = some t → i = j) (σ : H) :
    oneD C rec hp ip [] base ops rs d σ = oneF C rec hp ip fr rs d σ := by
  obtain ⟨fr', h1, h2⟩ := h.alike ho hb ht hu hdis
  unfold oneD oneF
  rw [h1, opE_alike hts h2, quietOp_alike hts h2]
  cases wantD rs d.guard with
  | none => rfl
  | some b => cases b <;> rfl
theorem DK.isS_false {k : DK} (h : (match k with | .s => false | .l lo hi => Nat.beq lo hi | _ => true) = true) : k.isS = false := by
  cases k <;> first | rfl | cases h
def headH (hs : List H) (σ : H) : Prop := ∃ l, hs = σ :: l
theorem all_eq {base : Fr} {ops : List DOp} (hu : ∀ t ∈ dstsD ops, isBx (getS base.sl t) = false) : ∀ (l done : List DOp) (rs : Rs) (fr : Fr) (σ : H) (hs : List H), ops = done ++ l → At base done rs fr → statD done l = true →
    (∀ (i j : Nat) (d e : DOp) (t : Nat), done[i]? = some d → done[j]? = some e → d.o.dst = some t → e.o.dst = some t → i = j) →
    (match allF C rec hp ip done.length l rs fr σ with
      | some (fr', σ') => ∃ rs' hs', allD C rec hp ip [] base ops done.length l rs (σ :: hs) = some (rs', σ' :: hs') ∧ fr' = endD base ops.reverse rs'
      | none => allD C rec hp ip [] base ops done.length l rs (σ :: hs) = none)
  | [], done, rs, fr, σ, hs, he, ha, _, _ => by
    simp only [allF, allD]
    rw [List.append_nil] at he
    subst he
    exact ⟨rs, hs, rfl, ha.fin⟩
  | d :: l, done, rs, fr, σ, hs, he, ha, hst, hdis => by
    simp only [statD, Bool.and_eq_true] at hst
    obtain ⟨⟨⟨⟨⟨s1, s2⟩, s3⟩, s4⟩, s5⟩, s6⟩ := hst
    split at s1 <;> try (cases s1; done)
    rename_i ts hts
    have hk := DK.isS_false s4
    have hone := one_eq (C := C) (rec := rec) (hp := hp) (ip := ip) ha ⟨d :: l, he⟩ hts hk (fun j hj => by
      have := List.all_eq_true.1 s2 j hj
      simpa [Nat.blt_eq] using this) (fun t ht => List.all_eq_true.1 s1 t ht) hu hdis σ
    simp only [allF, allD, hk, hone]
    cases hx : oneF C rec hp ip fr rs d σ with
    | none => rfl
    | some p =>
      obtain ⟨s, σ'⟩ := p
      simp only
      have hdl : (done ++ [d]).length = done.length + 1 := by simp
      have hget : ∀ j e, (done ++ [d])[j]? = some e → done[j]? = some e ∨ (j = done.length ∧ e = d) := fun j e hj => by
        by_cases hlt : j < done.length
        · rw [List.getElem?_append_left hlt] at hj; exact .inl hj
        · have : j < (done ++ [d]).length := (List.getElem?_eq_some_iff.1 hj).1
          have hj' : j = done.length := by simp at this; omega
          subst hj'
          simp at hj
          exact .inr ⟨rfl, hj.symm⟩
      have hfresh : ∀ t, d.o.dst = some t → t ∉ dstsD done := fun t ht hm => by
        rw [ht] at s5
        simp only [Bool.not_eq_true'] at s5
        rw [(memN_iff _ _).2 hm] at s5
        cases s5
      have ha' : At base (done ++ [d]) ((done.length, s) :: rs) (putO fr d.o.dst s) := by
        refine ⟨fun j hj => ?_, ?_, fun t => ?_, fun j s' hj => ?_, ?_, fun j s' hj => ?_⟩
        · rw [getR_put]
          split
          · rfl
          · exact ha.full j (by simp at hj; omega)
        · unfold putO; split <;> exact ha.lk
        · by_cases hdt : d.o.dst = some t
          · refine .inl ⟨done.length, d, s, by simp, hdt, by rw [getR_put, if_pos rfl], ?_⟩
            rw [hdt]; simp [putO, Fr.put, getS_nil, getS_cons]
          · have e1 : getS (putO fr d.o.dst s).sl t = getS fr.sl t := by
              unfold putO
              split
              · rename_i u hu'
                rw [hu'] at hdt
                have : ¬ u = t := fun e => hdt (by rw [e])
                simp [Fr.put, getS_nil, getS_cons, this]
              · rfl
            rw [e1]
            rcases ha.got t with ⟨j, d', s', a, b, c, e⟩ | ⟨a, b⟩
            · have hj := (List.getElem?_eq_some_iff.1 a).1
              exact .inl ⟨j, d', s', by rw [List.getElem?_append_left hj]; exact a, b, by rw [getR_put, if_neg (by omega)]; exact c, e⟩
            · refine .inr ⟨fun hm => ?_, b⟩
              obtain ⟨j, e, h1, h2⟩ := mem_dstsD hm
              rcases hget j e h1 with h3 | ⟨_, rfl⟩
              · exact a (dstsD_mem h3 h2)
              · exact hdt h2
        · rw [getR_put] at hj
          split at hj
          · cases hj; exact oneF_nb s3 hx
          · exact ha.nb j s' hj
        · rw [List.reverse_append]
          simp only [List.reverse_cons, List.reverse_nil, List.nil_append, List.singleton_append, endD]
          rw [← ha.fin]
          rfl
        · rw [getR_put] at hj
          rw [hdl]
          split at hj
          · omega
          · have := ha.lt j s' hj; omega
      have hdis' : ∀ (i j : Nat) (a b : DOp) (t : Nat), (done ++ [d])[i]? = some a → (done ++ [d])[j]? = some b → a.o.dst = some t → b.o.dst = some t → i = j := fun i j a b t h1 h2 h3 h4 => by
        rcases hget i a h1 with h5 | ⟨rfl, rfl⟩ <;> rcases hget j b h2 with h6 | ⟨rfl, rfl⟩
        · exact hdis i j a b t h5 h6 h3 h4
        · exact absurd (dstsD_mem h5 h3) (hfresh t h4)
        · exact absurd (dstsD_mem h6 h4) (hfresh t h3)
        · rfl
      have hrec := all_eq hu l (done ++ [d]) ((done.length, s) :: rs) (putO fr d.o.dst s) (match d.k.isW with | true => σ' | false => σ) (match d.k.isW with | true => σ :: hs | false => hs) (by rw [he]; simp) ha' s6 hdis'
      rw [hdl] at hrec
      cases hw : d.k.isW with
      | true => rw [hw] at hrec; exact hrec
      | false => rw [hw] at hrec; exact hrec
theorem stat_parts : ∀ (l done : List DOp), statD done l = true → (∀ d ∈ l, d.k.isS = false) ∧ (∀ d ∈ l, ∀ lo hi, d.k = .l lo hi → lo = hi)
  | [], _, _ => ⟨by simp, by simp⟩
  | d :: l, done, h => by
    simp only [statD, Bool.and_eq_true] at h
    obtain ⟨⟨⟨⟨⟨_, _⟩, _⟩, s4⟩, _⟩, s6⟩ := h
    obtain ⟨h1, h2⟩ := stat_parts l _ s6
    refine ⟨fun x hx => ?_, fun x hx lo hi hk => ?_⟩
    · rcases List.mem_cons.1 hx with rfl | hx
      · exact DK.isS_false s4
      · exact h1 x hx
    · rcases List.mem_cons.1 hx with rfl | hx
      · rw [hk] at s4; simpa using s4
      · exact h2 x hx lo hi hk
theorem puts_none (base : Fr) (ops : List DOp) (rs : Rs) (fin : Fr) : ∀ l : List DOp, (∀ d ∈ l, d.k.isS = false) → putsD C [] base ops rs fin l = some []
  | [], _ => rfl
  | d :: l, h => by simp only [putsD, h d (by simp), puts_none base ops rs fin l (fun x hx => h x (by simp [hx]))]
theorem check_all (base : Fr) (ops : List DOp) (rs : Rs) (hs : List H) : ∀ (l : List DOp) (i : Nat), (∀ d ∈ l, ∀ lo hi, d.k = .l lo hi → lo = hi) → checkD C rec hp ip [] base ops rs hs i l = true
  | [], _, _ => rfl
  | d :: l, i, h => by
    simp only [checkD, check_all base ops rs hs l (i + 1) (fun x hx => h x (by simp [hx])), Bool.and_true]
    cases hk : d.k with
    | l lo hi => simp [h d (by simp) lo hi hk]
    | _ => rfl
theorem drop_get : ∀ (l : List Nat) (fr base : Fr), fr.drop l = some base → base.lk = fr.lk ∧ ∀ t ∈ l, getS base.sl t = .u
  | [], fr, base, h => by cases h; exact ⟨rfl, by simp⟩
  | d :: l, fr, base, h => by
    simp only [Fr.drop] at h
    split at h
    · obtain ⟨h1, h2⟩ := drop_get l _ _ h
      refine ⟨h1, fun t ht => ?_⟩
      by_cases hl : t ∈ l
      · exact h2 t hl
      · rcases List.mem_cons.1 ht with rfl | ht
        · have : ∀ (l : List Nat) (fr base : Fr), fr.drop l = some base → getS fr.sl t = .u → getS base.sl t = .u := by
            intro l
            induction l with
            | nil => intro fr base h hu; cases h; exact hu
            | cons x l ih =>
              intro fr base h hu
              simp only [Fr.drop] at h
              split at h
              · refine ih _ _ h ?_
                simp only [Fr.put, getS_nil, getS_cons]
                split
                · rfl
                · exact hu
              · cases h
          exact this l _ _ h (by simp [Fr.put, getS_nil, getS_cons])
        · exact absurd ht hl
    · cases h
theorem runD_eq {ops : List DOp} (hst : statD [] ops = true) (fr : Fr) : runD C rec hp ip [] ops fr = runF C rec hp ip ops fr := by
  funext σ
  unfold runD runF
  cases hlk : fr.lk with
  | true => rfl
  | false =>
    cases hd : fr.drop (dstsD ops) with
    | none => rfl
    | some base =>
      simp only
      obtain ⟨hb1, hb2⟩ := drop_get _ _ _ hd
      have h := all_eq (C := C) (rec := rec) (hp := hp) (ip := ip) (base := base) (ops := ops) (fun t ht => by rw [hb2 t ht]; rfl) ops [] [] base σ [] rfl
        ⟨fun j hj => (by simp at hj), rfl, fun t => .inr ⟨(by simp [dstsD]), rfl⟩, fun j s hj => (by cases hj), rfl, fun j s hj => (by cases hj)⟩ hst (fun i j d e t h => by simp at h)
      simp only [List.length_nil] at h
      obtain ⟨p1, p2⟩ := stat_parts ops [] hst
      cases hx : allF C rec hp ip 0 ops [] base σ with
      | none => rw [hx] at h; simp only at h; rw [h]
      | some p =>
        obtain ⟨fr', σ'⟩ := p
        rw [hx] at h
        obtain ⟨rs', hs', h1, h2⟩ := h
        rw [h1]
        simp only [puts_none base ops rs' (endD base ops.reverse rs') ops p1, check_all base ops rs' _ ops 0 p2, putW, if_true, h2]
end Go.Am
