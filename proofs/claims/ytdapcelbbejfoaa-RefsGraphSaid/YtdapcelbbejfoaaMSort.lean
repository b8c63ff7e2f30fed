/- Rows that are sorted, and rows out of which is struck what stands there twice: the machine's steps and the model. -/
import Derived.Test.YtdapcelbbejfoaaM3
import Derived.Sort.Grow
import Derived.Sort.EncStr
set_option linter.unusedVariables false
namespace Go.Am
open Go Go.Sort Go.Proofs
variable {P : Program} {g : G} {σ : H} {w w' : World}
theorem HR.rerow (hr : HR g σ w) {r b sz N el : Nat} {xs ys : List AV} {cs' : Array Value} (hs : σ[r]? = some (.arr false sz xs)) (hloc : g.loc r xs.length = some (b, sz, N)) (hlen : ys.length = xs.length) (hxN : xs.length * sz ≤ N)
    (hw : w'.heap[b]? = some (.cells cs' el (0, 0))) (hN : cs'.size = N) (hrow : ∀ i x, ys[i]? = some x → x.cells.length = sz ∧ MemR g (fun q => cs'[q]?) (i * sz) x)
    (hh : ∀ q, q ≠ b → q < w.heap.size → w'.heap[q]? = w.heap[q]?) (hsz : w.heap.size ≤ w'.heap.size) (hos : w'.os = w.os) (htape : w'.tape = w.tape) (hout : w'.output = w.output) :
    HR g (σ.set r (.arr false sz ys)) w' ∧ Step w.heap.size g σ w g (σ.set r (.arr false sz ys)) w' := by
  have hrl : r < σ.length := (List.getElem?_eq_some_iff.1 hs).1
  have hbk : blk g r (.arr false sz xs) = some b := by simp [blk, HObj.ver, hloc]
  refine hr.upd (r := r) (o := .arr false sz ys) (b := b) (.refl g) rfl (fun q hq => List.getElem?_set_ne (Ne.symm hq)) (by simp [hrl]) ?_ rfl (by simp [blk, HObj.ver, hlen, hloc]) (.inl ⟨_, hs, rfl, hbk⟩) hh hsz (by simpa using hrl) (by simp) (fun q v p h => .inl h) (fun o0 h0 => by rw [hs] at h0; cases h0; simp [HObj.ver, hlen]) hos htape hout
  exact ⟨b, N, cs', el, (0, 0), by rw [hlen]; exact hloc, hw, hN, by rw [hlen]; exact hxN, hrow, fun _ => rfl, fun h => by cases h⟩
theorem unAll_get {α : Type} {un : AV → Option α} : ∀ {l : List AV} {zs : List α}, unAll un l = some zs → zs.length = l.length ∧ ∀ (i : Nat) x, l[i]? = some x → ∃ z, zs[i]? = some z ∧ un x = some z
  | [], zs, h => by simp [unAll] at h; subst h; simp
  | a :: l, zs, h => by
    simp only [unAll] at h
    split at h <;> try (cases h; done)
    rename_i z m h1 h2
    cases h
    obtain ⟨k1, k2⟩ := unAll_get h2
    refine ⟨by simp [k1], fun i x hi => ?_⟩
    cases i with
    | zero => simp at hi; subst hi; exact ⟨z, rfl, h1⟩
    | succ i => simpa using k2 i x (by simpa using hi)
structure Enc {α : Type} (un : AV → Option α) (mk : α → AV) (enc : α → Value) : Prop where
  un : ∀ a x, un a = some x → a = mk x
  vr : ∀ g x v, VR g (mk x) v ↔ v = enc x
  cells : ∀ x, (mk x).cells = [mk x]
  one : ∀ x, (enc x).oneCell' = true
theorem enc_str : Enc unS .str encStr where
  un := fun a x h => by cases a <;> simp [unS] at h; subst h; rfl
  vr := fun g x v => by
    rw [VR_str]
    constructor
    · rintro ⟨bs, rfl, h⟩
      subst h
      rfl
    · rintro rfl
      exact ⟨_, rfl, by simp⟩
  cells := fun x => rfl
  one := fun x => rfl
theorem enc_int : Enc unI (.int .i64) (Value.int .i64) where
  un := fun a x h => by
    cases a <;> try (simp [unI] at h; done)
    rename_i k n
    unfold unI at h
    split at h <;> simp at h
    rename_i h'
    cases h'
    subst h; rfl
  vr := fun g x v => by rw [VR_int]
  cells := fun x => rfl
  one := fun x => rfl
theorem row_holds {α : Type} [Inhabited α] {un : AV → Option α} {mk : α → AV} {enc : α → Value} (he : Enc un mk enc) {b o n el : Nat} {xs : List AV} {cs : Array Value} {zs : List α} (hw : w.heap[b]? = some (.cells cs el (0, 0)))
    (hrow : ∀ i x, xs[i]? = some x → x.cells.length = 1 ∧ MemR g (fun q => cs[q]?) (i * 1) x) (hl : o + n ≤ xs.length) (hz : unAll un ((xs.drop o).take n) = some zs) : zs.length = n ∧ Holds enc w b o zs.toArray := by
  obtain ⟨h1, h2⟩ := unAll_get hz
  have hlen : ((xs.drop o).take n).length = n := by simp; omega
  refine ⟨by rw [h1, hlen], fun j hj => ?_⟩
  have hj' : j < n := by
    have : j < zs.length := by simpa using hj
    omega
  have hx : ((xs.drop o).take n)[j]? = some xs[o + j] := by
    rw [List.getElem?_take_of_lt hj', List.getElem?_drop, List.getElem?_eq_getElem (by omega)]
  obtain ⟨z, hz1, hz2⟩ := h2 j _ hx
  obtain ⟨_, k2⟩ := hrow (o + j) xs[o + j] (List.getElem?_eq_getElem (by omega))
  have hmk := he.un _ _ hz2
  rw [hmk] at k2
  obtain ⟨u, k3, k4, k5⟩ := k2 0 (mk z) (by rw [he.cells]; rfl)
  rw [he.vr] at k5
  subst k5
  simp only [Nat.mul_one, Nat.add_zero] at k3
  have hz3 : zs.toArray[j]! = z := by
    have := Array.getElem!_eq_getD (xs := zs.toArray) (i := j)
    rw [this, Array.getD_eq_getD_getElem?]
    simp [hz1]
  rw [hz3]
  refine ⟨?_, ?_⟩
  · simp [World.cell?, hw, k3]
  · simp [World.frozen?, hw]
theorem row_put' {α : Type} [Inhabited α] {mk : α → AV} {enc : α → Value} (hcl : ∀ x, (mk x).cells = [mk x]) (hoc : ∀ x, (enc x).oneCell' = true) (hvr : ∀ x, VR g (mk x) (enc x)) (hr : HR g σ w) {r b N o q el : Nat} {xs : List AV} {cs : Array Value} {ys : List α} {os : Array Obj} (hs : σ[r]? = some (.arr false 1 xs)) (hloc : g.loc r xs.length = some (b, 1, N)) (hxN : xs.length * 1 ≤ N)
    (hw : w.heap[b]? = some (.cells cs el (0, 0))) (hN : cs.size = N) (hrow : ∀ i x, xs[i]? = some x → x.cells.length = 1 ∧ MemR g (fun q => cs[q]?) (i * 1) x) (hl : o + ys.length ≤ xs.length) :
    HR g (σ.set r (.arr false 1 (setCells xs o (ys.map mk)))) (grow (putRow enc (Sort.ahead w q) b o ys.toArray) os) ∧ Step w.heap.size g σ w g (σ.set r (.arr false 1 (setCells xs o (ys.map mk)))) (grow (putRow enc (Sort.ahead w q) b o ys.toArray) os) := by
  have hb : b < w.heap.size := (Array.getElem?_eq_some_iff.1 hw).1
  obtain ⟨k1, k2⟩ := setCells_get (ys.map mk) xs o (by simpa using hl)
  have hheap : ∀ q', q' < w.heap.size → (grow (putRow enc (Sort.ahead w q) b o ys.toArray) os).heap[q']? = (w.heap.modify b (onCells (putCells enc o ys.toArray)))[q']? := by
    intro q' hq'
    show ((w.heap.modify b (onCells (putCells enc o ys.toArray))) ++ os)[q']? = _
    rw [Array.getElem?_append_left (by simpa using hq')]
  refine hr.rerow (b := b) (N := N) (el := el) (cs' := putCells enc o ys.toArray cs) hs hloc k1 hxN ?_ (by simp [putCells, hN]) (fun i x hi => ?_) (fun q' hq' hlt => ?_) (by simp) rfl rfl rfl
  · rw [hheap b hb, Array.getElem?_modify, if_pos rfl, hw]
    rfl
  · rw [k2] at hi
    simp only [List.length_map] at hi
    have hiN : i < xs.length := by
      split at hi
      · omega
      · exact (List.getElem?_eq_some_iff.1 hi).1
    have hcs : (putCells enc o ys.toArray cs)[i]? = (cs[i]?).map fun c => if o ≤ i ∧ i < o + ys.length then enc ys.toArray[i - o]! else c := by
      simp [putCells, Array.getElem?_mapIdx]
    split at hi
    · rename_i hin
      rw [List.getElem?_map] at hi
      obtain ⟨z, hz1, rfl⟩ : ∃ z, ys[i - o]? = some z ∧ mk z = x := by
        cases hy : ys[i - o]? with
        | none => rw [hy] at hi; cases hi
        | some z => rw [hy] at hi; exact ⟨z, rfl, Option.some.inj hi⟩
      refine ⟨by rw [hcl]; rfl, fun j c hj => ?_⟩
      rw [hcl] at hj
      cases j with
      | succ j => simp at hj
      | zero =>
        simp at hj
        subst hj
        refine ⟨enc z, ?_, hoc z, hvr z⟩
        have hic : i < cs.size := by omega
        have hz3 : ys.toArray[i - o]! = z := by
          rw [Array.getElem!_eq_getD, Array.getD_eq_getD_getElem?]
          simp [hz1]
        simp only [Nat.mul_one, Nat.add_zero, hcs, Array.getElem?_eq_getElem hic, Option.map_some, if_pos hin, hz3]
    · rename_i hin
      obtain ⟨m1, m2⟩ := hrow i x hi
      refine ⟨m1, fun j c hj => ?_⟩
      obtain ⟨u, m3, m4, m5⟩ := m2 j c hj
      have hj0 : j = 0 := by
        have := (List.getElem?_eq_some_iff.1 hj).1
        omega
      subst hj0
      refine ⟨u, ?_, m4, m5⟩
      simp only [Nat.mul_one, Nat.add_zero] at m3 ⊢
      rw [hcs, m3, Option.map_some, if_neg hin]
  · rw [hheap q' hlt, Array.getElem?_modify, if_neg (Ne.symm hq')]
theorem row_put {α : Type} [Inhabited α] {un : AV → Option α} {mk : α → AV} {enc : α → Value} (he : Enc un mk enc) (hr : HR g σ w) {r b N o q el : Nat} {xs : List AV} {cs : Array Value} {ys : List α} {os : Array Obj} (hs : σ[r]? = some (.arr false 1 xs)) (hloc : g.loc r xs.length = some (b, 1, N)) (hxN : xs.length * 1 ≤ N)
    (hw : w.heap[b]? = some (.cells cs el (0, 0))) (hN : cs.size = N) (hrow : ∀ i x, xs[i]? = some x → x.cells.length = 1 ∧ MemR g (fun q => cs[q]?) (i * 1) x) (hl : o + ys.length ≤ xs.length) :
    HR g (σ.set r (.arr false 1 (setCells xs o (ys.map mk)))) (grow (putRow enc (Sort.ahead w q) b o ys.toArray) os) ∧ Step w.heap.size g σ w g (σ.set r (.arr false 1 (setCells xs o (ys.map mk)))) (grow (putRow enc (Sort.ahead w q) b o ys.toArray) os) :=
  row_put' he.cells he.one (fun x => (he.vr _ _ _).2 rfl) hr hs hloc hxN hw hN hrow hl
theorem squash_le {α : Type} [DecidableEq α] : ∀ zs : List α, (squash zs).length ≤ zs.length
  | [] => Nat.le_refl _
  | [a] => Nat.le_refl _
  | a :: b :: l => by
    have := squash_le (b :: l)
    simp only [squash]
    split
    · simp at this ⊢; omega
    · simp at this ⊢; omega
theorem set_same {l : List HObj} {r : Nat} {o : HObj} (h : l[r]? = some o) : l.set r o = l := by
  apply List.ext_getElem?
  intro i
  rw [List.getElem?_set]
  split
  · rename_i hi
    subst hi
    have := (List.getElem?_eq_some_iff.1 h).1
    rw [if_pos this]; exact h.symm
  · rfl
theorem slice_args {x : AV} {l : List AV} {vs : Array Value} (h : VRs g [x] vs) : ∃ u, vs = #[u] ∧ VR g x u := VRs_one h
theorem sort_serves {α : Type} [Inhabited α] {un : AV → Option α} {mk : α → AV} {enc : α → Value} {le : α → α → Bool} (he : Enc un mk enc) {f : Nat} (hcall : ∀ args w, (callFunc f args).run P w = .ok (.enter f args) w)
    (hsort : ∀ (blk off cap : Nat) (zs : List α) (w : World), Holds enc w blk off zs.toArray → blk < w.heap.size → zs.length < 4611686018427387904 → Calls P f #[.slice (some ⟨blk, off, none⟩) zs.length cap] w fun e w' => e = .returned (.tuple #[]) ∧ ∃ n os, w' = grow (putRow enc (Sort.ahead w n) blk off (zs.mergeSort le).toArray) os)
    (hnone : ∀ (p : Option Addr) (cap : Nat) (w : World), Calls P f #[.slice p 0 cap] w fun e w' => e = .returned (.tuple #[]) ∧ w' = w) : ServesM P f (sortRow un mk le) := by
  intro l σ r σ' h g w vs hr hv
  have htup : VR g (.tup []) (.tuple #[]) := VR_tup.2 ⟨#[], rfl, rfl, fun j c hj => by simp at hj⟩
  have none' : ∀ (p : Option Addr) (cap : Nat), Serves P f #[.slice p 0 cap] w (Back g σ w (.tup []) σ) := fun p cap => by
    refine .inl ⟨hcall _ _, (hnone p cap w).mono fun e w' he => ?_⟩
    obtain ⟨rfl, rfl⟩ := he
    exact ⟨g, hr, .refl _ _ _ _, htup⟩
  obtain ⟨m, hm, h'⟩ := app_eq h
  clear h
  have h := h'
  clear h'
  unfold sortRow at hm
  split at hm <;> subst hm
  · obtain ⟨rfl, rfl⟩ := pureM_eq h
    obtain ⟨u, rfl, hu⟩ := VRs_one hv
    rw [VR_nil] at hu; subst hu
    exact none' none 0
  · obtain ⟨rfl, rfl⟩ := pureM_eq h
    obtain ⟨u, rfl, hu⟩ := VRs_one hv
    rw [VR_sl] at hu
    obtain ⟨a, cap, rfl, _⟩ := hu
    exact none' (some a) cap
  · rename_i r0 v o n s
    simp only at h
    split at h <;> try (cases h; done)
    rename_i sz xs ha
    split at h <;> try (cases h; done)
    rename_i hc
    obtain ⟨rfl, rfl, hl, hn⟩ := hc
    split at h <;> try (cases h; done)
    rename_i zs hz
    cases h
    obtain ⟨rfl, hs, b, N, cs, el, fz, h1, h2, h3, h4, h5, h6, h7⟩ := arrAt_OR hr ha
    have := h6 rfl
    subst this
    obtain ⟨u, rfl, hu⟩ := VRs_one hv
    rw [VR_hs] at hu
    obtain ⟨b', N', a, cap, k1, rfl, k3, k4⟩ := hu
    rw [h1] at k1
    cases k1
    obtain ⟨hzl, hH⟩ := row_holds he h2 h5 hl hz
    have hml : (zs.mergeSort le).length = n := by rw [List.length_mergeSort]; exact hzl
    by_cases hn0 : n = 0
    · subst hn0
      have hz0 : zs = [] := by cases zs with | nil => rfl | cons _ _ => simp at hzl
      subst hz0
      have : σ.set r0 (.arr false 1 (setCells xs o (([] : List α).mergeSort le |>.map mk))) = σ := by
        have : ([] : List α).mergeSort le = [] := by simp
        rw [this]
        exact set_same hs
      rw [this]
      exact none' (some a) cap
    · have ha' : a = ⟨b, o * 1, none⟩ := by
        rcases k4 with k | k
        · exact k.1
        · exact absurd k.1 hn0
      subst ha'
      rw [Nat.mul_one]
      have hb : b < w.heap.size := (Array.getElem?_eq_some_iff.1 h2).1
      refine .inl ⟨hcall _ _, ?_⟩
      have := hsort b o cap zs w hH hb (by omega)
      rw [hzl] at this
      refine this.mono fun e w' he' => ?_
      obtain ⟨rfl, q, os, rfl⟩ := he'
      obtain ⟨p1, p2⟩ := row_put he hr (q := q) (os := os) (ys := zs.mergeSort le) (o := o) hs h1 h4 h2 h3 h5 (by omega)
      exact ⟨g, p1, p2, htup⟩
  · exact (failM_eq h).elim
theorem compact_serves {α : Type} [Inhabited α] [DecidableEq α] {un : AV → Option α} {mk : α → AV} {enc : α → Value} {z : α} (he : Enc un mk enc) {f : Nat} (hcall : ∀ args w, (callFunc f args).run P w = .ok (.enter f args) w)
    (hcomp : ∀ (blk off cap : Nat) (zs : List α) (w : World), Holds enc w blk off zs.toArray → zs.length ≤ 9223372036854775807 → zs.length ≤ cap → Calls P f #[.slice (some ⟨blk, off, none⟩) zs.length cap] w fun e w' => e = .returned (.slice (some ⟨blk, off, none⟩) (squash zs).length cap) ∧ ∃ q, w' = putRow enc (Sort.ahead w q) blk off (squash zs ++ List.replicate (zs.length - (squash zs).length) z).toArray)
    (hnone : ∀ (a : Option Addr) (cap : Nat) (w : World), Calls P f #[.slice a 0 cap] w fun e w' => e = .returned (.slice a 0 cap) ∧ w' = w) : ServesM P f (compactRow un mk z) := by
  intro l σ r σ' h g w vs hr hv
  obtain ⟨m, hm, h'⟩ := app_eq h
  clear h
  have h := h'
  clear h'
  unfold compactRow at hm
  split at hm <;> subst hm
  · obtain ⟨rfl, rfl⟩ := pureM_eq h
    obtain ⟨u, rfl, hu⟩ := VRs_one hv
    rw [VR_nil] at hu; subst hu
    refine .inl ⟨hcall _ _, (hnone none 0 w).mono fun e w' he => ?_⟩
    obtain ⟨rfl, rfl⟩ := he
    exact ⟨g, hr, .refl _ _ _ _, VR_nil.2 rfl⟩
  · rename_i r0 v o n s
    simp only at h
    split at h <;> try (cases h; done)
    rename_i sz xs ha
    split at h <;> try (cases h; done)
    rename_i hc
    obtain ⟨rfl, rfl, hl, hn⟩ := hc
    split at h <;> try (cases h; done)
    rename_i zs hz
    cases h
    obtain ⟨rfl, hs, b, N, cs, el, fz, h1, h2, h3, h4, h5, h6, h7⟩ := arrAt_OR hr ha
    have := h6 rfl
    subst this
    obtain ⟨u, rfl, hu⟩ := VRs_one hv
    rw [VR_hs] at hu
    obtain ⟨b', N', a, cap, k1, rfl, k3, k4⟩ := hu
    have hk1 := k1
    rw [h1] at k1
    cases k1
    obtain ⟨hzl, hH⟩ := row_holds he h2 h5 hl hz
    by_cases hn0 : n = 0
    · subst hn0
      have hz0 : zs = [] := by cases zs with | nil => rfl | cons _ _ => simp at hzl
      subst hz0
      have hc0 : squash ([] : List α) = [] := rfl
      rw [hc0]
      have : σ.set r0 (.arr false 1 (setCells xs o ((([] : List α) ++ List.replicate (([] : List α).length - ([] : List α).length) z).map mk))) = σ := set_same hs
      rw [this]
      refine .inl ⟨hcall _ _, (hnone (some a) cap w).mono fun e w' he => ?_⟩
      obtain ⟨rfl, rfl⟩ := he
      exact ⟨g, hr, .refl _ _ _ _, VR_hs.2 ⟨b, N, a, cap, h1, rfl, Nat.zero_le _, by simpa using k4⟩⟩
    · rcases k4 with ⟨rfl, k5, k6⟩ | k
      case inr => exact absurd k.1 hn0
      have hb : b < w.heap.size := (Array.getElem?_eq_some_iff.1 h2).1
      refine .inl ⟨hcall _ _, ?_⟩
      have := hcomp b o cap zs w hH (by omega) (by omega)
      rw [hzl] at this
      have hcl : (squash zs).length ≤ n := by rw [← hzl]; exact squash_le zs
      rw [Nat.mul_one]
      refine this.mono fun e w' he' => ?_
      obtain ⟨rfl, q, rfl⟩ := he'
      obtain ⟨p1, p2⟩ := row_put he hr (q := q) (os := #[]) (ys := squash zs ++ List.replicate (zs.length - (squash zs).length) z) (o := o) hs h1 h4 h2 h3 h5 (by simp; omega)
      rw [grow_empty] at p1 p2
      rw [hzl] at p1 p2
      rw [hzl]
      exact ⟨g, p1, p2, VR_hs.2 ⟨b, N, ⟨b, o * 1, none⟩, cap, h1, by rw [Nat.mul_one], by omega, .inl ⟨rfl, k5, k6⟩⟩⟩
  · exact (failM_eq h).elim
theorem sort_ind {α : Type} {un : AV → Option α} {mk : α → AV} {le : α → α → Bool} : ∀ l, AV.noRefs l = true → Ind (sortRow un mk le l) := by
  intro l hn r h σ
  unfold sortRow at h ⊢
  split at h
  · simp only [pureM] at h ⊢; cases h; rfl
  · simp only [pureM] at h ⊢; cases h; rfl
  · simp [AV.noRefs, AV.noRef] at hn
  · exact (failM_eq h).elim
theorem compact_ind {α : Type} [DecidableEq α] {un : AV → Option α} {mk : α → AV} {z : α} : ∀ l, AV.noRefs l = true → Ind (compactRow un mk z l) := by
  intro l hn r h σ
  unfold compactRow at h ⊢
  split at h
  · simp only [pureM] at h ⊢; cases h; rfl
  · simp [AV.noRefs, AV.noRef] at hn
  · exact (failM_eq h).elim
/-! ### rows sorted by their first numbers -/
theorem headA_eq {r0 : Nat} {x : AV} {h : Int} (hx : headA σ r0 x = some h) : x.cells = [x] ∧ ((∃ r v o n ys fz, x = .hs r v o (n + 1) 1 ∧ r ≠ r0 ∧ arrAt σ r v = some (fz, 1, ys) ∧ ys[o]? = some (.int .i64 h)) ∨ ∃ l, x = .sl 1 (.int .i64 h :: l)) := by
  unfold headA at hx
  split at hx
  · rename_i r v o n
    split at hx <;> try (cases hx; done)
    rename_i hne
    split at hx <;> try (cases hx; done)
    rename_i fz ys ha
    split at hx <;> try (cases hx; done)
    rename_i h' hy
    cases hx
    exact ⟨rfl, .inl ⟨r, v, o, n, ys, fz, rfl, hne, ha, hy⟩⟩
  · cases hx
    exact ⟨rfl, .inr ⟨_, rfl⟩⟩
  · cases hx
def Leads (w : World) (blk : Nat) (v : Value) (h : Int) : Prop := ∃ b o n c, v = .slice (some ⟨b, o, none⟩) (n + 1) c ∧ b ≠ blk ∧ b < w.heap.size ∧ w.cell? ⟨b, o, none⟩ = some (.int .i64 h)
theorem head_leads (hr : HR g σ w) {r0 b0 : Nat} {o0 : HObj} (h0 : σ[r0]? = some o0) (hm : o0.mut = true) (hb : blk g r0 o0 = some b0) {x : AV} {h : Int} {v : Value} (hx : headA σ r0 x = some h) (hv : VR g x v) : Leads w b0 v h := by
  rcases (headA_eq hx).2 with ⟨r, vv, o, n, ys, fz, rfl, hne, ha, hy⟩ | ⟨l, rfl⟩
  · obtain ⟨rfl, hs, b, N, cs, el, fz', h1, h2, h3, h4, h5, h6, h7⟩ := arrAt_OR hr ha
    rw [VR_hs] at hv
    obtain ⟨b', N', a, cap, k1, rfl, k3, k4⟩ := hv
    rw [h1] at k1
    cases k1
    have ha' : a = ⟨b, o * 1, none⟩ := by
      rcases k4 with k | k
      · exact k.1
      · exact absurd k.1 (by omega)
    subst ha'
    rw [Nat.mul_one]
    obtain ⟨_, k2⟩ := h5 o _ hy
    obtain ⟨u, k5, _, k6⟩ := k2 0 (.int .i64 h) rfl
    rw [VR_int] at k6
    subst k6
    simp only [Nat.mul_one, Nat.add_zero] at k5
    refine ⟨b, o, n, cap, rfl, fun e => ?_, (Array.getElem?_eq_some_iff.1 h2).1, by simp [World.cell?, h2, k5]⟩
    subst e
    exact hne (hr.inj r r0 _ _ b hs h0 (by simp [blk, HObj.ver, h1]) hb)
  · rw [VR_sl] at hv
    obtain ⟨a, cap, rfl, _, k | ⟨b, off, rfl, k⟩⟩ := hv
    · cases k
    · obtain ⟨_, k2⟩ := k 0 _ rfl
      obtain ⟨u, k5, _, k6⟩ := k2 0 (.int .i64 h) rfl
      rw [VR_int] at k6
      subst k6
      simp only [Nat.zero_mul, Nat.add_zero] at k5
      have hc := hr.im _ _ _ k5
      refine ⟨b, off, l.length, cap, rfl, fun e => ?_, cell_lt hc, hc⟩
      subst e
      rw [hr.free b ⟨r0, o0, h0, hm, hb⟩ off] at k5
      cases k5
theorem sortH_serves {f f' : Nat} (hcall : ∀ args w, (callFunc f args).run P w = .ok (.enter f args) w)
    (hsort : ∀ (blk off cap m : Nat) (vals : Fin (m + 1) → Value) (hs : Fin (m + 1) → Int) (w : World), (∀ i, (vals i).oneCell' = true) → (∀ i j, hs i = hs j → i = j) → Holds vals w blk off (List.finRange (m + 1)).toArray → blk < w.heap.size → m + 1 < 4611686018427387904 → (∀ i, Leads w blk (vals i) (hs i)) →
      Calls P f #[.slice (some ⟨blk, off, none⟩) (m + 1) cap, .func (.func f') #[] #[]] w fun e w' => e = .returned (.tuple #[]) ∧ ∃ n os, w' = grow (putRow vals (Sort.ahead w n) blk off (((List.finRange (m + 1)).mergeSort fun i j => decide (hs i ≤ hs j)).toArray)) os)
    (hnone : ∀ (p : Option Addr) (cap : Nat) (w : World), Calls P f #[.slice p 0 cap, .func (.func f') #[] #[]] w fun e w' => e = .returned (.tuple #[]) ∧ w' = w) : ServesM P f (primSortH f') := by
  intro l σ r σ' h g w vs hr hv
  have htup : VR g (.tup []) (.tuple #[]) := VR_tup.2 ⟨#[], rfl, rfl, fun j c hj => by simp at hj⟩
  have two : ∀ {x y : AV}, VRs g [x, y] vs → ∃ u v, vs = #[u, v] ∧ VR g x u ∧ VR g y v := fun {x y} h => by
    obtain ⟨u, h1, h2⟩ := h.2 0 x rfl
    obtain ⟨v, h3, h4⟩ := h.2 1 y rfl
    refine ⟨u, v, ?_, h2, h4⟩
    apply Array.ext_getElem?
    intro i
    match i with
    | 0 => simpa using h1
    | 1 => simpa using h3
    | i + 2 => rw [Array.getElem?_eq_none (by have := h.1; simp at this; omega)]; simp
  have fnv : ∀ {v : Value}, VR g (.fn f' []) v → v = .func (.func f') #[] #[] := fun {v} h => by
    obtain ⟨vs', rfl, h1, _⟩ := VR_fn.1 h
    have : vs' = #[] := by
      apply Array.eq_empty_of_size_eq_zero
      simpa using h1
    rw [this]
  have none' : ∀ (p : Option Addr) (cap : Nat), Serves P f #[.slice p 0 cap, .func (.func f') #[] #[]] w (Back g σ w (.tup []) σ) := fun p cap => by
    refine .inl ⟨hcall _ _, (hnone p cap w).mono fun e w' he => ?_⟩
    obtain ⟨rfl, rfl⟩ := he
    exact ⟨g, hr, .refl _ _ _ _, htup⟩
  obtain ⟨m, hm, h'⟩ := app_eq h
  clear h
  have h := h'
  clear h'
  unfold primSortH at hm
  split at hm
  · split at hm
    · rename_i hff
      subst hm hff
      obtain ⟨rfl, rfl⟩ := pureM_eq h
      obtain ⟨u, v, rfl, hu, hv2⟩ := two hv
      rw [VR_nil] at hu; subst hu
      rw [fnv hv2]
      exact none' none 0
    · subst hm; exact (failM_eq h).elim
  · rename_i r0 v o n s f2
    subst hm
    simp only at h
    split at h <;> try (cases h; done)
    rename_i sz xs ha
    split at h <;> try (cases h; done)
    rename_i hc
    obtain ⟨rfl, rfl, rfl, hl, hn⟩ := hc
    split at h <;> try (cases h; done)
    rename_i hs hz
    split at h <;> try (cases h; done)
    rename_i hnd
    cases h
    obtain ⟨rfl, hs0, b, N, cs, el, fz, h1, h2, h3, h4, h5, h6, h7⟩ := arrAt_OR hr ha
    have := h6 rfl
    subst this
    obtain ⟨u, v2, rfl, hu, hv2⟩ := two hv
    rw [fnv hv2]
    rw [VR_hs] at hu
    obtain ⟨b', N', a, cap, k1, rfl, k3, k4⟩ := hu
    rw [h1] at k1
    cases k1
    obtain ⟨hzl, hzg⟩ := unAll_get hz
    have hlen : ((xs.drop o).take n).length = n := by simp; omega
    cases n with
    | zero =>
      have e0 : (xs.drop o).take 0 = [] := rfl
      have : σ.set r0 (.arr false 1 (setCells xs o (sortH ((xs.drop o).take 0) hs))) = σ := by
        have : sortH ((xs.drop o).take 0) hs = [] := by simp [sortH]
        rw [this]
        exact set_same hs0
      rw [this]
      exact none' (some a) cap
    | succ m =>
      have ha' : a = ⟨b, o * 1, none⟩ := by
        rcases k4 with k | k
        · exact k.1
        · exact absurd k.1 (by omega)
      subst ha'
      rw [Nat.mul_one]
      have hb : b < w.heap.size := (Array.getElem?_eq_some_iff.1 h2).1
      generalize hE : (xs.drop o).take (m + 1) = E at *
      have hEl : hs.length = E.length := hzl
      -- the elements
      let mk : Fin (m + 1) → AV := fun i => E[i.1]'(by rw [hlen]; exact i.2)
      let hd : Fin (m + 1) → Int := fun i => hs[i.1]'(by rw [hEl, hlen]; exact i.2)
      have hEi : ∀ i : Fin (m + 1), xs[o + i.1]? = some (mk i) := fun i => by
        have : E[i.1]? = some (mk i) := List.getElem?_eq_getElem _
        rw [← hE, List.getElem?_take_of_lt i.2, List.getElem?_drop] at this
        exact this
      have hhd : ∀ i : Fin (m + 1), headA σ r0 (mk i) = some (hd i) := fun i => by
        have e1 : E[i.1]? = some (mk i) := List.getElem?_eq_getElem _
        obtain ⟨z, z1, z2⟩ := hzg i.1 _ e1
        have e2 : hs[i.1]? = some (hd i) := List.getElem?_eq_getElem _
        rw [e2] at z1; cases z1
        exact z2
      have hcl : ∀ i, (mk i).cells = [mk i] := fun i => (headA_eq (hhd i)).1
      have hval : ∀ i : Fin (m + 1), ∃ u, cs[o + i.1]? = some u ∧ u.oneCell' = true ∧ VR g (mk i) u := fun i => by
        obtain ⟨_, q2⟩ := h5 (o + i.1) _ (hEi i)
        obtain ⟨u, q3, q4, q5⟩ := q2 0 (mk i) (by rw [hcl]; rfl)
        exact ⟨u, by simpa using q3, q4, q5⟩
      obtain ⟨vals, hvals⟩ := Classical.axiomOfChoice hval
      have hbk : blk g r0 (.arr false 1 xs) = some b := by simp [blk, HObj.ver, h1]
      have hinj : ∀ i j, hd i = hd j → i = j := fun i j e => by
        have hi : i.1 < hs.length := by rw [hEl, hlen]; exact i.2
        have hj : j.1 < hs.length := by rw [hEl, hlen]; exact j.2
        refine Fin.ext ((List.getElem?_inj hi hnd).1 ?_)
        rw [List.getElem?_eq_getElem hi, List.getElem?_eq_getElem hj]
        exact congrArg some e
      refine .inl ⟨hcall _ _, ?_⟩
      have hH : Holds vals w b o (List.finRange (m + 1)).toArray := fun j hj => by
        have hj' : j < m + 1 := by simpa using hj
        have e : (List.finRange (m + 1)).toArray[j]! = ⟨j, hj'⟩ := by
          rw [Array.getElem!_eq_getD, Array.getD_eq_getD_getElem?]
          simp [hj']
        rw [e]
        obtain ⟨q1, _, _⟩ := hvals ⟨j, hj'⟩
        exact ⟨by simp [World.cell?, h2, q1], by simp [World.frozen?, h2]⟩
      refine (hsort b o cap m vals hd w (fun i => (hvals i).2.1) hinj hH hb (by omega) (fun i => head_leads hr hs0 rfl hbk (hhd i) (hvals i).2.2)).mono fun e w' he' => ?_
      obtain ⟨rfl, q, os, rfl⟩ := he'
      have hsh : sortH E hs = ((List.finRange (m + 1)).mergeSort fun i j => decide (hd i ≤ hd j)).map mk := by
        have hzip : E.zip hs = (List.finRange (m + 1)).map fun i => (mk i, hd i) := by
          apply List.ext_getElem
          · simp [hEl, hlen]
          · intro i i1 i2
            simp [mk, hd]
        unfold sortH
        rw [hzip, ← List.map_mergeSort (r := fun i j => decide (hd i ≤ hd j)) (s := fun (a b : AV × Int) => decide (a.2 ≤ b.2)) (f := fun i => (mk i, hd i)) (fun _ _ _ _ => rfl), List.map_map]
        rfl
      rw [hsh]
      obtain ⟨p1, p2⟩ := row_put' (mk := mk) (enc := vals) hcl (fun i => (hvals i).2.1) (fun i => (hvals i).2.2) hr (q := q) (os := os) (ys := (List.finRange (m + 1)).mergeSort fun i j => decide (hd i ≤ hd j)) (o := o) hs0 h1 h4 h2 h3 h5 (by simp; omega)
      exact ⟨g, p1, p2, htup⟩
  · subst hm; exact (failM_eq h).elim
theorem sortH_ind {f : Nat} : ∀ l, AV.noRefs l = true → Ind (primSortH f l) := by
  intro l hn r h σ
  unfold primSortH at h ⊢
  split at h
  · split at h
    · rename_i hff
      simp only [if_pos hff]
      simp only [pureM] at h ⊢; cases h; rfl
    · exact (failM_eq h).elim
  · simp [AV.noRefs, AV.noRef] at hn
  · exact (failM_eq h).elim
end Go.Am
