/- Rows that are sorted, and rows out of which is struck what stands there twice: the machine's steps and the model. -/
import Derived.Test.YtdapcelbbejfoaaM2
import Derived.Sort.Grow
import Derived.Sort.EncStr
set_option linter.unusedVariables false
namespace Go.Am
open Go Go.Sort Go.Proofs
variable {P : Program} {g : G} {σ : H} {w w' : World}
theorem HR.rerow (hr : HR g σ w) {r b sz N el : Nat} {xs ys : List AV} {cs' : Array Value} (hs : σ[r]? = some (.arr false sz xs)) (hloc : g.loc r xs.length = some (b, sz, N)) (hlen : ys.length = xs.length) (hxN : xs.length * sz ≤ N)
    (hw : w'.heap[b]? = some (.cells cs' el (0, 0))) (hN : cs'.size = N) (hrow : ∀ i x, ys[i]? = some x → x.cells.length = sz ∧ MemR g (fun q => cs'[q]?) (i * sz) x)
    (hh : ∀ q, q ≠ b → q < w.heap.size → w'.heap[q]? = w.heap[q]?) (hsz : w.heap.size ≤ w'.heap.size) (hos : w'.os = w.os) (htape : w'.tape = w.tape) (hout : w'.output = w.output) :
    HR g (σ.set r (.arr false sz ys)) w' ∧ Step w.heap.size g σ w g (σ.set r (.arr false sz ys)) w' := by
  have hrl : r < σ.length := (List.getElem?_eq_some_iff.1 hs).1
  have hbk : blk g r (.arr false sz xs) = some b := by simp [blk, HObj.ver, hloc]
  refine hr.upd (r := r) (o := .arr false sz ys) (b := b) (.refl g) rfl (fun q hq => List.getElem?_set_ne (Ne.symm hq)) (by simp [hrl]) ?_ rfl (by simp [blk, HObj.ver, hlen, hloc]) (.inl ⟨_, hs, rfl, hbk⟩) hh hsz (by simpa using hrl) (by simp) (fun q v p h => .inl h) (fun o0 h0 => by rw [hs] at h0; cases h0; simp [HObj.ver, hlen]) hos htape hout
  exact ⟨b, N, cs', el, (0, 0), by rw [hlen]; exact hloc, hw, hN, by rw [hlen]; exact hxN, hrow, fun _ => rfl, fun h => by cases h⟩
theorem unAll_get {α : Type} {un : AV → Option α} : ∀ {l : List AV} {zs : List α}, unAll un l = some zs → zs.length = l.length ∧ ∀ (i : Nat) x, l[i]? = some x → ∃ z, zs[i]? = some z ∧ un x = some z
  | [], zs, h => by simp [unAll] at h; subst h; simp
  | a :: l, zs, h => by
    simp only [unAll] at h
    split at h <;> try (cases h; done)
    rename_i z m h1 h2
    cases h
    obtain ⟨k1, k2⟩ := unAll_get h2
    refine ⟨by simp [k1], fun i x hi => ?_⟩
    cases i with
    | zero => simp at hi; subst hi; exact ⟨z, rfl, h1⟩
    | succ i => simpa using k2 i x (by simpa using hi)
structure Enc {α : Type} (un : AV → Option α) (mk : α → AV) (enc : α → Value) : Prop where
  un : ∀ a x, un a = some x → a = mk x
  vr : ∀ g x v, VR g (mk x) v ↔ v = enc x
  cells : ∀ x, (mk x).cells = [mk x]
  one : ∀ x, (enc x).oneCell' = true
theorem enc_str : Enc unS .str encStr where
  un := fun a x h => by cases a <;> simp [unS] at h; subst h; rfl
  vr := fun g x v => by
    rw [VR_str]
    constructor
    · rintro ⟨bs, rfl, h⟩
      subst h
      rfl
    · rintro rfl
      exact ⟨_, rfl, by simp⟩
  cells := fun x => rfl
  one := fun x => rfl
theorem enc_int : Enc unI (.int .i64) (Value.int .i64) where
  un := fun a x h => by
    cases a <;> try (simp [unI] at h; done)
    rename_i k n
    unfold unI at h
    split at h <;> simp at h
    rename_i h'
    cases h'
    subst h; rfl
  vr := fun g x v => by rw [VR_int]
  cells := fun x => rfl
  one := fun x => rfl
theorem row_holds {α : Type} [Inhabited α] {un : AV → Option α} {mk : α → AV} {enc : α → Value} (he : Enc un mk enc) {b o n el : Nat} {xs : List AV} {cs : Array Value} {zs : List α} (hw : w.heap[b]? = some (.cells cs el (0, 0)))
    (hrow : ∀ i x, xs[i]? = some x → x.cells.length = 1 ∧ MemR g (fun q => cs[q]?) (i * 1) x) (hl : o + n ≤ xs.length) (hz : unAll un ((xs.drop o).take n) = some zs) : zs.length = n ∧ Holds enc w b o zs.toArray := by
  obtain ⟨h1, h2⟩ := unAll_get hz
  have hlen : ((xs.drop o).take n).length = n := by simp; omega
  refine ⟨by rw [h1, hlen], fun j hj => ?_⟩
  have hj' : j < n := by have : j < zs.length := by simpa using hj
                         omega
  have hx : ((xs.drop o).take n)[j]? = some xs[o + j] := by
    rw [List.getElem?_take_of_lt hj', List.getElem?_drop, List.getElem?_eq_getElem (by omega)]
  obtain ⟨z, hz1, hz2⟩ := h2 j _ hx
  obtain ⟨_, k2⟩ := hrow (o + j) xs[o + j] (List.getElem?_eq_getElem (by omega))
  have hmk := he.un _ _ hz2
  rw [hmk] at k2
  obtain ⟨u, k3, k4, k5⟩ := k2 0 (mk z) (by rw [he.cells]; rfl)
  rw [he.vr] at k5
  subst k5
  simp only [Nat.mul_one, Nat.add_zero] at k3
  have hz3 : zs.toArray[j]! = z := by
    have := Array.getElem!_eq_getD (xs := zs.toArray) (i := j)
    rw [this, Array.getD_eq_getD_getElem?]
    simp [hz1]
  rw [hz3]
  refine ⟨?_, ?_⟩
  · simp [World.cell?, hw, k3]
  · simp [World.frozen?, hw]
theorem row_put {α : Type} [Inhabited α] {un : AV → Option α} {mk : α → AV} {enc : α → Value} (he : Enc un mk enc) (hr : HR g σ w) {r b N o q el : Nat} {xs : List AV} {cs : Array Value} {ys : List α} {os : Array Obj} (hs : σ[r]? = some (.arr false 1 xs)) (hloc : g.loc r xs.length = some (b, 1, N)) (hxN : xs.length * 1 ≤ N)
    (hw : w.heap[b]? = some (.cells cs el (0, 0))) (hN : cs.size = N) (hrow : ∀ i x, xs[i]? = some x → x.cells.length = 1 ∧ MemR g (fun q => cs[q]?) (i * 1) x) (hl : o + ys.length ≤ xs.length) :
    HR g (σ.set r (.arr false 1 (setCells xs o (ys.map mk)))) (grow (putRow enc (Sort.ahead w q) b o ys.toArray) os) ∧ Step w.heap.size g σ w g (σ.set r (.arr false 1 (setCells xs o (ys.map mk)))) (grow (putRow enc (Sort.ahead w q) b o ys.toArray) os) := by
  have hb : b < w.heap.size := (Array.getElem?_eq_some_iff.1 hw).1
  obtain ⟨k1, k2⟩ := setCells_get (ys.map mk) xs o (by simpa using hl)
  have hheap : ∀ q', q' < w.heap.size → (grow (putRow enc (Sort.ahead w q) b o ys.toArray) os).heap[q']? = (w.heap.modify b (onCells (putCells enc o ys.toArray)))[q']? := by
    intro q' hq'
    show ((w.heap.modify b (onCells (putCells enc o ys.toArray))) ++ os)[q']? = _
    rw [Array.getElem?_append_left (by simpa using hq')]
  refine hr.rerow (b := b) (N := N) (el := el) (cs' := putCells enc o ys.toArray cs) hs hloc k1 hxN ?_ (by simp [putCells, hN]) (fun i x hi => ?_) (fun q' hq' hlt => ?_) (by simp) rfl rfl rfl
  · rw [hheap b hb, Array.getElem?_modify, if_pos rfl, hw]
    rfl
  · rw [k2] at hi
    simp only [List.length_map] at hi
    have hiN : i < xs.length := by
      split at hi
      · omega
      · exact (List.getElem?_eq_some_iff.1 hi).1
    have hcs : (putCells enc o ys.toArray cs)[i]? = (cs[i]?).map fun c => if o ≤ i ∧ i < o + ys.length then enc ys.toArray[i - o]! else c := by
      simp [putCells, Array.getElem?_mapIdx]
    split at hi
    · rename_i hin
      rw [List.getElem?_map] at hi
      obtain ⟨z, hz1, rfl⟩ : ∃ z, ys[i - o]? = some z ∧ mk z = x := by
        cases hy : ys[i - o]? with
        | none => rw [hy] at hi; cases hi
        | some z => rw [hy] at hi; exact ⟨z, rfl, Option.some.inj hi⟩
      refine ⟨by rw [he.cells]; rfl, fun j c hj => ?_⟩
      rw [he.cells] at hj
      cases j with
      | succ j => simp at hj
      | zero =>
        simp at hj
        subst hj
        refine ⟨enc z, ?_, he.one z, (he.vr _ _ _).2 rfl⟩
        have hic : i < cs.size := by omega
        have hz3 : ys.toArray[i - o]! = z := by
          rw [Array.getElem!_eq_getD, Array.getD_eq_getD_getElem?]
          simp [hz1]
        simp only [Nat.mul_one, Nat.add_zero, hcs, Array.getElem?_eq_getElem hic, Option.map_some, if_pos hin, hz3]
    · rename_i hin
      obtain ⟨m1, m2⟩ := hrow i x hi
      refine ⟨m1, fun j c hj => ?_⟩
      obtain ⟨u, m3, m4, m5⟩ := m2 j c hj
      have hj0 : j = 0 := by
        have := (List.getElem?_eq_some_iff.1 hj).1
        omega
      subst hj0
      refine ⟨u, ?_, m4, m5⟩
      simp only [Nat.mul_one, Nat.add_zero] at m3 ⊢
      rw [hcs, m3, Option.map_some, if_neg hin]
  · rw [hheap q' hlt, Array.getElem?_modify, if_neg (Ne.symm hq')]
theorem squash_le {α : Type} [DecidableEq α] : ∀ zs : List α, (squash zs).length ≤ zs.length
  | [] => Nat.le_refl _
  | [a] => Nat.le_refl _
  | a :: b :: l => by
    have := squash_le (b :: l)
    simp only [squash]
    split
    · simp at this ⊢; omega
    · simp at this ⊢; omega
theorem set_same {l : List HObj} {r : Nat} {o : HObj} (h : l[r]? = some o) : l.set r o = l := by
  apply List.ext_getElem?
  intro i
  rw [List.getElem?_set]
  split
  · rename_i hi
    subst hi
    have := (List.getElem?_eq_some_iff.1 h).1
    rw [if_pos this]; exact h.symm
  · rfl
theorem slice_args {x : AV} {l : List AV} {vs : Array Value} (h : VRs g [x] vs) : ∃ u, vs = #[u] ∧ VR g x u := VRs_one h
theorem sort_serves {α : Type} [Inhabited α] {un : AV → Option α} {mk : α → AV} {enc : α → Value} {le : α → α → Bool} (he : Enc un mk enc) {f : Nat} (hcall : ∀ args w, (callFunc f args).run P w = .ok (.enter f args) w)
    (hsort : ∀ (blk off cap : Nat) (zs : List α) (w : World), Holds enc w blk off zs.toArray → blk < w.heap.size → zs.length < 4611686018427387904 → Calls P f #[.slice (some ⟨blk, off, none⟩) zs.length cap] w fun e w' => e = .returned (.tuple #[]) ∧ ∃ n os, w' = grow (putRow enc (Sort.ahead w n) blk off (zs.mergeSort le).toArray) os)
    (hnone : ∀ (p : Option Addr) (cap : Nat) (w : World), Calls P f #[.slice p 0 cap] w fun e w' => e = .returned (.tuple #[]) ∧ w' = w) : ServesM P f (sortRow un mk le) := by
  intro l σ r σ' h g w vs hr hv
  have htup : VR g (.tup []) (.tuple #[]) := VR_tup.2 ⟨#[], rfl, rfl, fun j c hj => by simp at hj⟩
  have none' : ∀ (p : Option Addr) (cap : Nat), Serves P f #[.slice p 0 cap] w (Back g σ w (.tup []) σ) := fun p cap => by
    refine .inl ⟨hcall _ _, (hnone p cap w).mono fun e w' he => ?_⟩
    obtain ⟨rfl, rfl⟩ := he
    exact ⟨g, hr, .refl _ _ _ _, htup⟩
  obtain ⟨m, hm, h'⟩ := app_eq h
  clear h
  have h := h'
  clear h'
  unfold sortRow at hm
  split at hm <;> subst hm
  · obtain ⟨rfl, rfl⟩ := pureM_eq h
    obtain ⟨u, rfl, hu⟩ := VRs_one hv
    rw [VR_nil] at hu; subst hu
    exact none' none 0
  · obtain ⟨rfl, rfl⟩ := pureM_eq h
    obtain ⟨u, rfl, hu⟩ := VRs_one hv
    rw [VR_sl] at hu
    obtain ⟨a, cap, rfl, _⟩ := hu
    exact none' (some a) cap
  · rename_i r0 v o n s
    simp only at h
    split at h <;> try (cases h; done)
    rename_i sz xs ha
    split at h <;> try (cases h; done)
    rename_i hc
    obtain ⟨rfl, rfl, hl, hn⟩ := hc
    split at h <;> try (cases h; done)
    rename_i zs hz
    cases h
    obtain ⟨rfl, hs, b, N, cs, el, fz, h1, h2, h3, h4, h5, h6, h7⟩ := arrAt_OR hr ha
    have := h6 rfl
    subst this
    obtain ⟨u, rfl, hu⟩ := VRs_one hv
    rw [VR_hs] at hu
    obtain ⟨b', N', a, cap, k1, rfl, k3, k4⟩ := hu
    rw [h1] at k1
    cases k1
    obtain ⟨hzl, hH⟩ := row_holds he h2 h5 hl hz
    have hml : (zs.mergeSort le).length = n := by rw [List.length_mergeSort]; exact hzl
    by_cases hn0 : n = 0
    · subst hn0
      have hz0 : zs = [] := by cases zs with | nil => rfl | cons _ _ => simp at hzl
      subst hz0
      have : σ.set r0 (.arr false 1 (setCells xs o (([] : List α).mergeSort le |>.map mk))) = σ := by
        have : ([] : List α).mergeSort le = [] := by simp
        rw [this]
        exact set_same hs
      rw [this]
      exact none' (some a) cap
    · have ha' : a = ⟨b, o * 1, none⟩ := by
        rcases k4 with k | k
        · exact k.1
        · exact absurd k.1 hn0
      subst ha'
      rw [Nat.mul_one]
      have hb : b < w.heap.size := (Array.getElem?_eq_some_iff.1 h2).1
      refine .inl ⟨hcall _ _, ?_⟩
      have := hsort b o cap zs w hH hb (by omega)
      rw [hzl] at this
      refine this.mono fun e w' he' => ?_
      obtain ⟨rfl, q, os, rfl⟩ := he'
      obtain ⟨p1, p2⟩ := row_put he hr (q := q) (os := os) (ys := zs.mergeSort le) (o := o) hs h1 h4 h2 h3 h5 (by omega)
      exact ⟨g, p1, p2, htup⟩
  · exact (failM_eq h).elim
theorem compact_serves {α : Type} [Inhabited α] [DecidableEq α] {un : AV → Option α} {mk : α → AV} {enc : α → Value} {z : α} (he : Enc un mk enc) {f : Nat} (hcall : ∀ args w, (callFunc f args).run P w = .ok (.enter f args) w)
    (hcomp : ∀ (blk off cap : Nat) (zs : List α) (w : World), Holds enc w blk off zs.toArray → zs.length ≤ 9223372036854775807 → zs.length ≤ cap → Calls P f #[.slice (some ⟨blk, off, none⟩) zs.length cap] w fun e w' => e = .returned (.slice (some ⟨blk, off, none⟩) (squash zs).length cap) ∧ ∃ q, w' = putRow enc (Sort.ahead w q) blk off (squash zs ++ List.replicate (zs.length - (squash zs).length) z).toArray)
    (hnone : ∀ (a : Option Addr) (cap : Nat) (w : World), Calls P f #[.slice a 0 cap] w fun e w' => e = .returned (.slice a 0 cap) ∧ w' = w) : ServesM P f (compactRow un mk z) := by
  intro l σ r σ' h g w vs hr hv
  obtain ⟨m, hm, h'⟩ := app_eq h
  clear h
  have h := h'
  clear h'
  unfold compactRow at hm
  split at hm <;> subst hm
  · obtain ⟨rfl, rfl⟩ := pureM_eq h
    obtain ⟨u, rfl, hu⟩ := VRs_one hv
    rw [VR_nil] at hu; subst hu
    refine .inl ⟨hcall _ _, (hnone none 0 w).mono fun e w' he => ?_⟩
    obtain ⟨rfl, rfl⟩ := he
    exact ⟨g, hr, .refl _ _ _ _, VR_nil.2 rfl⟩
  · rename_i r0 v o n s
    simp only at h
    split at h <;> try (cases h; done)
    rename_i sz xs ha
    split at h <;> try (cases h; done)
    rename_i hc
    obtain ⟨rfl, rfl, hl, hn⟩ := hc
    split at h <;> try (cases h; done)
    rename_i zs hz
    cases h
    obtain ⟨rfl, hs, b, N, cs, el, fz, h1, h2, h3, h4, h5, h6, h7⟩ := arrAt_OR hr ha
    have := h6 rfl
    subst this
    obtain ⟨u, rfl, hu⟩ := VRs_one hv
    rw [VR_hs] at hu
    obtain ⟨b', N', a, cap, k1, rfl, k3, k4⟩ := hu
    have hk1 := k1
    rw [h1] at k1
    cases k1
    obtain ⟨hzl, hH⟩ := row_holds he h2 h5 hl hz
    by_cases hn0 : n = 0
    · subst hn0
      have hz0 : zs = [] := by cases zs with | nil => rfl | cons _ _ => simp at hzl
      subst hz0
      have hc0 : squash ([] : List α) = [] := rfl
      rw [hc0]
      have : σ.set r0 (.arr false 1 (setCells xs o ((([] : List α) ++ List.replicate (([] : List α).length - ([] : List α).length) z).map mk))) = σ := set_same hs
      rw [this]
      refine .inl ⟨hcall _ _, (hnone (some a) cap w).mono fun e w' he => ?_⟩
      obtain ⟨rfl, rfl⟩ := he
      exact ⟨g, hr, .refl _ _ _ _, VR_hs.2 ⟨b, N, a, cap, h1, rfl, Nat.zero_le _, by simpa using k4⟩⟩
    · rcases k4 with ⟨rfl, k5, k6⟩ | k
      case inr => exact absurd k.1 hn0
      have hb : b < w.heap.size := (Array.getElem?_eq_some_iff.1 h2).1
      refine .inl ⟨hcall _ _, ?_⟩
      have := hcomp b o cap zs w hH (by omega) (by omega)
      rw [hzl] at this
      have hcl : (squash zs).length ≤ n := by rw [← hzl]; exact squash_le zs
      rw [Nat.mul_one]
      refine this.mono fun e w' he' => ?_
      obtain ⟨rfl, q, rfl⟩ := he'
      obtain ⟨p1, p2⟩ := row_put he hr (q := q) (os := #[]) (ys := squash zs ++ List.replicate (zs.length - (squash zs).length) z) (o := o) hs h1 h4 h2 h3 h5 (by simp; omega)
      rw [grow_empty] at p1 p2
      rw [hzl] at p1 p2
      rw [hzl]
      exact ⟨g, p1, p2, VR_hs.2 ⟨b, N, ⟨b, o * 1, none⟩, cap, h1, by rw [Nat.mul_one], by omega, .inl ⟨rfl, k5, k6⟩⟩⟩
  · exact (failM_eq h).elim
theorem sort_ind {α : Type} {un : AV → Option α} {mk : α → AV} {le : α → α → Bool} : ∀ l, AV.noRefs l = true → Ind (sortRow un mk le l) := by
  intro l hn r h σ
  unfold sortRow at h ⊢
  split at h
  · simp only [pureM] at h ⊢; cases h; rfl
  · simp only [pureM] at h ⊢; cases h; rfl
  · simp [AV.noRefs, AV.noRef] at hn
  · exact (failM_eq h).elim
theorem compact_ind {α : Type} [DecidableEq α] {un : AV → Option α} {mk : α → AV} {z : α} : ∀ l, AV.noRefs l = true → Ind (compactRow un mk z l) := by
  intro l hn r h σ
  unfold compactRow at h ⊢
  split at h
  · simp only [pureM] at h ⊢; cases h; rfl
  · simp [AV.noRefs, AV.noRef] at hn
  · exact (failM_eq h).elim
end Go.Am
