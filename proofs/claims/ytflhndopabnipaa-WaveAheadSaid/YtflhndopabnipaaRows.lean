/-
  No cell of these rows narrows 'for every input' (looked for: loops, veiled, ifaces, maps, wideKeys, modest, calm, conditions, laid).
  DERIVED. THE GIVEN ROWS OF THIS SEAT. 10 by the template 'for every input the law returns true; each argument reads behind the call as it read before'; 0 by the template 'total and deterministic' (their statements: YtflhndopabnipaaTotals.lean).
  GIVEN WITH THE SEED: the statements are not yours to turn. If you find one false, say at which input.
  Laid BY PROGRAM, IN A SANDBOX (cutbox-rows.mjs): the forced cells as the released guide's own fill.sh prints them over the translation ac8a54c248b4b0ae… (all of the seat's roots in one cut). By AI agents, Wed Nov 11 2026. No macro, syntax, notation, axiom, sorry.
-/
import Derived.Test.YtflhndopabnipaaChecked
import GoSem.Claim
import GoSem.ClaimJoined
import GoSem.ClaimMapViews
import Derived.JoinedTies
import Derived.KernelRfl
namespace Go.Proofs.Ytflhndopabnipaa
/- THE CELL 'sum', in the pinned program and in every row, IS THE sha256 OF THE DUMP (.gsa) THAT YtflhndopabnipaaProg.lean LOADS. Nothing in Lean hashes anything: it is a label: what it is worth is what the hold of that sum in a sandbox is worth. -/
noncomputable def Try.pinned : Pinned := { name := "ytflhndopabnipaa", sum := "ac8a54c248b4b0aea88be06ff4d950dada48173690ed576e3f1c2006176a68cb", checked := Try.checked }
namespace Rows
def none {H : Type} : Left H := { results := [], args := [] }

/-- 'warplaw15.SccMore': WHATEVER THE INPUT: true; the input reads as it did. -/
def sccMoreSpec : ChangeSpec := { name := "sccMore", fn := fun _ => fun
  | [d1, d2, d3] => { results := [.lit (.bool true)], args := [d1, d2, d3] }
  | _ => none }
def sccMoreRow : OpenClaim := { program := "ytflhndopabnipaa", sum := "ac8a54c248b4b0aea88be06ff4d950dada48173690ed576e3f1c2006176a68cb", func := "warp/warplaw15.SccMore", spec := "sccMore", unfollowed := true, recurses := true, plainKeys := false, apart := false }
def SccMoreSaid : Prop := sccMoreRow.holds Try.pinned (OpenSpec.ofChange sccMoreSpec)

/-- ITS FALSE NEIGHBOUR: 'it returns false'. Refute it at one input. -/
def sccMoreWrong : ChangeSpec := { name := "sccMore", fn := fun _ => fun
  | [d1, d2, d3] => { results := [.lit (.bool false)], args := [d1, d2, d3] }
  | _ => none }
def SccMoreWrongFalsely : Prop := sccMoreRow.holds Try.pinned (OpenSpec.ofChange sccMoreWrong)

/-- 'warplaw15.SccAll': WHATEVER THE INPUT: true; the input reads as it did. -/
def sccAllSpec : ChangeSpec := { name := "sccAll", fn := fun _ => fun
  | [d1, d2, d3] => { results := [.lit (.bool true)], args := [d1, d2, d3] }
  | _ => none }
def sccAllRow : OpenClaim := { program := "ytflhndopabnipaa", sum := "ac8a54c248b4b0aea88be06ff4d950dada48173690ed576e3f1c2006176a68cb", func := "warp/warplaw15.SccAll", spec := "sccAll", unfollowed := true, recurses := true, plainKeys := false, apart := false }
def SccAllSaid : Prop := sccAllRow.holds Try.pinned (OpenSpec.ofChange sccAllSpec)

/-- ITS FALSE NEIGHBOUR: 'it returns false'. Refute it at one input. -/
def sccAllWrong : ChangeSpec := { name := "sccAll", fn := fun _ => fun
  | [d1, d2, d3] => { results := [.lit (.bool false)], args := [d1, d2, d3] }
  | _ => none }
def SccAllWrongFalsely : Prop := sccAllRow.holds Try.pinned (OpenSpec.ofChange sccAllWrong)

/-- 'warplaw15.SccMade': WHATEVER THE INPUT: true; the input reads as it did. -/
def sccMadeSpec : ChangeSpec := { name := "sccMade", fn := fun _ => fun
  | [d1, d2, d3, d4] => { results := [.lit (.bool true)], args := [d1, d2, d3, d4] }
  | _ => none }
def sccMadeRow : OpenClaim := { program := "ytflhndopabnipaa", sum := "ac8a54c248b4b0aea88be06ff4d950dada48173690ed576e3f1c2006176a68cb", func := "warp/warplaw15.SccMade", spec := "sccMade", unfollowed := true, recurses := true, plainKeys := false, apart := false }
def SccMadeSaid : Prop := sccMadeRow.holds Try.pinned (OpenSpec.ofChange sccMadeSpec)

/-- ITS FALSE NEIGHBOUR: 'it returns false'. Refute it at one input. -/
def sccMadeWrong : ChangeSpec := { name := "sccMade", fn := fun _ => fun
  | [d1, d2, d3, d4] => { results := [.lit (.bool false)], args := [d1, d2, d3, d4] }
  | _ => none }
def SccMadeWrongFalsely : Prop := sccMadeRow.holds Try.pinned (OpenSpec.ofChange sccMadeWrong)

/-- 'warplaw15.SccReach': WHATEVER THE INPUT: true; the input reads as it did. -/
def sccReachSpec : ChangeSpec := { name := "sccReach", fn := fun _ => fun
  | [d1, d2, d3, d4, d5] => { results := [.lit (.bool true)], args := [d1, d2, d3, d4, d5] }
  | _ => none }
def sccReachRow : OpenClaim := { program := "ytflhndopabnipaa", sum := "ac8a54c248b4b0aea88be06ff4d950dada48173690ed576e3f1c2006176a68cb", func := "warp/warplaw15.SccReach", spec := "sccReach", unfollowed := true, recurses := true, plainKeys := false, apart := false }
def SccReachSaid : Prop := sccReachRow.holds Try.pinned (OpenSpec.ofChange sccReachSpec)

/-- ITS FALSE NEIGHBOUR: 'it returns false'. Refute it at one input. -/
def sccReachWrong : ChangeSpec := { name := "sccReach", fn := fun _ => fun
  | [d1, d2, d3, d4, d5] => { results := [.lit (.bool false)], args := [d1, d2, d3, d4, d5] }
  | _ => none }
def SccReachWrongFalsely : Prop := sccReachRow.holds Try.pinned (OpenSpec.ofChange sccReachWrong)

/-- 'warplaw15.SccChain': WHATEVER THE INPUT: true; the input reads as it did. -/
def sccChainSpec : ChangeSpec := { name := "sccChain", fn := fun _ => fun
  | [d1, d2] => { results := [.lit (.bool true)], args := [d1, d2] }
  | _ => none }
def sccChainRow : OpenClaim := { program := "ytflhndopabnipaa", sum := "ac8a54c248b4b0aea88be06ff4d950dada48173690ed576e3f1c2006176a68cb", func := "warp/warplaw15.SccChain", spec := "sccChain", unfollowed := true, recurses := true, plainKeys := false, apart := false }
def SccChainSaid : Prop := sccChainRow.holds Try.pinned (OpenSpec.ofChange sccChainSpec)

/-- ITS FALSE NEIGHBOUR: 'it returns false'. Refute it at one input. -/
def sccChainWrong : ChangeSpec := { name := "sccChain", fn := fun _ => fun
  | [d1, d2] => { results := [.lit (.bool false)], args := [d1, d2] }
  | _ => none }
def SccChainWrongFalsely : Prop := sccChainRow.holds Try.pinned (OpenSpec.ofChange sccChainWrong)

/-- 'warplaw16.WaveAhead': WHATEVER THE INPUT: true; the input reads as it did. -/
def waveAheadSpec : ChangeSpec := { name := "waveAhead", fn := fun _ => fun
  | [d1, d2] => { results := [.lit (.bool true)], args := [d1, d2] }
  | _ => none }
def waveAheadRow : OpenClaim := { program := "ytflhndopabnipaa", sum := "ac8a54c248b4b0aea88be06ff4d950dada48173690ed576e3f1c2006176a68cb", func := "warp/warplaw16.WaveAhead", spec := "waveAhead", unfollowed := true, recurses := true, plainKeys := false, apart := false }
def WaveAheadSaid : Prop := waveAheadRow.holds Try.pinned (OpenSpec.ofChange waveAheadSpec)

/-- ITS FALSE NEIGHBOUR: 'it returns false'. Refute it at one input. -/
def waveAheadWrong : ChangeSpec := { name := "waveAhead", fn := fun _ => fun
  | [d1, d2] => { results := [.lit (.bool false)], args := [d1, d2] }
  | _ => none }
def WaveAheadWrongFalsely : Prop := waveAheadRow.holds Try.pinned (OpenSpec.ofChange waveAheadWrong)

/-- 'warplaw16.WaveMore': WHATEVER THE INPUT: true; the input reads as it did. -/
def waveMoreSpec : ChangeSpec := { name := "waveMore", fn := fun _ => fun
  | [d1, d2, d3, d4] => { results := [.lit (.bool true)], args := [d1, d2, d3, d4] }
  | _ => none }
def waveMoreRow : OpenClaim := { program := "ytflhndopabnipaa", sum := "ac8a54c248b4b0aea88be06ff4d950dada48173690ed576e3f1c2006176a68cb", func := "warp/warplaw16.WaveMore", spec := "waveMore", unfollowed := true, recurses := true, plainKeys := false, apart := false }
def WaveMoreSaid : Prop := waveMoreRow.holds Try.pinned (OpenSpec.ofChange waveMoreSpec)

/-- ITS FALSE NEIGHBOUR: 'it returns false'. Refute it at one input. -/
def waveMoreWrong : ChangeSpec := { name := "waveMore", fn := fun _ => fun
  | [d1, d2, d3, d4] => { results := [.lit (.bool false)], args := [d1, d2, d3, d4] }
  | _ => none }
def WaveMoreWrongFalsely : Prop := waveMoreRow.holds Try.pinned (OpenSpec.ofChange waveMoreWrong)

/-- 'warplaw16.WaveAll': WHATEVER THE INPUT: true; the input reads as it did. -/
def waveAllSpec : ChangeSpec := { name := "waveAll", fn := fun _ => fun
  | [d] => { results := [.lit (.bool true)], args := [d] }
  | _ => none }
def waveAllRow : OpenClaim := { program := "ytflhndopabnipaa", sum := "ac8a54c248b4b0aea88be06ff4d950dada48173690ed576e3f1c2006176a68cb", func := "warp/warplaw16.WaveAll", spec := "waveAll", unfollowed := true, recurses := true, plainKeys := false, apart := false }
def WaveAllSaid : Prop := waveAllRow.holds Try.pinned (OpenSpec.ofChange waveAllSpec)

/-- ITS FALSE NEIGHBOUR: 'it returns false'. Refute it at one input. -/
def waveAllWrong : ChangeSpec := { name := "waveAll", fn := fun _ => fun
  | [d] => { results := [.lit (.bool false)], args := [d] }
  | _ => none }
def WaveAllWrongFalsely : Prop := waveAllRow.holds Try.pinned (OpenSpec.ofChange waveAllWrong)

/-- 'warplaw16.WaveMade': WHATEVER THE INPUT: true; the input reads as it did. -/
def waveMadeSpec : ChangeSpec := { name := "waveMade", fn := fun _ => fun
  | [d1, d2] => { results := [.lit (.bool true)], args := [d1, d2] }
  | _ => none }
def waveMadeRow : OpenClaim := { program := "ytflhndopabnipaa", sum := "ac8a54c248b4b0aea88be06ff4d950dada48173690ed576e3f1c2006176a68cb", func := "warp/warplaw16.WaveMade", spec := "waveMade", unfollowed := true, recurses := true, plainKeys := false, apart := false }
def WaveMadeSaid : Prop := waveMadeRow.holds Try.pinned (OpenSpec.ofChange waveMadeSpec)

/-- ITS FALSE NEIGHBOUR: 'it returns false'. Refute it at one input. -/
def waveMadeWrong : ChangeSpec := { name := "waveMade", fn := fun _ => fun
  | [d1, d2] => { results := [.lit (.bool false)], args := [d1, d2] }
  | _ => none }
def WaveMadeWrongFalsely : Prop := waveMadeRow.holds Try.pinned (OpenSpec.ofChange waveMadeWrong)

/-- 'warplaw16.WaveChain': WHATEVER THE INPUT: true; the input reads as it did. -/
def waveChainSpec : ChangeSpec := { name := "waveChain", fn := fun _ => fun
  | [d1, d2] => { results := [.lit (.bool true)], args := [d1, d2] }
  | _ => none }
def waveChainRow : OpenClaim := { program := "ytflhndopabnipaa", sum := "ac8a54c248b4b0aea88be06ff4d950dada48173690ed576e3f1c2006176a68cb", func := "warp/warplaw16.WaveChain", spec := "waveChain", unfollowed := true, recurses := true, plainKeys := false, apart := false }
def WaveChainSaid : Prop := waveChainRow.holds Try.pinned (OpenSpec.ofChange waveChainSpec)

/-- ITS FALSE NEIGHBOUR: 'it returns false'. Refute it at one input. -/
def waveChainWrong : ChangeSpec := { name := "waveChain", fn := fun _ => fun
  | [d1, d2] => { results := [.lit (.bool false)], args := [d1, d2] }
  | _ => none }
def WaveChainWrongFalsely : Prop := waveChainRow.holds Try.pinned (OpenSpec.ofChange waveChainWrong)

/- THE SECOND FORM. 'bulk': how many values and letters a reading holds, each counted each time it is reached (what is shared counts as often as it is met; a slice's spare places count too). A statement '..UptoSaid' is the law's where the arguments, and the package variables that the reading takes, are together of bulk at most 1048576: NARROWER than '..Said'. Prove '..Said' where nothing that the law and all that it calls make is longer than what came in: it says more and counts as full. Else prove '..UptoSaid'. A law counts once. -/
mutual
def uptoBulk {H : Type} : DataW H → Nat
  | .lit (.string bytes) => bytes.length + 1
  | .lit _ => 1
  | .nil => 1
  | .ptr d => uptoBulk d + 1
  | .slice elems spare => uptoBulkAll elems + uptoBulkAll spare + 1
  | .agg parts => uptoBulkAll parts + 1
  | .iface _ d => uptoBulk d + 1
  | .map entries => uptoBulkEntries entries + 1
  | .held _ => 1
def uptoBulkAll {H : Type} : List (DataW H) → Nat
  | [] => 0
  | d :: r => uptoBulk d + uptoBulkAll r
def uptoBulkEntries {H : Type} : List (Lit × DataW H) → Nat
  | [] => 0
  | x :: r => uptoBulkEntry x + uptoBulkEntries r
def uptoBulkEntry {H : Type} : Lit × DataW H → Nat
  | (.string bytes, d) => bytes.length + uptoBulk d + 1
  | (_, d) => uptoBulk d + 1
 end
def uptoSmall : (H : Type) → List (DataW H) → Bool := fun _ ds => decide (uptoBulkAll ds ≤ 1048576)
def OpenSpec.upto (s : _root_.Go.ChangeSpec) : _root_.Go.OpenSpec := { _root_.Go.OpenSpec.ofChange s with cond := some uptoSmall }

/-- 'warplaw15.SccMore', WHERE WHAT IT READS IS OF BULK AT MOST 1048576: true; the input reads as it did. -/
def sccMoreUptoRow : OpenClaim := { program := "ytflhndopabnipaa", sum := "ac8a54c248b4b0aea88be06ff4d950dada48173690ed576e3f1c2006176a68cb", func := "warp/warplaw15.SccMore", spec := "sccMore", unfollowed := true, recurses := true, plainKeys := false, apart := false, narrowed := true }
def SccMoreUptoSaid : Prop := sccMoreUptoRow.holds Try.pinned (OpenSpec.upto sccMoreSpec)

/-- 'warplaw15.SccAll', WHERE WHAT IT READS IS OF BULK AT MOST 1048576: true; the input reads as it did. -/
def sccAllUptoRow : OpenClaim := { program := "ytflhndopabnipaa", sum := "ac8a54c248b4b0aea88be06ff4d950dada48173690ed576e3f1c2006176a68cb", func := "warp/warplaw15.SccAll", spec := "sccAll", unfollowed := true, recurses := true, plainKeys := false, apart := false, narrowed := true }
def SccAllUptoSaid : Prop := sccAllUptoRow.holds Try.pinned (OpenSpec.upto sccAllSpec)

/-- 'warplaw15.SccMade', WHERE WHAT IT READS IS OF BULK AT MOST 1048576: true; the input reads as it did. -/
def sccMadeUptoRow : OpenClaim := { program := "ytflhndopabnipaa", sum := "ac8a54c248b4b0aea88be06ff4d950dada48173690ed576e3f1c2006176a68cb", func := "warp/warplaw15.SccMade", spec := "sccMade", unfollowed := true, recurses := true, plainKeys := false, apart := false, narrowed := true }
def SccMadeUptoSaid : Prop := sccMadeUptoRow.holds Try.pinned (OpenSpec.upto sccMadeSpec)

/-- 'warplaw15.SccReach', WHERE WHAT IT READS IS OF BULK AT MOST 1048576: true; the input reads as it did. -/
def sccReachUptoRow : OpenClaim := { program := "ytflhndopabnipaa", sum := "ac8a54c248b4b0aea88be06ff4d950dada48173690ed576e3f1c2006176a68cb", func := "warp/warplaw15.SccReach", spec := "sccReach", unfollowed := true, recurses := true, plainKeys := false, apart := false, narrowed := true }
def SccReachUptoSaid : Prop := sccReachUptoRow.holds Try.pinned (OpenSpec.upto sccReachSpec)

/-- 'warplaw15.SccChain', WHERE WHAT IT READS IS OF BULK AT MOST 1048576: true; the input reads as it did. -/
def sccChainUptoRow : OpenClaim := { program := "ytflhndopabnipaa", sum := "ac8a54c248b4b0aea88be06ff4d950dada48173690ed576e3f1c2006176a68cb", func := "warp/warplaw15.SccChain", spec := "sccChain", unfollowed := true, recurses := true, plainKeys := false, apart := false, narrowed := true }
def SccChainUptoSaid : Prop := sccChainUptoRow.holds Try.pinned (OpenSpec.upto sccChainSpec)

/-- 'warplaw16.WaveAhead', WHERE WHAT IT READS IS OF BULK AT MOST 1048576: true; the input reads as it did. -/
def waveAheadUptoRow : OpenClaim := { program := "ytflhndopabnipaa", sum := "ac8a54c248b4b0aea88be06ff4d950dada48173690ed576e3f1c2006176a68cb", func := "warp/warplaw16.WaveAhead", spec := "waveAhead", unfollowed := true, recurses := true, plainKeys := false, apart := false, narrowed := true }
def WaveAheadUptoSaid : Prop := waveAheadUptoRow.holds Try.pinned (OpenSpec.upto waveAheadSpec)

/-- 'warplaw16.WaveMore', WHERE WHAT IT READS IS OF BULK AT MOST 1048576: true; the input reads as it did. -/
def waveMoreUptoRow : OpenClaim := { program := "ytflhndopabnipaa", sum := "ac8a54c248b4b0aea88be06ff4d950dada48173690ed576e3f1c2006176a68cb", func := "warp/warplaw16.WaveMore", spec := "waveMore", unfollowed := true, recurses := true, plainKeys := false, apart := false, narrowed := true }
def WaveMoreUptoSaid : Prop := waveMoreUptoRow.holds Try.pinned (OpenSpec.upto waveMoreSpec)

/-- 'warplaw16.WaveAll', WHERE WHAT IT READS IS OF BULK AT MOST 1048576: true; the input reads as it did. -/
def waveAllUptoRow : OpenClaim := { program := "ytflhndopabnipaa", sum := "ac8a54c248b4b0aea88be06ff4d950dada48173690ed576e3f1c2006176a68cb", func := "warp/warplaw16.WaveAll", spec := "waveAll", unfollowed := true, recurses := true, plainKeys := false, apart := false, narrowed := true }
def WaveAllUptoSaid : Prop := waveAllUptoRow.holds Try.pinned (OpenSpec.upto waveAllSpec)

/-- 'warplaw16.WaveMade', WHERE WHAT IT READS IS OF BULK AT MOST 1048576: true; the input reads as it did. -/
def waveMadeUptoRow : OpenClaim := { program := "ytflhndopabnipaa", sum := "ac8a54c248b4b0aea88be06ff4d950dada48173690ed576e3f1c2006176a68cb", func := "warp/warplaw16.WaveMade", spec := "waveMade", unfollowed := true, recurses := true, plainKeys := false, apart := false, narrowed := true }
def WaveMadeUptoSaid : Prop := waveMadeUptoRow.holds Try.pinned (OpenSpec.upto waveMadeSpec)

/-- 'warplaw16.WaveChain', WHERE WHAT IT READS IS OF BULK AT MOST 1048576: true; the input reads as it did. -/
def waveChainUptoRow : OpenClaim := { program := "ytflhndopabnipaa", sum := "ac8a54c248b4b0aea88be06ff4d950dada48173690ed576e3f1c2006176a68cb", func := "warp/warplaw16.WaveChain", spec := "waveChain", unfollowed := true, recurses := true, plainKeys := false, apart := false, narrowed := true }
def WaveChainUptoSaid : Prop := waveChainUptoRow.holds Try.pinned (OpenSpec.upto waveChainSpec)

end Rows
end Go.Proofs.Ytflhndopabnipaa
