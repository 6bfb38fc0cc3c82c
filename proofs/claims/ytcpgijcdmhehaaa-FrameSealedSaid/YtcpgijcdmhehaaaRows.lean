/-
  No cell of these rows narrows 'for every input' (looked for: loops, veiled, ifaces, maps, wideKeys, modest, calm, conditions, laid).
  DERIVED. THE GIVEN ROWS OF THIS SEAT. 10 by the template 'for every input the law returns true; each argument reads behind the call as it read before'; 0 by the template 'total and deterministic' (their statements: YtcpgijcdmhehaaaTotals.lean).
  GIVEN WITH THE SEED: the statements are not yours to turn. If you find one false, say at which input.
  Laid BY PROGRAM, IN A SANDBOX (cutbox-rows.mjs): the forced cells as the released guide's own fill.sh prints them over the translation 60ae9a39ed1b219b… (all of the seat's roots in one cut). By AI agents, Wed Nov 11 2026. No macro, syntax, notation, axiom, sorry.
-/
import Derived.Test.YtcpgijcdmhehaaaChecked
import GoSem.Claim
import GoSem.ClaimJoined
import GoSem.ClaimMapViews
import Derived.JoinedTies
import Derived.KernelRfl
namespace Go.Proofs.Ytcpgijcdmhehaaa
/- THE CELL 'sum', in the pinned program and in every row, IS THE sha256 OF THE DUMP (.gsa) THAT YtcpgijcdmhehaaaProg.lean LOADS. Nothing in Lean hashes anything: it is a label: what it is worth is what the hold of that sum in a sandbox is worth. -/
noncomputable def Try.pinned : Pinned := { name := "ytcpgijcdmhehaaa", sum := "60ae9a39ed1b219b30ecfa35e1c7d7f8bc877599a2e808ea15d3202c47f21af2", checked := Try.checked }
namespace Rows
def none {H : Type} : Left H := { results := [], args := [] }

/-- 'pemmicanlaw20.DictBack': WHATEVER THE INPUT: true; the input reads as it did. -/
def dictBackSpec : ChangeSpec := { name := "dictBack", fn := fun _ => fun
  | [d] => { results := [.lit (.bool true)], args := [d] }
  | _ => none }
def dictBackRow : OpenClaim := { program := "ytcpgijcdmhehaaa", sum := "60ae9a39ed1b219b30ecfa35e1c7d7f8bc877599a2e808ea15d3202c47f21af2", func := "pemmican/pemmicanlaw20.DictBack", spec := "dictBack", apart := false }
def DictBackSaid : Prop := dictBackRow.holds Try.pinned (OpenSpec.ofChange dictBackSpec)

/-- ITS FALSE NEIGHBOUR: 'it returns false'. Refute it at one input. -/
def dictBackWrong : ChangeSpec := { name := "dictBack", fn := fun _ => fun
  | [d] => { results := [.lit (.bool false)], args := [d] }
  | _ => none }
def DictBackWrongFalsely : Prop := dictBackRow.holds Try.pinned (OpenSpec.ofChange dictBackWrong)

/-- 'pemmicanlaw20.DictAny': WHATEVER THE INPUT: true; the input reads as it did. -/
def dictAnySpec : ChangeSpec := { name := "dictAny", fn := fun _ => fun
  | [d] => { results := [.lit (.bool true)], args := [d] }
  | _ => none }
def dictAnyRow : OpenClaim := { program := "ytcpgijcdmhehaaa", sum := "60ae9a39ed1b219b30ecfa35e1c7d7f8bc877599a2e808ea15d3202c47f21af2", func := "pemmican/pemmicanlaw20.DictAny", spec := "dictAny", apart := false }
def DictAnySaid : Prop := dictAnyRow.holds Try.pinned (OpenSpec.ofChange dictAnySpec)

/-- ITS FALSE NEIGHBOUR: 'it returns false'. Refute it at one input. -/
def dictAnyWrong : ChangeSpec := { name := "dictAny", fn := fun _ => fun
  | [d] => { results := [.lit (.bool false)], args := [d] }
  | _ => none }
def DictAnyWrongFalsely : Prop := dictAnyRow.holds Try.pinned (OpenSpec.ofChange dictAnyWrong)

/-- 'pemmicanlaw20.DictTurned': WHATEVER THE INPUT: true; the input reads as it did. -/
def dictTurnedSpec : ChangeSpec := { name := "dictTurned", fn := fun _ => fun
  | [d1, d2, d3] => { results := [.lit (.bool true)], args := [d1, d2, d3] }
  | _ => none }
def dictTurnedRow : OpenClaim := { program := "ytcpgijcdmhehaaa", sum := "60ae9a39ed1b219b30ecfa35e1c7d7f8bc877599a2e808ea15d3202c47f21af2", func := "pemmican/pemmicanlaw20.DictTurned", spec := "dictTurned", apart := false }
def DictTurnedSaid : Prop := dictTurnedRow.holds Try.pinned (OpenSpec.ofChange dictTurnedSpec)

/-- ITS FALSE NEIGHBOUR: 'it returns false'. Refute it at one input. -/
def dictTurnedWrong : ChangeSpec := { name := "dictTurned", fn := fun _ => fun
  | [d1, d2, d3] => { results := [.lit (.bool false)], args := [d1, d2, d3] }
  | _ => none }
def DictTurnedWrongFalsely : Prop := dictTurnedRow.holds Try.pinned (OpenSpec.ofChange dictTurnedWrong)

/-- 'pemmicanlaw25.MessageAny': WHATEVER THE INPUT: true; the input reads as it did. -/
def messageAnySpec : ChangeSpec := { name := "messageAny", fn := fun _ => fun
  | [d1, d2] => { results := [.lit (.bool true)], args := [d1, d2] }
  | _ => none }
def messageAnyRow : OpenClaim := { program := "ytcpgijcdmhehaaa", sum := "60ae9a39ed1b219b30ecfa35e1c7d7f8bc877599a2e808ea15d3202c47f21af2", func := "pemmican/pemmicanlaw25.MessageAny", spec := "messageAny", apart := false }
def MessageAnySaid : Prop := messageAnyRow.holds Try.pinned (OpenSpec.ofChange messageAnySpec)

/-- ITS FALSE NEIGHBOUR: 'it returns false'. Refute it at one input. -/
def messageAnyWrong : ChangeSpec := { name := "messageAny", fn := fun _ => fun
  | [d1, d2] => { results := [.lit (.bool false)], args := [d1, d2] }
  | _ => none }
def MessageAnyWrongFalsely : Prop := messageAnyRow.holds Try.pinned (OpenSpec.ofChange messageAnyWrong)

/-- 'pemmicanlaw24.FrameBack': WHATEVER THE INPUT: true; the input reads as it did. -/
def frameBackSpec : ChangeSpec := { name := "frameBack", fn := fun _ => fun
  | [d1, d2] => { results := [.lit (.bool true)], args := [d1, d2] }
  | _ => none }
def frameBackRow : OpenClaim := { program := "ytcpgijcdmhehaaa", sum := "60ae9a39ed1b219b30ecfa35e1c7d7f8bc877599a2e808ea15d3202c47f21af2", func := "pemmican/pemmicanlaw24.FrameBack", spec := "frameBack", apart := false }
def FrameBackSaid : Prop := frameBackRow.holds Try.pinned (OpenSpec.ofChange frameBackSpec)

/-- ITS FALSE NEIGHBOUR: 'it returns false'. Refute it at one input. -/
def frameBackWrong : ChangeSpec := { name := "frameBack", fn := fun _ => fun
  | [d1, d2] => { results := [.lit (.bool false)], args := [d1, d2] }
  | _ => none }
def FrameBackWrongFalsely : Prop := frameBackRow.holds Try.pinned (OpenSpec.ofChange frameBackWrong)

/-- 'pemmicanlaw24.FrameFeeds': WHATEVER THE INPUT: true; the input reads as it did. -/
def frameFeedsSpec : ChangeSpec := { name := "frameFeeds", fn := fun _ => fun
  | [d] => { results := [.lit (.bool true)], args := [d] }
  | _ => none }
def frameFeedsRow : OpenClaim := { program := "ytcpgijcdmhehaaa", sum := "60ae9a39ed1b219b30ecfa35e1c7d7f8bc877599a2e808ea15d3202c47f21af2", func := "pemmican/pemmicanlaw24.FrameFeeds", spec := "frameFeeds", apart := false }
def FrameFeedsSaid : Prop := frameFeedsRow.holds Try.pinned (OpenSpec.ofChange frameFeedsSpec)

/-- ITS FALSE NEIGHBOUR: 'it returns false'. Refute it at one input. -/
def frameFeedsWrong : ChangeSpec := { name := "frameFeeds", fn := fun _ => fun
  | [d] => { results := [.lit (.bool false)], args := [d] }
  | _ => none }
def FrameFeedsWrongFalsely : Prop := frameFeedsRow.holds Try.pinned (OpenSpec.ofChange frameFeedsWrong)

/-- 'pemmicanlaw24.FrameSealed': WHATEVER THE INPUT: true; the input reads as it did. -/
def frameSealedSpec : ChangeSpec := { name := "frameSealed", fn := fun _ => fun
  | [d1, d2, d3] => { results := [.lit (.bool true)], args := [d1, d2, d3] }
  | _ => none }
def frameSealedRow : OpenClaim := { program := "ytcpgijcdmhehaaa", sum := "60ae9a39ed1b219b30ecfa35e1c7d7f8bc877599a2e808ea15d3202c47f21af2", func := "pemmican/pemmicanlaw24.FrameSealed", spec := "frameSealed", apart := false }
def FrameSealedSaid : Prop := frameSealedRow.holds Try.pinned (OpenSpec.ofChange frameSealedSpec)

/-- ITS FALSE NEIGHBOUR: 'it returns false'. Refute it at one input. -/
def frameSealedWrong : ChangeSpec := { name := "frameSealed", fn := fun _ => fun
  | [d1, d2, d3] => { results := [.lit (.bool false)], args := [d1, d2, d3] }
  | _ => none }
def FrameSealedWrongFalsely : Prop := frameSealedRow.holds Try.pinned (OpenSpec.ofChange frameSealedWrong)

/-- 'pemmicanlaw24.FrameSplits': WHATEVER THE INPUT: true; the input reads as it did. -/
def frameSplitsSpec : ChangeSpec := { name := "frameSplits", fn := fun _ => fun
  | [d] => { results := [.lit (.bool true)], args := [d] }
  | _ => none }
def frameSplitsRow : OpenClaim := { program := "ytcpgijcdmhehaaa", sum := "60ae9a39ed1b219b30ecfa35e1c7d7f8bc877599a2e808ea15d3202c47f21af2", func := "pemmican/pemmicanlaw24.FrameSplits", spec := "frameSplits", apart := false }
def FrameSplitsSaid : Prop := frameSplitsRow.holds Try.pinned (OpenSpec.ofChange frameSplitsSpec)

/-- ITS FALSE NEIGHBOUR: 'it returns false'. Refute it at one input. -/
def frameSplitsWrong : ChangeSpec := { name := "frameSplits", fn := fun _ => fun
  | [d] => { results := [.lit (.bool false)], args := [d] }
  | _ => none }
def FrameSplitsWrongFalsely : Prop := frameSplitsRow.holds Try.pinned (OpenSpec.ofChange frameSplitsWrong)

/-- 'pemmicanlaw25.MessageBack': WHATEVER THE INPUT: true; the input reads as it did. -/
def messageBackSpec : ChangeSpec := { name := "messageBack", fn := fun _ => fun
  | [d] => { results := [.lit (.bool true)], args := [d] }
  | _ => none }
def messageBackRow : OpenClaim := { program := "ytcpgijcdmhehaaa", sum := "60ae9a39ed1b219b30ecfa35e1c7d7f8bc877599a2e808ea15d3202c47f21af2", func := "pemmican/pemmicanlaw25.MessageBack", spec := "messageBack", apart := false }
def MessageBackSaid : Prop := messageBackRow.holds Try.pinned (OpenSpec.ofChange messageBackSpec)

/-- ITS FALSE NEIGHBOUR: 'it returns false'. Refute it at one input. -/
def messageBackWrong : ChangeSpec := { name := "messageBack", fn := fun _ => fun
  | [d] => { results := [.lit (.bool false)], args := [d] }
  | _ => none }
def MessageBackWrongFalsely : Prop := messageBackRow.holds Try.pinned (OpenSpec.ofChange messageBackWrong)

/-- 'pemmicanlaw25.MessageFits': WHATEVER THE INPUT: true; the input reads as it did. -/
def messageFitsSpec : ChangeSpec := { name := "messageFits", fn := fun _ => fun
  | [d] => { results := [.lit (.bool true)], args := [d] }
  | _ => none }
def messageFitsRow : OpenClaim := { program := "ytcpgijcdmhehaaa", sum := "60ae9a39ed1b219b30ecfa35e1c7d7f8bc877599a2e808ea15d3202c47f21af2", func := "pemmican/pemmicanlaw25.MessageFits", spec := "messageFits", apart := false }
def MessageFitsSaid : Prop := messageFitsRow.holds Try.pinned (OpenSpec.ofChange messageFitsSpec)

/-- ITS FALSE NEIGHBOUR: 'it returns false'. Refute it at one input. -/
def messageFitsWrong : ChangeSpec := { name := "messageFits", fn := fun _ => fun
  | [d] => { results := [.lit (.bool false)], args := [d] }
  | _ => none }
def MessageFitsWrongFalsely : Prop := messageFitsRow.holds Try.pinned (OpenSpec.ofChange messageFitsWrong)

/- THE SECOND FORM. 'bulk': how many values and letters a reading holds, each counted each time it is reached (what is shared counts as often as it is met; a slice's spare places count too). A statement '..UptoSaid' is the law's where the arguments, and the package variables that the reading takes, are together of bulk at most 1048576: NARROWER than '..Said'. Prove '..Said' where nothing that the law and all that it calls make is longer than what came in: it says more and counts as full. Else prove '..UptoSaid'. A law counts once. -/
mutual
def uptoBulk {H : Type} : DataW H → Nat
  | .lit (.string bytes) => bytes.length + 1
  | .lit _ => 1
  | .nil => 1
  | .ptr d => uptoBulk d + 1
  | .slice elems spare => uptoBulkAll elems + uptoBulkAll spare + 1
  | .agg parts => uptoBulkAll parts + 1
  | .iface _ d => uptoBulk d + 1
  | .map entries => uptoBulkEntries entries + 1
  | .held _ => 1
def uptoBulkAll {H : Type} : List (DataW H) → Nat
  | [] => 0
  | d :: r => uptoBulk d + uptoBulkAll r
def uptoBulkEntries {H : Type} : List (Lit × DataW H) → Nat
  | [] => 0
  | x :: r => uptoBulkEntry x + uptoBulkEntries r
def uptoBulkEntry {H : Type} : Lit × DataW H → Nat
  | (.string bytes, d) => bytes.length + uptoBulk d + 1
  | (_, d) => uptoBulk d + 1
 end
def uptoSmall : (H : Type) → List (DataW H) → Bool := fun _ ds => decide (uptoBulkAll ds ≤ 1048576)
def OpenSpec.upto (s : _root_.Go.ChangeSpec) : _root_.Go.OpenSpec := { _root_.Go.OpenSpec.ofChange s with cond := some uptoSmall }

/-- 'pemmicanlaw20.DictBack', WHERE WHAT IT READS IS OF BULK AT MOST 1048576: true; the input reads as it did. -/
def dictBackUptoRow : OpenClaim := { program := "ytcpgijcdmhehaaa", sum := "60ae9a39ed1b219b30ecfa35e1c7d7f8bc877599a2e808ea15d3202c47f21af2", func := "pemmican/pemmicanlaw20.DictBack", spec := "dictBack", apart := false, narrowed := true }
def DictBackUptoSaid : Prop := dictBackUptoRow.holds Try.pinned (OpenSpec.upto dictBackSpec)

/-- 'pemmicanlaw20.DictAny', WHERE WHAT IT READS IS OF BULK AT MOST 1048576: true; the input reads as it did. -/
def dictAnyUptoRow : OpenClaim := { program := "ytcpgijcdmhehaaa", sum := "60ae9a39ed1b219b30ecfa35e1c7d7f8bc877599a2e808ea15d3202c47f21af2", func := "pemmican/pemmicanlaw20.DictAny", spec := "dictAny", apart := false, narrowed := true }
def DictAnyUptoSaid : Prop := dictAnyUptoRow.holds Try.pinned (OpenSpec.upto dictAnySpec)

/-- 'pemmicanlaw20.DictTurned', WHERE WHAT IT READS IS OF BULK AT MOST 1048576: true; the input reads as it did. -/
def dictTurnedUptoRow : OpenClaim := { program := "ytcpgijcdmhehaaa", sum := "60ae9a39ed1b219b30ecfa35e1c7d7f8bc877599a2e808ea15d3202c47f21af2", func := "pemmican/pemmicanlaw20.DictTurned", spec := "dictTurned", apart := false, narrowed := true }
def DictTurnedUptoSaid : Prop := dictTurnedUptoRow.holds Try.pinned (OpenSpec.upto dictTurnedSpec)

/-- 'pemmicanlaw25.MessageAny', WHERE WHAT IT READS IS OF BULK AT MOST 1048576: true; the input reads as it did. -/
def messageAnyUptoRow : OpenClaim := { program := "ytcpgijcdmhehaaa", sum := "60ae9a39ed1b219b30ecfa35e1c7d7f8bc877599a2e808ea15d3202c47f21af2", func := "pemmican/pemmicanlaw25.MessageAny", spec := "messageAny", apart := false, narrowed := true }
def MessageAnyUptoSaid : Prop := messageAnyUptoRow.holds Try.pinned (OpenSpec.upto messageAnySpec)

/-- 'pemmicanlaw24.FrameBack', WHERE WHAT IT READS IS OF BULK AT MOST 1048576: true; the input reads as it did. -/
def frameBackUptoRow : OpenClaim := { program := "ytcpgijcdmhehaaa", sum := "60ae9a39ed1b219b30ecfa35e1c7d7f8bc877599a2e808ea15d3202c47f21af2", func := "pemmican/pemmicanlaw24.FrameBack", spec := "frameBack", apart := false, narrowed := true }
def FrameBackUptoSaid : Prop := frameBackUptoRow.holds Try.pinned (OpenSpec.upto frameBackSpec)

/-- 'pemmicanlaw24.FrameFeeds', WHERE WHAT IT READS IS OF BULK AT MOST 1048576: true; the input reads as it did. -/
def frameFeedsUptoRow : OpenClaim := { program := "ytcpgijcdmhehaaa", sum := "60ae9a39ed1b219b30ecfa35e1c7d7f8bc877599a2e808ea15d3202c47f21af2", func := "pemmican/pemmicanlaw24.FrameFeeds", spec := "frameFeeds", apart := false, narrowed := true }
def FrameFeedsUptoSaid : Prop := frameFeedsUptoRow.holds Try.pinned (OpenSpec.upto frameFeedsSpec)

/-- 'pemmicanlaw24.FrameSealed', WHERE WHAT IT READS IS OF BULK AT MOST 1048576: true; the input reads as it did. -/
def frameSealedUptoRow : OpenClaim := { program := "ytcpgijcdmhehaaa", sum := "60ae9a39ed1b219b30ecfa35e1c7d7f8bc877599a2e808ea15d3202c47f21af2", func := "pemmican/pemmicanlaw24.FrameSealed", spec := "frameSealed", apart := false, narrowed := true }
def FrameSealedUptoSaid : Prop := frameSealedUptoRow.holds Try.pinned (OpenSpec.upto frameSealedSpec)

/-- 'pemmicanlaw24.FrameSplits', WHERE WHAT IT READS IS OF BULK AT MOST 1048576: true; the input reads as it did. -/
def frameSplitsUptoRow : OpenClaim := { program := "ytcpgijcdmhehaaa", sum := "60ae9a39ed1b219b30ecfa35e1c7d7f8bc877599a2e808ea15d3202c47f21af2", func := "pemmican/pemmicanlaw24.FrameSplits", spec := "frameSplits", apart := false, narrowed := true }
def FrameSplitsUptoSaid : Prop := frameSplitsUptoRow.holds Try.pinned (OpenSpec.upto frameSplitsSpec)

/-- 'pemmicanlaw25.MessageBack', WHERE WHAT IT READS IS OF BULK AT MOST 1048576: true; the input reads as it did. -/
def messageBackUptoRow : OpenClaim := { program := "ytcpgijcdmhehaaa", sum := "60ae9a39ed1b219b30ecfa35e1c7d7f8bc877599a2e808ea15d3202c47f21af2", func := "pemmican/pemmicanlaw25.MessageBack", spec := "messageBack", apart := false, narrowed := true }
def MessageBackUptoSaid : Prop := messageBackUptoRow.holds Try.pinned (OpenSpec.upto messageBackSpec)

/-- 'pemmicanlaw25.MessageFits', WHERE WHAT IT READS IS OF BULK AT MOST 1048576: true; the input reads as it did. -/
def messageFitsUptoRow : OpenClaim := { program := "ytcpgijcdmhehaaa", sum := "60ae9a39ed1b219b30ecfa35e1c7d7f8bc877599a2e808ea15d3202c47f21af2", func := "pemmican/pemmicanlaw25.MessageFits", spec := "messageFits", apart := false, narrowed := true }
def MessageFitsUptoSaid : Prop := messageFitsUptoRow.holds Try.pinned (OpenSpec.upto messageFitsSpec)

end Rows
end Go.Proofs.Ytcpgijcdmhehaaa
