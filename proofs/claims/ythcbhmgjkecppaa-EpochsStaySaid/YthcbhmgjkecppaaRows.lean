/-
  No cell of these rows narrows 'for every input' (looked for: loops, veiled, ifaces, maps, wideKeys, modest, calm, conditions, laid).
  DERIVED. THE GIVEN ROWS OF THIS SEAT. 11 by the template 'for every input the law returns true; each argument reads behind the call as it read before'; 0 by the template 'total and deterministic' (their statements: YthcbhmgjkecppaaTotals.lean).
  GIVEN WITH THE SEED: the statements are not yours to turn. If you find one false, say at which input.
  Laid BY PROGRAM, IN A SANDBOX (cutbox-rows.mjs): the forced cells as the released guide's own fill.sh prints them over the translation dacb676bb55098cf… (all of the seat's roots in one cut). By AI agents, Wed Nov 11 2026. No macro, syntax, notation, axiom, sorry.
-/
import Derived.Test.YthcbhmgjkecppaaChecked
import GoSem.Claim
import GoSem.ClaimJoined
import GoSem.ClaimMapViews
import Derived.JoinedTies
import Derived.KernelRfl
namespace Go.Proofs.Ythcbhmgjkecppaa
/- THE CELL 'sum', in the pinned program and in every row, IS THE sha256 OF THE DUMP (.gsa) THAT YthcbhmgjkecppaaProg.lean LOADS. Nothing in Lean hashes anything: it is a label: what it is worth is what the hold of that sum in a sandbox is worth. -/
noncomputable def Try.pinned : Pinned := { name := "ythcbhmgjkecppaa", sum := "dacb676bb55098cf895d2a31e85b01f90d40c2da6aa19d4ab09b3b50b7464079", checked := Try.checked }
namespace Rows
def none {H : Type} : Left H := { results := [], args := [] }

/-- 'pemmicanlaw05.CountFair': WHATEVER THE INPUT: true; the input reads as it did. -/
def countFairSpec : ChangeSpec := { name := "countFair", fn := fun _ => fun
  | [d1, d2] => { results := [.lit (.bool true)], args := [d1, d2] }
  | _ => none }
def countFairRow : OpenClaim := { program := "ythcbhmgjkecppaa", sum := "dacb676bb55098cf895d2a31e85b01f90d40c2da6aa19d4ab09b3b50b7464079", func := "pemmican/pemmicanlaw05.CountFair", spec := "countFair", apart := false }
def CountFairSaid : Prop := countFairRow.holds Try.pinned (OpenSpec.ofChange countFairSpec)

/-- ITS FALSE NEIGHBOUR: 'it returns false'. Refute it at one input. -/
def countFairWrong : ChangeSpec := { name := "countFair", fn := fun _ => fun
  | [d1, d2] => { results := [.lit (.bool false)], args := [d1, d2] }
  | _ => none }
def CountFairWrongFalsely : Prop := countFairRow.holds Try.pinned (OpenSpec.ofChange countFairWrong)

/-- 'pemmicanlaw21.EpochsStay': WHATEVER THE INPUT: true; the input reads as it did. -/
def epochsStaySpec : ChangeSpec := { name := "epochsStay", fn := fun _ => fun
  | [d1, d2] => { results := [.lit (.bool true)], args := [d1, d2] }
  | _ => none }
def epochsStayRow : OpenClaim := { program := "ythcbhmgjkecppaa", sum := "dacb676bb55098cf895d2a31e85b01f90d40c2da6aa19d4ab09b3b50b7464079", func := "pemmican/pemmicanlaw21.EpochsStay", spec := "epochsStay", unfollowed := true, recurses := true, apart := false }
def EpochsStaySaid : Prop := epochsStayRow.holds Try.pinned (OpenSpec.ofChange epochsStaySpec)

/-- ITS FALSE NEIGHBOUR: 'it returns false'. Refute it at one input. -/
def epochsStayWrong : ChangeSpec := { name := "epochsStay", fn := fun _ => fun
  | [d1, d2] => { results := [.lit (.bool false)], args := [d1, d2] }
  | _ => none }
def EpochsStayWrongFalsely : Prop := epochsStayRow.holds Try.pinned (OpenSpec.ofChange epochsStayWrong)

/-- 'pemmicanlaw05.CountBytes': WHATEVER THE INPUT: true; the input reads as it did. -/
def countBytesSpec : ChangeSpec := { name := "countBytes", fn := fun _ => fun
  | [d] => { results := [.lit (.bool true)], args := [d] }
  | _ => none }
def countBytesRow : OpenClaim := { program := "ythcbhmgjkecppaa", sum := "dacb676bb55098cf895d2a31e85b01f90d40c2da6aa19d4ab09b3b50b7464079", func := "pemmican/pemmicanlaw05.CountBytes", spec := "countBytes", apart := false }
def CountBytesSaid : Prop := countBytesRow.holds Try.pinned (OpenSpec.ofChange countBytesSpec)

/-- ITS FALSE NEIGHBOUR: 'it returns false'. Refute it at one input. -/
def countBytesWrong : ChangeSpec := { name := "countBytes", fn := fun _ => fun
  | [d] => { results := [.lit (.bool false)], args := [d] }
  | _ => none }
def CountBytesWrongFalsely : Prop := countBytesRow.holds Try.pinned (OpenSpec.ofChange countBytesWrong)

/-- 'pemmicanlaw23.LinkNobody': WHATEVER THE INPUT: true; the input reads as it did. -/
def linkNobodySpec : ChangeSpec := { name := "linkNobody", fn := fun _ => fun
  | [d1, d2] => { results := [.lit (.bool true)], args := [d1, d2] }
  | _ => none }
def linkNobodyRow : OpenClaim := { program := "ythcbhmgjkecppaa", sum := "dacb676bb55098cf895d2a31e85b01f90d40c2da6aa19d4ab09b3b50b7464079", func := "pemmican/pemmicanlaw23.LinkNobody", spec := "linkNobody", apart := false }
def LinkNobodySaid : Prop := linkNobodyRow.holds Try.pinned (OpenSpec.ofChange linkNobodySpec)

/-- ITS FALSE NEIGHBOUR: 'it returns false'. Refute it at one input. -/
def linkNobodyWrong : ChangeSpec := { name := "linkNobody", fn := fun _ => fun
  | [d1, d2] => { results := [.lit (.bool false)], args := [d1, d2] }
  | _ => none }
def LinkNobodyWrongFalsely : Prop := linkNobodyRow.holds Try.pinned (OpenSpec.ofChange linkNobodyWrong)

/-- 'pemmicanlaw21.EpochsRuns': WHATEVER THE INPUT: true; the input reads as it did. -/
def epochsRunsSpec : ChangeSpec := { name := "epochsRuns", fn := fun _ => fun
  | [d] => { results := [.lit (.bool true)], args := [d] }
  | _ => none }
def epochsRunsRow : OpenClaim := { program := "ythcbhmgjkecppaa", sum := "dacb676bb55098cf895d2a31e85b01f90d40c2da6aa19d4ab09b3b50b7464079", func := "pemmican/pemmicanlaw21.EpochsRuns", spec := "epochsRuns", unfollowed := true, recurses := true, apart := false }
def EpochsRunsSaid : Prop := epochsRunsRow.holds Try.pinned (OpenSpec.ofChange epochsRunsSpec)

/-- ITS FALSE NEIGHBOUR: 'it returns false'. Refute it at one input. -/
def epochsRunsWrong : ChangeSpec := { name := "epochsRuns", fn := fun _ => fun
  | [d] => { results := [.lit (.bool false)], args := [d] }
  | _ => none }
def EpochsRunsWrongFalsely : Prop := epochsRunsRow.holds Try.pinned (OpenSpec.ofChange epochsRunsWrong)

/-- 'pemmicanlaw21.EpochsNobody': WHATEVER THE INPUT: true; the input reads as it did. -/
def epochsNobodySpec : ChangeSpec := { name := "epochsNobody", fn := fun _ => fun
  | [d1, d2] => { results := [.lit (.bool true)], args := [d1, d2] }
  | _ => none }
def epochsNobodyRow : OpenClaim := { program := "ythcbhmgjkecppaa", sum := "dacb676bb55098cf895d2a31e85b01f90d40c2da6aa19d4ab09b3b50b7464079", func := "pemmican/pemmicanlaw21.EpochsNobody", spec := "epochsNobody", unfollowed := true, recurses := true, apart := false }
def EpochsNobodySaid : Prop := epochsNobodyRow.holds Try.pinned (OpenSpec.ofChange epochsNobodySpec)

/-- ITS FALSE NEIGHBOUR: 'it returns false'. Refute it at one input. -/
def epochsNobodyWrong : ChangeSpec := { name := "epochsNobody", fn := fun _ => fun
  | [d1, d2] => { results := [.lit (.bool false)], args := [d1, d2] }
  | _ => none }
def EpochsNobodyWrongFalsely : Prop := epochsNobodyRow.holds Try.pinned (OpenSpec.ofChange epochsNobodyWrong)

/-- 'pemmicanlaw08.HeaderAny': WHATEVER THE INPUT: true; the input reads as it did. -/
def headerAnySpec : ChangeSpec := { name := "headerAny", fn := fun _ => fun
  | [d] => { results := [.lit (.bool true)], args := [d] }
  | _ => none }
def headerAnyRow : OpenClaim := { program := "ythcbhmgjkecppaa", sum := "dacb676bb55098cf895d2a31e85b01f90d40c2da6aa19d4ab09b3b50b7464079", func := "pemmican/pemmicanlaw08.HeaderAny", spec := "headerAny", unfollowed := true, recurses := true, apart := false }
def HeaderAnySaid : Prop := headerAnyRow.holds Try.pinned (OpenSpec.ofChange headerAnySpec)

/-- ITS FALSE NEIGHBOUR: 'it returns false'. Refute it at one input. -/
def headerAnyWrong : ChangeSpec := { name := "headerAny", fn := fun _ => fun
  | [d] => { results := [.lit (.bool false)], args := [d] }
  | _ => none }
def HeaderAnyWrongFalsely : Prop := headerAnyRow.holds Try.pinned (OpenSpec.ofChange headerAnyWrong)

/-- 'pemmicanlaw23.LinkRuns': WHATEVER THE INPUT: true; the input reads as it did. -/
def linkRunsSpec : ChangeSpec := { name := "linkRuns", fn := fun _ => fun
  | [d1, d2] => { results := [.lit (.bool true)], args := [d1, d2] }
  | _ => none }
def linkRunsRow : OpenClaim := { program := "ythcbhmgjkecppaa", sum := "dacb676bb55098cf895d2a31e85b01f90d40c2da6aa19d4ab09b3b50b7464079", func := "pemmican/pemmicanlaw23.LinkRuns", spec := "linkRuns", apart := false }
def LinkRunsSaid : Prop := linkRunsRow.holds Try.pinned (OpenSpec.ofChange linkRunsSpec)

/-- ITS FALSE NEIGHBOUR: 'it returns false'. Refute it at one input. -/
def linkRunsWrong : ChangeSpec := { name := "linkRuns", fn := fun _ => fun
  | [d1, d2] => { results := [.lit (.bool false)], args := [d1, d2] }
  | _ => none }
def LinkRunsWrongFalsely : Prop := linkRunsRow.holds Try.pinned (OpenSpec.ofChange linkRunsWrong)

/-- 'pemmicanlaw23.LinkForgets': WHATEVER THE INPUT: true; the input reads as it did. -/
def linkForgetsSpec : ChangeSpec := { name := "linkForgets", fn := fun _ => fun
  | [d1, d2, d3] => { results := [.lit (.bool true)], args := [d1, d2, d3] }
  | _ => none }
def linkForgetsRow : OpenClaim := { program := "ythcbhmgjkecppaa", sum := "dacb676bb55098cf895d2a31e85b01f90d40c2da6aa19d4ab09b3b50b7464079", func := "pemmican/pemmicanlaw23.LinkForgets", spec := "linkForgets", apart := false }
def LinkForgetsSaid : Prop := linkForgetsRow.holds Try.pinned (OpenSpec.ofChange linkForgetsSpec)

/-- ITS FALSE NEIGHBOUR: 'it returns false'. Refute it at one input. -/
def linkForgetsWrong : ChangeSpec := { name := "linkForgets", fn := fun _ => fun
  | [d1, d2, d3] => { results := [.lit (.bool false)], args := [d1, d2, d3] }
  | _ => none }
def LinkForgetsWrongFalsely : Prop := linkForgetsRow.holds Try.pinned (OpenSpec.ofChange linkForgetsWrong)

/-- 'pemmicanlaw08.HeaderBack': WHATEVER THE INPUT: true; the input reads as it did. -/
def headerBackSpec : ChangeSpec := { name := "headerBack", fn := fun _ => fun
  | [d1, d2, d3] => { results := [.lit (.bool true)], args := [d1, d2, d3] }
  | _ => none }
def headerBackRow : OpenClaim := { program := "ythcbhmgjkecppaa", sum := "dacb676bb55098cf895d2a31e85b01f90d40c2da6aa19d4ab09b3b50b7464079", func := "pemmican/pemmicanlaw08.HeaderBack", spec := "headerBack", unfollowed := true, recurses := true, apart := false }
def HeaderBackSaid : Prop := headerBackRow.holds Try.pinned (OpenSpec.ofChange headerBackSpec)

/-- ITS FALSE NEIGHBOUR: 'it returns false'. Refute it at one input. -/
def headerBackWrong : ChangeSpec := { name := "headerBack", fn := fun _ => fun
  | [d1, d2, d3] => { results := [.lit (.bool false)], args := [d1, d2, d3] }
  | _ => none }
def HeaderBackWrongFalsely : Prop := headerBackRow.holds Try.pinned (OpenSpec.ofChange headerBackWrong)

/-- 'pemmicanlaw08.HeaderShort': WHATEVER THE INPUT: true; the input reads as it did. -/
def headerShortSpec : ChangeSpec := { name := "headerShort", fn := fun _ => fun
  | [d1, d2, d3] => { results := [.lit (.bool true)], args := [d1, d2, d3] }
  | _ => none }
def headerShortRow : OpenClaim := { program := "ythcbhmgjkecppaa", sum := "dacb676bb55098cf895d2a31e85b01f90d40c2da6aa19d4ab09b3b50b7464079", func := "pemmican/pemmicanlaw08.HeaderShort", spec := "headerShort", unfollowed := true, recurses := true, apart := false }
def HeaderShortSaid : Prop := headerShortRow.holds Try.pinned (OpenSpec.ofChange headerShortSpec)

/-- ITS FALSE NEIGHBOUR: 'it returns false'. Refute it at one input. -/
def headerShortWrong : ChangeSpec := { name := "headerShort", fn := fun _ => fun
  | [d1, d2, d3] => { results := [.lit (.bool false)], args := [d1, d2, d3] }
  | _ => none }
def HeaderShortWrongFalsely : Prop := headerShortRow.holds Try.pinned (OpenSpec.ofChange headerShortWrong)

/- THE SECOND FORM. 'bulk': how many values and letters a reading holds, each counted each time it is reached (what is shared counts as often as it is met; a slice's spare places count too). A statement '..UptoSaid' is the law's where the arguments, and the package variables that the reading takes, are together of bulk at most 1048576: NARROWER than '..Said'. Prove '..Said' where nothing that the law and all that it calls make is longer than what came in: it says more and counts as full. Else prove '..UptoSaid'. A law counts once. -/
mutual
def uptoBulk {H : Type} : DataW H → Nat
  | .lit (.string bytes) => bytes.length + 1
  | .lit _ => 1
  | .nil => 1
  | .ptr d => uptoBulk d + 1
  | .slice elems spare => uptoBulkAll elems + uptoBulkAll spare + 1
  | .agg parts => uptoBulkAll parts + 1
  | .iface _ d => uptoBulk d + 1
  | .map entries => uptoBulkEntries entries + 1
  | .held _ => 1
def uptoBulkAll {H : Type} : List (DataW H) → Nat
  | [] => 0
  | d :: r => uptoBulk d + uptoBulkAll r
def uptoBulkEntries {H : Type} : List (Lit × DataW H) → Nat
  | [] => 0
  | x :: r => uptoBulkEntry x + uptoBulkEntries r
def uptoBulkEntry {H : Type} : Lit × DataW H → Nat
  | (.string bytes, d) => bytes.length + uptoBulk d + 1
  | (_, d) => uptoBulk d + 1
 end
def uptoSmall : (H : Type) → List (DataW H) → Bool := fun _ ds => decide (uptoBulkAll ds ≤ 1048576)
def OpenSpec.upto (s : _root_.Go.ChangeSpec) : _root_.Go.OpenSpec := { _root_.Go.OpenSpec.ofChange s with cond := some uptoSmall }

/-- 'pemmicanlaw05.CountFair', WHERE WHAT IT READS IS OF BULK AT MOST 1048576: true; the input reads as it did. -/
def countFairUptoRow : OpenClaim := { program := "ythcbhmgjkecppaa", sum := "dacb676bb55098cf895d2a31e85b01f90d40c2da6aa19d4ab09b3b50b7464079", func := "pemmican/pemmicanlaw05.CountFair", spec := "countFair", apart := false, narrowed := true }
def CountFairUptoSaid : Prop := countFairUptoRow.holds Try.pinned (OpenSpec.upto countFairSpec)

/-- 'pemmicanlaw21.EpochsStay', WHERE WHAT IT READS IS OF BULK AT MOST 1048576: true; the input reads as it did. -/
def epochsStayUptoRow : OpenClaim := { program := "ythcbhmgjkecppaa", sum := "dacb676bb55098cf895d2a31e85b01f90d40c2da6aa19d4ab09b3b50b7464079", func := "pemmican/pemmicanlaw21.EpochsStay", spec := "epochsStay", unfollowed := true, recurses := true, apart := false, narrowed := true }
def EpochsStayUptoSaid : Prop := epochsStayUptoRow.holds Try.pinned (OpenSpec.upto epochsStaySpec)

/-- 'pemmicanlaw05.CountBytes', WHERE WHAT IT READS IS OF BULK AT MOST 1048576: true; the input reads as it did. -/
def countBytesUptoRow : OpenClaim := { program := "ythcbhmgjkecppaa", sum := "dacb676bb55098cf895d2a31e85b01f90d40c2da6aa19d4ab09b3b50b7464079", func := "pemmican/pemmicanlaw05.CountBytes", spec := "countBytes", apart := false, narrowed := true }
def CountBytesUptoSaid : Prop := countBytesUptoRow.holds Try.pinned (OpenSpec.upto countBytesSpec)

/-- 'pemmicanlaw23.LinkNobody', WHERE WHAT IT READS IS OF BULK AT MOST 1048576: true; the input reads as it did. -/
def linkNobodyUptoRow : OpenClaim := { program := "ythcbhmgjkecppaa", sum := "dacb676bb55098cf895d2a31e85b01f90d40c2da6aa19d4ab09b3b50b7464079", func := "pemmican/pemmicanlaw23.LinkNobody", spec := "linkNobody", apart := false, narrowed := true }
def LinkNobodyUptoSaid : Prop := linkNobodyUptoRow.holds Try.pinned (OpenSpec.upto linkNobodySpec)

/-- 'pemmicanlaw21.EpochsRuns', WHERE WHAT IT READS IS OF BULK AT MOST 1048576: true; the input reads as it did. -/
def epochsRunsUptoRow : OpenClaim := { program := "ythcbhmgjkecppaa", sum := "dacb676bb55098cf895d2a31e85b01f90d40c2da6aa19d4ab09b3b50b7464079", func := "pemmican/pemmicanlaw21.EpochsRuns", spec := "epochsRuns", unfollowed := true, recurses := true, apart := false, narrowed := true }
def EpochsRunsUptoSaid : Prop := epochsRunsUptoRow.holds Try.pinned (OpenSpec.upto epochsRunsSpec)

/-- 'pemmicanlaw21.EpochsNobody', WHERE WHAT IT READS IS OF BULK AT MOST 1048576: true; the input reads as it did. -/
def epochsNobodyUptoRow : OpenClaim := { program := "ythcbhmgjkecppaa", sum := "dacb676bb55098cf895d2a31e85b01f90d40c2da6aa19d4ab09b3b50b7464079", func := "pemmican/pemmicanlaw21.EpochsNobody", spec := "epochsNobody", unfollowed := true, recurses := true, apart := false, narrowed := true }
def EpochsNobodyUptoSaid : Prop := epochsNobodyUptoRow.holds Try.pinned (OpenSpec.upto epochsNobodySpec)

/-- 'pemmicanlaw08.HeaderAny', WHERE WHAT IT READS IS OF BULK AT MOST 1048576: true; the input reads as it did. -/
def headerAnyUptoRow : OpenClaim := { program := "ythcbhmgjkecppaa", sum := "dacb676bb55098cf895d2a31e85b01f90d40c2da6aa19d4ab09b3b50b7464079", func := "pemmican/pemmicanlaw08.HeaderAny", spec := "headerAny", unfollowed := true, recurses := true, apart := false, narrowed := true }
def HeaderAnyUptoSaid : Prop := headerAnyUptoRow.holds Try.pinned (OpenSpec.upto headerAnySpec)

/-- 'pemmicanlaw23.LinkRuns', WHERE WHAT IT READS IS OF BULK AT MOST 1048576: true; the input reads as it did. -/
def linkRunsUptoRow : OpenClaim := { program := "ythcbhmgjkecppaa", sum := "dacb676bb55098cf895d2a31e85b01f90d40c2da6aa19d4ab09b3b50b7464079", func := "pemmican/pemmicanlaw23.LinkRuns", spec := "linkRuns", apart := false, narrowed := true }
def LinkRunsUptoSaid : Prop := linkRunsUptoRow.holds Try.pinned (OpenSpec.upto linkRunsSpec)

/-- 'pemmicanlaw23.LinkForgets', WHERE WHAT IT READS IS OF BULK AT MOST 1048576: true; the input reads as it did. -/
def linkForgetsUptoRow : OpenClaim := { program := "ythcbhmgjkecppaa", sum := "dacb676bb55098cf895d2a31e85b01f90d40c2da6aa19d4ab09b3b50b7464079", func := "pemmican/pemmicanlaw23.LinkForgets", spec := "linkForgets", apart := false, narrowed := true }
def LinkForgetsUptoSaid : Prop := linkForgetsUptoRow.holds Try.pinned (OpenSpec.upto linkForgetsSpec)

/-- 'pemmicanlaw08.HeaderBack', WHERE WHAT IT READS IS OF BULK AT MOST 1048576: true; the input reads as it did. -/
def headerBackUptoRow : OpenClaim := { program := "ythcbhmgjkecppaa", sum := "dacb676bb55098cf895d2a31e85b01f90d40c2da6aa19d4ab09b3b50b7464079", func := "pemmican/pemmicanlaw08.HeaderBack", spec := "headerBack", unfollowed := true, recurses := true, apart := false, narrowed := true }
def HeaderBackUptoSaid : Prop := headerBackUptoRow.holds Try.pinned (OpenSpec.upto headerBackSpec)

/-- 'pemmicanlaw08.HeaderShort', WHERE WHAT IT READS IS OF BULK AT MOST 1048576: true; the input reads as it did. -/
def headerShortUptoRow : OpenClaim := { program := "ythcbhmgjkecppaa", sum := "dacb676bb55098cf895d2a31e85b01f90d40c2da6aa19d4ab09b3b50b7464079", func := "pemmican/pemmicanlaw08.HeaderShort", spec := "headerShort", unfollowed := true, recurses := true, apart := false, narrowed := true }
def HeaderShortUptoSaid : Prop := headerShortUptoRow.holds Try.pinned (OpenSpec.upto headerShortSpec)

end Rows
end Go.Proofs.Ythcbhmgjkecppaa
