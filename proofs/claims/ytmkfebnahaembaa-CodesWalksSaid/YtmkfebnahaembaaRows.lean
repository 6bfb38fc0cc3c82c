/-
  No cell of these rows narrows 'for every input' (looked for: loops, veiled, ifaces, maps, wideKeys, modest, calm, conditions, laid).
  DERIVED. THE GIVEN ROWS OF THIS SEAT. 9 by the template 'for every input the law returns true; each argument reads behind the call as it read before'; 0 by the template 'total and deterministic' (their statements: YtmkfebnahaembaaTotals.lean).
  GIVEN WITH THE SEED: the statements are not yours to turn. If you find one false, say at which input.
  Laid BY PROGRAM, IN A SANDBOX (cutbox-rows.mjs): the forced cells as the released guide's own fill.sh prints them over the translation 1772ddeca0d6cf76… (all of the seat's roots in one cut). By AI agents, Wed Nov 11 2026. No macro, syntax, notation, axiom, sorry.
-/
import Derived.Test.YtmkfebnahaembaaChecked
import GoSem.Claim
import GoSem.ClaimJoined
import GoSem.ClaimMapViews
import Derived.JoinedTies
import Derived.KernelRfl
namespace Go.Proofs.Ytmkfebnahaembaa
/- THE CELL 'sum', in the pinned program and in every row, IS THE sha256 OF THE DUMP (.gsa) THAT YtmkfebnahaembaaProg.lean LOADS. Nothing in Lean hashes anything: it is a label: what it is worth is what the hold of that sum in a sandbox is worth. -/
noncomputable def Try.pinned : Pinned := { name := "ytmkfebnahaembaa", sum := "1772ddeca0d6cf76bcdc786189b14387a75f3f81ca7bc3579824e9e098930ca4", checked := Try.checked }
namespace Rows
def none {H : Type} : Left H := { results := [], args := [] }

/-- 'pemmicanlaw13.CodesNumbers': WHATEVER THE INPUT: true; the input reads as it did. -/
def codesNumbersSpec : ChangeSpec := { name := "codesNumbers", fn := fun _ => fun
  | [d1, d2, d3] => { results := [.lit (.bool true)], args := [d1, d2, d3] }
  | _ => none }
def codesNumbersRow : OpenClaim := { program := "ytmkfebnahaembaa", sum := "1772ddeca0d6cf76bcdc786189b14387a75f3f81ca7bc3579824e9e098930ca4", func := "pemmican/pemmicanlaw13.CodesNumbers", spec := "codesNumbers", apart := false }
def CodesNumbersSaid : Prop := codesNumbersRow.holds Try.pinned (OpenSpec.ofChange codesNumbersSpec)

/-- ITS FALSE NEIGHBOUR: 'it returns false'. Refute it at one input. -/
def codesNumbersWrong : ChangeSpec := { name := "codesNumbers", fn := fun _ => fun
  | [d1, d2, d3] => { results := [.lit (.bool false)], args := [d1, d2, d3] }
  | _ => none }
def CodesNumbersWrongFalsely : Prop := codesNumbersRow.holds Try.pinned (OpenSpec.ofChange codesNumbersWrong)

/-- 'pemmicanlaw22.PipeCarries': WHATEVER THE INPUT: true; the input reads as it did. -/
def pipeCarriesSpec : ChangeSpec := { name := "pipeCarries", fn := fun _ => fun
  | [d1, d2] => { results := [.lit (.bool true)], args := [d1, d2] }
  | _ => none }
def pipeCarriesRow : OpenClaim := { program := "ytmkfebnahaembaa", sum := "1772ddeca0d6cf76bcdc786189b14387a75f3f81ca7bc3579824e9e098930ca4", func := "pemmican/pemmicanlaw22.PipeCarries", spec := "pipeCarries", apart := false }
def PipeCarriesSaid : Prop := pipeCarriesRow.holds Try.pinned (OpenSpec.ofChange pipeCarriesSpec)

/-- ITS FALSE NEIGHBOUR: 'it returns false'. Refute it at one input. -/
def pipeCarriesWrong : ChangeSpec := { name := "pipeCarries", fn := fun _ => fun
  | [d1, d2] => { results := [.lit (.bool false)], args := [d1, d2] }
  | _ => none }
def PipeCarriesWrongFalsely : Prop := pipeCarriesRow.holds Try.pinned (OpenSpec.ofChange pipeCarriesWrong)

/-- 'pemmicanlaw01.BitsTake': WHATEVER THE INPUT: true; the input reads as it did. -/
def bitsTakeSpec : ChangeSpec := { name := "bitsTake", fn := fun _ => fun
  | [d1, d2] => { results := [.lit (.bool true)], args := [d1, d2] }
  | _ => none }
def bitsTakeRow : OpenClaim := { program := "ytmkfebnahaembaa", sum := "1772ddeca0d6cf76bcdc786189b14387a75f3f81ca7bc3579824e9e098930ca4", func := "pemmican/pemmicanlaw01.BitsTake", spec := "bitsTake", apart := false }
def BitsTakeSaid : Prop := bitsTakeRow.holds Try.pinned (OpenSpec.ofChange bitsTakeSpec)

/-- ITS FALSE NEIGHBOUR: 'it returns false'. Refute it at one input. -/
def bitsTakeWrong : ChangeSpec := { name := "bitsTake", fn := fun _ => fun
  | [d1, d2] => { results := [.lit (.bool false)], args := [d1, d2] }
  | _ => none }
def BitsTakeWrongFalsely : Prop := bitsTakeRow.holds Try.pinned (OpenSpec.ofChange bitsTakeWrong)

/-- 'pemmicanlaw01.BitsOwn': WHATEVER THE INPUT: true; the input reads as it did. -/
def bitsOwnSpec : ChangeSpec := { name := "bitsOwn", fn := fun _ => fun
  | [d1, d2] => { results := [.lit (.bool true)], args := [d1, d2] }
  | _ => none }
def bitsOwnRow : OpenClaim := { program := "ytmkfebnahaembaa", sum := "1772ddeca0d6cf76bcdc786189b14387a75f3f81ca7bc3579824e9e098930ca4", func := "pemmican/pemmicanlaw01.BitsOwn", spec := "bitsOwn", apart := false }
def BitsOwnSaid : Prop := bitsOwnRow.holds Try.pinned (OpenSpec.ofChange bitsOwnSpec)

/-- ITS FALSE NEIGHBOUR: 'it returns false'. Refute it at one input. -/
def bitsOwnWrong : ChangeSpec := { name := "bitsOwn", fn := fun _ => fun
  | [d1, d2] => { results := [.lit (.bool false)], args := [d1, d2] }
  | _ => none }
def BitsOwnWrongFalsely : Prop := bitsOwnRow.holds Try.pinned (OpenSpec.ofChange bitsOwnWrong)

/-- 'pemmicanlaw01.BitsBack': WHATEVER THE INPUT: true; the input reads as it did. -/
def bitsBackSpec : ChangeSpec := { name := "bitsBack", fn := fun _ => fun
  | [d] => { results := [.lit (.bool true)], args := [d] }
  | _ => none }
def bitsBackRow : OpenClaim := { program := "ytmkfebnahaembaa", sum := "1772ddeca0d6cf76bcdc786189b14387a75f3f81ca7bc3579824e9e098930ca4", func := "pemmican/pemmicanlaw01.BitsBack", spec := "bitsBack", apart := false }
def BitsBackSaid : Prop := bitsBackRow.holds Try.pinned (OpenSpec.ofChange bitsBackSpec)

/-- ITS FALSE NEIGHBOUR: 'it returns false'. Refute it at one input. -/
def bitsBackWrong : ChangeSpec := { name := "bitsBack", fn := fun _ => fun
  | [d] => { results := [.lit (.bool false)], args := [d] }
  | _ => none }
def BitsBackWrongFalsely : Prop := bitsBackRow.holds Try.pinned (OpenSpec.ofChange bitsBackWrong)

/-- 'pemmicanlaw22.PipeRuns': WHATEVER THE INPUT: true; the input reads as it did. -/
def pipeRunsSpec : ChangeSpec := { name := "pipeRuns", fn := fun _ => fun
  | [d1, d2] => { results := [.lit (.bool true)], args := [d1, d2] }
  | _ => none }
def pipeRunsRow : OpenClaim := { program := "ytmkfebnahaembaa", sum := "1772ddeca0d6cf76bcdc786189b14387a75f3f81ca7bc3579824e9e098930ca4", func := "pemmican/pemmicanlaw22.PipeRuns", spec := "pipeRuns", apart := false }
def PipeRunsSaid : Prop := pipeRunsRow.holds Try.pinned (OpenSpec.ofChange pipeRunsSpec)

/-- ITS FALSE NEIGHBOUR: 'it returns false'. Refute it at one input. -/
def pipeRunsWrong : ChangeSpec := { name := "pipeRuns", fn := fun _ => fun
  | [d1, d2] => { results := [.lit (.bool false)], args := [d1, d2] }
  | _ => none }
def PipeRunsWrongFalsely : Prop := pipeRunsRow.holds Try.pinned (OpenSpec.ofChange pipeRunsWrong)

/-- 'pemmicanlaw22.PipeNobody': WHATEVER THE INPUT: true; the input reads as it did. -/
def pipeNobodySpec : ChangeSpec := { name := "pipeNobody", fn := fun _ => fun
  | [d1, d2] => { results := [.lit (.bool true)], args := [d1, d2] }
  | _ => none }
def pipeNobodyRow : OpenClaim := { program := "ytmkfebnahaembaa", sum := "1772ddeca0d6cf76bcdc786189b14387a75f3f81ca7bc3579824e9e098930ca4", func := "pemmican/pemmicanlaw22.PipeNobody", spec := "pipeNobody", apart := false }
def PipeNobodySaid : Prop := pipeNobodyRow.holds Try.pinned (OpenSpec.ofChange pipeNobodySpec)

/-- ITS FALSE NEIGHBOUR: 'it returns false'. Refute it at one input. -/
def pipeNobodyWrong : ChangeSpec := { name := "pipeNobody", fn := fun _ => fun
  | [d1, d2] => { results := [.lit (.bool false)], args := [d1, d2] }
  | _ => none }
def PipeNobodyWrongFalsely : Prop := pipeNobodyRow.holds Try.pinned (OpenSpec.ofChange pipeNobodyWrong)

/-- 'pemmicanlaw13.CodesOffsets': WHATEVER THE INPUT: true; the input reads as it did. -/
def codesOffsetsSpec : ChangeSpec := { name := "codesOffsets", fn := fun _ => fun
  | [d1, d2, d3] => { results := [.lit (.bool true)], args := [d1, d2, d3] }
  | _ => none }
def codesOffsetsRow : OpenClaim := { program := "ytmkfebnahaembaa", sum := "1772ddeca0d6cf76bcdc786189b14387a75f3f81ca7bc3579824e9e098930ca4", func := "pemmican/pemmicanlaw13.CodesOffsets", spec := "codesOffsets", apart := false }
def CodesOffsetsSaid : Prop := codesOffsetsRow.holds Try.pinned (OpenSpec.ofChange codesOffsetsSpec)

/-- ITS FALSE NEIGHBOUR: 'it returns false'. Refute it at one input. -/
def codesOffsetsWrong : ChangeSpec := { name := "codesOffsets", fn := fun _ => fun
  | [d1, d2, d3] => { results := [.lit (.bool false)], args := [d1, d2, d3] }
  | _ => none }
def CodesOffsetsWrongFalsely : Prop := codesOffsetsRow.holds Try.pinned (OpenSpec.ofChange codesOffsetsWrong)

/-- 'pemmicanlaw13.CodesWalks': WHATEVER THE INPUT: true; the input reads as it did. -/
def codesWalksSpec : ChangeSpec := { name := "codesWalks", fn := fun _ => fun
  | [d] => { results := [.lit (.bool true)], args := [d] }
  | _ => none }
def codesWalksRow : OpenClaim := { program := "ytmkfebnahaembaa", sum := "1772ddeca0d6cf76bcdc786189b14387a75f3f81ca7bc3579824e9e098930ca4", func := "pemmican/pemmicanlaw13.CodesWalks", spec := "codesWalks", apart := false }
def CodesWalksSaid : Prop := codesWalksRow.holds Try.pinned (OpenSpec.ofChange codesWalksSpec)

/-- ITS FALSE NEIGHBOUR: 'it returns false'. Refute it at one input. -/
def codesWalksWrong : ChangeSpec := { name := "codesWalks", fn := fun _ => fun
  | [d] => { results := [.lit (.bool false)], args := [d] }
  | _ => none }
def CodesWalksWrongFalsely : Prop := codesWalksRow.holds Try.pinned (OpenSpec.ofChange codesWalksWrong)

/- THE SECOND FORM. 'bulk': how many values and letters a reading holds, each counted each time it is reached (what is shared counts as often as it is met; a slice's spare places count too). A statement '..UptoSaid' is the law's where the arguments, and the package variables that the reading takes, are together of bulk at most 1048576: NARROWER than '..Said'. Prove '..Said' where nothing that the law and all that it calls make is longer than what came in: it says more and counts as full. Else prove '..UptoSaid'. A law counts once. -/
mutual
def uptoBulk {H : Type} : DataW H → Nat
  | .lit (.string bytes) => bytes.length + 1
  | .lit _ => 1
  | .nil => 1
  | .ptr d => uptoBulk d + 1
  | .slice elems spare => uptoBulkAll elems + uptoBulkAll spare + 1
  | .agg parts => uptoBulkAll parts + 1
  | .iface _ d => uptoBulk d + 1
  | .map entries => uptoBulkEntries entries + 1
  | .held _ => 1
def uptoBulkAll {H : Type} : List (DataW H) → Nat
  | [] => 0
  | d :: r => uptoBulk d + uptoBulkAll r
def uptoBulkEntries {H : Type} : List (Lit × DataW H) → Nat
  | [] => 0
  | x :: r => uptoBulkEntry x + uptoBulkEntries r
def uptoBulkEntry {H : Type} : Lit × DataW H → Nat
  | (.string bytes, d) => bytes.length + uptoBulk d + 1
  | (_, d) => uptoBulk d + 1
 end
def uptoSmall : (H : Type) → List (DataW H) → Bool := fun _ ds => decide (uptoBulkAll ds ≤ 1048576)
def OpenSpec.upto (s : _root_.Go.ChangeSpec) : _root_.Go.OpenSpec := { _root_.Go.OpenSpec.ofChange s with cond := some uptoSmall }

/-- 'pemmicanlaw13.CodesNumbers', WHERE WHAT IT READS IS OF BULK AT MOST 1048576: true; the input reads as it did. -/
def codesNumbersUptoRow : OpenClaim := { program := "ytmkfebnahaembaa", sum := "1772ddeca0d6cf76bcdc786189b14387a75f3f81ca7bc3579824e9e098930ca4", func := "pemmican/pemmicanlaw13.CodesNumbers", spec := "codesNumbers", apart := false, narrowed := true }
def CodesNumbersUptoSaid : Prop := codesNumbersUptoRow.holds Try.pinned (OpenSpec.upto codesNumbersSpec)

/-- 'pemmicanlaw22.PipeCarries', WHERE WHAT IT READS IS OF BULK AT MOST 1048576: true; the input reads as it did. -/
def pipeCarriesUptoRow : OpenClaim := { program := "ytmkfebnahaembaa", sum := "1772ddeca0d6cf76bcdc786189b14387a75f3f81ca7bc3579824e9e098930ca4", func := "pemmican/pemmicanlaw22.PipeCarries", spec := "pipeCarries", apart := false, narrowed := true }
def PipeCarriesUptoSaid : Prop := pipeCarriesUptoRow.holds Try.pinned (OpenSpec.upto pipeCarriesSpec)

/-- 'pemmicanlaw01.BitsTake', WHERE WHAT IT READS IS OF BULK AT MOST 1048576: true; the input reads as it did. -/
def bitsTakeUptoRow : OpenClaim := { program := "ytmkfebnahaembaa", sum := "1772ddeca0d6cf76bcdc786189b14387a75f3f81ca7bc3579824e9e098930ca4", func := "pemmican/pemmicanlaw01.BitsTake", spec := "bitsTake", apart := false, narrowed := true }
def BitsTakeUptoSaid : Prop := bitsTakeUptoRow.holds Try.pinned (OpenSpec.upto bitsTakeSpec)

/-- 'pemmicanlaw01.BitsOwn', WHERE WHAT IT READS IS OF BULK AT MOST 1048576: true; the input reads as it did. -/
def bitsOwnUptoRow : OpenClaim := { program := "ytmkfebnahaembaa", sum := "1772ddeca0d6cf76bcdc786189b14387a75f3f81ca7bc3579824e9e098930ca4", func := "pemmican/pemmicanlaw01.BitsOwn", spec := "bitsOwn", apart := false, narrowed := true }
def BitsOwnUptoSaid : Prop := bitsOwnUptoRow.holds Try.pinned (OpenSpec.upto bitsOwnSpec)

/-- 'pemmicanlaw01.BitsBack', WHERE WHAT IT READS IS OF BULK AT MOST 1048576: true; the input reads as it did. -/
def bitsBackUptoRow : OpenClaim := { program := "ytmkfebnahaembaa", sum := "1772ddeca0d6cf76bcdc786189b14387a75f3f81ca7bc3579824e9e098930ca4", func := "pemmican/pemmicanlaw01.BitsBack", spec := "bitsBack", apart := false, narrowed := true }
def BitsBackUptoSaid : Prop := bitsBackUptoRow.holds Try.pinned (OpenSpec.upto bitsBackSpec)

/-- 'pemmicanlaw22.PipeRuns', WHERE WHAT IT READS IS OF BULK AT MOST 1048576: true; the input reads as it did. -/
def pipeRunsUptoRow : OpenClaim := { program := "ytmkfebnahaembaa", sum := "1772ddeca0d6cf76bcdc786189b14387a75f3f81ca7bc3579824e9e098930ca4", func := "pemmican/pemmicanlaw22.PipeRuns", spec := "pipeRuns", apart := false, narrowed := true }
def PipeRunsUptoSaid : Prop := pipeRunsUptoRow.holds Try.pinned (OpenSpec.upto pipeRunsSpec)

/-- 'pemmicanlaw22.PipeNobody', WHERE WHAT IT READS IS OF BULK AT MOST 1048576: true; the input reads as it did. -/
def pipeNobodyUptoRow : OpenClaim := { program := "ytmkfebnahaembaa", sum := "1772ddeca0d6cf76bcdc786189b14387a75f3f81ca7bc3579824e9e098930ca4", func := "pemmican/pemmicanlaw22.PipeNobody", spec := "pipeNobody", apart := false, narrowed := true }
def PipeNobodyUptoSaid : Prop := pipeNobodyUptoRow.holds Try.pinned (OpenSpec.upto pipeNobodySpec)

/-- 'pemmicanlaw13.CodesOffsets', WHERE WHAT IT READS IS OF BULK AT MOST 1048576: true; the input reads as it did. -/
def codesOffsetsUptoRow : OpenClaim := { program := "ytmkfebnahaembaa", sum := "1772ddeca0d6cf76bcdc786189b14387a75f3f81ca7bc3579824e9e098930ca4", func := "pemmican/pemmicanlaw13.CodesOffsets", spec := "codesOffsets", apart := false, narrowed := true }
def CodesOffsetsUptoSaid : Prop := codesOffsetsUptoRow.holds Try.pinned (OpenSpec.upto codesOffsetsSpec)

/-- 'pemmicanlaw13.CodesWalks', WHERE WHAT IT READS IS OF BULK AT MOST 1048576: true; the input reads as it did. -/
def codesWalksUptoRow : OpenClaim := { program := "ytmkfebnahaembaa", sum := "1772ddeca0d6cf76bcdc786189b14387a75f3f81ca7bc3579824e9e098930ca4", func := "pemmican/pemmicanlaw13.CodesWalks", spec := "codesWalks", apart := false, narrowed := true }
def CodesWalksUptoSaid : Prop := codesWalksUptoRow.holds Try.pinned (OpenSpec.upto codesWalksSpec)

end Rows
end Go.Proofs.Ytmkfebnahaembaa
