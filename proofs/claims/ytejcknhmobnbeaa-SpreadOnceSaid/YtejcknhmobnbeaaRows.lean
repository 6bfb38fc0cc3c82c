/-
  No cell of these rows narrows 'for every input' (looked for: loops, veiled, ifaces, maps, wideKeys, modest, calm, conditions, laid).
  DERIVED. THE GIVEN ROWS OF THIS SEAT. 9 by the template 'for every input the law returns true; each argument reads behind the call as it read before'; 0 by the template 'total and deterministic' (their statements: YtejcknhmobnbeaaTotals.lean).
  GIVEN WITH THE SEED: the statements are not yours to turn. If you find one false, say at which input.
  Laid BY PROGRAM, IN A SANDBOX (cutbox-rows.mjs): the forced cells as the released guide's own fill.sh prints them over the translation f8b615bf8105b203… (all of the seat's roots in one cut). By AI agents, Wed Nov 11 2026. No macro, syntax, notation, axiom, sorry.
-/
import Derived.Test.YtejcknhmobnbeaaChecked
import GoSem.Claim
import GoSem.ClaimJoined
import GoSem.ClaimMapViews
import Derived.JoinedTies
import Derived.KernelRfl
namespace Go.Proofs.Ytejcknhmobnbeaa
/- THE CELL 'sum', in the pinned program and in every row, IS THE sha256 OF THE DUMP (.gsa) THAT YtejcknhmobnbeaaProg.lean LOADS. Nothing in Lean hashes anything: it is a label: what it is worth is what the hold of that sum in a sandbox is worth. -/
noncomputable def Try.pinned : Pinned := { name := "ytejcknhmobnbeaa", sum := "f8b615bf8105b20325cd93167bcc8f89cb5d69e08bb20b605af44fbee38e8962", checked := Try.checked }
namespace Rows
def none {H : Type} : Left H := { results := [], args := [] }

/-- 'pemmicanlaw06.SpreadOnce': WHATEVER THE INPUT: true; the input reads as it did. -/
def spreadOnceSpec : ChangeSpec := { name := "spreadOnce", fn := fun _ => fun
  | [d1, d2] => { results := [.lit (.bool true)], args := [d1, d2] }
  | _ => none }
def spreadOnceRow : OpenClaim := { program := "ytejcknhmobnbeaa", sum := "f8b615bf8105b20325cd93167bcc8f89cb5d69e08bb20b605af44fbee38e8962", func := "pemmican/pemmicanlaw06.SpreadOnce", spec := "spreadOnce", apart := false }
def SpreadOnceSaid : Prop := spreadOnceRow.holds Try.pinned (OpenSpec.ofChange spreadOnceSpec)

/-- ITS FALSE NEIGHBOUR: 'it returns false'. Refute it at one input. -/
def spreadOnceWrong : ChangeSpec := { name := "spreadOnce", fn := fun _ => fun
  | [d1, d2] => { results := [.lit (.bool false)], args := [d1, d2] }
  | _ => none }
def SpreadOnceWrongFalsely : Prop := spreadOnceRow.holds Try.pinned (OpenSpec.ofChange spreadOnceWrong)

/-- 'pemmicanlaw03.CursorGroups': WHATEVER THE INPUT: true; the input reads as it did. -/
def cursorGroupsSpec : ChangeSpec := { name := "cursorGroups", fn := fun _ => fun
  | [d1, d2] => { results := [.lit (.bool true)], args := [d1, d2] }
  | _ => none }
def cursorGroupsRow : OpenClaim := { program := "ytejcknhmobnbeaa", sum := "f8b615bf8105b20325cd93167bcc8f89cb5d69e08bb20b605af44fbee38e8962", func := "pemmican/pemmicanlaw03.CursorGroups", spec := "cursorGroups", apart := false }
def CursorGroupsSaid : Prop := cursorGroupsRow.holds Try.pinned (OpenSpec.ofChange cursorGroupsSpec)

/-- ITS FALSE NEIGHBOUR: 'it returns false'. Refute it at one input. -/
def cursorGroupsWrong : ChangeSpec := { name := "cursorGroups", fn := fun _ => fun
  | [d1, d2] => { results := [.lit (.bool false)], args := [d1, d2] }
  | _ => none }
def CursorGroupsWrongFalsely : Prop := cursorGroupsRow.holds Try.pinned (OpenSpec.ofChange cursorGroupsWrong)

/-- 'pemmicanlaw02.BackSeals': WHATEVER THE INPUT: true; the input reads as it did. -/
def backSealsSpec : ChangeSpec := { name := "backSeals", fn := fun _ => fun
  | [d] => { results := [.lit (.bool true)], args := [d] }
  | _ => none }
def backSealsRow : OpenClaim := { program := "ytejcknhmobnbeaa", sum := "f8b615bf8105b20325cd93167bcc8f89cb5d69e08bb20b605af44fbee38e8962", func := "pemmican/pemmicanlaw02.BackSeals", spec := "backSeals", apart := false }
def BackSealsSaid : Prop := backSealsRow.holds Try.pinned (OpenSpec.ofChange backSealsSpec)

/-- ITS FALSE NEIGHBOUR: 'it returns false'. Refute it at one input. -/
def backSealsWrong : ChangeSpec := { name := "backSeals", fn := fun _ => fun
  | [d] => { results := [.lit (.bool false)], args := [d] }
  | _ => none }
def BackSealsWrongFalsely : Prop := backSealsRow.holds Try.pinned (OpenSpec.ofChange backSealsWrong)

/-- 'pemmicanlaw02.BackTake': WHATEVER THE INPUT: true; the input reads as it did. -/
def backTakeSpec : ChangeSpec := { name := "backTake", fn := fun _ => fun
  | [d1, d2] => { results := [.lit (.bool true)], args := [d1, d2] }
  | _ => none }
def backTakeRow : OpenClaim := { program := "ytejcknhmobnbeaa", sum := "f8b615bf8105b20325cd93167bcc8f89cb5d69e08bb20b605af44fbee38e8962", func := "pemmican/pemmicanlaw02.BackTake", spec := "backTake", apart := false }
def BackTakeSaid : Prop := backTakeRow.holds Try.pinned (OpenSpec.ofChange backTakeSpec)

/-- ITS FALSE NEIGHBOUR: 'it returns false'. Refute it at one input. -/
def backTakeWrong : ChangeSpec := { name := "backTake", fn := fun _ => fun
  | [d1, d2] => { results := [.lit (.bool false)], args := [d1, d2] }
  | _ => none }
def BackTakeWrongFalsely : Prop := backTakeRow.holds Try.pinned (OpenSpec.ofChange backTakeWrong)

/-- 'pemmicanlaw02.BackOwn': WHATEVER THE INPUT: true; the input reads as it did. -/
def backOwnSpec : ChangeSpec := { name := "backOwn", fn := fun _ => fun
  | [d1, d2, d3] => { results := [.lit (.bool true)], args := [d1, d2, d3] }
  | _ => none }
def backOwnRow : OpenClaim := { program := "ytejcknhmobnbeaa", sum := "f8b615bf8105b20325cd93167bcc8f89cb5d69e08bb20b605af44fbee38e8962", func := "pemmican/pemmicanlaw02.BackOwn", spec := "backOwn", unfollowed := true, recurses := true, apart := false }
def BackOwnSaid : Prop := backOwnRow.holds Try.pinned (OpenSpec.ofChange backOwnSpec)

/-- ITS FALSE NEIGHBOUR: 'it returns false'. Refute it at one input. -/
def backOwnWrong : ChangeSpec := { name := "backOwn", fn := fun _ => fun
  | [d1, d2, d3] => { results := [.lit (.bool false)], args := [d1, d2, d3] }
  | _ => none }
def BackOwnWrongFalsely : Prop := backOwnRow.holds Try.pinned (OpenSpec.ofChange backOwnWrong)

/-- 'pemmicanlaw06.SpreadCells': WHATEVER THE INPUT: true; the input reads as it did. -/
def spreadCellsSpec : ChangeSpec := { name := "spreadCells", fn := fun _ => fun
  | [d1, d2, d3] => { results := [.lit (.bool true)], args := [d1, d2, d3] }
  | _ => none }
def spreadCellsRow : OpenClaim := { program := "ytejcknhmobnbeaa", sum := "f8b615bf8105b20325cd93167bcc8f89cb5d69e08bb20b605af44fbee38e8962", func := "pemmican/pemmicanlaw06.SpreadCells", spec := "spreadCells", apart := false }
def SpreadCellsSaid : Prop := spreadCellsRow.holds Try.pinned (OpenSpec.ofChange spreadCellsSpec)

/-- ITS FALSE NEIGHBOUR: 'it returns false'. Refute it at one input. -/
def spreadCellsWrong : ChangeSpec := { name := "spreadCells", fn := fun _ => fun
  | [d1, d2, d3] => { results := [.lit (.bool false)], args := [d1, d2, d3] }
  | _ => none }
def SpreadCellsWrongFalsely : Prop := spreadCellsRow.holds Try.pinned (OpenSpec.ofChange spreadCellsWrong)

/-- 'pemmicanlaw03.CursorReads': WHATEVER THE INPUT: true; the input reads as it did. -/
def cursorReadsSpec : ChangeSpec := { name := "cursorReads", fn := fun _ => fun
  | [d1, d2] => { results := [.lit (.bool true)], args := [d1, d2] }
  | _ => none }
def cursorReadsRow : OpenClaim := { program := "ytejcknhmobnbeaa", sum := "f8b615bf8105b20325cd93167bcc8f89cb5d69e08bb20b605af44fbee38e8962", func := "pemmican/pemmicanlaw03.CursorReads", spec := "cursorReads", unfollowed := true, recurses := true, apart := false }
def CursorReadsSaid : Prop := cursorReadsRow.holds Try.pinned (OpenSpec.ofChange cursorReadsSpec)

/-- ITS FALSE NEIGHBOUR: 'it returns false'. Refute it at one input. -/
def cursorReadsWrong : ChangeSpec := { name := "cursorReads", fn := fun _ => fun
  | [d1, d2] => { results := [.lit (.bool false)], args := [d1, d2] }
  | _ => none }
def CursorReadsWrongFalsely : Prop := cursorReadsRow.holds Try.pinned (OpenSpec.ofChange cursorReadsWrong)

/-- 'pemmicanlaw06.SpreadSteps': WHATEVER THE INPUT: true; the input reads as it did. -/
def spreadStepsSpec : ChangeSpec := { name := "spreadSteps", fn := fun _ => fun
  | [d1, d2, d3] => { results := [.lit (.bool true)], args := [d1, d2, d3] }
  | _ => none }
def spreadStepsRow : OpenClaim := { program := "ytejcknhmobnbeaa", sum := "f8b615bf8105b20325cd93167bcc8f89cb5d69e08bb20b605af44fbee38e8962", func := "pemmican/pemmicanlaw06.SpreadSteps", spec := "spreadSteps", apart := false }
def SpreadStepsSaid : Prop := spreadStepsRow.holds Try.pinned (OpenSpec.ofChange spreadStepsSpec)

/-- ITS FALSE NEIGHBOUR: 'it returns false'. Refute it at one input. -/
def spreadStepsWrong : ChangeSpec := { name := "spreadSteps", fn := fun _ => fun
  | [d1, d2, d3] => { results := [.lit (.bool false)], args := [d1, d2, d3] }
  | _ => none }
def SpreadStepsWrongFalsely : Prop := spreadStepsRow.holds Try.pinned (OpenSpec.ofChange spreadStepsWrong)

/-- 'pemmicanlaw03.CursorBack': WHATEVER THE INPUT: true; the input reads as it did. -/
def cursorBackSpec : ChangeSpec := { name := "cursorBack", fn := fun _ => fun
  | [d] => { results := [.lit (.bool true)], args := [d] }
  | _ => none }
def cursorBackRow : OpenClaim := { program := "ytejcknhmobnbeaa", sum := "f8b615bf8105b20325cd93167bcc8f89cb5d69e08bb20b605af44fbee38e8962", func := "pemmican/pemmicanlaw03.CursorBack", spec := "cursorBack", apart := false }
def CursorBackSaid : Prop := cursorBackRow.holds Try.pinned (OpenSpec.ofChange cursorBackSpec)

/-- ITS FALSE NEIGHBOUR: 'it returns false'. Refute it at one input. -/
def cursorBackWrong : ChangeSpec := { name := "cursorBack", fn := fun _ => fun
  | [d] => { results := [.lit (.bool false)], args := [d] }
  | _ => none }
def CursorBackWrongFalsely : Prop := cursorBackRow.holds Try.pinned (OpenSpec.ofChange cursorBackWrong)

/- THE SECOND FORM. 'bulk': how many values and letters a reading holds, each counted each time it is reached (what is shared counts as often as it is met; a slice's spare places count too). A statement '..UptoSaid' is the law's where the arguments, and the package variables that the reading takes, are together of bulk at most 1048576: NARROWER than '..Said'. Prove '..Said' where nothing that the law and all that it calls make is longer than what came in: it says more and counts as full. Else prove '..UptoSaid'. A law counts once. -/
mutual
def uptoBulk {H : Type} : DataW H → Nat
  | .lit (.string bytes) => bytes.length + 1
  | .lit _ => 1
  | .nil => 1
  | .ptr d => uptoBulk d + 1
  | .slice elems spare => uptoBulkAll elems + uptoBulkAll spare + 1
  | .agg parts => uptoBulkAll parts + 1
  | .iface _ d => uptoBulk d + 1
  | .map entries => uptoBulkEntries entries + 1
  | .held _ => 1
def uptoBulkAll {H : Type} : List (DataW H) → Nat
  | [] => 0
  | d :: r => uptoBulk d + uptoBulkAll r
def uptoBulkEntries {H : Type} : List (Lit × DataW H) → Nat
  | [] => 0
  | x :: r => uptoBulkEntry x + uptoBulkEntries r
def uptoBulkEntry {H : Type} : Lit × DataW H → Nat
  | (.string bytes, d) => bytes.length + uptoBulk d + 1
  | (_, d) => uptoBulk d + 1
 end
def uptoSmall : (H : Type) → List (DataW H) → Bool := fun _ ds => decide (uptoBulkAll ds ≤ 1048576)
def OpenSpec.upto (s : _root_.Go.ChangeSpec) : _root_.Go.OpenSpec := { _root_.Go.OpenSpec.ofChange s with cond := some uptoSmall }

/-- 'pemmicanlaw06.SpreadOnce', WHERE WHAT IT READS IS OF BULK AT MOST 1048576: true; the input reads as it did. -/
def spreadOnceUptoRow : OpenClaim := { program := "ytejcknhmobnbeaa", sum := "f8b615bf8105b20325cd93167bcc8f89cb5d69e08bb20b605af44fbee38e8962", func := "pemmican/pemmicanlaw06.SpreadOnce", spec := "spreadOnce", apart := false, narrowed := true }
def SpreadOnceUptoSaid : Prop := spreadOnceUptoRow.holds Try.pinned (OpenSpec.upto spreadOnceSpec)

/-- 'pemmicanlaw03.CursorGroups', WHERE WHAT IT READS IS OF BULK AT MOST 1048576: true; the input reads as it did. -/
def cursorGroupsUptoRow : OpenClaim := { program := "ytejcknhmobnbeaa", sum := "f8b615bf8105b20325cd93167bcc8f89cb5d69e08bb20b605af44fbee38e8962", func := "pemmican/pemmicanlaw03.CursorGroups", spec := "cursorGroups", apart := false, narrowed := true }
def CursorGroupsUptoSaid : Prop := cursorGroupsUptoRow.holds Try.pinned (OpenSpec.upto cursorGroupsSpec)

/-- 'pemmicanlaw02.BackSeals', WHERE WHAT IT READS IS OF BULK AT MOST 1048576: true; the input reads as it did. -/
def backSealsUptoRow : OpenClaim := { program := "ytejcknhmobnbeaa", sum := "f8b615bf8105b20325cd93167bcc8f89cb5d69e08bb20b605af44fbee38e8962", func := "pemmican/pemmicanlaw02.BackSeals", spec := "backSeals", apart := false, narrowed := true }
def BackSealsUptoSaid : Prop := backSealsUptoRow.holds Try.pinned (OpenSpec.upto backSealsSpec)

/-- 'pemmicanlaw02.BackTake', WHERE WHAT IT READS IS OF BULK AT MOST 1048576: true; the input reads as it did. -/
def backTakeUptoRow : OpenClaim := { program := "ytejcknhmobnbeaa", sum := "f8b615bf8105b20325cd93167bcc8f89cb5d69e08bb20b605af44fbee38e8962", func := "pemmican/pemmicanlaw02.BackTake", spec := "backTake", apart := false, narrowed := true }
def BackTakeUptoSaid : Prop := backTakeUptoRow.holds Try.pinned (OpenSpec.upto backTakeSpec)

/-- 'pemmicanlaw02.BackOwn', WHERE WHAT IT READS IS OF BULK AT MOST 1048576: true; the input reads as it did. -/
def backOwnUptoRow : OpenClaim := { program := "ytejcknhmobnbeaa", sum := "f8b615bf8105b20325cd93167bcc8f89cb5d69e08bb20b605af44fbee38e8962", func := "pemmican/pemmicanlaw02.BackOwn", spec := "backOwn", unfollowed := true, recurses := true, apart := false, narrowed := true }
def BackOwnUptoSaid : Prop := backOwnUptoRow.holds Try.pinned (OpenSpec.upto backOwnSpec)

/-- 'pemmicanlaw06.SpreadCells', WHERE WHAT IT READS IS OF BULK AT MOST 1048576: true; the input reads as it did. -/
def spreadCellsUptoRow : OpenClaim := { program := "ytejcknhmobnbeaa", sum := "f8b615bf8105b20325cd93167bcc8f89cb5d69e08bb20b605af44fbee38e8962", func := "pemmican/pemmicanlaw06.SpreadCells", spec := "spreadCells", apart := false, narrowed := true }
def SpreadCellsUptoSaid : Prop := spreadCellsUptoRow.holds Try.pinned (OpenSpec.upto spreadCellsSpec)

/-- 'pemmicanlaw03.CursorReads', WHERE WHAT IT READS IS OF BULK AT MOST 1048576: true; the input reads as it did. -/
def cursorReadsUptoRow : OpenClaim := { program := "ytejcknhmobnbeaa", sum := "f8b615bf8105b20325cd93167bcc8f89cb5d69e08bb20b605af44fbee38e8962", func := "pemmican/pemmicanlaw03.CursorReads", spec := "cursorReads", unfollowed := true, recurses := true, apart := false, narrowed := true }
def CursorReadsUptoSaid : Prop := cursorReadsUptoRow.holds Try.pinned (OpenSpec.upto cursorReadsSpec)

/-- 'pemmicanlaw06.SpreadSteps', WHERE WHAT IT READS IS OF BULK AT MOST 1048576: true; the input reads as it did. -/
def spreadStepsUptoRow : OpenClaim := { program := "ytejcknhmobnbeaa", sum := "f8b615bf8105b20325cd93167bcc8f89cb5d69e08bb20b605af44fbee38e8962", func := "pemmican/pemmicanlaw06.SpreadSteps", spec := "spreadSteps", apart := false, narrowed := true }
def SpreadStepsUptoSaid : Prop := spreadStepsUptoRow.holds Try.pinned (OpenSpec.upto spreadStepsSpec)

/-- 'pemmicanlaw03.CursorBack', WHERE WHAT IT READS IS OF BULK AT MOST 1048576: true; the input reads as it did. -/
def cursorBackUptoRow : OpenClaim := { program := "ytejcknhmobnbeaa", sum := "f8b615bf8105b20325cd93167bcc8f89cb5d69e08bb20b605af44fbee38e8962", func := "pemmican/pemmicanlaw03.CursorBack", spec := "cursorBack", apart := false, narrowed := true }
def CursorBackUptoSaid : Prop := cursorBackUptoRow.holds Try.pinned (OpenSpec.upto cursorBackSpec)

end Rows
end Go.Proofs.Ytejcknhmobnbeaa
