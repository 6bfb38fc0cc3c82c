/-
  No cell of these rows narrows 'for every input' (looked for: loops, veiled, ifaces, maps, wideKeys, modest, calm, conditions, laid).
  DERIVED. THE GIVEN ROWS OF THIS SEAT. 3 by the template 'for every input the law returns true; each argument reads behind the call as it read before'; 0 by the template 'total and deterministic' (their statements: YtnbmmdkcmgdpdaaTotals.lean).
  GIVEN WITH THE SEED: the statements are not yours to turn. If you find one false, say at which input.
  Laid BY PROGRAM, IN A SANDBOX (cutbox-rows.mjs): the forced cells as the released guide's own fill.sh prints them over the translation ff01a2c31e0c1d3b… (all of the seat's roots in one cut). By AI agents, Wed Nov 11 2026. No macro, syntax, notation, axiom, sorry.
-/
import Derived.Test.YtnbmmdkcmgdpdaaChecked
import GoSem.Claim
import GoSem.ClaimJoined
import GoSem.ClaimMapViews
import Derived.JoinedTies
import Derived.KernelRfl
namespace Go.Proofs.Ytnbmmdkcmgdpdaa
/- THE CELL 'sum', in the pinned program and in every row, IS THE sha256 OF THE DUMP (.gsa) THAT YtnbmmdkcmgdpdaaProg.lean LOADS. Nothing in Lean hashes anything: it is a label: what it is worth is what the hold of that sum in a sandbox is worth. -/
noncomputable def Try.pinned : Pinned := { name := "ytnbmmdkcmgdpdaa", sum := "ff01a2c31e0c1d3bf8812c3a9e48a43b2267c058c9b72efd401fc28de2debe08", checked := Try.checked }
namespace Rows
def none {H : Type} : Left H := { results := [], args := [] }

/-- 'pemmicanlaw42.SuffixOrder': WHATEVER THE INPUT: true; the input reads as it did. -/
def suffixOrderSpec : ChangeSpec := { name := "suffixOrder", fn := fun _ => fun
  | [d1, d2] => { results := [.lit (.bool true)], args := [d1, d2] }
  | _ => none }
def suffixOrderRow : OpenClaim := { program := "ytnbmmdkcmgdpdaa", sum := "ff01a2c31e0c1d3bf8812c3a9e48a43b2267c058c9b72efd401fc28de2debe08", func := "pemmican/pemmicanlaw42.SuffixOrder", spec := "suffixOrder", inPlace := ["internal/bytealg.abigen_runtime_cmpstring"], unfollowed := true, recurses := true, apart := false }
def SuffixOrderSaid : Prop := suffixOrderRow.holds Try.pinned (OpenSpec.ofChange suffixOrderSpec)

/-- ITS FALSE NEIGHBOUR: 'it returns false'. Refute it at one input. -/
def suffixOrderWrong : ChangeSpec := { name := "suffixOrder", fn := fun _ => fun
  | [d1, d2] => { results := [.lit (.bool false)], args := [d1, d2] }
  | _ => none }
def SuffixOrderWrongFalsely : Prop := suffixOrderRow.holds Try.pinned (OpenSpec.ofChange suffixOrderWrong)

/-- 'pemmicanlaw42.SuffixFinds': WHATEVER THE INPUT: true; the input reads as it did. -/
def suffixFindsSpec : ChangeSpec := { name := "suffixFinds", fn := fun _ => fun
  | [d1, d2] => { results := [.lit (.bool true)], args := [d1, d2] }
  | _ => none }
def suffixFindsRow : OpenClaim := { program := "ytnbmmdkcmgdpdaa", sum := "ff01a2c31e0c1d3bf8812c3a9e48a43b2267c058c9b72efd401fc28de2debe08", func := "pemmican/pemmicanlaw42.SuffixFinds", spec := "suffixFinds", inPlace := ["internal/bytealg.abigen_runtime_cmpstring"], unfollowed := true, recurses := true, apart := false }
def SuffixFindsSaid : Prop := suffixFindsRow.holds Try.pinned (OpenSpec.ofChange suffixFindsSpec)

/-- ITS FALSE NEIGHBOUR: 'it returns false'. Refute it at one input. -/
def suffixFindsWrong : ChangeSpec := { name := "suffixFinds", fn := fun _ => fun
  | [d1, d2] => { results := [.lit (.bool false)], args := [d1, d2] }
  | _ => none }
def SuffixFindsWrongFalsely : Prop := suffixFindsRow.holds Try.pinned (OpenSpec.ofChange suffixFindsWrong)

/-- 'pemmicanlaw42.SuffixLongest': WHATEVER THE INPUT: true; the input reads as it did. -/
def suffixLongestSpec : ChangeSpec := { name := "suffixLongest", fn := fun _ => fun
  | [d1, d2] => { results := [.lit (.bool true)], args := [d1, d2] }
  | _ => none }
def suffixLongestRow : OpenClaim := { program := "ytnbmmdkcmgdpdaa", sum := "ff01a2c31e0c1d3bf8812c3a9e48a43b2267c058c9b72efd401fc28de2debe08", func := "pemmican/pemmicanlaw42.SuffixLongest", spec := "suffixLongest", inPlace := ["internal/bytealg.abigen_runtime_cmpstring"], unfollowed := true, recurses := true, apart := false }
def SuffixLongestSaid : Prop := suffixLongestRow.holds Try.pinned (OpenSpec.ofChange suffixLongestSpec)

/-- ITS FALSE NEIGHBOUR: 'it returns false'. Refute it at one input. -/
def suffixLongestWrong : ChangeSpec := { name := "suffixLongest", fn := fun _ => fun
  | [d1, d2] => { results := [.lit (.bool false)], args := [d1, d2] }
  | _ => none }
def SuffixLongestWrongFalsely : Prop := suffixLongestRow.holds Try.pinned (OpenSpec.ofChange suffixLongestWrong)

/- THE SECOND FORM. 'bulk': how many values and letters a reading holds, each counted each time it is reached (what is shared counts as often as it is met; a slice's spare places count too). A statement '..UptoSaid' is the law's where the arguments, and the package variables that the reading takes, are together of bulk at most 1048576: NARROWER than '..Said'. Prove '..Said' where nothing that the law and all that it calls make is longer than what came in: it says more and counts as full. Else prove '..UptoSaid'. A law counts once. -/
mutual
def uptoBulk {H : Type} : DataW H → Nat
  | .lit (.string bytes) => bytes.length + 1
  | .lit _ => 1
  | .nil => 1
  | .ptr d => uptoBulk d + 1
  | .slice elems spare => uptoBulkAll elems + uptoBulkAll spare + 1
  | .agg parts => uptoBulkAll parts + 1
  | .iface _ d => uptoBulk d + 1
  | .map entries => uptoBulkEntries entries + 1
  | .held _ => 1
def uptoBulkAll {H : Type} : List (DataW H) → Nat
  | [] => 0
  | d :: r => uptoBulk d + uptoBulkAll r
def uptoBulkEntries {H : Type} : List (Lit × DataW H) → Nat
  | [] => 0
  | x :: r => uptoBulkEntry x + uptoBulkEntries r
def uptoBulkEntry {H : Type} : Lit × DataW H → Nat
  | (.string bytes, d) => bytes.length + uptoBulk d + 1
  | (_, d) => uptoBulk d + 1
 end
def uptoSmall : (H : Type) → List (DataW H) → Bool := fun _ ds => decide (uptoBulkAll ds ≤ 1048576)
def OpenSpec.upto (s : _root_.Go.ChangeSpec) : _root_.Go.OpenSpec := { _root_.Go.OpenSpec.ofChange s with cond := some uptoSmall }

/-- 'pemmicanlaw42.SuffixOrder', WHERE WHAT IT READS IS OF BULK AT MOST 1048576: true; the input reads as it did. -/
def suffixOrderUptoRow : OpenClaim := { program := "ytnbmmdkcmgdpdaa", sum := "ff01a2c31e0c1d3bf8812c3a9e48a43b2267c058c9b72efd401fc28de2debe08", func := "pemmican/pemmicanlaw42.SuffixOrder", spec := "suffixOrder", inPlace := ["internal/bytealg.abigen_runtime_cmpstring"], unfollowed := true, recurses := true, apart := false, narrowed := true }
def SuffixOrderUptoSaid : Prop := suffixOrderUptoRow.holds Try.pinned (OpenSpec.upto suffixOrderSpec)

/-- 'pemmicanlaw42.SuffixFinds', WHERE WHAT IT READS IS OF BULK AT MOST 1048576: true; the input reads as it did. -/
def suffixFindsUptoRow : OpenClaim := { program := "ytnbmmdkcmgdpdaa", sum := "ff01a2c31e0c1d3bf8812c3a9e48a43b2267c058c9b72efd401fc28de2debe08", func := "pemmican/pemmicanlaw42.SuffixFinds", spec := "suffixFinds", inPlace := ["internal/bytealg.abigen_runtime_cmpstring"], unfollowed := true, recurses := true, apart := false, narrowed := true }
def SuffixFindsUptoSaid : Prop := suffixFindsUptoRow.holds Try.pinned (OpenSpec.upto suffixFindsSpec)

/-- 'pemmicanlaw42.SuffixLongest', WHERE WHAT IT READS IS OF BULK AT MOST 1048576: true; the input reads as it did. -/
def suffixLongestUptoRow : OpenClaim := { program := "ytnbmmdkcmgdpdaa", sum := "ff01a2c31e0c1d3bf8812c3a9e48a43b2267c058c9b72efd401fc28de2debe08", func := "pemmican/pemmicanlaw42.SuffixLongest", spec := "suffixLongest", inPlace := ["internal/bytealg.abigen_runtime_cmpstring"], unfollowed := true, recurses := true, apart := false, narrowed := true }
def SuffixLongestUptoSaid : Prop := suffixLongestUptoRow.holds Try.pinned (OpenSpec.upto suffixLongestSpec)

end Rows
end Go.Proofs.Ytnbmmdkcmgdpdaa
