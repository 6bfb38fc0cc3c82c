/-
  No cell of these rows narrows 'for every input' (looked for: loops, veiled, ifaces, maps, wideKeys, modest, calm, conditions, laid).
  DERIVED. THE GIVEN ROWS OF THIS SEAT. 6 by the template 'for every input the law returns true; each argument reads behind the call as it read before'; 0 by the template 'total and deterministic' (their statements: YtemhdllnhgefkaaTotals.lean).
  GIVEN WITH THE SEED: the statements are not yours to turn. If you find one false, say at which input.
  Laid BY PROGRAM, IN A SANDBOX (cutbox-rows.mjs): the forced cells as the released guide's own fill.sh prints them over the translation ffb0372a608844dd… (all of the seat's roots in one cut). By AI agents, Wed Nov 11 2026. No macro, syntax, notation, axiom, sorry.
-/
import Derived.Test.YtemhdllnhgefkaaChecked
import GoSem.Claim
import GoSem.ClaimJoined
import GoSem.ClaimMapViews
import Derived.JoinedTies
import Derived.KernelRfl
namespace Go.Proofs.Ytemhdllnhgefkaa
/- THE CELL 'sum', in the pinned program and in every row, IS THE sha256 OF THE DUMP (.gsa) THAT YtemhdllnhgefkaaProg.lean LOADS. Nothing in Lean hashes anything: it is a label: what it is worth is what the hold of that sum in a sandbox is worth. -/
noncomputable def Try.pinned : Pinned := { name := "ytemhdllnhgefkaa", sum := "ffb0372a608844dd32ba1a80148b75610267b40abb6f3bc2bc20c4492c4aaadd", checked := Try.checked }
namespace Rows
def none {H : Type} : Left H := { results := [], args := [] }

/-- 'pemmicanlaw37.JournalAny': WHATEVER THE INPUT: true; the input reads as it did. -/
def journalAnySpec : ChangeSpec := { name := "journalAny", fn := fun _ => fun
  | [d1, d2] => { results := [.lit (.bool true)], args := [d1, d2] }
  | _ => none }
def journalAnyRow : OpenClaim := { program := "ytemhdllnhgefkaa", sum := "ffb0372a608844dd32ba1a80148b75610267b40abb6f3bc2bc20c4492c4aaadd", func := "pemmican/pemmicanlaw37.JournalAny", spec := "journalAny", inPlace := ["internal/abi.NoEscape"], apart := false }
def JournalAnySaid : Prop := journalAnyRow.holds Try.pinned (OpenSpec.ofChange journalAnySpec)

/-- ITS FALSE NEIGHBOUR: 'it returns false'. Refute it at one input. -/
def journalAnyWrong : ChangeSpec := { name := "journalAny", fn := fun _ => fun
  | [d1, d2] => { results := [.lit (.bool false)], args := [d1, d2] }
  | _ => none }
def JournalAnyWrongFalsely : Prop := journalAnyRow.holds Try.pinned (OpenSpec.ofChange journalAnyWrong)

/-- 'pemmicanlaw07.FseAny': WHATEVER THE INPUT: true; the input reads as it did. -/
def fseAnySpec : ChangeSpec := { name := "fseAny", fn := fun _ => fun
  | [d1, d2, d3] => { results := [.lit (.bool true)], args := [d1, d2, d3] }
  | _ => none }
def fseAnyRow : OpenClaim := { program := "ytemhdllnhgefkaa", sum := "ffb0372a608844dd32ba1a80148b75610267b40abb6f3bc2bc20c4492c4aaadd", func := "pemmican/pemmicanlaw07.FseAny", spec := "fseAny", unfollowed := true, recurses := true, apart := false }
def FseAnySaid : Prop := fseAnyRow.holds Try.pinned (OpenSpec.ofChange fseAnySpec)

/-- ITS FALSE NEIGHBOUR: 'it returns false'. Refute it at one input. -/
def fseAnyWrong : ChangeSpec := { name := "fseAny", fn := fun _ => fun
  | [d1, d2, d3] => { results := [.lit (.bool false)], args := [d1, d2, d3] }
  | _ => none }
def FseAnyWrongFalsely : Prop := fseAnyRow.holds Try.pinned (OpenSpec.ofChange fseAnyWrong)

/-- 'pemmicanlaw37.JournalTears': WHATEVER THE INPUT: true; the input reads as it did. -/
def journalTearsSpec : ChangeSpec := { name := "journalTears", fn := fun _ => fun
  | [d1, d2, d3] => { results := [.lit (.bool true)], args := [d1, d2, d3] }
  | _ => none }
def journalTearsRow : OpenClaim := { program := "ytemhdllnhgefkaa", sum := "ffb0372a608844dd32ba1a80148b75610267b40abb6f3bc2bc20c4492c4aaadd", func := "pemmican/pemmicanlaw37.JournalTears", spec := "journalTears", inPlace := ["internal/abi.NoEscape"], apart := false }
def JournalTearsSaid : Prop := journalTearsRow.holds Try.pinned (OpenSpec.ofChange journalTearsSpec)

/-- ITS FALSE NEIGHBOUR: 'it returns false'. Refute it at one input. -/
def journalTearsWrong : ChangeSpec := { name := "journalTears", fn := fun _ => fun
  | [d1, d2, d3] => { results := [.lit (.bool false)], args := [d1, d2, d3] }
  | _ => none }
def JournalTearsWrongFalsely : Prop := journalTearsRow.holds Try.pinned (OpenSpec.ofChange journalTearsWrong)

/-- 'pemmicanlaw07.FseBack': WHATEVER THE INPUT: true; the input reads as it did. -/
def fseBackSpec : ChangeSpec := { name := "fseBack", fn := fun _ => fun
  | [d1, d2, d3] => { results := [.lit (.bool true)], args := [d1, d2, d3] }
  | _ => none }
def fseBackRow : OpenClaim := { program := "ytemhdllnhgefkaa", sum := "ffb0372a608844dd32ba1a80148b75610267b40abb6f3bc2bc20c4492c4aaadd", func := "pemmican/pemmicanlaw07.FseBack", spec := "fseBack", unfollowed := true, recurses := true, apart := false }
def FseBackSaid : Prop := fseBackRow.holds Try.pinned (OpenSpec.ofChange fseBackSpec)

/-- ITS FALSE NEIGHBOUR: 'it returns false'. Refute it at one input. -/
def fseBackWrong : ChangeSpec := { name := "fseBack", fn := fun _ => fun
  | [d1, d2, d3] => { results := [.lit (.bool false)], args := [d1, d2, d3] }
  | _ => none }
def FseBackWrongFalsely : Prop := fseBackRow.holds Try.pinned (OpenSpec.ofChange fseBackWrong)

/-- 'pemmicanlaw37.JournalAdds': WHATEVER THE INPUT: true; the input reads as it did. -/
def journalAddsSpec : ChangeSpec := { name := "journalAdds", fn := fun _ => fun
  | [d1, d2] => { results := [.lit (.bool true)], args := [d1, d2] }
  | _ => none }
def journalAddsRow : OpenClaim := { program := "ytemhdllnhgefkaa", sum := "ffb0372a608844dd32ba1a80148b75610267b40abb6f3bc2bc20c4492c4aaadd", func := "pemmican/pemmicanlaw37.JournalAdds", spec := "journalAdds", inPlace := ["internal/abi.NoEscape"], apart := false }
def JournalAddsSaid : Prop := journalAddsRow.holds Try.pinned (OpenSpec.ofChange journalAddsSpec)

/-- ITS FALSE NEIGHBOUR: 'it returns false'. Refute it at one input. -/
def journalAddsWrong : ChangeSpec := { name := "journalAdds", fn := fun _ => fun
  | [d1, d2] => { results := [.lit (.bool false)], args := [d1, d2] }
  | _ => none }
def JournalAddsWrongFalsely : Prop := journalAddsRow.holds Try.pinned (OpenSpec.ofChange journalAddsWrong)

/-- 'pemmicanlaw07.FseShares': WHATEVER THE INPUT: true; the input reads as it did. -/
def fseSharesSpec : ChangeSpec := { name := "fseShares", fn := fun _ => fun
  | [d] => { results := [.lit (.bool true)], args := [d] }
  | _ => none }
def fseSharesRow : OpenClaim := { program := "ytemhdllnhgefkaa", sum := "ffb0372a608844dd32ba1a80148b75610267b40abb6f3bc2bc20c4492c4aaadd", func := "pemmican/pemmicanlaw07.FseShares", spec := "fseShares", unfollowed := true, recurses := true, apart := false }
def FseSharesSaid : Prop := fseSharesRow.holds Try.pinned (OpenSpec.ofChange fseSharesSpec)

/-- ITS FALSE NEIGHBOUR: 'it returns false'. Refute it at one input. -/
def fseSharesWrong : ChangeSpec := { name := "fseShares", fn := fun _ => fun
  | [d] => { results := [.lit (.bool false)], args := [d] }
  | _ => none }
def FseSharesWrongFalsely : Prop := fseSharesRow.holds Try.pinned (OpenSpec.ofChange fseSharesWrong)

/- THE SECOND FORM. 'bulk': how many values and letters a reading holds, each counted each time it is reached (what is shared counts as often as it is met; a slice's spare places count too). A statement '..UptoSaid' is the law's where the arguments, and the package variables that the reading takes, are together of bulk at most 1048576: NARROWER than '..Said'. Prove '..Said' where nothing that the law and all that it calls make is longer than what came in: it says more and counts as full. Else prove '..UptoSaid'. A law counts once. -/
mutual
def uptoBulk {H : Type} : DataW H → Nat
  | .lit (.string bytes) => bytes.length + 1
  | .lit _ => 1
  | .nil => 1
  | .ptr d => uptoBulk d + 1
  | .slice elems spare => uptoBulkAll elems + uptoBulkAll spare + 1
  | .agg parts => uptoBulkAll parts + 1
  | .iface _ d => uptoBulk d + 1
  | .map entries => uptoBulkEntries entries + 1
  | .held _ => 1
def uptoBulkAll {H : Type} : List (DataW H) → Nat
  | [] => 0
  | d :: r => uptoBulk d + uptoBulkAll r
def uptoBulkEntries {H : Type} : List (Lit × DataW H) → Nat
  | [] => 0
  | x :: r => uptoBulkEntry x + uptoBulkEntries r
def uptoBulkEntry {H : Type} : Lit × DataW H → Nat
  | (.string bytes, d) => bytes.length + uptoBulk d + 1
  | (_, d) => uptoBulk d + 1
 end
def uptoSmall : (H : Type) → List (DataW H) → Bool := fun _ ds => decide (uptoBulkAll ds ≤ 1048576)
def OpenSpec.upto (s : _root_.Go.ChangeSpec) : _root_.Go.OpenSpec := { _root_.Go.OpenSpec.ofChange s with cond := some uptoSmall }

/-- 'pemmicanlaw37.JournalAny', WHERE WHAT IT READS IS OF BULK AT MOST 1048576: true; the input reads as it did. -/
def journalAnyUptoRow : OpenClaim := { program := "ytemhdllnhgefkaa", sum := "ffb0372a608844dd32ba1a80148b75610267b40abb6f3bc2bc20c4492c4aaadd", func := "pemmican/pemmicanlaw37.JournalAny", spec := "journalAny", inPlace := ["internal/abi.NoEscape"], apart := false, narrowed := true }
def JournalAnyUptoSaid : Prop := journalAnyUptoRow.holds Try.pinned (OpenSpec.upto journalAnySpec)

/-- 'pemmicanlaw07.FseAny', WHERE WHAT IT READS IS OF BULK AT MOST 1048576: true; the input reads as it did. -/
def fseAnyUptoRow : OpenClaim := { program := "ytemhdllnhgefkaa", sum := "ffb0372a608844dd32ba1a80148b75610267b40abb6f3bc2bc20c4492c4aaadd", func := "pemmican/pemmicanlaw07.FseAny", spec := "fseAny", unfollowed := true, recurses := true, apart := false, narrowed := true }
def FseAnyUptoSaid : Prop := fseAnyUptoRow.holds Try.pinned (OpenSpec.upto fseAnySpec)

/-- 'pemmicanlaw37.JournalTears', WHERE WHAT IT READS IS OF BULK AT MOST 1048576: true; the input reads as it did. -/
def journalTearsUptoRow : OpenClaim := { program := "ytemhdllnhgefkaa", sum := "ffb0372a608844dd32ba1a80148b75610267b40abb6f3bc2bc20c4492c4aaadd", func := "pemmican/pemmicanlaw37.JournalTears", spec := "journalTears", inPlace := ["internal/abi.NoEscape"], apart := false, narrowed := true }
def JournalTearsUptoSaid : Prop := journalTearsUptoRow.holds Try.pinned (OpenSpec.upto journalTearsSpec)

/-- 'pemmicanlaw07.FseBack', WHERE WHAT IT READS IS OF BULK AT MOST 1048576: true; the input reads as it did. -/
def fseBackUptoRow : OpenClaim := { program := "ytemhdllnhgefkaa", sum := "ffb0372a608844dd32ba1a80148b75610267b40abb6f3bc2bc20c4492c4aaadd", func := "pemmican/pemmicanlaw07.FseBack", spec := "fseBack", unfollowed := true, recurses := true, apart := false, narrowed := true }
def FseBackUptoSaid : Prop := fseBackUptoRow.holds Try.pinned (OpenSpec.upto fseBackSpec)

/-- 'pemmicanlaw37.JournalAdds', WHERE WHAT IT READS IS OF BULK AT MOST 1048576: true; the input reads as it did. -/
def journalAddsUptoRow : OpenClaim := { program := "ytemhdllnhgefkaa", sum := "ffb0372a608844dd32ba1a80148b75610267b40abb6f3bc2bc20c4492c4aaadd", func := "pemmican/pemmicanlaw37.JournalAdds", spec := "journalAdds", inPlace := ["internal/abi.NoEscape"], apart := false, narrowed := true }
def JournalAddsUptoSaid : Prop := journalAddsUptoRow.holds Try.pinned (OpenSpec.upto journalAddsSpec)

/-- 'pemmicanlaw07.FseShares', WHERE WHAT IT READS IS OF BULK AT MOST 1048576: true; the input reads as it did. -/
def fseSharesUptoRow : OpenClaim := { program := "ytemhdllnhgefkaa", sum := "ffb0372a608844dd32ba1a80148b75610267b40abb6f3bc2bc20c4492c4aaadd", func := "pemmican/pemmicanlaw07.FseShares", spec := "fseShares", unfollowed := true, recurses := true, apart := false, narrowed := true }
def FseSharesUptoSaid : Prop := fseSharesUptoRow.holds Try.pinned (OpenSpec.upto fseSharesSpec)

end Rows
end Go.Proofs.Ytemhdllnhgefkaa
