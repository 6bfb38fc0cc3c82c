import Derived.Test.YthcbhmgjkecppaaEc
import Derived.Test.YthcbhmgjkecppaaAx
set_option maxRecDepth 100000
set_option linter.unusedSimpArgs false
namespace Go.X.Try
open Go.IntWalk
@[simp ↓ high] theorem lenOf_slv_none' (hp : List Ob) (k : Nat) : lenOf hp (slv k none) = lenAt hp[k]? := rfl
@[simp ↓ high] theorem lenOf_slv_some' (hp : List Ob) (k o n : Nat) : lenOf hp (slv k (some (o, n))) = some n := rfl
theorem holds0 : Holds [] 0 0 := ⟨by simp [isB], rfl, rfl, by omega⟩
theorem holds13 {bs : List Int} (h : Holds bs 4 13) : bs = [13] := by
  obtain ⟨hB, hl, hv, _⟩ := h
  match bs, hl with
  | [b], _ =>
    have := hB b (by simp)
    simp only [leB] at hv
    have : b = 13 := by omega
    rw [this]
abbrev rts5 (bs L : List Int) : List SV := [.ro 0 (.ints .u8 bs), .ro 1 (.ints .i64 L)]
def canon5 (bs L : List Int) (i : Int) (sa : Option (Nat × Nat)) (A : List Int) (at_ : Int) : St :=
  ⟨[(5, .one (.ptr 0 0)), (6, .one (slv 2 sa)), (25, .one (.ro 1 (.ints .i64 L))), (26, .one (.int .i64 L.length)), (27, .one (.int .i64 i))], rts5 bs L, [.cells none [.row 1, .int .i64 at_], .rows (.ints .u8 bs), .rows (.ints .i64 A)]⟩
end Go.X.Try
