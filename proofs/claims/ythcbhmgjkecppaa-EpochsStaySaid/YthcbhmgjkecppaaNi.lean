import Derived.Test.YthcbhmgjkecppaaNh
set_option maxRecDepth 100000
set_option linter.unusedSimpArgs false
set_option linter.unusedVariables false
namespace Go.X.Try
open Go.IntWalk
/-! ### one deed -/
def canon7 (L : List (List Sc)) (last : Int) (E : List En) (R : List Rf) (i : Nat) : St := ⟨[(3, .one (.ptr 0 0)), (4, .one (.ptr 2 0)), (25, .one (.ro 0 (.recs 3 L))), (26, .one (.int .i64 L.length)), (27, .one (.int .i64 i))], [.ro 0 (.recs 3 L)],
  [.cells none [.row 1, .int .i64 last], .rows none (.recs 3 (E.map En.sc)), .cells none [.row 3, .row 4, .row 5], .rows none (.strs (R.map Rf.tx)), .rows none (.bools (R.map Rf.th)), .rows none (.ints .i64 (R.map Rf.hd))]⟩
/-- What the questions behind a deed are answered. -/
structure Ask (e last : Int) (E : List En) (R : List Rf) (b : Bool) (tx : ByteArray) (hd : Int) : Prop where
  a41 : F41 [.one (.ptr 0 0), .one (.int .i64 e)] (stR (some 0) R) = some (.one (.bool b), stR (some 0) R)
  a21 : F21 [.one (.ptr 0 0), .one (.int .i64 e)] (stE (some 0) last E) = some (.tup [.one (.str tx), .one (.bool b)], stE (some 0) last E)
  a44 : F44 [.one (.ptr 0 0), .one (.int .i64 e)] (stE (some 0) last E) = some (.one (.int .i64 hd), stE (some 0) last E)
  a22 : F22 [.one (.ptr 0 0)] (stE (some 0) last E) = some (.one (.row 2), stE (some 0) last E ++ [.rows none (.ints .i64 (allR 1 R))])
  a46 : F46 [.one (.ptr 0 0)] (stR (some 0) R) = some (.one (.row 4), stR (some 0) R ++ [.rows none (.ints .i64 (allR 1 R))])
  a45 : F45 [.one (.ro 0 (.ints .i64 (allR 1 R))), .one (.ro 1 (.ints .i64 (allR 1 R)))] [] = some (.one (.bool true), [])
  len : last = R.length
set_option maxHeartbeats 4000000
theorem b7add_n (L : List (List Sc)) (i : Nat) (kd e : Int) (t : ByteArray) (last last' n x : Int) (E E' : List En) (R R' : List Rf) (b0 : Bool) (hi : i < L.length) (hL : L.length ≤ 80) (hd : L[i]?.getD [] = [.int .u8 kd, .int .i64 e, .str t]) (ht : t.size ≤ 300) (hk : kd.tmod 3 = 0)
    (h41 : F41 [.one (.ptr 0 0), .one (.int .i64 e)] (stR (some 0) R) = some (.one (.bool b0), stR (some 0) R))
    (h19 : F19 [.one (.ptr 0 0), .one (.str t)] (stE (some 0) last E) = some (.tup [.one (.int .i64 n), .one (.int .i64 x)], stE (some 0) last' E'))
    (h42 : F42 [.one (.ptr 0 0), .one (.str t)] (stR (some 0) R) = some (.tup [.one (.int .i64 n), .one (.int .i64 x)], stR (some 0) R'))
    (A : Ask e last' E' R' false ⟨#[]⟩ 0) : ∃ st1, evC T7 KK b7x0 (canon7 L last E R i) = some (.norm, st1) ∧ St.head [3, 4, 25, 26, 27] st1 = canon7 L last' E' R' (i + 1) := by
  have hii : (i : Int) < L.length := by omega
  have w : IntKind.i64.wrap ((i : Int) + 1) = i + 1 := i64_in _ (by omega)
  have e0 : (RC.recs 3 L).elem i = [.int .u8 kd, .int .i64 e, .str t] := by simpa [RC.elem, List.getD] using hd
  have hts : ¬ ((300 : Int) < t.size) := by omega
  obtain ⟨a41, a21, a44, a22, a46, a45, rfl⟩ := A
  have f23 := fun E => f23 (R'.length : Int) E
  simp only [stE, stR, List.cons_append, List.nil_append] at h41 h19 h42 a41 a21 a44 a22 a46 f23
  simp -implicitDefEqProofs [b7x0, canon7, upd, hi, hii, w, RC.len, RC.size, e0, takeE, hts, hk, h41, h19, h42, a41, a21, a44, a22, a46, a45, f23, RC.get]
end Go.X.Try
