import Derived.Test.YtmkfebnahaembaaB6
import Derived.Test.YtmkfebnahaembaaAu
set_option maxRecDepth 100000
set_option linter.unusedSimpArgs false
set_option linter.unusedVariables false
namespace Go.X.Try
open Go.IntWalk
theorem KK5 : ∃ m, KK = m + 5 := ⟨KK - 5, by rw [KK_eq]⟩
theorem loopN_succ {body : St → Option (Ex × St)} {live : List Nat} {k : Nat} {st : St} : loopN body live (k + 1) st = thenC (loopN body live k) (body (st.head live)) := rfl
theorem f60 (x : Int) : F60 [.one (.int .i64 x)] [] = some (.one (.bool (decide (1 ≤ x ∧ x ≤ 65533))), []) := by
  by_cases h1 : 1 ≤ x
  · by_cases h2 : x ≤ 65533
    · simp -implicitDefEqProofs [F60, c60, upd, h1, h2]
    · simp -implicitDefEqProofs [F60, c60, upd, h1, h2]
  · simp -implicitDefEqProofs [F60, c60, upd, h1]
def idxOf (a b c x : Int) : Int := if x = a then 0 else if x = b then 1 else if x = c then 2 else -1
theorem f61 (t : Nat) (a b c x : Int) : F61 [.one (.ro t (.ints .i64 [a, b, c])), .one (.int .i64 x)] [] = some (.one (.int .i64 (idxOf a b c x)), []) := by
  obtain ⟨m, hm⟩ := KK5
  have w1 : IntKind.i64.wrap 1 = 1 := by decide
  have w2 : IntKind.i64.wrap 2 = 2 := by decide
  have w3 : IntKind.i64.wrap 3 = 3 := by decide
  unfold F61
  rw [hm]
  by_cases h1 : x = a
  · simp -implicitDefEqProofs [c61, b61x0, upd, loopN_succ, h1, idxOf]
  · by_cases h2 : x = b
    · simp -implicitDefEqProofs [c61, b61x0, upd, loopN_succ, h1, h2, idxOf, w1]
      all_goals (first | done | (subst h2; simp -implicitDefEqProofs [h1]))
    · by_cases h3 : x = c
      · simp -implicitDefEqProofs [c61, b61x0, upd, loopN_succ, h1, h2, h3, idxOf, w1, w2]
        all_goals (first | done | (subst h3; simp -implicitDefEqProofs [h1, h2]))
      · simp -implicitDefEqProofs [c61, b61x0, upd, loopN_succ, h1, h2, h3, idxOf, w1, w2, w3]
def fr (a b c x : Int) (i : Int) : List SV := [.int .i64 x, .int .i64 (if i = 0 then b else a), .int .i64 (if i ≤ 1 then c else b)]
theorem f62a (a b c x : Int) : F62 [.agg [.int .i64 a, .int .i64 b, .int .i64 c], .one (.int .i64 0), .one (.int .i64 x)] [] = some (.agg [.int .i64 x, .int .i64 b, .int .i64 c], []) := by
  simp -implicitDefEqProofs [F62, c62, upd]
theorem f62b (a b c x : Int) : F62 [.agg [.int .i64 a, .int .i64 b, .int .i64 c], .one (.int .i64 1), .one (.int .i64 x)] [] = some (.agg [.int .i64 x, .int .i64 a, .int .i64 c], []) := by
  simp -implicitDefEqProofs [F62, c62, upd]
theorem f62c (a b c x : Int) : F62 [.agg [.int .i64 a, .int .i64 b, .int .i64 c], .one (.int .i64 2), .one (.int .i64 x)] [] = some (.agg [.int .i64 x, .int .i64 a, .int .i64 b], []) := by
  simp -implicitDefEqProofs [F62, c62, upd]
theorem f62d (a b c x : Int) : F62 [.agg [.int .i64 a, .int .i64 b, .int .i64 c], .one (.int .i64 3), .one (.int .i64 x)] [] = some (.agg [.int .i64 x, .int .i64 a, .int .i64 b], []) := by
  simp -implicitDefEqProofs [F62, c62, upd]
end Go.X.Try
