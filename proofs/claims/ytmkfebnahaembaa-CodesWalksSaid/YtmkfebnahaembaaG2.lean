import Derived.Test.YtmkfebnahaembaaG1
set_option maxRecDepth 100000
set_option linter.unusedSimpArgs false
set_option linter.unusedVariables false
namespace Go.X.Try
open Go.IntWalk
abbrev R3 (a b c : Int) : AV := .agg [.int .i64 a, .int .i64 b, .int .i64 c]
def num (a b c x : Int) : Int := if x = a then 0 else if x = b then 1 else if x = c then 2 else x + 2
def beh (a b c x : Int) : AV := if x = a then R3 x b c else if x = b then R3 x a c else R3 x a b
theorem f49n (a b c x : Int) (h : ¬ (1 ≤ x ∧ x ≤ 65533)) : F49 [R3 a b c, .one (.int .i64 x)] [] = some (.tup [.one (.int .i64 0), R3 a b c, .one (.bool false)], []) := by
  simp -implicitDefEqProofs [F49, c49, upd, f60, h]
theorem f49 (a b c x : Int) (h : 1 ≤ x ∧ x ≤ 65533) : F49 [R3 a b c, .one (.int .i64 x)] [] = some (.tup [.one (.int .i64 (num a b c x)), beh a b c x, .one (.bool true)], []) := by
  have w0 : IntKind.i64.wrap (x + 3) = x + 3 := IntWalk.i64_in _ (by omega)
  have w1 : IntKind.i64.wrap (x + 3 - 1) = x + 2 := by rw [IntWalk.i64_in _ (by omega)]; omega
  have w2 : IntKind.i64.wrap 3 = 3 := by decide
  by_cases h1 : x = a
  · subst h1
    simp -implicitDefEqProofs [F49, c49, upd, f60, f61, f62a, h, idxOf, num, beh]
  · by_cases h2 : x = b
    · subst h2
      simp -implicitDefEqProofs [F49, c49, upd, f60, f61, f62b, h, h1, idxOf, num, beh]
    · by_cases h3 : x = c
      · subst h3
        simp -implicitDefEqProofs [F49, c49, upd, f60, f61, f62c, h, h1, h2, idxOf, num, beh]
      · simp -implicitDefEqProofs [F49, c49, upd, f60, f61, f62d, h, h1, h2, h3, idxOf, num, beh, w0, w1, w2]
theorem f50n (a b c x : Int) (h : ¬ (1 ≤ x ∧ x ≤ 65533)) : F50 [R3 a b c, .one (.int .i64 x)] [] = some (.one (.int .i64 (-1)), []) := by
  by_cases h1 : x < 1
  · simp -implicitDefEqProofs [F50, c50, upd, h1]
  · have h2 : 65533 < x := by omega
    simp -implicitDefEqProofs [F50, c50, upd, h1, h2]
theorem f50 (a b c x : Int) (h : 1 ≤ x ∧ x ≤ 65533) : F50 [R3 a b c, .one (.int .i64 x)] [] = some (.one (.int .i64 (num a b c x)), []) := by
  obtain ⟨m, hm⟩ := KK5
  have w1 : IntKind.i64.wrap 1 = 1 := by decide
  have w2 : IntKind.i64.wrap 2 = 2 := by decide
  have w3 : IntKind.i64.wrap 3 = 3 := by decide
  have w4 : IntKind.i64.wrap (x + 2) = x + 2 := IntWalk.i64_in _ (by omega)
  have g1 : ¬ x < 1 := by omega
  have g2 : ¬ 65533 < x := by omega
  unfold F50
  rw [hm]
  by_cases h1 : x = a
  · subst h1
    simp -implicitDefEqProofs [c50, b50x0, upd, loopN_succ, g1, g2, num]
  · have h1' : ¬ a = x := fun e => h1 e.symm
    by_cases h2 : x = b
    · subst h2
      simp -implicitDefEqProofs [c50, b50x0, upd, loopN_succ, g1, g2, h1, h1', num, w1]
    · have h2' : ¬ b = x := fun e => h2 e.symm
      by_cases h3 : x = c
      · subst h3
        simp -implicitDefEqProofs [c50, b50x0, upd, loopN_succ, g1, g2, h1, h1', h2, h2', num, w1, w2]
      · have h3' : ¬ c = x := fun e => h3 e.symm
        simp -implicitDefEqProofs [c50, b50x0, upd, loopN_succ, g1, g2, h1, h1', h2, h2', h3, h3', num, w1, w2, w3, w4]
theorem f51 (a b c x : Int) : F51 [R3 a b c, .one (.int .i64 x)] [] = some (beh a b c x, []) := by
  obtain ⟨m, hm⟩ := KK5
  have w1 : IntKind.i64.wrap 1 = 1 := by decide
  have w2 : IntKind.i64.wrap 2 = 2 := by decide
  have w3 : IntKind.i64.wrap 3 = 3 := by decide
  unfold F51
  rw [hm]
  by_cases h1 : x = a
  · subst h1
    by_cases e1 : b = x <;> by_cases e2 : c = x <;> simp -implicitDefEqProofs [c51, b51x0, upd, loopN_succ, beh, w1, w2, w3, e1, e2]
  · have h1' : ¬ a = x := fun e => h1 e.symm
    by_cases h2 : x = b
    · subst h2
      by_cases e2 : c = x <;> simp -implicitDefEqProofs [c51, b51x0, upd, loopN_succ, h1, h1', beh, w1, w2, w3, e2]
    · have h2' : ¬ b = x := fun e => h2 e.symm
      simp -implicitDefEqProofs [c51, b51x0, upd, loopN_succ, h1, h1', h2, h2', beh, w1, w2, w3]
/-- The offset that a number stands for. -/
def offOf (a b c n : Int) : Int := if n = 0 then a else if n = 1 then b else if n = 2 then c else n - 2
theorem f52n (a b c n : Int) (h : ¬ (0 ≤ n ∧ n ≤ 65535)) : F52 [R3 a b c, .one (.int .i64 n)] [] = some (.tup [.one (.int .i64 0), R3 a b c, .one (.bool false)], []) := by
  by_cases h1 : n < 0
  · simp -implicitDefEqProofs [F52, c52, upd, h1]
  · have h2 : 65535 < n := by omega
    simp -implicitDefEqProofs [F52, c52, upd, h1, h2]
theorem f52b (a b c n x : Int) (h : 0 ≤ n ∧ n ≤ 65535) (hx : offOf a b c n = x) (h1 : ¬ (1 ≤ x ∧ x ≤ 65533)) : F52 [R3 a b c, .one (.int .i64 n)] [] = some (.tup [.one (.int .i64 0), R3 a b c, .one (.bool false)], []) := by
  have g1 : ¬ n < 0 := by omega
  have g2 : ¬ 65535 < n := by omega
  by_cases e0 : n = 0
  · subst e0; simp [offOf] at hx; subst hx
    simp -implicitDefEqProofs [F52, c52, upd, f49n _ _ _ _ h1]
  · by_cases e1 : n = 1
    · subst e1; simp [offOf] at hx; subst hx
      simp -implicitDefEqProofs [F52, c52, upd, f49n _ _ _ _ h1]
    · by_cases e2 : n = 2
      · subst e2; simp [offOf] at hx; subst hx
        simp -implicitDefEqProofs [F52, c52, upd, f49n _ _ _ _ h1]
      · simp [offOf, e0, e1, e2] at hx
        have w1 : IntKind.i64.wrap (n - 3) = n - 3 := IntWalk.i64_in _ (by omega)
        have w2 : IntKind.i64.wrap (n - 3 + 1) = x := by rw [IntWalk.i64_in _ (by omega)]; omega
        have w3 : ¬ n < 3 := by omega
        simp -implicitDefEqProofs [F52, c52, upd, f49n _ _ _ _ h1, g1, g2, w1, w2, w3]
theorem f52c (a b c n x : Int) (h : 0 ≤ n ∧ n ≤ 65535) (hx : offOf a b c n = x) (h1 : 1 ≤ x ∧ x ≤ 65533) (hn : ¬ num a b c x = n) : F52 [R3 a b c, .one (.int .i64 n)] [] = some (.tup [.one (.int .i64 0), R3 a b c, .one (.bool false)], []) := by
  have g1 : ¬ n < 0 := by omega
  have g2 : ¬ 65535 < n := by omega
  have key := f49 a b c x h1
  have hb : ∃ l0 l1 l2 : Int, beh a b c x = .agg [.int .i64 l0, .int .i64 l1, .int .i64 l2] := by
    unfold beh; (repeat' split) <;> exact ⟨_, _, _, rfl⟩
  obtain ⟨l0, l1, l2, hl⟩ := hb
  rw [hl] at key
  by_cases e0 : n = 0
  · subst e0; simp [offOf] at hx; subst hx
    simp -implicitDefEqProofs [F52, c52, upd, key, hn]
  · by_cases e1 : n = 1
    · subst e1; simp [offOf] at hx; subst hx
      simp -implicitDefEqProofs [F52, c52, upd, key, hn]
    · by_cases e2 : n = 2
      · subst e2; simp [offOf] at hx; subst hx
        simp -implicitDefEqProofs [F52, c52, upd, key, hn]
      · simp [offOf, e0, e1, e2] at hx
        have w1 : IntKind.i64.wrap (n - 3) = n - 3 := IntWalk.i64_in _ (by omega)
        have w2 : IntKind.i64.wrap (n - 3 + 1) = x := by rw [IntWalk.i64_in _ (by omega)]; omega
        have w3 : ¬ n < 3 := by omega
        simp -implicitDefEqProofs [F52, c52, upd, key, hn, g1, g2, w1, w2, w3]
theorem f52 (a b c n x : Int) (h : 0 ≤ n ∧ n ≤ 65535) (hx : offOf a b c n = x) (h1 : 1 ≤ x ∧ x ≤ 65533) (hn : num a b c x = n) : F52 [R3 a b c, .one (.int .i64 n)] [] = some (.tup [.one (.int .i64 x), beh a b c x, .one (.bool true)], []) := by
  have g1 : ¬ n < 0 := by omega
  have g2 : ¬ 65535 < n := by omega
  have key := f49 a b c x h1
  rw [hn] at key
  have hb : ∃ l0 l1 l2 : Int, beh a b c x = .agg [.int .i64 l0, .int .i64 l1, .int .i64 l2] := by
    unfold beh; (repeat' split) <;> exact ⟨_, _, _, rfl⟩
  obtain ⟨l0, l1, l2, hl⟩ := hb
  rw [hl] at key ⊢
  by_cases e0 : n = 0
  · subst e0; simp [offOf] at hx; subst hx
    simp -implicitDefEqProofs [F52, c52, upd, key]
  · by_cases e1 : n = 1
    · subst e1; simp [offOf] at hx; subst hx
      simp -implicitDefEqProofs [F52, c52, upd, key]
    · by_cases e2 : n = 2
      · subst e2; simp [offOf] at hx; subst hx
        simp -implicitDefEqProofs [F52, c52, upd, key]
      · simp [offOf, e0, e1, e2] at hx
        have w1 : IntKind.i64.wrap (n - 3) = n - 3 := IntWalk.i64_in _ (by omega)
        have w2 : IntKind.i64.wrap (n - 3 + 1) = x := by rw [IntWalk.i64_in _ (by omega)]; omega
        have w3 : ¬ n < 3 := by omega
        simp -implicitDefEqProofs [F52, c52, upd, key, g1, g2, w1, w2, w3]
end Go.X.Try
