import Derived.Test.YtmkfebnahaembaaG2
set_option maxRecDepth 100000
set_option linter.unusedSimpArgs false
set_option linter.unusedVariables false
namespace Go.X.Try
open Go.IntWalk
theorem beh_R3 (a b c x : Int) : ∃ p q r, beh a b c x = R3 p q r := by
  unfold beh; (repeat' split) <;> exact ⟨_, _, _, rfl⟩
/-- What is asked of the first part. -/
inductive One (a b c x : Int) : Prop where
  | no (h1 : F49 [R3 a b c, .one (.int .i64 x)] [] = some (.tup [.one (.int .i64 0), R3 a b c, .one (.bool false)], [])) (h2 : F50 [R3 a b c, .one (.int .i64 x)] [] = some (.one (.int .i64 (-1)), []))
  | yes (m p q r : Int) (h0 : 0 ≤ m) (h1 : F49 [R3 a b c, .one (.int .i64 x)] [] = some (.tup [.one (.int .i64 m), R3 p q r, .one (.bool true)], [])) (h2 : F50 [R3 a b c, .one (.int .i64 x)] [] = some (.one (.int .i64 m), []))
    (h3 : F51 [R3 a b c, .one (.int .i64 x)] [] = some (R3 p q r, [])) (h4 : F52 [R3 a b c, .one (.int .i64 m)] [] = some (.tup [.one (.int .i64 x), R3 p q r, .one (.bool true)], []))
theorem num_le (a b c x : Int) (h : 1 ≤ x ∧ x ≤ 65533) : 0 ≤ num a b c x ∧ num a b c x ≤ 65535 := by
  unfold num; (repeat' split) <;> omega
theorem off_num (a b c x : Int) (h : 1 ≤ x ∧ x ≤ 65533) : offOf a b c (num a b c x) = x := by
  unfold num
  by_cases h1 : x = a
  · rw [if_pos h1]; simp [offOf, h1]
  · rw [if_neg h1]
    by_cases h2 : x = b
    · rw [if_pos h2]; simp [offOf, h2]
    · rw [if_neg h2]
      by_cases h3 : x = c
      · rw [if_pos h3]; simp [offOf, h3]
      · rw [if_neg h3]; unfold offOf
        rw [if_neg (by omega), if_neg (by omega), if_neg (by omega)]; omega
theorem one (a b c x : Int) : One a b c x := by
  by_cases h : 1 ≤ x ∧ x ≤ 65533
  · obtain ⟨p, q, r, e⟩ := beh_R3 a b c x
    have h1 := f49 a b c x h
    have h3 := f51 a b c x
    have h4 := f52 a b c (num a b c x) x (num_le a b c x h) (off_num a b c x h) h rfl
    rw [e] at h1 h3 h4
    exact .yes _ p q r (num_le a b c x h).1 h1 (f50 a b c x h) h3 h4
  · exact .no (f49n a b c x h) (f50n a b c x h)
inductive Two (a b c n : Int) : Prop where
  | out (h : n < 0 ∨ 65535 < n) (h1 : F52 [R3 a b c, .one (.int .i64 n)] [] = some (.tup [.one (.int .i64 0), R3 a b c, .one (.bool false)], []))
  | not (x v : Int) (h : 0 ≤ n ∧ n ≤ 65535) (hx : offOf a b c n = x) (h1 : F52 [R3 a b c, .one (.int .i64 n)] [] = some (.tup [.one (.int .i64 0), R3 a b c, .one (.bool false)], [])) (h2 : F50 [R3 a b c, .one (.int .i64 x)] [] = some (.one (.int .i64 v), [])) (hv : ¬ v = n)
  | yes (x p q r : Int) (h1 : F52 [R3 a b c, .one (.int .i64 n)] [] = some (.tup [.one (.int .i64 x), R3 p q r, .one (.bool true)], [])) (h2 : F50 [R3 a b c, .one (.int .i64 x)] [] = some (.one (.int .i64 n), [])) (h3 : F51 [R3 a b c, .one (.int .i64 x)] [] = some (R3 p q r, []))
theorem two (a b c n : Int) : Two a b c n := by
  by_cases h : 0 ≤ n ∧ n ≤ 65535
  · by_cases h1 : 1 ≤ offOf a b c n ∧ offOf a b c n ≤ 65533
    · by_cases hn : num a b c (offOf a b c n) = n
      · obtain ⟨p, q, r, e⟩ := beh_R3 a b c (offOf a b c n)
        have h2 := f52 a b c n _ h rfl h1 hn
        have h3 := f51 a b c (offOf a b c n)
        have h4 := f50 a b c _ h1
        rw [e] at h2 h3
        rw [hn] at h4
        exact .yes _ p q r h2 h4 h3
      · exact .not _ _ h rfl (f52c a b c n _ h rfl h1 hn) (f50 a b c _ h1) hn
    · exact .not _ _ h rfl (f52b a b c n _ h rfl h1) (f50n a b c _ h1) (by omega)
  · exact .out (by omega) (f52n a b c n h)
set_option maxHeartbeats 2000000 in
theorem law10w (a b c x n : Int) : F10 [R3 a b c, .one (.int .i64 x), .one (.int .i64 n)] [] = some (.one (.bool true), []) := by
  cases one a b c x with
  | no k1 k2 =>
    cases two a b c n with
    | out h h1 =>
      by_cases g : n < 0
      · simp -implicitDefEqProofs [F10, c10, upd, e12, k1, k2, h1, g]
      · have g2 : 65535 < n := by omega
        simp -implicitDefEqProofs [F10, c10, upd, e12, k1, k2, h1, g, g2]
    | not y v h hx h1 h2 hv =>
      have g1 : ¬ n < 0 := by omega
      have g2 : ¬ 65535 < n := by omega
      by_cases e0 : n = 0
      · subst e0; simp [offOf] at hx; subst hx
        simp -implicitDefEqProofs [F10, c10, upd, e12, k1, k2, h1, h2, hv]
      · by_cases e1 : n = 1
        · subst e1; simp [offOf] at hx; subst hx
          simp -implicitDefEqProofs [F10, c10, upd, e12, k1, k2, h1, h2, hv]
        · by_cases e2 : n = 2
          · subst e2; simp [offOf] at hx; subst hx
            simp -implicitDefEqProofs [F10, c10, upd, e12, k1, k2, h1, h2, hv]
          · simp [offOf, e0, e1, e2] at hx
            have w : IntKind.i64.wrap (n - 2) = y := by rw [IntWalk.i64_in _ (by omega)]; omega
            have g3 : 2 < n := by omega
            simp -implicitDefEqProofs [F10, c10, upd, e12, k1, k2, h1, h2, hv, g1, g2, g3, w]
    | yes y p q r h1 h2 h3 =>
      simp -implicitDefEqProofs [F10, c10, upd, e12, k1, k2, h1, h2, h3]
  | yes m p q r k0 k1 k2 k3 k4 =>
    cases two a b c n with
    | out h h1 =>
      by_cases g : n < 0
      · simp -implicitDefEqProofs [F10, c10, upd, e12, k0, k1, k2, k3, k4, h1, g]
      · have g2 : 65535 < n := by omega
        simp -implicitDefEqProofs [F10, c10, upd, e12, k0, k1, k2, k3, k4, h1, g, g2]
    | not y v h hx h1 h2 hv =>
      have g1 : ¬ n < 0 := by omega
      have g2 : ¬ 65535 < n := by omega
      by_cases e0 : n = 0
      · subst e0; simp [offOf] at hx; subst hx
        simp -implicitDefEqProofs [F10, c10, upd, e12, k0, k1, k2, k3, k4, h1, h2, hv]
      · by_cases e1 : n = 1
        · subst e1; simp [offOf] at hx; subst hx
          simp -implicitDefEqProofs [F10, c10, upd, e12, k0, k1, k2, k3, k4, h1, h2, hv]
        · by_cases e2 : n = 2
          · subst e2; simp [offOf] at hx; subst hx
            simp -implicitDefEqProofs [F10, c10, upd, e12, k0, k1, k2, k3, k4, h1, h2, hv]
          · simp [offOf, e0, e1, e2] at hx
            have w : IntKind.i64.wrap (n - 2) = y := by rw [IntWalk.i64_in _ (by omega)]; omega
            have g3 : 2 < n := by omega
            simp -implicitDefEqProofs [F10, c10, upd, e12, k0, k1, k2, k3, k4, h1, h2, hv, g1, g2, g3, w]
    | yes y p' q' r' h1 h2 h3 =>
      simp -implicitDefEqProofs [F10, c10, upd, e12, k0, k1, k2, k3, k4, h1, h2, h3]
theorem law10 (l : List Int) (x n : Int) (hl : l.length = 3) : F10 [.agg (l.map (SV.int .i64)), .one (.int .i64 x), .one (.int .i64 n)] [] = some (.one (.bool true), []) := by
  match l, hl with
  | [a, b, c], _ => exact law10w a b c x n
end Go.X.Try
