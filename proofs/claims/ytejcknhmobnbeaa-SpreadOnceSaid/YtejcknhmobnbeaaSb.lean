import Derived.Test.YtejcknhmobnbeaaSa
import Derived.Test.YtejcknhmobnbeaaAu
set_option maxRecDepth 100000
set_option linter.unusedSimpArgs false
namespace Go.X.Try
open Go.IntWalk
theorem l51 (w : Int) (hw : w ≤ 20) : ∀ (k : Nat) (j : Nat) (env : Env), getT 0 env = .one (.int .i64 w) → getT 3 env = .one (.int .i64 ((2 ^ j : Nat) : Int)) → getT 4 env = .one (.int .i64 j) → (j : Int) ≤ w → w - j < k →
    ∃ env', loopN (evC T51 KK b51x0) [0, 3, 4] k ⟨env, [.int .i64 w], []⟩ = some (.exit 0, ⟨env', [.int .i64 w], []⟩) ∧ getT 3 env' = .one (.int .i64 ((2 ^ w.toNat : Nat) : Int))
  | 0, j, env, _, _, _, _, h => by omega
  | k + 1, j, env, e0, e3, e4, hj, hk => by
    have hp : 2 ^ j ≤ 2 ^ 20 := Nat.pow_le_pow_right (by omega) (by omega)
    have hs : (2 ^ (j + 1) : Nat) = 2 ^ j * 2 := Nat.pow_succ 2 j
    by_cases hv : (j : Int) < w
    · obtain ⟨env', p, q⟩ := l51 w hw k (j + 1) [(4, .one (.int .i64 ((j + 1 : Nat) : Int))), (9, .one (.int .i64 ((j + 1 : Nat) : Int))), (8, .one (.int .i64 j)), (3, .one (.int .i64 ((2 ^ (j + 1) : Nat) : Int))), (11, .one (.int .i64 ((2 ^ (j + 1) : Nat) : Int))), (10, .one (.int .i64 ((2 ^ j : Nat) : Int))), (7, .one (.bool true)), (6, .one (.int .i64 w)), (5, .one (.int .i64 j)), (0, .one (.int .i64 w)), (3, .one (.int .i64 ((2 ^ j : Nat) : Int))), (4, .one (.int .i64 j))] rfl rfl rfl (by omega) (by omega)
      refine ⟨env', ?_, q⟩
      rw [← p, hs]
      generalize 2 ^ j = m at hp e3 ⊢
      simp [loopN, b51x0, e0, e3, e4, hv]
      rw [i64_in (m * 2) (by omega), i64_in (j + 1) (by omega)]
    · refine ⟨_, by simp [loopN, b51x0, e0, e3, e4, hv]; rfl, ?_⟩
      have : w.toNat = j := by omega
      rw [this]; simp
theorem e51 (w : Int) (h0 : 0 ≤ w) (h : w ≤ 20) : F51 [.one (.int .i64 w)] [] = some (.one (.int .i64 ((2 ^ w.toNat : Nat) : Int)), []) := by
  obtain ⟨env', p, q⟩ := l51 w h KK 0 [(4, .one (.int .i64 0)), (3, .one (.int .i64 1)), (2, .one (.int .i64 0)), (0, .one (.int .i64 w))] rfl rfl rfl h0 (by rw [KK_eq]; omega)
  simp [-loop_KK, F51, c51, p, q]
end Go.X.Try
