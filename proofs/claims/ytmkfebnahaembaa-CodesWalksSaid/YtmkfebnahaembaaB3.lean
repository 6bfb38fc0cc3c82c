import Derived.Test.YtmkfebnahaembaaB2
set_option maxRecDepth 100000
set_option linter.unusedSimpArgs false
namespace Go.X.Try
open Go.IntWalk
theorem l32 (r : Int) : ∀ (k : Nat) (v n : Int) (env : Env), getT 0 env = .one (.int .u32 v) → getT 3 env = .one (.int .i64 n) → 0 ≤ v → v < 4294967296 → 0 ≤ n → n + bl v.toNat ≤ 100 → bl v.toNat < k →
    ∃ env', loopN (evC T32 KK b32x0) [0, 3] k ⟨env, [.int .u32 r], []⟩ = some (.exit 0, ⟨env', [.int .u32 r], []⟩) ∧ getT 3 env' = .one (.int .i64 (n + bl v.toNat))
  | 0, v, n, env, _, _, _, _, _, _, h => by omega
  | k + 1, v, n, env, e0, e3, h0, h1, hn, hn', hk => by
    by_cases hv : 0 < v
    · have hb := bl_half (n := v.toNat) (by omega)
      have e2 : (v / 2).toNat = v.toNat / 2 := by omega
      obtain ⟨env', p, q⟩ := l32 r k (v / 2) (n + 1) [(3, .one (.int .i64 (n + 1))), (9, .one (.int .i64 (n + 1))), (8, .one (.int .i64 n)), (0, .one (.int .u32 (v / 2))), (7, .one (.int .u32 (v / 2))), (6, .one (.int .u32 v)), (5, .one (.bool true)), (4, .one (.int .u32 v)), (0, .one (.int .u32 v)), (3, .one (.int .i64 n))] rfl rfl (by omega) (by omega) (by omega) (by rw [e2]; omega) (by rw [e2]; omega)
      refine ⟨env', ?_, by rw [q, e2, hb, show n + 1 + (bl (v.toNat / 2) : Int) = n + ((bl (v.toNat / 2) + 1 : Nat) : Int) by omega]⟩
      rw [← p]
      simp (disch := omega) [loopN, b32x0, e0, e3, hv, u32_quo, i64_in]
    · obtain rfl : v = 0 := by omega
      simp [loopN, b32x0, e0, e3, bl]
theorem e32 (v : Int) (h0 : 0 ≤ v) (h : v < 4294967296) : F32 [.one (.int .u32 v)] [] = some (.one (.int .i64 (bl v.toNat)), []) := by
  have hb := bl_le (n := v.toNat) (k := 32) (by omega)
  obtain ⟨env', p, q⟩ := l32 v KK v 0 [(3, .one (.int .i64 0)), (2, .one (.int .i64 0)), (0, .one (.int .u32 v))] rfl rfl h0 h (by omega) (by omega) (by rw [KK_eq]; omega)
  simp [F32, c32, p, q]
end Go.X.Try
