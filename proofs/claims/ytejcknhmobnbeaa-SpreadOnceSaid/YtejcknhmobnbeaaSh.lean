import Derived.Test.YtejcknhmobnbeaaSa
import Derived.Test.YtejcknhmobnbeaaAu
set_option maxRecDepth 100000
set_option linter.unusedSimpArgs false
namespace Go.X.Try
open Go.IntWalk
theorem tab71 : ∀ b : Fin 256, (toBytes lit71x0)[b.val]?.getD 0 = (bl b.val : Int) := by decide +kernel
theorem tab59_size : lit71x0.size = 256 := by decide +kernel
theorem blI (v : Int) (k : Nat) (h : (2 ^ k : Nat) ≤ v.toNat) : (bl v.toNat : Int) = k + bl (v / ((2 ^ k : Nat) : Int)).toNat := by
  rw [bl_div k h]
  have : (v / ((2 ^ k : Nat) : Int)).toNat = v.toNat / 2 ^ k := by
    rcases Int.eq_ofNat_of_zero_le (show 0 ≤ v by have := Nat.two_pow_pos k; omega) with ⟨m, rfl⟩
    rw [← Int.natCast_ediv, Int.toNat_natCast, Int.toNat_natCast]
  rw [this]; simp
theorem tabK (x K : Int) (h : 0 ≤ x) (h' : x < 256) (hK : 0 ≤ K ∧ K ≤ 24) : (0 ≤ x ∧ x < 256) ∧ IntKind.i64.wrap (K + IntKind.i64.wrap ((toBytes lit71x0)[x.toNat]?.getD 0)) = K + bl x.toNat := by
  have e : (toBytes lit71x0)[x.toNat]?.getD 0 = (bl x.toNat : Int) := tab71 ⟨x.toNat, by omega⟩
  have := bl_le (n := x.toNat) (k := 8) (by omega)
  refine ⟨⟨h, h'⟩, ?_⟩
  rw [e, i64_in (bl x.toNat) (by omega), i64_in _ (by omega)]
theorem e71 (v : Int) (h0 : 0 ≤ v) (h : v < 4294967296) : F71 [.one (.int .u32 v)] [] = some (.one (.int .i64 (bl v.toNat)), []) := by
  by_cases h1 : 65536 ≤ v
  · have a1 := blI v 16 (by omega)
    by_cases h2 : 256 ≤ v / 65536
    · have a2 := blI (v / 65536) 8 (by omega)
      obtain ⟨p, q⟩ := tabK (v / 65536 / 256) 24 (by omega) (by omega) (by omega)
      simp (disch := omega) [F71, c71, h1, h2, i64_in, u8_in, shrI_eq, IntKind.bits, tab59_size]
      exact ⟨p, by rw [q]; simp at a1 a2 ⊢; omega⟩
    · obtain ⟨p, q⟩ := tabK (v / 65536) 16 (by omega) (by omega) (by omega)
      simp (disch := omega) [F71, c71, h1, h2, i64_in, u8_in, shrI_eq, IntKind.bits, tab59_size]
      exact ⟨p, by rw [q]; simp at a1 ⊢; omega⟩
  · by_cases h2 : 256 ≤ v
    · have a2 := blI v 8 (by omega)
      obtain ⟨p, q⟩ := tabK (v / 256) 8 (by omega) (by omega) (by omega)
      simp (disch := omega) [F71, c71, h1, h2, i64_in, u8_in, shrI_eq, IntKind.bits, tab59_size]
      exact ⟨p, by rw [q]; simp at a2 ⊢; omega⟩
    · obtain ⟨p, q⟩ := tabK v 0 (by omega) (by omega) (by omega)
      simp (disch := omega) [F71, c71, h1, h2, i64_in, u8_in, shrI_eq, IntKind.bits, tab59_size]
      exact ⟨p, by simpa using q⟩
theorem e60 (v : Int) (h0 : 0 ≤ v) (h : v < 4294967296) : F60 [.one (.int .u32 v)] [] = some (.one (.int .i64 (bl v.toNat)), []) := by
  simp [F60, c60, upd, e71 v h0 h]
/-- The numbers that have a code. -/
theorem l68 (r : Int) : ∀ (k : Nat) (v n : Int) (env : Env), getT 0 env = .one (.int .u32 v) → getT 3 env = .one (.int .i64 n) → 0 ≤ v → v < 4294967296 → 0 ≤ n → n + bl v.toNat ≤ 100 → bl v.toNat < k →
    ∃ env', loopN (evC T68 KK b68x0) [0, 3] k ⟨env, [.int .u32 r], []⟩ = some (.exit 0, ⟨env', [.int .u32 r], []⟩) ∧ getT 3 env' = .one (.int .i64 (n + bl v.toNat))
  | 0, v, n, env, _, _, _, _, _, _, h => by omega
  | k + 1, v, n, env, e0, e3, h0, h1, hn, hn', hk => by
    by_cases hv : 0 < v
    · have hb := bl_half (n := v.toNat) (by omega)
      have e2 : (v / 2).toNat = v.toNat / 2 := by omega
      obtain ⟨env', p, q⟩ := l68 r k (v / 2) (n + 1) [(3, .one (.int .i64 (n + 1))), (9, .one (.int .i64 (n + 1))), (8, .one (.int .i64 n)), (0, .one (.int .u32 (v / 2))), (7, .one (.int .u32 (v / 2))), (6, .one (.int .u32 v)), (5, .one (.bool true)), (4, .one (.int .u32 v)), (0, .one (.int .u32 v)), (3, .one (.int .i64 n))] rfl rfl (by omega) (by omega) (by omega) (by rw [e2]; omega) (by rw [e2]; omega)
      refine ⟨env', ?_, by rw [q, e2, hb, show n + 1 + (bl (v.toNat / 2) : Int) = n + ((bl (v.toNat / 2) + 1 : Nat) : Int) by omega]⟩
      rw [← p]
      simp (disch := omega) [loopN, b68x0, e0, e3, hv, u32_quo, i64_in]
    · obtain rfl : v = 0 := by omega
      simp [loopN, b68x0, e0, e3, bl]
theorem e68 (v : Int) (h0 : 0 ≤ v) (h : v < 4294967296) : F68 [.one (.int .u32 v)] [] = some (.one (.int .i64 (bl v.toNat)), []) := by
  have hb := bl_le (n := v.toNat) (k := 32) (by omega)
  obtain ⟨env', p, q⟩ := l68 v KK v 0 [(3, .one (.int .i64 0)), (2, .one (.int .i64 0)), (0, .one (.int .u32 v))] rfl rfl h0 h (by omega) (by omega) (by rw [KK_eq]; omega)
  simp [-loop_KK, F68, c68, p, q]
end Go.X.Try
