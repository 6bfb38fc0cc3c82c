import Derived.Test.YtmkfebnahaembaaB3
set_option maxRecDepth 100000
set_option linter.unusedSimpArgs false
namespace Go.X.Try
open Go.IntWalk
theorem l54 (w : Int) (hw : w ≤ 20) : ∀ (k : Nat) (j : Nat) (env : Env), getT 0 env = .one (.int .i64 w) → getT 3 env = .one (.int .i64 ((2 ^ j : Nat) : Int)) → getT 4 env = .one (.int .i64 j) → (j : Int) ≤ w → w - j < k →
    ∃ env', loopN (evC T54 KK b54x0) [0, 3, 4] k ⟨env, [.int .i64 w], []⟩ = some (.exit 0, ⟨env', [.int .i64 w], []⟩) ∧ getT 3 env' = .one (.int .i64 ((2 ^ w.toNat : Nat) : Int))
  | 0, j, env, _, _, _, _, h => by omega
  | k + 1, j, env, e0, e3, e4, hj, hk => by
    have hp : 2 ^ j ≤ 2 ^ 20 := Nat.pow_le_pow_right (by omega) (by omega)
    have hs : (2 ^ (j + 1) : Nat) = 2 ^ j * 2 := Nat.pow_succ 2 j
    by_cases hv : (j : Int) < w
    · obtain ⟨env', p, q⟩ := l54 w hw k (j + 1) [(4, .one (.int .i64 ((j + 1 : Nat) : Int))), (9, .one (.int .i64 ((j + 1 : Nat) : Int))), (8, .one (.int .i64 j)), (3, .one (.int .i64 ((2 ^ (j + 1) : Nat) : Int))), (11, .one (.int .i64 ((2 ^ (j + 1) : Nat) : Int))), (10, .one (.int .i64 ((2 ^ j : Nat) : Int))), (7, .one (.bool true)), (6, .one (.int .i64 w)), (5, .one (.int .i64 j)), (0, .one (.int .i64 w)), (3, .one (.int .i64 ((2 ^ j : Nat) : Int))), (4, .one (.int .i64 j))] rfl rfl rfl (by omega) (by omega)
      refine ⟨env', ?_, q⟩
      rw [← p, hs]
      generalize 2 ^ j = m at hp e3 ⊢
      simp [loopN, b54x0, e0, e3, e4, hv]
      rw [i64_in (m * 2) (by omega), i64_in (j + 1) (by omega)]
    · refine ⟨_, by simp [loopN, b54x0, e0, e3, e4, hv]; rfl, ?_⟩
      have : w.toNat = j := by omega
      rw [this]; simp
theorem e54 (w : Int) (h0 : 0 ≤ w) (h : w ≤ 20) : F54 [.one (.int .i64 w)] [] = some (.one (.int .i64 ((2 ^ w.toNat : Nat) : Int)), []) := by
  obtain ⟨env', p, q⟩ := l54 w h KK 0 [(4, .one (.int .i64 0)), (3, .one (.int .i64 1)), (2, .one (.int .i64 0)), (0, .one (.int .i64 w))] rfl rfl rfl h0 (by rw [KK_eq]; omega)
  simp [F54, c54, p, q]
theorem e14a (v : Int) (h : v < 16) : F14 [.one (.int .i64 v)] [] = some (.tup [.one (.int .i64 v), .one (.int .i64 0), .one (.int .i64 0)], []) := by
  simp [F14, c14, upd, h]
theorem e14b (v : Int) (h : 16 ≤ v) (h' : v ≤ 65535) : F14 [.one (.int .i64 v)] [] = some (.tup [.one (.int .i64 (11 + bl v.toNat)), .one (.int .i64 (v - (2 ^ (bl v.toNat - 1) : Nat))), .one (.int .i64 (bl v.toNat - 1))], []) := by
  have h3 : ¬ v < 16 := by omega
  obtain ⟨p1, p2, p3⟩ := bl_pos (n := v.toNat) (by omega)
  have p4 := bl_le (n := v.toNat) (k := 16) (by omega)
  have e := e32 v (by omega) (by omega)
  have e2 := e54 ((bl v.toNat : Int) - 1) (by omega) (by omega)
  have e5 : ((bl v.toNat : Int) - 1).toNat = bl v.toNat - 1 := by omega
  rw [e5] at e2
  have hs : 2 ^ bl v.toNat = 2 ^ (bl v.toNat - 1) * 2 := by rw [← Nat.pow_succ]; congr 1; omega
  rw [hs] at p2
  have hpos := Nat.two_pow_pos (bl v.toNat - 1)
  have i1 : IntKind.u32.wrap v = v := u32_in v (by omega)
  have i2 : IntKind.i64.wrap ((bl v.toNat : Int) - 1) = (bl v.toNat : Int) - 1 := i64_in _ (by omega)
  have i3 : IntKind.i64.wrap (11 + (bl v.toNat : Int)) = 11 + (bl v.toNat : Int) := i64_in _ (by omega)
  generalize 2 ^ (bl v.toNat - 1) = m at *
  have hm : ¬ m = 0 := by omega
  have ht : v.tmod (m : Int) = v - m := by
    rw [Int.tmod_eq_emod_of_nonneg (by omega)]
    have : v = (v - m) + m := by omega
    rw [this, Int.add_emod_right, Int.emod_eq_of_lt (by omega) (by omega)]; omega
  simp [F14, c14, upd, h3, i1, e, i2, i3, e2, hm, ht]
end Go.X.Try
