import Derived.Test.YtmkfebnahaembaaB1
import Derived.Test.YtmkfebnahaembaaAt
set_option maxRecDepth 100000
set_option linter.unusedSimpArgs false
namespace Go.X.Try
open Go.IntWalk
theorem e17a (c : Int) (h : c < 16) : F17 [.one (.int .u8 c)] [] = some (.tup [.one (.int .i64 0), .one (.bool true)], []) := by
  simp [F17, c17, h]
theorem e17b (c : Int) (h : ¬ c < 16) (h' : c ≤ 27) : F17 [.one (.int .u8 c)] [] = some (.tup [.one (.int .i64 (c - 12)), .one (.bool true)], []) := by
  simp (disch := omega) [F17, c17, h, h', i64_in]; omega
theorem e17c (c : Int) (h : ¬ c < 16) (h' : ¬ c ≤ 27) : F17 [.one (.int .u8 c)] [] = some (.tup [.one (.int .i64 0), .one (.bool false)], []) := by
  simp [F17, c17, h, h']
theorem e16 (c : Int) (hc : 0 ≤ c ∧ c < 256) : F16 [.one (.int .i64 c)] [] = some (.one (.int .i64 (if c < 16 then 0 else if c > 27 then -1 else c - 12)), []) := by
  by_cases h : c < 16
  · simp [F16, c16, h]
  · by_cases h' : 27 < c
    · simp [F16, c16, h, h']
    · simp (disch := omega) [F16, c16, h, h', i64_in]
theorem tab59 : ∀ b : Fin 256, (toBytes lit59x0)[b.val]?.getD 0 = (bl b.val : Int) := by decide +kernel
theorem tab59_size : lit59x0.size = 256 := by decide +kernel
theorem blI (v : Int) (k : Nat) (h : (2 ^ k : Nat) ≤ v.toNat) : (bl v.toNat : Int) = k + bl (v / ((2 ^ k : Nat) : Int)).toNat := by
  rw [bl_div k h]
  have : (v / ((2 ^ k : Nat) : Int)).toNat = v.toNat / 2 ^ k := by
    rcases Int.eq_ofNat_of_zero_le (show 0 ≤ v by have := Nat.two_pow_pos k; omega) with ⟨m, rfl⟩
    rw [← Int.natCast_ediv, Int.toNat_natCast, Int.toNat_natCast]
  rw [this]; simp
theorem tabK (x K : Int) (h : 0 ≤ x) (h' : x < 256) (hK : 0 ≤ K ∧ K ≤ 24) : (0 ≤ x ∧ x < 256) ∧ IntKind.i64.wrap (K + IntKind.i64.wrap ((toBytes lit59x0)[x.toNat]?.getD 0)) = K + bl x.toNat := by
  have e : (toBytes lit59x0)[x.toNat]?.getD 0 = (bl x.toNat : Int) := tab59 ⟨x.toNat, by omega⟩
  have := bl_le (n := x.toNat) (k := 8) (by omega)
  refine ⟨⟨h, h'⟩, ?_⟩
  rw [e, i64_in (bl x.toNat) (by omega), i64_in _ (by omega)]
theorem e59 (v : Int) (h0 : 0 ≤ v) (h : v < 4294967296) : F59 [.one (.int .u32 v)] [] = some (.one (.int .i64 (bl v.toNat)), []) := by
  by_cases h1 : 65536 ≤ v
  · have a1 := blI v 16 (by omega)
    by_cases h2 : 256 ≤ v / 65536
    · have a2 := blI (v / 65536) 8 (by omega)
      obtain ⟨p, q⟩ := tabK (v / 65536 / 256) 24 (by omega) (by omega) (by omega)
      simp (disch := omega) [F59, c59, h1, h2, i64_in, u8_in, shrI_eq, IntKind.bits, tab59_size]
      exact ⟨p, by rw [q]; simp at a1 a2 ⊢; omega⟩
    · obtain ⟨p, q⟩ := tabK (v / 65536) 16 (by omega) (by omega) (by omega)
      simp (disch := omega) [F59, c59, h1, h2, i64_in, u8_in, shrI_eq, IntKind.bits, tab59_size]
      exact ⟨p, by rw [q]; simp at a1 ⊢; omega⟩
  · by_cases h2 : 256 ≤ v
    · have a2 := blI v 8 (by omega)
      obtain ⟨p, q⟩ := tabK (v / 256) 8 (by omega) (by omega) (by omega)
      simp (disch := omega) [F59, c59, h1, h2, i64_in, u8_in, shrI_eq, IntKind.bits, tab59_size]
      exact ⟨p, by rw [q]; simp at a2 ⊢; omega⟩
    · obtain ⟨p, q⟩ := tabK v 0 (by omega) (by omega) (by omega)
      simp (disch := omega) [F59, c59, h1, h2, i64_in, u8_in, shrI_eq, IntKind.bits, tab59_size]
      exact ⟨p, by simpa using q⟩
theorem e31 (v : Int) (h0 : 0 ≤ v) (h : v < 4294967296) : F31 [.one (.int .u32 v)] [] = some (.one (.int .i64 (bl v.toNat)), []) := by
  simp [F31, c31, upd, e59 v h0 h]
/-- The numbers that have a code. -/
theorem e13a (v : Int) (h : v < 0 ∨ 65535 < v) : F13 [.one (.int .i64 v)] [] = some (.tup [.one (.int .u8 0), .one (.int .i64 0), .one (.int .i64 0), .one (.bool false)], []) := by
  by_cases h1 : v < 0
  · simp [F13, c13, upd, h1]
  · have h2 : 65535 < v := by omega
    simp [F13, c13, upd, h1, h2]
theorem e13b (v : Int) (h : 0 ≤ v) (h' : v < 16) : F13 [.one (.int .i64 v)] [] = some (.tup [.one (.int .u8 v), .one (.int .i64 0), .one (.int .i64 0), .one (.bool true)], []) := by
  have h1 : ¬ v < 0 := by omega
  have h2 : ¬ 65535 < v := by omega
  simp (disch := omega) [F13, c13, upd, h1, h2, h', u8_in]
theorem shl1 (n : Nat) (h : n < 40) : shlI .i64 1 (n : Int) = ((2 ^ n : Nat) : Int) := by
  have : (2 ^ n : Nat) ≤ 2 ^ 40 := Nat.pow_le_pow_right (by omega) (by omega)
  unfold shlI
  have e : Nat.min (n : Int).toNat (IntKind.bits .i64) = n := by
    simp only [Int.toNat_natCast, IntKind.bits]
    exact Nat.min_eq_left (by omega)
  rw [e]
  have e2 : (1 : Int) * 2 ^ n = ((2 ^ n : Nat) : Int) := by simp
  rw [e2]
  generalize 2 ^ n = m at this ⊢
  exact i64_in _ (by omega)
theorem e13c (v : Int) (h : 16 ≤ v) (h' : v ≤ 65535) : F13 [.one (.int .i64 v)] [] = some (.tup [.one (.int .u8 (11 + bl v.toNat)), .one (.int .i64 (v - (2 ^ (bl v.toNat - 1) : Nat))), .one (.int .i64 (bl v.toNat - 1)), .one (.bool true)], []) := by
  have h1 : ¬ v < 0 := by omega
  have h2 : ¬ 65535 < v := by omega
  have h3 : ¬ v < 16 := by omega
  have e := e31 v (by omega) (by omega)
  obtain ⟨p1, p2, p3⟩ := bl_pos (n := v.toNat) (by omega)
  have p4 := bl_le (n := v.toNat) (k := 16) (by omega)
  have e2 : ((bl v.toNat : Int) - 1) = ((bl v.toNat - 1 : Nat) : Int) := by omega
  have e3 := shl1 (bl v.toNat - 1) (by omega)
  rw [← e2] at e3
  have h4 : ¬ ((bl v.toNat : Int) - 1) < 0 := by omega
  simp (disch := omega) [F13, c13, upd, h1, h2, h3, u8_in, u32_in, i64_in, e, e3, h4, -Int.natCast_pow]
  refine ⟨by omega, ?_⟩
  generalize 2 ^ (bl v.toNat - 1) = m at p1 ⊢
  exact i64_in _ (by omega)
theorem e15a (c m : Int) (h : 27 < c) : F15 [.one (.int .u8 c), .one (.int .u32 m)] [] = some (.tup [.one (.int .i64 0), .one (.bool false)], []) := by
  simp [F15, c15, upd, e17c c (by omega) (by omega)]
theorem e15b (c m : Int) (h : c < 16) (h0 : 0 ≤ m) (hm : m < 4294967296) (h1 : 0 < bl m.toNat) : F15 [.one (.int .u8 c), .one (.int .u32 m)] [] = some (.tup [.one (.int .i64 0), .one (.bool false)], []) := by
  have h2 : (0 : Int) < bl m.toNat := by omega
  have h3 : ¬ bl m.toNat = 0 := by omega
  simp [F15, c15, upd, e17a c h, e31 m h0 hm, h2, h3]
theorem e15c (c m : Int) (h : c < 16) (hc : 0 ≤ c) (h0 : 0 ≤ m) (hm : m < 4294967296) (h1 : bl m.toNat = 0) : F15 [.one (.int .u8 c), .one (.int .u32 m)] [] = some (.tup [.one (.int .i64 c), .one (.bool true)], []) := by
  simp [F15, c15, upd, e17a c h, e31 m h0 hm, h1, h]
  exact i64_in _ (by omega)
theorem e15d (c m : Int) (h : 16 ≤ c) (hc : c ≤ 27) (h0 : 0 ≤ m) (hm : m < 4294967296) (h1 : c - 12 < bl m.toNat) : F15 [.one (.int .u8 c), .one (.int .u32 m)] [] = some (.tup [.one (.int .i64 0), .one (.bool false)], []) := by
  simp [F15, c15, upd, e17b c (by omega) (by omega), e31 m h0 hm, h1]
theorem e15e (c m : Int) (h : 16 ≤ c) (hc : c ≤ 27) (h0 : 0 ≤ m) (hm : m < 4294967296) (h1 : (bl m.toNat : Int) ≤ c - 12) : F15 [.one (.int .u8 c), .one (.int .u32 m)] [] = some (.tup [.one (.int .i64 ((2 ^ (c - 12).toNat : Nat) + m)), .one (.bool true)], []) := by
  have h2 : ¬ c - 12 < bl m.toNat := by omega
  have h3 : ¬ c < 16 := by omega
  have h4 : ¬ c - 12 < 0 := by omega
  have e := shl1 (c - 12).toNat (by omega)
  rw [show (((c - 12).toNat : Nat) : Int) = c - 12 by omega] at e
  have hb : 2 ^ (c - 12).toNat ≤ 2 ^ 15 := Nat.pow_le_pow_right (by omega) (by omega)
  simp [F15, c15, upd, e17b c h3 hc, e31 m h0 hm, h2, h3, h4, e, -Int.natCast_pow]
  rw [i64_in m (by omega)]
  generalize 2 ^ (c - 12).toNat = k at hb ⊢
  exact i64_in _ (by omega)
end Go.X.Try
