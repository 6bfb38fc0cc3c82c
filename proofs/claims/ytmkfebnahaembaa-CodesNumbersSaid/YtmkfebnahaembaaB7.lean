import Derived.Test.YtmkfebnahaembaaB6
set_option maxRecDepth 100000
set_option linter.unusedSimpArgs false
namespace Go.X.Try
open Go.IntWalk
theorem bl_le_iff {m k : Nat} : bl m ≤ k ↔ m < 2 ^ k := by
  constructor
  · intro h
    rcases Nat.eq_zero_or_pos m with e | e
    · subst e; exact Nat.two_pow_pos k
    · obtain ⟨_, h2, _⟩ := bl_pos e
      exact Nat.lt_of_lt_of_le h2 (Nat.pow_le_pow_right (by omega) h)
  · exact bl_le
theorem shr0 (x y : Int) (n : Nat) (hy : y = n) (hn : n ≤ 20) : shrI .u32 x y = x / ((2 ^ n : Nat) : Int) := by
  subst hy
  rw [shrI_eq]
  have : Nat.min (n : Int).toNat (IntKind.bits .u32) = n := by
    simp only [Int.toNat_natCast, IntKind.bits]
    exact Nat.min_eq_left (by omega)
  rw [this]
theorem e3A1a1 (v c : Int) (hv : v < 0) (hc : 0 ≤ c) (hc' : c < 16) : F3 [.one (.int .i64 v), .one (.int .u8 c), .one (.int .u32 0)] [] = some (.one (.bool true), []) := by
  have f13 := e13a v (.inl hv)
  have g1 : ¬ 0 ≤ v := by omega
  have k17 := e17a c hc'
  have k16 := e16 c (by omega)
  have k15 := e15c c 0 hc' hc (by omega) (by omega) rfl
  have k14 := e14a c hc'
  have j2 : shrI .u32 0 0 = 0 := by decide
  have j3 : IntKind.i64.wrap 0 = 0 := by decide
  have j1 : IntKind.i64.wrap c = c := i64_in c (by omega)
  simp -implicitDefEqProofs [F3, c3, upd, e12, f13, g1, hv, k17, k16, k15, k14, j1, j2, j3, hc']
theorem e3A1a2 (v c m : Int) (hv : v < 0) (hc : 0 ≤ c) (hc' : c < 16) (hm : 0 < m) (hm' : m < 4294967296) : F3 [.one (.int .i64 v), .one (.int .u8 c), .one (.int .u32 m)] [] = some (.one (.bool true), []) := by
  have f13 := e13a v (.inl hv)
  have g1 : ¬ 0 ≤ v := by omega
  have k17 := e17a c hc'
  have k16 := e16 c (by omega)
  have k15 := e15b c m hc' (by omega) hm' (bl_pos (n := m.toNat) (by omega)).2.2
  have j1 : IntKind.i64.wrap c = c := i64_in c (by omega)
  have j2 : shrI .u32 m 0 = m := by rw [shr0 m 0 0 rfl (by omega)]; simp
  have j3 : ¬ m = 0 := by omega
  simp -implicitDefEqProofs [F3, c3, upd, e12, f13, g1, hv, k17, k16, k15, j1, j2, j3, hc']
theorem e3A1b1 (v c m : Int) (hv : v < 0) (hc : 16 ≤ c) (hc' : c ≤ 27) (hm : 0 ≤ m) (hm' : m < 4294967296) (hb : bl m.toNat ≤ (c - 12).toNat) : F3 [.one (.int .i64 v), .one (.int .u8 c), .one (.int .u32 m)] [] = some (.one (.bool true), []) := by
  have f13 := e13a v (.inl hv)
  have g1 : ¬ 0 ≤ v := by omega
  have h3 : ¬ c < 16 := by omega
  have h4 : ¬ 27 < c := by omega
  have k17 := e17b c h3 hc'
  have k16 := e16 c (by omega)
  rw [if_neg h3, if_neg (show ¬ c > 27 by omega)] at k16
  have k15 := e15e c m hc hc' hm hm' (by omega)
  have j1 : IntKind.i64.wrap c = c := i64_in c (by omega)
  have hlt := bl_le_iff.1 hb
  have hpow : 2 ^ (c - 12).toNat ≤ 2 ^ 15 := Nat.pow_le_pow_right (by omega) (by omega)
  have hpow' : 2 ^ 4 ≤ 2 ^ (c - 12).toNat := Nat.pow_le_pow_right (by omega) (by omega)
  have hbl : bl (((2 ^ (c - 12).toNat : Nat) : Int) + m).toNat = (c - 12).toNat + 1 := bl_unique (by omega) (by rw [Nat.pow_succ]; omega)
  have k14 := e14b (((2 ^ (c - 12).toNat : Nat) : Int) + m) (by omega) (by omega)
  rw [hbl, Nat.add_sub_cancel] at k14
  have j2 : shrI .u32 m (c - 12) = 0 := by
    rw [shr0 m (c - 12) (c - 12).toNat (by omega) (by omega)]
    exact Int.ediv_eq_zero_of_lt hm (by omega)
  generalize 2 ^ (c - 12).toNat = q at *
  rw [show (q : Int) + m - q = m by omega, show (11 : Int) + (((c - 12).toNat + 1 : Nat) : Int) = c by omega, show (((c - 12).toNat + 1 : Nat) : Int) - 1 = c - 12 by omega] at k14
  have j3 : IntKind.i64.wrap m = m := i64_in m (by omega)
  have j4 : ¬ c - 12 < 0 := by omega
  have j5 : 0 ≤ c - 12 := by omega
  have j6 : 12 ≤ c := by omega
  have j7 : ¬ c < 12 := by omega
  simp -implicitDefEqProofs [F3, c3, upd, e12, f13, g1, hv, k17, k16, k15, k14, j1, j2, j3, j4, j5, j6, j7]
theorem e3A1b2 (v c m : Int) (hv : v < 0) (hc : 16 ≤ c) (hc' : c ≤ 27) (hm : 0 ≤ m) (hm' : m < 4294967296) (hb : ¬ bl m.toNat ≤ (c - 12).toNat) : F3 [.one (.int .i64 v), .one (.int .u8 c), .one (.int .u32 m)] [] = some (.one (.bool true), []) := by
  have f13 := e13a v (.inl hv)
  have g1 : ¬ 0 ≤ v := by omega
  have h3 : ¬ c < 16 := by omega
  have k17 := e17b c h3 hc'
  have k16 := e16 c (by omega)
  rw [if_neg h3, if_neg (show ¬ c > 27 by omega)] at k16
  have k15 := e15d c m hc hc' hm hm' (by omega)
  have j1 : IntKind.i64.wrap c = c := i64_in c (by omega)
  have hlt := (not_congr bl_le_iff).1 hb
  have j2 : ¬ shrI .u32 m (c - 12) = 0 := by
    rw [shr0 m (c - 12) (c - 12).toNat (by omega) (by omega)]
    have hp := Nat.two_pow_pos (c - 12).toNat
    intro e
    rcases Int.eq_ofNat_of_zero_le hm with ⟨x, rfl⟩
    rw [← Int.natCast_ediv] at e
    have e' : x / 2 ^ (c - 12).toNat = 0 := by omega
    rcases (Nat.div_eq_zero_iff).1 e' with h | h
    · omega
    · simp at hlt; omega
  have j4 : ¬ c - 12 < 0 := by omega
  have j5 : 0 ≤ c - 12 := by omega
  have j6 : 12 ≤ c := by omega
  have j7 : ¬ c < 12 := by omega
  simp -implicitDefEqProofs [F3, c3, upd, e12, f13, g1, hv, k17, k16, k15, j1, j2, j4, j5, j6, j7]
theorem e3A1c (v c m : Int) (hv : v < 0) (hc : 27 < c) (hc' : c < 256) : F3 [.one (.int .i64 v), .one (.int .u8 c), .one (.int .u32 m)] [] = some (.one (.bool true), []) := by
  have f13 := e13a v (.inl hv)
  have g1 : ¬ 0 ≤ v := by omega
  have k17 := e17c c (by omega) (by omega)
  have k16 := e16 c (by omega)
  rw [if_neg (show ¬ c < 16 by omega), if_pos (show c > 27 by omega)] at k16
  have k15 := e15a c m hc
  have j1 : IntKind.i64.wrap c = c := i64_in c (by omega)
  simp -implicitDefEqProofs [F3, c3, upd, e12, f13, g1, hv, k17, k16, k15, j1]
theorem e3A2a1 (v c : Int) (hv : 65535 < v) (hc : 0 ≤ c) (hc' : c < 16) : F3 [.one (.int .i64 v), .one (.int .u8 c), .one (.int .u32 0)] [] = some (.one (.bool true), []) := by
  have f13 := e13a v (.inr hv)
  have g1 : 0 ≤ v := by omega
  have g2 : ¬ v ≤ 65535 := by omega
  have k17 := e17a c hc'
  have k16 := e16 c (by omega)
  have k15 := e15c c 0 hc' hc (by omega) (by omega) rfl
  have k14 := e14a c hc'
  have j2 : shrI .u32 0 0 = 0 := by decide
  have j3 : IntKind.i64.wrap 0 = 0 := by decide
  have j1 : IntKind.i64.wrap c = c := i64_in c (by omega)
  simp -implicitDefEqProofs [F3, c3, upd, e12, f13, g1, g2, hv, k17, k16, k15, k14, j1, j2, j3, hc']
theorem e3A2a2 (v c m : Int) (hv : 65535 < v) (hc : 0 ≤ c) (hc' : c < 16) (hm : 0 < m) (hm' : m < 4294967296) : F3 [.one (.int .i64 v), .one (.int .u8 c), .one (.int .u32 m)] [] = some (.one (.bool true), []) := by
  have f13 := e13a v (.inr hv)
  have g1 : 0 ≤ v := by omega
  have g2 : ¬ v ≤ 65535 := by omega
  have k17 := e17a c hc'
  have k16 := e16 c (by omega)
  have k15 := e15b c m hc' (by omega) hm' (bl_pos (n := m.toNat) (by omega)).2.2
  have j1 : IntKind.i64.wrap c = c := i64_in c (by omega)
  have j2 : shrI .u32 m 0 = m := by rw [shr0 m 0 0 rfl (by omega)]; simp
  have j3 : ¬ m = 0 := by omega
  simp -implicitDefEqProofs [F3, c3, upd, e12, f13, g1, g2, hv, k17, k16, k15, j1, j2, j3, hc']
theorem e3A2b1 (v c m : Int) (hv : 65535 < v) (hc : 16 ≤ c) (hc' : c ≤ 27) (hm : 0 ≤ m) (hm' : m < 4294967296) (hb : bl m.toNat ≤ (c - 12).toNat) : F3 [.one (.int .i64 v), .one (.int .u8 c), .one (.int .u32 m)] [] = some (.one (.bool true), []) := by
  have f13 := e13a v (.inr hv)
  have g1 : 0 ≤ v := by omega
  have g2 : ¬ v ≤ 65535 := by omega
  have h3 : ¬ c < 16 := by omega
  have h4 : ¬ 27 < c := by omega
  have k17 := e17b c h3 hc'
  have k16 := e16 c (by omega)
  rw [if_neg h3, if_neg (show ¬ c > 27 by omega)] at k16
  have k15 := e15e c m hc hc' hm hm' (by omega)
  have j1 : IntKind.i64.wrap c = c := i64_in c (by omega)
  have hlt := bl_le_iff.1 hb
  have hpow : 2 ^ (c - 12).toNat ≤ 2 ^ 15 := Nat.pow_le_pow_right (by omega) (by omega)
  have hpow' : 2 ^ 4 ≤ 2 ^ (c - 12).toNat := Nat.pow_le_pow_right (by omega) (by omega)
  have hbl : bl (((2 ^ (c - 12).toNat : Nat) : Int) + m).toNat = (c - 12).toNat + 1 := bl_unique (by omega) (by rw [Nat.pow_succ]; omega)
  have k14 := e14b (((2 ^ (c - 12).toNat : Nat) : Int) + m) (by omega) (by omega)
  rw [hbl, Nat.add_sub_cancel] at k14
  have j2 : shrI .u32 m (c - 12) = 0 := by
    rw [shr0 m (c - 12) (c - 12).toNat (by omega) (by omega)]
    exact Int.ediv_eq_zero_of_lt hm (by omega)
  generalize 2 ^ (c - 12).toNat = q at *
  rw [show (q : Int) + m - q = m by omega, show (11 : Int) + (((c - 12).toNat + 1 : Nat) : Int) = c by omega, show (((c - 12).toNat + 1 : Nat) : Int) - 1 = c - 12 by omega] at k14
  have j3 : IntKind.i64.wrap m = m := i64_in m (by omega)
  have j4 : ¬ c - 12 < 0 := by omega
  have j5 : 0 ≤ c - 12 := by omega
  have j6 : 12 ≤ c := by omega
  have j7 : ¬ c < 12 := by omega
  simp -implicitDefEqProofs [F3, c3, upd, e12, f13, g1, g2, hv, k17, k16, k15, k14, j1, j2, j3, j4, j5, j6, j7]
theorem e3A2b2 (v c m : Int) (hv : 65535 < v) (hc : 16 ≤ c) (hc' : c ≤ 27) (hm : 0 ≤ m) (hm' : m < 4294967296) (hb : ¬ bl m.toNat ≤ (c - 12).toNat) : F3 [.one (.int .i64 v), .one (.int .u8 c), .one (.int .u32 m)] [] = some (.one (.bool true), []) := by
  have f13 := e13a v (.inr hv)
  have g1 : 0 ≤ v := by omega
  have g2 : ¬ v ≤ 65535 := by omega
  have h3 : ¬ c < 16 := by omega
  have k17 := e17b c h3 hc'
  have k16 := e16 c (by omega)
  rw [if_neg h3, if_neg (show ¬ c > 27 by omega)] at k16
  have k15 := e15d c m hc hc' hm hm' (by omega)
  have j1 : IntKind.i64.wrap c = c := i64_in c (by omega)
  have hlt := (not_congr bl_le_iff).1 hb
  have j2 : ¬ shrI .u32 m (c - 12) = 0 := by
    rw [shr0 m (c - 12) (c - 12).toNat (by omega) (by omega)]
    have hp := Nat.two_pow_pos (c - 12).toNat
    intro e
    rcases Int.eq_ofNat_of_zero_le hm with ⟨x, rfl⟩
    rw [← Int.natCast_ediv] at e
    have e' : x / 2 ^ (c - 12).toNat = 0 := by omega
    rcases (Nat.div_eq_zero_iff).1 e' with h | h
    · omega
    · simp at hlt; omega
  have j4 : ¬ c - 12 < 0 := by omega
  have j5 : 0 ≤ c - 12 := by omega
  have j6 : 12 ≤ c := by omega
  have j7 : ¬ c < 12 := by omega
  simp -implicitDefEqProofs [F3, c3, upd, e12, f13, g1, g2, hv, k17, k16, k15, j1, j2, j4, j5, j6, j7]
theorem e3A2c (v c m : Int) (hv : 65535 < v) (hc : 27 < c) (hc' : c < 256) : F3 [.one (.int .i64 v), .one (.int .u8 c), .one (.int .u32 m)] [] = some (.one (.bool true), []) := by
  have f13 := e13a v (.inr hv)
  have g1 : 0 ≤ v := by omega
  have g2 : ¬ v ≤ 65535 := by omega
  have k17 := e17c c (by omega) (by omega)
  have k16 := e16 c (by omega)
  rw [if_neg (show ¬ c < 16 by omega), if_pos (show c > 27 by omega)] at k16
  have k15 := e15a c m hc
  have j1 : IntKind.i64.wrap c = c := i64_in c (by omega)
  simp -implicitDefEqProofs [F3, c3, upd, e12, f13, g1, g2, hv, k17, k16, k15, j1]
theorem e3Ba1 (v c : Int) (hv : 0 ≤ v) (hv' : v < 16) (hc : 0 ≤ c) (hc' : c < 16) : F3 [.one (.int .i64 v), .one (.int .u8 c), .one (.int .u32 0)] [] = some (.one (.bool true), []) := by
  have f13 := e13b v hv hv'
  have f14 := e14a v hv'
  have i3 : IntKind.u32.wrap 0 = 0 := by decide
  have f15 := e15c v 0 hv' hv (by omega) (by omega) rfl
  have g2 : v ≤ 65535 := by omega
  have i1 : IntKind.i64.wrap v = v := i64_in v (by omega)
  have k17 := e17a c hc'
  have k16 := e16 c (by omega)
  have k15 := e15c c 0 hc' hc (by omega) (by omega) rfl
  have k14 := e14a c hc'
  have j2 : shrI .u32 0 0 = 0 := by decide
  have j3 : IntKind.i64.wrap 0 = 0 := by decide
  have j1 : IntKind.i64.wrap c = c := i64_in c (by omega)
  simp -implicitDefEqProofs [F3, c3, upd, e12, f13, f14, f15, g2, i1, i3, hv, hv', k17, k16, k15, k14, j1, j2, j3, hc']
theorem e3Ba2 (v c m : Int) (hv : 0 ≤ v) (hv' : v < 16) (hc : 0 ≤ c) (hc' : c < 16) (hm : 0 < m) (hm' : m < 4294967296) : F3 [.one (.int .i64 v), .one (.int .u8 c), .one (.int .u32 m)] [] = some (.one (.bool true), []) := by
  have f13 := e13b v hv hv'
  have f14 := e14a v hv'
  have i3 : IntKind.u32.wrap 0 = 0 := by decide
  have f15 := e15c v 0 hv' hv (by omega) (by omega) rfl
  have g2 : v ≤ 65535 := by omega
  have i1 : IntKind.i64.wrap v = v := i64_in v (by omega)
  have k17 := e17a c hc'
  have k16 := e16 c (by omega)
  have k15 := e15b c m hc' (by omega) hm' (bl_pos (n := m.toNat) (by omega)).2.2
  have j1 : IntKind.i64.wrap c = c := i64_in c (by omega)
  have j2 : shrI .u32 m 0 = m := by rw [shr0 m 0 0 rfl (by omega)]; simp
  have j3 : ¬ m = 0 := by omega
  simp -implicitDefEqProofs [F3, c3, upd, e12, f13, f14, f15, g2, i1, i3, hv, hv', k17, k16, k15, j1, j2, j3, hc']
theorem e3Bb1 (v c m : Int) (hv : 0 ≤ v) (hv' : v < 16) (hc : 16 ≤ c) (hc' : c ≤ 27) (hm : 0 ≤ m) (hm' : m < 4294967296) (hb : bl m.toNat ≤ (c - 12).toNat) : F3 [.one (.int .i64 v), .one (.int .u8 c), .one (.int .u32 m)] [] = some (.one (.bool true), []) := by
  have f13 := e13b v hv hv'
  have f14 := e14a v hv'
  have i3 : IntKind.u32.wrap 0 = 0 := by decide
  have f15 := e15c v 0 hv' hv (by omega) (by omega) rfl
  have g2 : v ≤ 65535 := by omega
  have i1 : IntKind.i64.wrap v = v := i64_in v (by omega)
  have h3 : ¬ c < 16 := by omega
  have h4 : ¬ 27 < c := by omega
  have k17 := e17b c h3 hc'
  have k16 := e16 c (by omega)
  rw [if_neg h3, if_neg (show ¬ c > 27 by omega)] at k16
  have k15 := e15e c m hc hc' hm hm' (by omega)
  have j1 : IntKind.i64.wrap c = c := i64_in c (by omega)
  have hlt := bl_le_iff.1 hb
  have hpow : 2 ^ (c - 12).toNat ≤ 2 ^ 15 := Nat.pow_le_pow_right (by omega) (by omega)
  have hpow' : 2 ^ 4 ≤ 2 ^ (c - 12).toNat := Nat.pow_le_pow_right (by omega) (by omega)
  have hbl : bl (((2 ^ (c - 12).toNat : Nat) : Int) + m).toNat = (c - 12).toNat + 1 := bl_unique (by omega) (by rw [Nat.pow_succ]; omega)
  have k14 := e14b (((2 ^ (c - 12).toNat : Nat) : Int) + m) (by omega) (by omega)
  rw [hbl, Nat.add_sub_cancel] at k14
  have j2 : shrI .u32 m (c - 12) = 0 := by
    rw [shr0 m (c - 12) (c - 12).toNat (by omega) (by omega)]
    exact Int.ediv_eq_zero_of_lt hm (by omega)
  generalize 2 ^ (c - 12).toNat = q at *
  rw [show (q : Int) + m - q = m by omega, show (11 : Int) + (((c - 12).toNat + 1 : Nat) : Int) = c by omega, show (((c - 12).toNat + 1 : Nat) : Int) - 1 = c - 12 by omega] at k14
  have j3 : IntKind.i64.wrap m = m := i64_in m (by omega)
  have j4 : ¬ c - 12 < 0 := by omega
  have j5 : 0 ≤ c - 12 := by omega
  have j6 : 12 ≤ c := by omega
  have j7 : ¬ c < 12 := by omega
  simp -implicitDefEqProofs [F3, c3, upd, e12, f13, f14, f15, g2, i1, i3, hv, hv', k17, k16, k15, k14, j1, j2, j3, j4, j5, j6, j7]
theorem e3Bb2 (v c m : Int) (hv : 0 ≤ v) (hv' : v < 16) (hc : 16 ≤ c) (hc' : c ≤ 27) (hm : 0 ≤ m) (hm' : m < 4294967296) (hb : ¬ bl m.toNat ≤ (c - 12).toNat) : F3 [.one (.int .i64 v), .one (.int .u8 c), .one (.int .u32 m)] [] = some (.one (.bool true), []) := by
  have f13 := e13b v hv hv'
  have f14 := e14a v hv'
  have i3 : IntKind.u32.wrap 0 = 0 := by decide
  have f15 := e15c v 0 hv' hv (by omega) (by omega) rfl
  have g2 : v ≤ 65535 := by omega
  have i1 : IntKind.i64.wrap v = v := i64_in v (by omega)
  have h3 : ¬ c < 16 := by omega
  have k17 := e17b c h3 hc'
  have k16 := e16 c (by omega)
  rw [if_neg h3, if_neg (show ¬ c > 27 by omega)] at k16
  have k15 := e15d c m hc hc' hm hm' (by omega)
  have j1 : IntKind.i64.wrap c = c := i64_in c (by omega)
  have hlt := (not_congr bl_le_iff).1 hb
  have j2 : ¬ shrI .u32 m (c - 12) = 0 := by
    rw [shr0 m (c - 12) (c - 12).toNat (by omega) (by omega)]
    have hp := Nat.two_pow_pos (c - 12).toNat
    intro e
    rcases Int.eq_ofNat_of_zero_le hm with ⟨x, rfl⟩
    rw [← Int.natCast_ediv] at e
    have e' : x / 2 ^ (c - 12).toNat = 0 := by omega
    rcases (Nat.div_eq_zero_iff).1 e' with h | h
    · omega
    · simp at hlt; omega
  have j4 : ¬ c - 12 < 0 := by omega
  have j5 : 0 ≤ c - 12 := by omega
  have j6 : 12 ≤ c := by omega
  have j7 : ¬ c < 12 := by omega
  simp -implicitDefEqProofs [F3, c3, upd, e12, f13, f14, f15, g2, i1, i3, hv, hv', k17, k16, k15, j1, j2, j4, j5, j6, j7]
theorem e3Bc (v c m : Int) (hv : 0 ≤ v) (hv' : v < 16) (hc : 27 < c) (hc' : c < 256) : F3 [.one (.int .i64 v), .one (.int .u8 c), .one (.int .u32 m)] [] = some (.one (.bool true), []) := by
  have f13 := e13b v hv hv'
  have f14 := e14a v hv'
  have i3 : IntKind.u32.wrap 0 = 0 := by decide
  have f15 := e15c v 0 hv' hv (by omega) (by omega) rfl
  have g2 : v ≤ 65535 := by omega
  have i1 : IntKind.i64.wrap v = v := i64_in v (by omega)
  have k17 := e17c c (by omega) (by omega)
  have k16 := e16 c (by omega)
  rw [if_neg (show ¬ c < 16 by omega), if_pos (show c > 27 by omega)] at k16
  have k15 := e15a c m hc
  have j1 : IntKind.i64.wrap c = c := i64_in c (by omega)
  simp -implicitDefEqProofs [F3, c3, upd, e12, f13, f14, f15, g2, i1, i3, hv, hv', k17, k16, k15, j1]
theorem e3Ca1 (v c : Int) (hv : 16 ≤ v) (hv' : v ≤ 65535) (hc : 0 ≤ c) (hc' : c < 16) : F3 [.one (.int .i64 v), .one (.int .u8 c), .one (.int .u32 0)] [] = some (.one (.bool true), []) := by
  have f13 := e13c v hv hv'
  have f14 := e14b v hv hv'
  obtain ⟨p1, p2, p3⟩ := bl_pos (n := v.toNat) (by omega)
  have p4 := bl_le (n := v.toNat) (k := 16) (by omega)
  have p5 : 5 ≤ bl v.toNat := by
    have := (not_congr (bl_le_iff (m := v.toNat) (k := 4))).2 (by omega)
    omega
  have hs : 2 ^ bl v.toNat = 2 ^ (bl v.toNat - 1) * 2 := by rw [← Nat.pow_succ]; congr 1; omega
  rw [hs] at p2
  have f15 := e15e (11 + bl v.toNat) (v - (2 ^ (bl v.toNat - 1) : Nat)) (by omega) (by omega) (by omega) (by omega) (by
    have : bl (v - ((2 ^ (bl v.toNat - 1) : Nat) : Int)).toNat ≤ bl v.toNat - 1 := bl_le_iff.2 (by omega)
    omega)
  have e1 : (11 + (bl v.toNat : Int) - 12).toNat = bl v.toNat - 1 := by omega
  rw [e1] at f15
  generalize 2 ^ (bl v.toNat - 1) = mm at *
  rw [show (mm : Int) + (v - mm) = v by omega] at f15
  have g1 : 0 ≤ v := by omega
  have i1 : IntKind.i64.wrap (11 + (bl v.toNat : Int)) = 11 + (bl v.toNat : Int) := i64_in _ (by omega)
  have i2 : IntKind.u32.wrap (v - (mm : Int)) = v - mm := u32_in _ (by omega)
  have k17 := e17a c hc'
  have k16 := e16 c (by omega)
  have k15 := e15c c 0 hc' hc (by omega) (by omega) rfl
  have k14 := e14a c hc'
  have j2 : shrI .u32 0 0 = 0 := by decide
  have j3 : IntKind.i64.wrap 0 = 0 := by decide
  have j1 : IntKind.i64.wrap c = c := i64_in c (by omega)
  simp -implicitDefEqProofs [F3, c3, upd, e12, f13, f14, f15, g1, hv', i1, i2, k17, k16, k15, k14, j1, j2, j3, hc']
theorem e3Ca2 (v c m : Int) (hv : 16 ≤ v) (hv' : v ≤ 65535) (hc : 0 ≤ c) (hc' : c < 16) (hm : 0 < m) (hm' : m < 4294967296) : F3 [.one (.int .i64 v), .one (.int .u8 c), .one (.int .u32 m)] [] = some (.one (.bool true), []) := by
  have f13 := e13c v hv hv'
  have f14 := e14b v hv hv'
  obtain ⟨p1, p2, p3⟩ := bl_pos (n := v.toNat) (by omega)
  have p4 := bl_le (n := v.toNat) (k := 16) (by omega)
  have p5 : 5 ≤ bl v.toNat := by
    have := (not_congr (bl_le_iff (m := v.toNat) (k := 4))).2 (by omega)
    omega
  have hs : 2 ^ bl v.toNat = 2 ^ (bl v.toNat - 1) * 2 := by rw [← Nat.pow_succ]; congr 1; omega
  rw [hs] at p2
  have f15 := e15e (11 + bl v.toNat) (v - (2 ^ (bl v.toNat - 1) : Nat)) (by omega) (by omega) (by omega) (by omega) (by
    have : bl (v - ((2 ^ (bl v.toNat - 1) : Nat) : Int)).toNat ≤ bl v.toNat - 1 := bl_le_iff.2 (by omega)
    omega)
  have e1 : (11 + (bl v.toNat : Int) - 12).toNat = bl v.toNat - 1 := by omega
  rw [e1] at f15
  generalize 2 ^ (bl v.toNat - 1) = mm at *
  rw [show (mm : Int) + (v - mm) = v by omega] at f15
  have g1 : 0 ≤ v := by omega
  have i1 : IntKind.i64.wrap (11 + (bl v.toNat : Int)) = 11 + (bl v.toNat : Int) := i64_in _ (by omega)
  have i2 : IntKind.u32.wrap (v - (mm : Int)) = v - mm := u32_in _ (by omega)
  have k17 := e17a c hc'
  have k16 := e16 c (by omega)
  have k15 := e15b c m hc' (by omega) hm' (bl_pos (n := m.toNat) (by omega)).2.2
  have j1 : IntKind.i64.wrap c = c := i64_in c (by omega)
  have j2 : shrI .u32 m 0 = m := by rw [shr0 m 0 0 rfl (by omega)]; simp
  have j3 : ¬ m = 0 := by omega
  simp -implicitDefEqProofs [F3, c3, upd, e12, f13, f14, f15, g1, hv', i1, i2, k17, k16, k15, j1, j2, j3, hc']
theorem e3Cb1 (v c m : Int) (hv : 16 ≤ v) (hv' : v ≤ 65535) (hc : 16 ≤ c) (hc' : c ≤ 27) (hm : 0 ≤ m) (hm' : m < 4294967296) (hb : bl m.toNat ≤ (c - 12).toNat) : F3 [.one (.int .i64 v), .one (.int .u8 c), .one (.int .u32 m)] [] = some (.one (.bool true), []) := by
  have f13 := e13c v hv hv'
  have f14 := e14b v hv hv'
  obtain ⟨p1, p2, p3⟩ := bl_pos (n := v.toNat) (by omega)
  have p4 := bl_le (n := v.toNat) (k := 16) (by omega)
  have p5 : 5 ≤ bl v.toNat := by
    have := (not_congr (bl_le_iff (m := v.toNat) (k := 4))).2 (by omega)
    omega
  have hs : 2 ^ bl v.toNat = 2 ^ (bl v.toNat - 1) * 2 := by rw [← Nat.pow_succ]; congr 1; omega
  rw [hs] at p2
  have f15 := e15e (11 + bl v.toNat) (v - (2 ^ (bl v.toNat - 1) : Nat)) (by omega) (by omega) (by omega) (by omega) (by
    have : bl (v - ((2 ^ (bl v.toNat - 1) : Nat) : Int)).toNat ≤ bl v.toNat - 1 := bl_le_iff.2 (by omega)
    omega)
  have e1 : (11 + (bl v.toNat : Int) - 12).toNat = bl v.toNat - 1 := by omega
  rw [e1] at f15
  generalize 2 ^ (bl v.toNat - 1) = mm at *
  rw [show (mm : Int) + (v - mm) = v by omega] at f15
  have g1 : 0 ≤ v := by omega
  have i1 : IntKind.i64.wrap (11 + (bl v.toNat : Int)) = 11 + (bl v.toNat : Int) := i64_in _ (by omega)
  have i2 : IntKind.u32.wrap (v - (mm : Int)) = v - mm := u32_in _ (by omega)
  have h3 : ¬ c < 16 := by omega
  have h4 : ¬ 27 < c := by omega
  have k17 := e17b c h3 hc'
  have k16 := e16 c (by omega)
  rw [if_neg h3, if_neg (show ¬ c > 27 by omega)] at k16
  have k15 := e15e c m hc hc' hm hm' (by omega)
  have j1 : IntKind.i64.wrap c = c := i64_in c (by omega)
  have hlt := bl_le_iff.1 hb
  have hpow : 2 ^ (c - 12).toNat ≤ 2 ^ 15 := Nat.pow_le_pow_right (by omega) (by omega)
  have hpow' : 2 ^ 4 ≤ 2 ^ (c - 12).toNat := Nat.pow_le_pow_right (by omega) (by omega)
  have hbl : bl (((2 ^ (c - 12).toNat : Nat) : Int) + m).toNat = (c - 12).toNat + 1 := bl_unique (by omega) (by rw [Nat.pow_succ]; omega)
  have k14 := e14b (((2 ^ (c - 12).toNat : Nat) : Int) + m) (by omega) (by omega)
  rw [hbl, Nat.add_sub_cancel] at k14
  have j2 : shrI .u32 m (c - 12) = 0 := by
    rw [shr0 m (c - 12) (c - 12).toNat (by omega) (by omega)]
    exact Int.ediv_eq_zero_of_lt hm (by omega)
  generalize 2 ^ (c - 12).toNat = q at *
  rw [show (q : Int) + m - q = m by omega, show (11 : Int) + (((c - 12).toNat + 1 : Nat) : Int) = c by omega, show (((c - 12).toNat + 1 : Nat) : Int) - 1 = c - 12 by omega] at k14
  have j3 : IntKind.i64.wrap m = m := i64_in m (by omega)
  have j4 : ¬ c - 12 < 0 := by omega
  have j5 : 0 ≤ c - 12 := by omega
  have j6 : 12 ≤ c := by omega
  have j7 : ¬ c < 12 := by omega
  simp -implicitDefEqProofs [F3, c3, upd, e12, f13, f14, f15, g1, hv', i1, i2, k17, k16, k15, k14, j1, j2, j3, j4, j5, j6, j7]
theorem e3Cb2 (v c m : Int) (hv : 16 ≤ v) (hv' : v ≤ 65535) (hc : 16 ≤ c) (hc' : c ≤ 27) (hm : 0 ≤ m) (hm' : m < 4294967296) (hb : ¬ bl m.toNat ≤ (c - 12).toNat) : F3 [.one (.int .i64 v), .one (.int .u8 c), .one (.int .u32 m)] [] = some (.one (.bool true), []) := by
  have f13 := e13c v hv hv'
  have f14 := e14b v hv hv'
  obtain ⟨p1, p2, p3⟩ := bl_pos (n := v.toNat) (by omega)
  have p4 := bl_le (n := v.toNat) (k := 16) (by omega)
  have p5 : 5 ≤ bl v.toNat := by
    have := (not_congr (bl_le_iff (m := v.toNat) (k := 4))).2 (by omega)
    omega
  have hs : 2 ^ bl v.toNat = 2 ^ (bl v.toNat - 1) * 2 := by rw [← Nat.pow_succ]; congr 1; omega
  rw [hs] at p2
  have f15 := e15e (11 + bl v.toNat) (v - (2 ^ (bl v.toNat - 1) : Nat)) (by omega) (by omega) (by omega) (by omega) (by
    have : bl (v - ((2 ^ (bl v.toNat - 1) : Nat) : Int)).toNat ≤ bl v.toNat - 1 := bl_le_iff.2 (by omega)
    omega)
  have e1 : (11 + (bl v.toNat : Int) - 12).toNat = bl v.toNat - 1 := by omega
  rw [e1] at f15
  generalize 2 ^ (bl v.toNat - 1) = mm at *
  rw [show (mm : Int) + (v - mm) = v by omega] at f15
  have g1 : 0 ≤ v := by omega
  have i1 : IntKind.i64.wrap (11 + (bl v.toNat : Int)) = 11 + (bl v.toNat : Int) := i64_in _ (by omega)
  have i2 : IntKind.u32.wrap (v - (mm : Int)) = v - mm := u32_in _ (by omega)
  have h3 : ¬ c < 16 := by omega
  have k17 := e17b c h3 hc'
  have k16 := e16 c (by omega)
  rw [if_neg h3, if_neg (show ¬ c > 27 by omega)] at k16
  have k15 := e15d c m hc hc' hm hm' (by omega)
  have j1 : IntKind.i64.wrap c = c := i64_in c (by omega)
  have hlt := (not_congr bl_le_iff).1 hb
  have j2 : ¬ shrI .u32 m (c - 12) = 0 := by
    rw [shr0 m (c - 12) (c - 12).toNat (by omega) (by omega)]
    have hp := Nat.two_pow_pos (c - 12).toNat
    intro e
    rcases Int.eq_ofNat_of_zero_le hm with ⟨x, rfl⟩
    rw [← Int.natCast_ediv] at e
    have e' : x / 2 ^ (c - 12).toNat = 0 := by omega
    rcases (Nat.div_eq_zero_iff).1 e' with h | h
    · omega
    · simp at hlt; omega
  have j4 : ¬ c - 12 < 0 := by omega
  have j5 : 0 ≤ c - 12 := by omega
  have j6 : 12 ≤ c := by omega
  have j7 : ¬ c < 12 := by omega
  simp -implicitDefEqProofs [F3, c3, upd, e12, f13, f14, f15, g1, hv', i1, i2, k17, k16, k15, j1, j2, j4, j5, j6, j7]
theorem e3Cc (v c m : Int) (hv : 16 ≤ v) (hv' : v ≤ 65535) (hc : 27 < c) (hc' : c < 256) : F3 [.one (.int .i64 v), .one (.int .u8 c), .one (.int .u32 m)] [] = some (.one (.bool true), []) := by
  have f13 := e13c v hv hv'
  have f14 := e14b v hv hv'
  obtain ⟨p1, p2, p3⟩ := bl_pos (n := v.toNat) (by omega)
  have p4 := bl_le (n := v.toNat) (k := 16) (by omega)
  have p5 : 5 ≤ bl v.toNat := by
    have := (not_congr (bl_le_iff (m := v.toNat) (k := 4))).2 (by omega)
    omega
  have hs : 2 ^ bl v.toNat = 2 ^ (bl v.toNat - 1) * 2 := by rw [← Nat.pow_succ]; congr 1; omega
  rw [hs] at p2
  have f15 := e15e (11 + bl v.toNat) (v - (2 ^ (bl v.toNat - 1) : Nat)) (by omega) (by omega) (by omega) (by omega) (by
    have : bl (v - ((2 ^ (bl v.toNat - 1) : Nat) : Int)).toNat ≤ bl v.toNat - 1 := bl_le_iff.2 (by omega)
    omega)
  have e1 : (11 + (bl v.toNat : Int) - 12).toNat = bl v.toNat - 1 := by omega
  rw [e1] at f15
  generalize 2 ^ (bl v.toNat - 1) = mm at *
  rw [show (mm : Int) + (v - mm) = v by omega] at f15
  have g1 : 0 ≤ v := by omega
  have i1 : IntKind.i64.wrap (11 + (bl v.toNat : Int)) = 11 + (bl v.toNat : Int) := i64_in _ (by omega)
  have i2 : IntKind.u32.wrap (v - (mm : Int)) = v - mm := u32_in _ (by omega)
  have k17 := e17c c (by omega) (by omega)
  have k16 := e16 c (by omega)
  rw [if_neg (show ¬ c < 16 by omega), if_pos (show c > 27 by omega)] at k16
  have k15 := e15a c m hc
  have j1 : IntKind.i64.wrap c = c := i64_in c (by omega)
  simp -implicitDefEqProofs [F3, c3, upd, e12, f13, f14, f15, g1, hv', i1, i2, k17, k16, k15, j1]
theorem e3 (v c m : Int) (hc : 0 ≤ c) (hc' : c < 256) (hm : 0 ≤ m) (hm' : m < 4294967296) : F3 [.one (.int .i64 v), .one (.int .u8 c), .one (.int .u32 m)] [] = some (.one (.bool true), []) := by
  rcases Int.lt_or_le v 0 with hv | hv
  · rcases Int.lt_or_le 27 c with h | h
    · exact e3A1c v c m hv h hc'
    · rcases Int.lt_or_le c 16 with h2 | h2
      · rcases Int.lt_or_le 0 m with h3 | h3
        · exact e3A1a2 v c m hv hc h2 h3 hm'
        · obtain rfl : m = 0 := by omega
          exact e3A1a1 v c hv hc h2
      · by_cases h3 : bl m.toNat ≤ (c - 12).toNat
        · exact e3A1b1 v c m hv h2 h hm hm' h3
        · exact e3A1b2 v c m hv h2 h hm hm' h3
  rcases Int.lt_or_le 65535 v with hv2 | hv2
  · rcases Int.lt_or_le 27 c with h | h
    · exact e3A2c v c m hv2 h hc'
    · rcases Int.lt_or_le c 16 with h2 | h2
      · rcases Int.lt_or_le 0 m with h3 | h3
        · exact e3A2a2 v c m hv2 hc h2 h3 hm'
        · obtain rfl : m = 0 := by omega
          exact e3A2a1 v c hv2 hc h2
      · by_cases h3 : bl m.toNat ≤ (c - 12).toNat
        · exact e3A2b1 v c m hv2 h2 h hm hm' h3
        · exact e3A2b2 v c m hv2 h2 h hm hm' h3
  rcases Int.lt_or_le v 16 with hv3 | hv3
  · rcases Int.lt_or_le 27 c with h | h
    · exact e3Bc v c m hv hv3 h hc'
    · rcases Int.lt_or_le c 16 with h2 | h2
      · rcases Int.lt_or_le 0 m with h3 | h3
        · exact e3Ba2 v c m hv hv3 hc h2 h3 hm'
        · obtain rfl : m = 0 := by omega
          exact e3Ba1 v c hv hv3 hc h2
      · by_cases h3 : bl m.toNat ≤ (c - 12).toNat
        · exact e3Bb1 v c m hv hv3 h2 h hm hm' h3
        · exact e3Bb2 v c m hv hv3 h2 h hm hm' h3
  · rcases Int.lt_or_le 27 c with h | h
    · exact e3Cc v c m hv3 hv2 h hc'
    · rcases Int.lt_or_le c 16 with h2 | h2
      · rcases Int.lt_or_le 0 m with h3 | h3
        · exact e3Ca2 v c m hv3 hv2 hc h2 h3 hm'
        · obtain rfl : m = 0 := by omega
          exact e3Ca1 v c hv3 hv2 hc h2
      · by_cases h3 : bl m.toNat ≤ (c - 12).toNat
        · exact e3Cb1 v c m hv3 hv2 h2 h hm hm' h3
        · exact e3Cb2 v c m hv3 hv2 h2 h hm hm' h3
end Go.X.Try
