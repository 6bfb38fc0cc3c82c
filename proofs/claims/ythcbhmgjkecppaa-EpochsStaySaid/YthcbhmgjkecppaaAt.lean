import Derived.Test.YthcbhmgjkecppaaAs
import Derived.Test.YthcbhmgjkecppaaA2
import Derived.IntWalk
set_option linter.unusedVariables false
namespace Go.X
/-! ### plain numbers -/
theorem shrI_eq (k : IntKind) (x y : Int) : shrI k x y = x / ((2 ^ Nat.min y.toNat k.bits : Nat) : Int) := by
  unfold shrI
  have h : ((2 ^ Nat.min y.toNat k.bits : Nat) : Int) = (2 : Int) ^ Nat.min y.toNat k.bits := by simp
  rw [← h, Int.fdiv_eq_ediv_of_nonneg _ (Int.natCast_nonneg _)]
/-- How many bits a number has. -/
def bl (n : Nat) : Nat := if n = 0 then 0 else Nat.log2 n + 1
theorem bl_pos {n : Nat} (h : 0 < n) : 2 ^ (bl n - 1) ≤ n ∧ n < 2 ^ bl n ∧ 0 < bl n := by
  have h' : n ≠ 0 := by omega
  simp only [bl, if_neg h', Nat.add_sub_cancel]
  exact ⟨Nat.log2_self_le h', Nat.lt_log2_self, by omega⟩
theorem bl_unique {n k : Nat} (h1 : 2 ^ k ≤ n) (h2 : n < 2 ^ (k + 1)) : bl n = k + 1 := by
  have h' : n ≠ 0 := by have := Nat.two_pow_pos k; omega
  simp only [bl, if_neg h']
  have h3 := (Nat.le_log2 h').2 h1
  have h4 := (Nat.log2_lt h').2 h2
  omega
theorem bl_div {n : Nat} (k : Nat) (h : 2 ^ k ≤ n) : bl n = k + bl (n / 2 ^ k) := by
  have hp := Nat.two_pow_pos k
  have hq : 0 < n / 2 ^ k := Nat.div_pos h hp
  obtain ⟨h1, h2, h3⟩ := bl_pos hq
  generalize bl (n / 2 ^ k) = b at *
  obtain ⟨c, rfl⟩ : ∃ c, b = c + 1 := ⟨b - 1, by omega⟩
  simp only [Nat.add_sub_cancel] at h1
  rw [show k + (c + 1) = (k + c) + 1 by omega]
  refine bl_unique ?_ ?_
  · rw [Nat.pow_add, Nat.mul_comm]
    exact (Nat.le_div_iff_mul_le hp).1 h1
  · rw [show k + c + 1 = (c + 1) + k by omega, Nat.pow_add]
    exact (Nat.div_lt_iff_lt_mul hp).1 h2
theorem bl_zero : bl 0 = 0 := rfl
theorem bl_le {n k : Nat} (h : n < 2 ^ k) : bl n ≤ k := by
  rcases Nat.eq_zero_or_pos n with e | e
  · subst e; simp [bl]
  · obtain ⟨h1, _, h3⟩ := bl_pos e
    have : 2 ^ (bl n - 1) < 2 ^ k := by omega
    have := (Nat.pow_lt_pow_iff_right (by omega : 1 < 2)).1 this
    omega
theorem bl_half {n : Nat} (h : 0 < n) : bl n = bl (n / 2) + 1 := by
  rcases Nat.lt_or_ge n 2 with h2 | h2
  · obtain rfl : n = 1 := by omega
    rfl
  · have := bl_div (n := n) 1 (by simpa using h2)
    simp at this; omega
end Go.X
