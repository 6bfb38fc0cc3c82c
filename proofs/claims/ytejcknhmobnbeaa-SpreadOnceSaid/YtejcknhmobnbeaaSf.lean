import Derived.Test.YtejcknhmobnbeaaSe
set_option linter.unusedVariables false
namespace Go.X
/-! ### a state's cell -/
theorem cell_bd {L y : Nat} (h1 : 1 ≤ y) (h2 : y < 2 ^ (L + 1)) : 1 ≤ bl y ∧ bl y ≤ L + 1 ∧ 2 ^ L ≤ y * 2 ^ (L + 1 - bl y) ∧ (y + 1) * 2 ^ (L + 1 - bl y) ≤ 2 ^ (L + 1) := by
  obtain ⟨b1, b2, b3⟩ := bl_pos h1
  have b4 := bl_le h2
  generalize bl y = w at *
  refine ⟨b3, b4, ?_, ?_⟩
  · have : 2 ^ L = 2 ^ (w - 1) * 2 ^ (L + 1 - w) := by rw [← Nat.pow_add]; congr 1; omega
    rw [this]; exact Nat.mul_le_mul_right _ b1
  · have : 2 ^ (L + 1) = 2 ^ w * 2 ^ (L + 1 - w) := by rw [← Nat.pow_add]; congr 1; omega
    rw [this]; exact Nat.mul_le_mul_right _ b2
theorem bits_div {L x k : Nat} (h1 : 2 ^ L ≤ x) (h2 : x < 2 ^ (L + 1)) (hk : 2 ^ k ≤ x) : L + 1 - bl (x / 2 ^ k) = k := by
  have := bl_div k hk
  rw [bl_unique h1 h2] at this
  omega
theorem back_iff {L n x k y : Nat} (hn : 1 ≤ n) (hx1 : 2 ^ L ≤ x) (hx2 : x < 2 ^ (L + 1)) (hk : x / 2 ^ k < 2 * n) (hk2 : n ≤ x / 2 ^ k) (y1 : n ≤ y) (y2 : y < 2 * n) :
    (y * 2 ^ (L + 1 - bl y) ≤ x ∧ x < (y + 1) * 2 ^ (L + 1 - bl y)) ↔ y = x / 2 ^ k := by
  have hp : ∀ j, 0 < 2 ^ j := fun j => Nat.two_pow_pos j
  have hkx : 2 ^ k ≤ x := by
    rcases Nat.lt_or_ge x (2 ^ k) with h | h
    · rw [Nat.div_eq_of_lt h] at hk2; omega
    · exact h
  have half : ∀ a d : Nat, 0 < d → a / 2 ^ d ≤ a / 2 := fun a d hd => by
    apply Nat.div_le_div_left
    · have : 2 ^ 1 ≤ 2 ^ d := Nat.pow_le_pow_right (by omega) hd
      omega
    · omega
  constructor
  · rintro ⟨h1, h2⟩
    generalize L + 1 - bl y = b at *
    have hy : y = x / 2 ^ b := by
      apply Nat.le_antisymm
      · exact (Nat.le_div_iff_mul_le (hp b)).2 h1
      · have := (Nat.div_lt_iff_lt_mul (hp b)).2 h2; omega
    rcases Nat.lt_trichotomy b k with h | h | h
    · obtain ⟨d, rfl⟩ : ∃ d, k = b + d := ⟨k - b, by omega⟩
      rw [Nat.pow_add, ← Nat.div_div_eq_div_mul, ← hy] at hk2
      have := half y d (by omega); omega
    · rw [hy, h]
    · obtain ⟨d, rfl⟩ : ∃ d, b = k + d := ⟨b - k, by omega⟩
      rw [Nat.pow_add, ← Nat.div_div_eq_div_mul] at hy
      have := half (x / 2 ^ k) d (by omega); omega
  · rintro rfl
    rw [bits_div hx1 hx2 hkx]
    refine ⟨Nat.div_mul_le_self _ _, ?_⟩
    rw [Nat.mul_comm]; exact Nat.lt_mul_div_succ x (hp k)
/-- The widths of a symbol's states, one behind the other. -/
def gsum (L n : Nat) : Nat → Nat
  | 0 => 0
  | m + 1 => gsum L n m + 2 ^ (L + 1 - bl (n + m))
theorem gsum_all {L n : Nat} (hn : 1 ≤ n) (hL : n ≤ 2 ^ L) : gsum L n n = 2 ^ L := by
  obtain ⟨b1, b2, b3⟩ := bl_pos hn
  have hpl : 2 ^ (L + 1) = 2 * 2 ^ L := by rw [Nat.pow_succ]; omega
  have b4 : bl n ≤ L + 1 := bl_le (by have := Nat.two_pow_pos L; omega)
  by_cases hw : bl n = L + 1
  · rw [hw, Nat.add_sub_cancel] at b1
    have e : n = 2 ^ L := by omega
    have : ∀ m, m ≤ n → gsum L n m = m := by
      intro m
      induction m with
      | zero => intro _; rfl
      | succ m ih =>
        intro h
        rw [gsum, ih (by omega), bl_unique (n := n + m) (k := L) (by omega) (by omega), Nat.sub_self, Nat.pow_zero]
    rw [this n (Nat.le_refl _), e]
  · generalize hwe : bl n = w at *
    have hpw : 2 ^ w = 2 * 2 ^ (w - 1) := by rw [← Nat.pow_succ']; congr 1; omega
    have hpw2 : 2 ^ (w + 1) = 2 * 2 ^ w := by rw [Nat.pow_succ]; omega
    obtain ⟨p, hp⟩ : ∃ p, n + p = 2 ^ w := ⟨2 ^ w - n, by omega⟩
    obtain ⟨d, hd⟩ : ∃ d, L = w + d := ⟨L - w, by omega⟩
    have g1 : ∀ y, 2 ^ (w - 1) ≤ y → y < 2 ^ w → 2 ^ (L + 1 - bl y) = 2 * 2 ^ d := fun y h1 h2 => by
      have : bl y = w - 1 + 1 := bl_unique h1 (by rw [show w - 1 + 1 = w by omega]; exact h2)
      rw [this, show L + 1 - (w - 1 + 1) = d + 1 by omega, Nat.pow_succ]; omega
    have g2 : ∀ y, 2 ^ w ≤ y → y < 2 ^ (w + 1) → 2 ^ (L + 1 - bl y) = 2 ^ d := fun y h1 h2 => by
      rw [bl_unique h1 h2, show L + 1 - (w + 1) = d by omega]
    generalize hh : 2 ^ d = h at *
    have s1 : ∀ m, m ≤ p → gsum L n m = 2 * h * m := by
      intro m
      induction m with
      | zero => intro _; rfl
      | succ m ih =>
        intro hm
        rw [gsum, ih (by omega), g1 (n + m) (by omega) (by omega), Nat.mul_succ]
    have s2 : ∀ r, p + r ≤ n → gsum L n (p + r) = 2 * h * p + h * r := by
      intro r
      induction r with
      | zero => intro _; rw [Nat.add_zero, s1 p (Nat.le_refl _)]; simp
      | succ r ih =>
        intro hr
        rw [← Nat.add_assoc, gsum, ih (by omega), g2 (n + (p + r)) (by omega) (by omega), Nat.mul_succ]; omega
    obtain ⟨r, hr⟩ : ∃ r, n = p + r := ⟨n - p, by omega⟩
    have := s2 r (by omega)
    rw [← hr] at this
    rw [this, hd, Nat.pow_add, ← hp, hh, hr]
    simp only [Nat.add_mul, Nat.mul_comm h]
    have e1 : 2 * h * p = p * h + p * h := by rw [Nat.mul_assoc, Nat.mul_comm h]; omega
    omega
/-! ### numbers of a share -/
def natsOf (l : List Int) : List Nat := l.map Int.toNat
theorem natsOf_length (l : List Int) : (natsOf l).length = l.length := by simp [natsOf]
theorem natsOf_get (l : List Int) (i : Nat) : (natsOf l)[i]? = (l[i]?).map Int.toNat := by simp [natsOf]
/-- A symbol's state: what it counts as, its bits, and where those begin that are behind it. -/
def yOf (sh : List Nat) (i : Nat) : Nat := sh.getD ((symOf sh).getD i 0) 0 + rkS (symOf sh) i
def bOf (L : Nat) (sh : List Nat) (i : Nat) : Nat := L + 1 - bl (yOf sh i)
def baseOf (L : Nat) (sh : List Nat) (i : Nat) : Nat := yOf sh i * 2 ^ bOf L sh i - 2 ^ L
theorem y_bd {sh : List Nat} {L i s : Nat} (hs : sh.sum = 2 ^ L) (hL : 5 ≤ L) (h : (symOf sh)[i]? = some s) : ∃ n, sh[s]? = some n ∧ yOf sh i = n + ((symOf sh).take i).count s ∧ ((symOf sh).take i).count s < n ∧ n ≤ 2 ^ L := by
  have h1 := sym_lt hs hL h
  have h2 := rk_lt h
  rw [sym_count hs hL, List.getElem?_eq_getElem h1] at h2
  refine ⟨sh[s], List.getElem?_eq_getElem h1, ?_, by simpa using h2, ?_⟩
  · unfold yOf rkS
    simp [List.getD, h, List.getElem?_eq_getElem h1]
  · have := fstS_succ h1
    have := fstS_le sh (s + 1)
    omega
end Go.X
