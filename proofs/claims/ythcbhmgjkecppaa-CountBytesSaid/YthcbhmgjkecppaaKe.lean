import Derived.Test.YthcbhmgjkecppaaKd
set_option maxRecDepth 100000
set_option linter.unusedSimpArgs false
set_option linter.unusedVariables false
namespace Go.X.Try
open Go.IntWalk
/-! ### how often each number is among the first i; how many cells they need -/
def cntK (l : List Int) : Nat → Nat → Int
  | 0, _ => 0
  | i + 1, s => cntK l i s + (if (l.getD i 0).toNat = s then 1 else 0)
def mxK (l : List Int) : Nat → Nat
  | 0 => 0
  | i + 1 => max (mxK l i) ((l.getD i 0).toNat + 1)
def ofK (l : List Int) : List Int := (List.range (mxK l l.length)).map (cntK l l.length)
theorem cntK_bound (l : List Int) (s : Nat) : ∀ i : Nat, 0 ≤ cntK l i s ∧ cntK l i s ≤ i
  | 0 => by simp [cntK]
  | i + 1 => by
    have := cntK_bound l s i
    simp only [cntK]
    split <;> omega
theorem cntK_zero (l : List Int) (s : Nat) : ∀ i : Nat, mxK l i ≤ s → cntK l i s = 0
  | 0, _ => rfl
  | i + 1, h => by
    simp only [mxK] at h
    simp only [cntK]
    rw [cntK_zero l s i (by omega), if_neg (by omega)]; rfl
theorem mxK_le (l : List Int) (hB : ∀ z ∈ l, 0 ≤ z ∧ z ≤ 255) : ∀ i : Nat, i ≤ l.length → mxK l i ≤ 256
  | 0, _ => by simp [mxK]
  | i + 1, h => by
    have h1 := mxK_le l hB i (by omega)
    have h2 := hB (l.getD i 0) (by rw [List.getD_eq_getElem?_getD, List.getElem?_eq_getElem (by omega)]; exact List.getElem_mem _)
    simp only [mxK]; omega
theorem sumK_append : ∀ (a b : List Int), sumK (a ++ b) = sumK a + sumK b
  | [], b => by simp [sumK]
  | x :: a, b => by simp only [List.cons_append, sumK, sumK_append a b]; omega
theorem sum_cnt_succ (l : List Int) (i : Nat) : ∀ m : Nat, sumK ((List.range m).map (cntK l (i + 1))) = sumK ((List.range m).map (cntK l i)) + (if (l.getD i 0).toNat < m then 1 else 0)
  | 0 => by simp [sumK]
  | m + 1 => by
    rw [List.range_succ, List.map_append, List.map_append, sumK_append, sumK_append, sum_cnt_succ l i m]
    simp only [List.map_cons, List.map_nil, sumK, cntK]
    by_cases h : (l.getD i 0).toNat = m
    · rw [if_neg (by omega), if_pos h, if_pos (by omega)]; omega
    · rw [if_neg h]
      by_cases h2 : (l.getD i 0).toNat < m
      · rw [if_pos h2, if_pos (by omega)]; omega
      · rw [if_neg h2, if_neg (by omega)]; omega
theorem mxK_mono (l : List Int) (i j : Nat) : mxK l i ≤ mxK l (i + j) := by
  induction j with
  | zero => exact Nat.le_refl _
  | succ j ih => rw [← Nat.add_assoc]; simp only [mxK]; omega
theorem sum_cnt (l : List Int) (m : Nat) : ∀ i : Nat, mxK l i ≤ m → sumK ((List.range m).map (cntK l i)) = i
  | 0, _ => by
    have : ∀ m : Nat, sumK ((List.range m).map (cntK l 0)) = 0 := by
      intro m
      induction m with
      | zero => rfl
      | succ m ih => rw [List.range_succ, List.map_append, sumK_append, ih]; simp [sumK, cntK]
    rw [this]; rfl
  | i + 1, h => by
    simp only [mxK] at h
    rw [sum_cnt_succ, sum_cnt l m i (by omega), if_pos (by omega)]; omega
theorem sum_ofK (l : List Int) : sumK (ofK l) = l.length := sum_cnt l _ _ (Nat.le_refl _)
theorem ofK_len (l : List Int) : (ofK l).length = mxK l l.length := by simp [ofK]
theorem ofK_mem (l : List Int) : ∀ z ∈ ofK l, 0 ≤ z ∧ z ≤ l.length := by
  intro z hz
  simp only [ofK, List.mem_map] at hz
  obtain ⟨s, _, rfl⟩ := hz
  exact cntK_bound l s _
/-! ### the same numbers -/
def canon25 (t u : Nat) (l m : List Int) (i : Int) : St := ⟨[(0, .one (.ro t (.ints .i64 l))), (1, .one (.ro u (.ints .i64 m))), (12, .one (.int .i64 l.length)), (13, .one (.int .i64 i))], [.ro t (.ints .i64 l), .ro u (.ints .i64 m)], []⟩
theorem body25 (t u : Nat) (l : List Int) (n i' : Int) (i : Nat) (hi : i < l.length) (hn' : l[i] = n) (ei : IntKind.i64.wrap ((i : Int) + 1) = i') :
    ∃ st1, evC T25 KK b25x0 (canon25 t u l l i) = some (.norm, st1) ∧ St.head [0, 1, 12, 13] st1 = canon25 t u l l i' := by
  have hi2 : (i : Int) < l.length := by omega
  have h0 : (0 : Int) ≤ i := by omega
  simp -implicitDefEqProofs [b25x0, canon25, upd, hi, hi2, h0, hn', ei, RC.len, RC.size, RC.get]
theorem end25 (t u : Nat) (l : List Int) (i : Int) (hi : ¬ i < l.length) :
    ∃ env, evC T25 KK b25x0 (canon25 t u l l i) = some (.exit 0, ⟨env, [.ro t (.ints .i64 l), .ro u (.ints .i64 l)], []⟩) := by
  simp -implicitDefEqProofs [b25x0, canon25, upd, hi]
theorem loop25 (t u : Nat) (l : List Int) (hl : l.length ≤ 300) : ∀ (j i : Nat) (K : Nat), i + j = l.length → j < K →
    ∃ env, loopH (evC T25 KK b25x0) [0, 1, 12, 13] K (canon25 t u l l i) = some (.exit 0, ⟨env, [.ro t (.ints .i64 l), .ro u (.ints .i64 l)], []⟩)
  | 0, i, K, hi, hK => by
    obtain ⟨env, e⟩ := end25 t u l i (by omega)
    exact ⟨env, loopH_exit e⟩
  | j + 1, i, K, hi, hK => by
    have hlt : i < l.length := by omega
    obtain ⟨st1, e1, e2⟩ := body25 t u l l[i] (i + 1 : Nat) i hlt rfl (by rw [i64_in _ (by omega)]; omega)
    obtain ⟨env, e⟩ := loop25 t u l hl j (i + 1) (K - 1) (by omega) (by omega)
    exact ⟨env, by rw [loopH_norm e1 (by omega), e2]; exact e⟩
theorem f25 (t u : Nat) (l : List Int) (hl : l.length ≤ 300) : F25 [.one (.ro t (.ints .i64 l)), .one (.ro u (.ints .i64 l))] [] = some (.one (.bool true), []) := by
  obtain ⟨env, e⟩ := loop25 t u l hl l.length 0 KK (by omega) (by rw [KK_eq]; omega)
  have z : ((0 : Nat) : Int) = 0 := rfl
  simp only [canon25, z] at e
  simp -implicitDefEqProofs [F25, c25, upd, e, RC.len]
end Go.X.Try
