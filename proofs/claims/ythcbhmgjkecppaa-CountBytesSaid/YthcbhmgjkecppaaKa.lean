import Derived.Test.YthcbhmgjkecppaaB1
import Derived.Test.YthcbhmgjkecppaaAx
set_option maxRecDepth 100000
set_option linter.unusedSimpArgs false
set_option linter.unusedVariables false
namespace Go.X.Try
open Go.IntWalk
/-! ### sums, symbols, and whether counts may be -/
def sumK : List Int → Int
  | [] => 0
  | x :: l => x + sumK l
def symK : List Int → Int
  | [] => 0
  | x :: l => (if 0 < x then 1 else 0) + symK l
theorem sumK_bound {B : Int} (hB : 0 ≤ B) : ∀ {l : List Int}, (∀ z ∈ l, -B ≤ z ∧ z ≤ B) → -(B * l.length) ≤ sumK l ∧ sumK l ≤ B * l.length
  | [], _ => by simp [sumK]
  | x :: l, h => by
    have h1 := h x (by simp)
    have h2 := sumK_bound hB (l := l) fun z hz => h z (by simp [hz])
    have e : B * ((x :: l).length : Int) = B * (l.length : Int) + B := by
      rw [List.length_cons, Int.natCast_add, Int.mul_add]; simp
    rw [e]
    simp only [sumK]
    omega
theorem symK_bound : ∀ (l : List Int), 0 ≤ symK l ∧ symK l ≤ l.length
  | [] => by simp [symK]
  | x :: l => by
    have := symK_bound l
    simp only [symK, List.length_cons]
    split <;> omega
def canonR (a b : Nat) (t : Nat) (l : List Int) (s i : Int) : St := ⟨[(3, .one (.int .i64 s)), (6, .one (.ro t (.ints .i64 l))), (7, .one (.int .i64 l.length)), (8, .one (.int .i64 i))], [.ro t (.ints .i64 l)], []⟩
theorem body83 (t : Nat) (l : List Int) (s n s' i' : Int) (i : Nat) (hi : i < l.length) (hn' : l[i] = n) (el : IntKind.i64.wrap (s + n) = s') (ei : IntKind.i64.wrap ((i : Int) + 1) = i') :
    ∃ st1, evC T83 KK b83x0 (canonR 0 0 t l s i) = some (.norm, st1) ∧ St.head [3, 6, 7, 8] st1 = canonR 0 0 t l s' i' := by
  have hi2 : (i : Int) < l.length := by omega
  have h0 : (0 : Int) ≤ i := by omega
  simp -implicitDefEqProofs [b83x0, canonR, upd, hi, hi2, h0, hn', el, ei, RC.len, RC.size, RC.get]
theorem end83 (t : Nat) (l : List Int) (s i : Int) (hi : ¬ i < l.length) :
    ∃ env, evC T83 KK b83x0 (canonR 0 0 t l s i) = some (.exit 0, ⟨env, [.ro t (.ints .i64 l)], []⟩) ∧ getT 3 env = .one (.int .i64 s) := by
  simp -implicitDefEqProofs [b83x0, canonR, upd, hi]
theorem loop83 (t : Nat) (l : List Int) (hl : l.length ≤ 300) (hB : ∀ z ∈ l, -2000000 ≤ z ∧ z ≤ 2000000) : ∀ (j i : Nat) (s : Int) (K : Nat), i + j = l.length → -(2000000 * i) ≤ s → s ≤ 2000000 * i → j < K →
    ∃ env, loopH (evC T83 KK b83x0) [3, 6, 7, 8] K (canonR 0 0 t l s i) = some (.exit 0, ⟨env, [.ro t (.ints .i64 l)], []⟩) ∧ getT 3 env = .one (.int .i64 (s + sumK (l.drop i)))
  | 0, i, s, K, hi, h0, h1, hK => by
    obtain ⟨env, e, g⟩ := end83 t l s i (by omega)
    exact ⟨env, loopH_exit e, by rw [List.drop_eq_nil_of_le (by omega), g]; simp [sumK]⟩
  | j + 1, i, s, K, hi, h0, h1, hK => by
    have hlt : i < l.length := by omega
    have hz := hB l[i] (List.getElem_mem hlt)
    obtain ⟨st1, e1, e2⟩ := body83 t l s l[i] (s + l[i]) (i + 1 : Nat) i hlt rfl (i64_in _ (by omega)) (by rw [i64_in _ (by omega)]; omega)
    obtain ⟨env, e, g⟩ := loop83 t l hl hB j (i + 1) (s + l[i]) (K - 1) (by omega) (by omega) (by omega) (by omega)
    refine ⟨env, by rw [loopH_norm e1 (by omega), e2]; exact e, ?_⟩
    rw [g, List.drop_eq_getElem_cons hlt]
    simp only [sumK]
    rw [Int.add_assoc]
theorem f83 (t : Nat) (l : List Int) (hl : l.length ≤ 300) (hB : ∀ z ∈ l, -2000000 ≤ z ∧ z ≤ 2000000) : F83 [.one (.ro t (.ints .i64 l))] [] = some (.one (.int .i64 (sumK l)), []) := by
  obtain ⟨env, e, g⟩ := loop83 t l hl hB l.length 0 0 KK (by omega) (by omega) (by omega) (by rw [KK_eq]; omega)
  have z : ((0 : Nat) : Int) = 0 := rfl
  rw [List.drop_zero, Int.zero_add] at g
  simp only [canonR, z] at e
  simp -implicitDefEqProofs [F83, c83, upd, e, g, RC.len]
theorem body27 (t : Nat) (l : List Int) (s n s' i' : Int) (i : Nat) (hi : i < l.length) (hn' : l[i] = n) (el : (if 0 < n then IntKind.i64.wrap (s + 1) else s) = s') (ei : IntKind.i64.wrap ((i : Int) + 1) = i') :
    ∃ st1, evC T27 KK b27x0 (canonR 0 0 t l s i) = some (.norm, st1) ∧ St.head [3, 6, 7, 8] st1 = canonR 0 0 t l s' i' := by
  have hi2 : (i : Int) < l.length := by omega
  have h0 : (0 : Int) ≤ i := by omega
  by_cases hp : 0 < n
  · rw [if_pos hp] at el
    simp -implicitDefEqProofs [b27x0, canonR, upd, hi, hi2, h0, hn', el, ei, hp, RC.len, RC.size, RC.get]
  · rw [if_neg hp] at el; subst el
    simp -implicitDefEqProofs [b27x0, canonR, upd, hi, hi2, h0, hn', ei, hp, RC.len, RC.size, RC.get]
theorem end27 (t : Nat) (l : List Int) (s i : Int) (hi : ¬ i < l.length) :
    ∃ env, evC T27 KK b27x0 (canonR 0 0 t l s i) = some (.exit 0, ⟨env, [.ro t (.ints .i64 l)], []⟩) ∧ getT 3 env = .one (.int .i64 s) := by
  simp -implicitDefEqProofs [b27x0, canonR, upd, hi]
theorem loop27 (t : Nat) (l : List Int) (hl : l.length ≤ 300) : ∀ (j i : Nat) (s : Int) (K : Nat), i + j = l.length → 0 ≤ s → s ≤ i → j < K →
    ∃ env, loopH (evC T27 KK b27x0) [3, 6, 7, 8] K (canonR 0 0 t l s i) = some (.exit 0, ⟨env, [.ro t (.ints .i64 l)], []⟩) ∧ getT 3 env = .one (.int .i64 (s + symK (l.drop i)))
  | 0, i, s, K, hi, h0, h1, hK => by
    obtain ⟨env, e, g⟩ := end27 t l s i (by omega)
    exact ⟨env, loopH_exit e, by rw [List.drop_eq_nil_of_le (by omega), g]; simp [symK]⟩
  | j + 1, i, s, K, hi, h0, h1, hK => by
    have hlt : i < l.length := by omega
    have w : IntKind.i64.wrap (s + 1) = s + 1 := i64_in _ (by omega)
    obtain ⟨st1, e1, e2⟩ := body27 t l s l[i] (s + (if 0 < l[i] then 1 else 0)) (i + 1 : Nat) i hlt rfl (by rw [w]; split <;> omega) (by rw [i64_in _ (by omega)]; omega)
    obtain ⟨env, e, g⟩ := loop27 t l hl j (i + 1) (s + (if 0 < l[i] then 1 else 0)) (K - 1) (by omega) (by split <;> omega) (by split <;> omega) (by omega)
    refine ⟨env, by rw [loopH_norm e1 (by omega), e2]; exact e, ?_⟩
    rw [g, List.drop_eq_getElem_cons hlt]
    simp only [symK]
    rw [Int.add_assoc]
theorem f27 (t : Nat) (l : List Int) (hl : l.length ≤ 300) : F27 [.one (.ro t (.ints .i64 l))] [] = some (.one (.int .i64 (symK l)), []) := by
  obtain ⟨env, e, g⟩ := loop27 t l hl l.length 0 0 KK (by omega) (by omega) (by omega) (by rw [KK_eq]; omega)
  have z : ((0 : Nat) : Int) = 0 := rfl
  rw [List.drop_zero, Int.zero_add] at g
  simp only [canonR, z] at e
  simp -implicitDefEqProofs [F27, c27, upd, e, g, RC.len]
def canon28 (t : Nat) (l : List Int) (s i : Int) : St := ⟨[(0, .one (.ro t (.ints .i64 l))), (3, .one (.int .i64 s)), (4, .one (.int .i64 i))], [.ro t (.ints .i64 l)], []⟩
theorem body28 (t : Nat) (l : List Int) (s n s' i' : Int) (i : Nat) (hi : i < l.length) (hn' : l[i] = n) (el : (if 0 < n then IntKind.i64.wrap (s + 1) else s) = s') (ei : IntKind.i64.wrap ((i : Int) + 1) = i') :
    ∃ st1, evC T28 KK b28x0 (canon28 t l s i) = some (.norm, st1) ∧ St.head [0, 3, 4] st1 = canon28 t l s' i' := by
  have hi2 : (i : Int) < l.length := by omega
  have h0 : (0 : Int) ≤ i := by omega
  by_cases hp : 0 < n
  · rw [if_pos hp] at el
    simp -implicitDefEqProofs [b28x0, canon28, upd, hi, hi2, h0, hn', el, ei, hp, RC.len, RC.size, RC.get]
  · rw [if_neg hp] at el; subst el
    simp -implicitDefEqProofs [b28x0, canon28, upd, hi, hi2, h0, hn', ei, hp, RC.len, RC.size, RC.get]
theorem end28 (t : Nat) (l : List Int) (s i : Int) (hi : ¬ i < l.length) :
    ∃ env, evC T28 KK b28x0 (canon28 t l s i) = some (.exit 0, ⟨env, [.ro t (.ints .i64 l)], []⟩) ∧ getT 3 env = .one (.int .i64 s) := by
  simp -implicitDefEqProofs [b28x0, canon28, upd, hi, RC.len]
theorem loop28 (t : Nat) (l : List Int) (hl : l.length ≤ 300) : ∀ (j i : Nat) (s : Int) (K : Nat), i + j = l.length → 0 ≤ s → s ≤ i → j < K →
    ∃ env, loopH (evC T28 KK b28x0) [0, 3, 4] K (canon28 t l s i) = some (.exit 0, ⟨env, [.ro t (.ints .i64 l)], []⟩) ∧ getT 3 env = .one (.int .i64 (s + symK (l.drop i)))
  | 0, i, s, K, hi, h0, h1, hK => by
    obtain ⟨env, e, g⟩ := end28 t l s i (by omega)
    exact ⟨env, loopH_exit e, by rw [List.drop_eq_nil_of_le (by omega), g]; simp [symK]⟩
  | j + 1, i, s, K, hi, h0, h1, hK => by
    have hlt : i < l.length := by omega
    have w : IntKind.i64.wrap (s + 1) = s + 1 := i64_in _ (by omega)
    obtain ⟨st1, e1, e2⟩ := body28 t l s l[i] (s + (if 0 < l[i] then 1 else 0)) (i + 1 : Nat) i hlt rfl (by rw [w]; split <;> omega) (by rw [i64_in _ (by omega)]; omega)
    obtain ⟨env, e, g⟩ := loop28 t l hl j (i + 1) (s + (if 0 < l[i] then 1 else 0)) (K - 1) (by omega) (by split <;> omega) (by split <;> omega) (by omega)
    refine ⟨env, by rw [loopH_norm e1 (by omega), e2]; exact e, ?_⟩
    rw [g, List.drop_eq_getElem_cons hlt]
    simp only [symK]
    rw [Int.add_assoc]
theorem f28 (t : Nat) (l : List Int) (hl : l.length ≤ 300) : F28 [.one (.ro t (.ints .i64 l))] [] = some (.one (.int .i64 (symK l)), []) := by
  obtain ⟨env, e, g⟩ := loop28 t l hl l.length 0 0 KK (by omega) (by omega) (by omega) (by rw [KK_eq]; omega)
  have z : ((0 : Nat) : Int) = 0 := rfl
  rw [List.drop_zero, Int.zero_add] at g
  simp only [canon28, z] at e
  simp -implicitDefEqProofs [F28, c28, upd, e, g, RC.len]
def canon81 (t : Nat) (l : List Int) (i : Int) : St := ⟨[(0, .one (.ro t (.ints .i64 l))), (8, .one (.ro t (.ints .i64 l))), (9, .one (.int .i64 l.length)), (10, .one (.int .i64 i))], [.ro t (.ints .i64 l)], []⟩
theorem body81 (t : Nat) (l : List Int) (n i' : Int) (i : Nat) (hi : i < l.length) (hn' : l[i] = n) (h1 : ¬ n < 0) (h2 : ¬ 1048576 < n) (ei : IntKind.i64.wrap ((i : Int) + 1) = i') :
    ∃ st1, evC T81 KK b81x0 (canon81 t l i) = some (.norm, st1) ∧ St.head [0, 8, 9, 10] st1 = canon81 t l i' := by
  have hi2 : (i : Int) < l.length := by omega
  have h0 : (0 : Int) ≤ i := by omega
  simp -implicitDefEqProofs [b81x0, canon81, upd, hi, hi2, h0, hn', h1, h2, ei, RC.len, RC.size, RC.get]
theorem end81 (t : Nat) (l : List Int) (i : Int) (hi : ¬ i < l.length) :
    ∃ env, evC T81 KK b81x0 (canon81 t l i) = some (.exit 0, ⟨env, [.ro t (.ints .i64 l)], []⟩) ∧ getT 0 env = .one (.ro t (.ints .i64 l)) := by
  simp -implicitDefEqProofs [b81x0, canon81, upd, hi]
theorem loop81 (t : Nat) (l : List Int) (hl : l.length ≤ 300) (hB : ∀ z ∈ l, 0 ≤ z ∧ z ≤ 1048576) : ∀ (j i : Nat) (K : Nat), i + j = l.length → j < K →
    ∃ env, loopH (evC T81 KK b81x0) [0, 8, 9, 10] K (canon81 t l i) = some (.exit 0, ⟨env, [.ro t (.ints .i64 l)], []⟩) ∧ getT 0 env = .one (.ro t (.ints .i64 l))
  | 0, i, K, hi, hK => by
    obtain ⟨env, e, g⟩ := end81 t l i (by omega)
    exact ⟨env, loopH_exit e, g⟩
  | j + 1, i, K, hi, hK => by
    have hlt : i < l.length := by omega
    have hz := hB l[i] (List.getElem_mem hlt)
    obtain ⟨st1, e1, e2⟩ := body81 t l l[i] (i + 1 : Nat) i hlt rfl (by omega) (by omega) (by rw [i64_in _ (by omega)]; omega)
    obtain ⟨env, e, g⟩ := loop81 t l hl hB j (i + 1) (K - 1) (by omega) (by omega)
    exact ⟨env, by rw [loopH_norm e1 (by omega), e2]; exact e, g⟩
theorem f81 (t : Nat) (l : List Int) (hl : l.length ≤ 256) (hB : ∀ z ∈ l, 0 ≤ z ∧ z ≤ 1048576) : F81 [.one (.ro t (.ints .i64 l))] [] = some (.one (.bool (decide (0 < sumK l))), []) := by
  obtain ⟨env, e, g⟩ := loop81 t l (by omega) hB l.length 0 KK (by omega) (by rw [KK_eq]; omega)
  have z : ((0 : Nat) : Int) = 0 := rfl
  have e83 := fun t => f83 t l (by omega) fun z hz => by have := hB z hz; omega
  have n1 : ¬ (256 : Int) < l.length := by omega
  have n2 : ¬ 256 < l.length := by omega
  simp only [canon81, z] at e
  simp -implicitDefEqProofs [F81, c81, upd, e, g, e83, n1, n2, hl, RC.len]
end Go.X.Try
