import Derived.Test.YthcbhmgjkecppaaKa
set_option maxRecDepth 100000
set_option linter.unusedSimpArgs false
set_option linter.unusedVariables false
namespace Go.X.Try
open Go.IntWalk
/-! ### the place of the greatest -/
def canon105 (t : Nat) (l : List Int) (x i : Int) : St := ⟨[(0, .one (.ro t (.ints .i64 l))), (1, .one (.int .i64 x)), (7, .one (.int .i64 l.length)), (8, .one (.int .i64 i))], [.ro t (.ints .i64 l), .int .i64 x], []⟩
theorem body105 (t : Nat) (l : List Int) (x n i' : Int) (i : Nat) (hi : i < l.length) (hn' : l[i] = n) (h1 : ¬ x = n) (ei : IntKind.i64.wrap ((i : Int) + 1) = i') :
    ∃ st1, evC T105 KK b105x0 (canon105 t l x i) = some (.norm, st1) ∧ St.head [0, 1, 7, 8] st1 = canon105 t l x i' := by
  have hi2 : (i : Int) < l.length := by omega
  have h0 : (0 : Int) ≤ i := by omega
  simp -implicitDefEqProofs [b105x0, canon105, upd, hi, hi2, h0, hn', h1, ei, RC.len, RC.size, RC.get]
theorem hit105 (t : Nat) (l : List Int) (x : Int) (i : Nat) (hi : i < l.length) (hn' : l[i] = x) :
    ∃ env, evC T105 KK b105x0 (canon105 t l x i) = some (.ret, ⟨env, [.ro t (.ints .i64 l), .int .i64 x], []⟩) ∧ getT 4 env = .one (.int .i64 i) := by
  have hi2 : (i : Int) < l.length := by omega
  have h0 : (0 : Int) ≤ i := by omega
  simp -implicitDefEqProofs [b105x0, canon105, upd, hi, hi2, h0, hn', RC.len, RC.size, RC.get]
theorem loop105 (t : Nat) (l : List Int) (x : Int) (hl : l.length ≤ 300) : ∀ (j i : Nat) (K : Nat), i + j = l.length → (∃ k, ∃ h : k < l.length, i ≤ k ∧ l[k] = x) → j < K →
    ∃ env g, ∃ hg : g < l.length, loopH (evC T105 KK b105x0) [0, 1, 7, 8] K (canon105 t l x i) = some (.ret, ⟨env, [.ro t (.ints .i64 l), .int .i64 x], []⟩) ∧ getT 4 env = .one (.int .i64 (g : Nat)) ∧ l[g] = x
  | 0, i, K, hi, ⟨k, hk, h1, _⟩, hK => by omega
  | j + 1, i, K, hi, ⟨k, hk, h1, h2⟩, hK => by
    have hlt : i < l.length := by omega
    by_cases he : l[i] = x
    · obtain ⟨env, e, g⟩ := hit105 t l x i hlt he
      exact ⟨env, i, hlt, loopH_ret e, g, he⟩
    · obtain ⟨st1, e1, e2⟩ := body105 t l x l[i] (i + 1 : Nat) i hlt rfl (fun e => he e.symm) (by rw [i64_in _ (by omega)]; omega)
      have hne : i ≠ k := fun e => by subst e; exact he h2
      obtain ⟨env, g, hg, e, q, r⟩ := loop105 t l x hl j (i + 1) (K - 1) (by omega) ⟨k, hk, by omega, h2⟩ (by omega)
      exact ⟨env, g, hg, by rw [loopH_norm e1 (by omega), e2]; exact e, q, r⟩
theorem f105 (t : Nat) (l : List Int) (x : Int) (hl : l.length ≤ 300) (hx : x ∈ l) : ∃ g, ∃ hg : g < l.length, F105 [.one (.ro t (.ints .i64 l)), .one (.int .i64 x)] [] = some (.one (.int .i64 (g : Nat)), []) ∧ l[g] = x := by
  obtain ⟨k, hk, e⟩ := List.getElem_of_mem hx
  obtain ⟨env, g, hg, e, q, r⟩ := loop105 t l x hl l.length 0 KK (by omega) ⟨k, hk, by omega, e⟩ (by rw [KK_eq]; omega)
  have z : ((0 : Nat) : Int) = 0 := rfl
  simp only [canon105, z] at e
  refine ⟨g, hg, ?_, r⟩
  simp -implicitDefEqProofs [F105, c105, upd, e, q, RC.len]
def canon106 (t : Nat) (l : List Int) (m i : Int) : St := ⟨[(0, .one (.ro t (.ints .i64 l))), (3, .one (.int .i64 m)), (4, .one (.int .i64 i))], [.ro t (.ints .i64 l)], []⟩
theorem body106 (t : Nat) (l : List Int) (m n m' i' : Int) (i : Nat) (hi : i < l.length) (hn' : l[i] = n) (hm : (if m < n then n else m) = m') (ei : IntKind.i64.wrap ((i : Int) + 1) = i') :
    ∃ st1, evC T106 KK b106x0 (canon106 t l m i) = some (.norm, st1) ∧ St.head [0, 3, 4] st1 = canon106 t l m' i' := by
  have hi2 : (i : Int) < l.length := by omega
  have h0 : (0 : Int) ≤ i := by omega
  by_cases hp : m < n
  · rw [if_pos hp] at hm; subst hm
    simp -implicitDefEqProofs [b106x0, canon106, upd, hi, hi2, h0, hn', hp, ei, RC.len, RC.size, RC.get]
  · rw [if_neg hp] at hm; subst hm
    simp -implicitDefEqProofs [b106x0, canon106, upd, hi, hi2, h0, hn', hp, ei, RC.len, RC.size, RC.get]
theorem end106 (t : Nat) (l : List Int) (m i : Int) (hi : ¬ i < l.length) :
    ∃ env, evC T106 KK b106x0 (canon106 t l m i) = some (.exit 0, ⟨env, [.ro t (.ints .i64 l)], []⟩) ∧ getT 3 env = .one (.int .i64 m) := by
  simp -implicitDefEqProofs [b106x0, canon106, upd, hi, RC.len]
theorem loop106 (t : Nat) (l : List Int) (hl : l.length ≤ 300) : ∀ (j i : Nat) (m : Int) (K : Nat), i + j = l.length → m ∈ l → (∀ k (h : k < l.length), k < i → l[k] ≤ m) → j < K →
    ∃ env M, loopH (evC T106 KK b106x0) [0, 3, 4] K (canon106 t l m i) = some (.exit 0, ⟨env, [.ro t (.ints .i64 l)], []⟩) ∧ getT 3 env = .one (.int .i64 M) ∧ M ∈ l ∧ ∀ z ∈ l, z ≤ M
  | 0, i, m, K, hi, hm, hle, hK => by
    obtain ⟨env, e, g⟩ := end106 t l m i (by omega)
    refine ⟨env, m, loopH_exit e, g, hm, fun z hz => ?_⟩
    obtain ⟨k, hk, e⟩ := List.getElem_of_mem hz
    rw [← e]; exact hle k hk (by omega)
  | j + 1, i, m, K, hi, hm, hle, hK => by
    have hlt : i < l.length := by omega
    obtain ⟨st1, e1, e2⟩ := body106 t l m l[i] (if m < l[i] then l[i] else m) (i + 1 : Nat) i hlt rfl rfl (by rw [i64_in _ (by omega)]; omega)
    obtain ⟨env, M, e, q, r, s⟩ := loop106 t l hl j (i + 1) (if m < l[i] then l[i] else m) (K - 1) (by omega) (by split; exact List.getElem_mem hlt; exact hm) (fun k h hk => by
      by_cases hki : k = i
      · subst hki; split <;> omega
      · have := hle k h (by omega)
        split <;> omega) (by omega)
    exact ⟨env, M, by rw [loopH_norm e1 (by omega), e2]; exact e, q, r, s⟩
theorem f106 (t : Nat) (l : List Int) (hl : l.length ≤ 300) (h0 : 0 < l.length) : ∃ M, F106 [.one (.ro t (.ints .i64 l))] [] = some (.one (.int .i64 M), []) ∧ M ∈ l ∧ ∀ z ∈ l, z ≤ M := by
  obtain ⟨env, M, e, q, r, s⟩ := loop106 t l hl (l.length - 1) 1 l[0] KK (by omega) (List.getElem_mem h0) (fun k h hk => by
    have : k = 0 := by omega
    subst this; omega) (by rw [KK_eq]; omega)
  have z : ((1 : Nat) : Int) = 1 := rfl
  simp only [canon106, z] at e
  refine ⟨M, ?_, r, s⟩
  have n1 : ¬ (l.length : Int) < 1 := by omega
  have n2 : (0 : Int) < l.length := by omega
  generalize hx : l[0] = x at e
  simp -implicitDefEqProofs [F106, c106, upd, e, q, n1, n2, h0, hx, RC.len, RC.size, RC.get]
theorem f84 (t : Nat) (l : List Int) (hl : l.length ≤ 300) (h0 : 0 < l.length) : ∃ g, ∃ hg : g < l.length, F84 [.one (.ro t (.ints .i64 l))] [] = some (.one (.int .i64 (g : Nat)), []) ∧ ∀ z ∈ l, z ≤ l[g] := by
  obtain ⟨M, e1, e2, e3⟩ := f106 0 l hl h0
  obtain ⟨g, hg, e4, e5⟩ := f105 0 l M hl e2
  refine ⟨g, hg, ?_, by rw [e5]; exact e3⟩
  simp -implicitDefEqProofs [F84, c84, upd, e1, e4]
end Go.X.Try
