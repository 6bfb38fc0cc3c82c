import Derived.Test.YthcbhmgjkecppaaKg
set_option maxRecDepth 100000
set_option linter.unusedSimpArgs false
set_option linter.unusedVariables false
namespace Go.X.Try
open Go.IntWalk
/-! ### the log for counts -/
def canon30 (t : Nat) (l : List Int) (log : Int) : St := ⟨[(0, .one (.ro t (.ints .i64 l))), (3, .one (.int .i64 log))], [.ro t (.ints .i64 l)], []⟩
theorem go30 (t : Nat) (l : List Int) (log p s T log' : Int) (e27 : ∀ t, F27 [.one (.ro t (.ints .i64 l))] [] = some (.one (.int .i64 s), [])) (e83 : ∀ t, F83 [.one (.ro t (.ints .i64 l))] [] = some (.one (.int .i64 T), []))
    (h9 : log < 9) (hlog : ¬ log < 0) (es : shlI .i64 1 log = p) (w4 : IntKind.i64.wrap (4 * s) = 4 * s) (ei : IntKind.i64.wrap (log + 1) = log') (h : p < 4 * s ∨ p < IntKind.i64.wrap (T.tdiv 8)) :
    ∃ st1, evC T30 KK b30x0 (canon30 t l log) = some (.norm, st1) ∧ St.head [0, 3] st1 = canon30 t l log' := by
  by_cases h1 : p < 4 * s
  · simp -implicitDefEqProofs [b30x0, canon30, upd, e27, e83, h9, hlog, es, w4, ei, h1]
  · have h2 : p < IntKind.i64.wrap (T.tdiv 8) := h.resolve_left h1
    simp -implicitDefEqProofs [b30x0, canon30, upd, e27, e83, h9, hlog, es, w4, ei, h1, h2]
theorem out30 (t : Nat) (l : List Int) (log p s T : Int) (e27 : ∀ t, F27 [.one (.ro t (.ints .i64 l))] [] = some (.one (.int .i64 s), [])) (e83 : ∀ t, F83 [.one (.ro t (.ints .i64 l))] [] = some (.one (.int .i64 T), []))
    (h9 : log < 9) (hlog : ¬ log < 0) (es : shlI .i64 1 log = p) (w4 : IntKind.i64.wrap (4 * s) = 4 * s) (h1 : ¬ p < 4 * s) (h2 : ¬ p < IntKind.i64.wrap (T.tdiv 8)) :
    ∃ env, evC T30 KK b30x0 (canon30 t l log) = some (.exit 0, ⟨env, [.ro t (.ints .i64 l)], []⟩) ∧ getT 3 env = .one (.int .i64 log) := by
  simp -implicitDefEqProofs [b30x0, canon30, upd, e27, e83, h9, hlog, es, w4, h1, h2]
theorem top30 (t : Nat) (l : List Int) (log : Int) (h9 : ¬ log < 9) :
    ∃ env, evC T30 KK b30x0 (canon30 t l log) = some (.exit 0, ⟨env, [.ro t (.ints .i64 l)], []⟩) ∧ getT 3 env = .one (.int .i64 log) := by
  simp -implicitDefEqProofs [b30x0, canon30, upd, h9]
theorem shl_pow {log : Int} (h : 5 ≤ log ∧ log ≤ 9) : shlI .i64 1 log = ((2 ^ log.toNat : Nat) : Int) ∧ 32 ≤ ((2 ^ log.toNat : Nat) : Int) ∧ ((2 ^ log.toNat : Nat) : Int) ≤ 512 := by
  have : log = 5 ∨ log = 6 ∨ log = 7 ∨ log = 8 ∨ log = 9 := by omega
  rcases this with rfl | rfl | rfl | rfl | rfl <;> decide
theorem loop30 (t : Nat) (l : List Int) (hl : l.length ≤ 256) (hB : ∀ z ∈ l, 0 ≤ z ∧ z ≤ 400) : ∀ (j : Nat) (log : Int) (K : Nat), 5 ≤ log → log + j = 9 → j < K →
    ∃ env log', loopH (evC T30 KK b30x0) [0, 3] K (canon30 t l log) = some (.exit 0, ⟨env, [.ro t (.ints .i64 l)], []⟩) ∧ getT 3 env = .one (.int .i64 log') ∧ 5 ≤ log' ∧ log' ≤ 9 ∧ symK l ≤ ((2 ^ log'.toNat : Nat) : Int)
  | 0, log, K, h5, h9, hK => by
    obtain ⟨env, e, g⟩ := top30 t l log (by omega)
    have := symK_bound l
    obtain rfl : log = 9 := by omega
    have e9 : (((2 ^ (9 : Int).toNat : Nat)) : Int) = 512 := rfl
    exact ⟨env, 9, loopH_exit e, g, by omega, by omega, by rw [e9]; omega⟩
  | j + 1, log, K, h5, h9, hK => by
    have e27 := fun t => f27 t l (by omega)
    have e83 := fun t => f83 t l (by omega) fun z hz => by have := hB z hz; omega
    obtain ⟨es, p1, p2⟩ := shl_pow (log := log) (by omega)
    have hs := symK_bound l
    have w4 : IntKind.i64.wrap (4 * symK l) = 4 * symK l := i64_in _ (by omega)
    by_cases h : ((2 ^ log.toNat : Nat) : Int) < 4 * symK l ∨ ((2 ^ log.toNat : Nat) : Int) < IntKind.i64.wrap ((sumK l).tdiv 8)
    · obtain ⟨st1, e1, e2⟩ := go30 t l log _ _ _ (log + 1) e27 e83 (by omega) (by omega) es w4 (i64_in _ (by omega)) h
      obtain ⟨env, log', e, g⟩ := loop30 t l hl hB j (log + 1) (K - 1) (by omega) (by omega) (by omega)
      exact ⟨env, log', by rw [loopH_norm e1 (by omega), e2]; exact e, g⟩
    · obtain ⟨env, e, g⟩ := out30 t l log _ _ _ e27 e83 (by omega) (by omega) es w4 (fun h1 => h (.inl h1)) (fun h1 => h (.inr h1))
      exact ⟨env, log, loopH_exit e, g, h5, by omega, by omega⟩
theorem f30 (t : Nat) (l : List Int) (hl : l.length ≤ 256) (hB : ∀ z ∈ l, 0 ≤ z ∧ z ≤ 400) (hp : 0 < sumK l) : ∃ log, F30 [.one (.ro t (.ints .i64 l))] [] = some (.one (.int .i64 log), []) ∧ 5 ≤ log ∧ log ≤ 9 ∧ symK l ≤ ((2 ^ log.toNat : Nat) : Int) := by
  have e81 := fun t => f81 t l hl fun z hz => by have := hB z hz; omega
  rw [decide_eq_true hp] at e81
  obtain ⟨env, log, e, g, h1, h2, h3⟩ := loop30 t l hl hB 4 5 KK (by omega) (by omega) (by rw [KK_eq]; omega)
  simp only [canon30] at e
  refine ⟨log, ?_, h1, h2, h3⟩
  simp -implicitDefEqProofs [F30, c30, upd, e81, e, g]
theorem f30z (t : Nat) (l : List Int) (hl : l.length ≤ 256) (hB : ∀ z ∈ l, 0 ≤ z ∧ z ≤ 400) (hp : ¬ 0 < sumK l) : F30 [.one (.ro t (.ints .i64 l))] [] = some (.one (.int .i64 0), []) := by
  have e81 := fun t => f81 t l hl fun z hz => by have := hB z hz; omega
  rw [decide_eq_false hp] at e81
  simp -implicitDefEqProofs [F30, c30, upd, e81]
end Go.X.Try
