import Derived.Test.YthcbhmgjkecppaaKh
import Derived.Test.YthcbhmgjkecppaaJa
set_option maxRecDepth 100000
set_option linter.unusedSimpArgs false
set_option linter.unusedVariables false
namespace Go.X.Try
open Go.IntWalk
/-! ### a share of counts -/
def canon29 (t : Nat) (l X : List Int) (log left : Int) : St := ⟨[(7, .one (.row 0)), (8, .one (.int .i64 left))], [.ro t (.ints .i64 l), .int .i64 log], [.rows (.ints .i64 X)]⟩
theorem body29 (t : Nat) (l X : List Int) (log left left' : Int) (g : Nat) (hg : g < X.length) (e84 : F84 [.one (.ro 0 (.ints .i64 X))] [] = some (.one (.int .i64 (g : Nat)), [])) (h : left < 0) (el : IntKind.i64.wrap (left + 1) = left') :
    ∃ st1, evC T29 KK b29x0 (canon29 t l X log left) = some (.norm, st1) ∧ St.head [7, 8] st1 = canon29 t l (X.set g (IntKind.i64.wrap (X[g] - 1))) log left' := by
  have hg2 : (g : Int) < X.length := by omega
  have h0 : (0 : Int) ≤ g := by omega
  simp -implicitDefEqProofs [b29x0, canon29, upd, e84, h, el, hg, hg2, h0, RC.len, RC.size, RC.get, RC.set]
theorem end29 (t : Nat) (l X : List Int) (log left : Int) (h : ¬ left < 0) :
    ∃ env, evC T29 KK b29x0 (canon29 t l X log left) = some (.exit 0, ⟨env, [.ro t (.ints .i64 l), .int .i64 log], [.rows (.ints .i64 X)]⟩) ∧ getT 7 env = .one (.row 0) := by
  simp -implicitDefEqProofs [b29x0, canon29, upd, h]
theorem loop29 (t : Nat) (l : List Int) (log : Int) : ∀ (j : Nat) (left : Int) (X : List Int) (K : Nat), 0 ≤ left + j → -1000 ≤ left → 0 < X.length → X.length ≤ 256 → j < K →
    ∃ env Y, loopH (evC T29 KK b29x0) [7, 8] K (canon29 t l X log left) = some (.exit 0, ⟨env, [.ro t (.ints .i64 l), .int .i64 log], [.rows (.ints .i64 Y)]⟩) ∧ getT 7 env = .one (.row 0)
  | 0, left, X, K, h, hb, h0, h1, hK => by
    obtain ⟨env, e, g⟩ := end29 t l X log left (by omega)
    exact ⟨env, X, loopH_exit e, g⟩
  | j + 1, left, X, K, h, hb, h0, h1, hK => by
    by_cases hn : left < 0
    · obtain ⟨g, hg, e84, _⟩ := f84 0 X (by omega) h0
      obtain ⟨st1, e1, e2⟩ := body29 t l X log left (left + 1) g hg e84 hn (i64_in _ (by omega))
      obtain ⟨env, Y, e, q⟩ := loop29 t l log j (left + 1) (X.set g (IntKind.i64.wrap (X[g] - 1))) (K - 1) (by omega) (by omega) (by simpa using h0) (by simpa using h1) (by omega)
      exact ⟨env, Y, by rw [loopH_norm e1 (by omega), e2]; exact e, q⟩
    · obtain ⟨env, e, g⟩ := end29 t l X log left hn
      exact ⟨env, X, loopH_exit e, g⟩
theorem f29 (t : Nat) (l : List Int) (log : Int) (hl : 0 < l.length) (hl2 : l.length ≤ 256) (hT : 0 < sumK l ∧ sumK l ≤ 400) (hB : ∀ z ∈ l, 0 ≤ z ∧ z ≤ sumK l) (h5 : 5 ≤ log ∧ log ≤ 9) (hs : symK l ≤ ((2 ^ log.toNat : Nat) : Int)) :
    ∃ Y, F29 [.one (.ro t (.ints .i64 l)), .one (.int .i64 log)] [] = some (.tup [.one (.row 0), .one (.bool true)], [.rows (.ints .i64 Y)]) := by
  have e81 := fun t => f81 t l hl2 fun z hz => by have := hB z hz; omega
  rw [decide_eq_true hT.1] at e81
  have e77 := e77 log
  rw [decide_eq_true h5] at e77
  have e27 := fun t => f27 t l (by omega)
  obtain ⟨es, p1, p2⟩ := shl_pow (log := log) h5
  generalize ((2 ^ log.toNat : Nat) : Int) = S at *
  have e82 := fun t => f82 t l S hl2 ⟨p1, p2⟩ hT hB
  obtain ⟨q1, q2⟩ := sum_parts_le (S := S) l ⟨p1, p2⟩ hT hB
  have e83 := fun t => f83 t (l.map (ptK S (sumK l))) (by simp; omega) (fun z hz => by
    simp only [List.mem_map] at hz
    obtain ⟨c, hc, rfl⟩ := hz
    obtain ⟨a1, a2, _⟩ := pt_bound (c := c) ⟨p1, p2⟩ hT (hB c hc)
    omega)
  have hXl : (l.map (ptK S (sumK l))).length = l.length := by simp
  generalize hX : l.map (ptK S (sumK l)) = X at *
  generalize hσ : sumK X = σ at *
  have wl : IntKind.i64.wrap (S - σ) = S - σ := i64_in _ (by omega)
  have n1 : ¬ S < symK l := by omega
  have hlog : ¬ log < 0 := by omega
  by_cases hpos : 0 < S - σ
  · obtain ⟨g, hg, e84, _⟩ := f84 0 l (by omega) hl
    have hgX : g < X.length := by omega
    have hg2 : (g : Int) < X.length := by omega
    have h0 : (0 : Int) ≤ g := by omega
    obtain ⟨env, Y, e, q⟩ := loop29 t l log 0 (S - σ) (X.set g (IntKind.i64.wrap (X[g] + (S - σ)))) KK (by omega) (by omega) (by simp; omega) (by simp; omega) (by rw [KK_eq]; omega)
    simp only [canon29] at e
    generalize hd : S - σ = d at *
    refine ⟨Y, ?_⟩
    simp -implicitDefEqProofs [F29, c29, upd, e81, e77, e27, es, n1, hlog, e82, e83, hd, wl, hpos, e84, hgX, hg2, h0, e, q, RC.len, RC.size, RC.get, RC.set]
  · obtain ⟨env, Y, e, q⟩ := loop29 t l log 1000 (S - σ) X KK (by omega) (by omega) (by omega) (by omega) (by rw [KK_eq]; omega)
    simp only [canon29] at e
    generalize hd : S - σ = d at *
    refine ⟨Y, ?_⟩
    simp -implicitDefEqProofs [F29, c29, upd, e81, e77, e27, es, n1, hlog, e82, e83, hd, wl, hpos, e, q, RC.len, RC.size, RC.get, RC.set]
theorem f29z (t : Nat) (l : List Int) (log : Int) (hl : l.length ≤ 256) (hB : ∀ z ∈ l, 0 ≤ z ∧ z ≤ 400) (hp : ¬ 0 < sumK l) : F29 [.one (.ro t (.ints .i64 l)), .one (.int .i64 log)] [] = some (.tup [.one (.row 0), .one (.bool false)], [.rows (.ints .i64 [])]) := by
  have e81 := fun t => f81 t l hl fun z hz => by have := hB z hz; omega
  rw [decide_eq_false hp] at e81
  simp -implicitDefEqProofs [F29, c29, upd, e81]
end Go.X.Try
