import Derived.Test.YthcbhmgjkecppaaKc
set_option maxRecDepth 100000
set_option linter.unusedSimpArgs false
set_option linter.unusedVariables false
namespace Go.X.Try
open Go.IntWalk
theorem mapM_rep {α β : Type} {f : α → Option β} {a : α} {b : β} (h : f a = some b) : ∀ n : Nat, List.mapM f (List.replicate n a) = some (List.replicate n b)
  | 0 => rfl
  | n + 1 => by rw [List.replicate_succ, List.mapM_cons, h, mapM_rep h n]; rfl
theorem mks_ints (n : Nat) : RC.ofElems (.ints .i64 []) (List.replicate n [Sc.int .i64 0]) = some (.ints .i64 (List.replicate n 0)) := by
  simp only [RC.ofElems]
  rw [mapM_rep (b := (0 : Int))]
  · rfl
  · rfl
theorem f82 (t : Nat) (l : List Int) (S : Int) (hl : l.length ≤ 256) (hS : 32 ≤ S ∧ S ≤ 512) (hT : 0 < sumK l ∧ sumK l ≤ 400) (hc : ∀ z ∈ l, 0 ≤ z ∧ z ≤ sumK l) :
    F82 [.one (.ro t (.ints .i64 l)), .one (.int .i64 S)] [] = some (.one (.row 0), [.rows (.ints .i64 (l.map (ptK S (sumK l))))]) := by
  have e83 := fun t => f83 t l (by omega) fun z hz => by have := hc z hz; omega
  obtain ⟨env, e, g⟩ := loop82 t l S (sumK l) hl hS hT hc l.length 0 (List.replicate l.length 0) KK (by omega) (by simp) (fun k h => by simp) (by rw [KK_eq]; omega)
  have z : ((0 : Nat) : Int) = 0 := rfl
  have n1 : (l.length : Int) * 8 ≤ 140737488355328 := by omega
  have n2 : l.length * 8 ≤ 140737488355328 := by omega
  simp only [canon82, z] at e
  simp -implicitDefEqProofs [F82, c82, upd, e, g, e83, n1, n2, mks_ints, RC.len]
/-- The sum of the parts is at most the size and one for each. -/
theorem sum_parts {S T : Int} (hS : 32 ≤ S ∧ S ≤ 512) (hT : 0 < T ∧ T ≤ 400) : ∀ (l : List Int), (∀ z ∈ l, 0 ≤ z ∧ z ≤ T) → 0 ≤ sumK (l.map (ptK S T)) ∧ T * sumK (l.map (ptK S T)) ≤ S * sumK l + T * l.length
  | [], _ => by simp [sumK]
  | x :: l, h => by
    obtain ⟨h0, h1⟩ := sum_parts hS hT l fun z hz => h z (by simp [hz])
    obtain ⟨p1, p2, _, _, p5⟩ := pt_bound hS hT (h x (by simp))
    simp only [List.map_cons, sumK, List.length_cons]
    refine ⟨by omega, ?_⟩
    have e1 : T * (ptK S T x + sumK (l.map (ptK S T))) = T * ptK S T x + T * sumK (l.map (ptK S T)) := Int.mul_add _ _ _
    have e2 : S * (x + sumK l) = x * S + S * sumK l := by rw [Int.mul_add, Int.mul_comm S x]
    have e3 : T * ((l.length + 1 : Nat) : Int) = T * (l.length : Int) + T := by rw [Int.natCast_add, Int.mul_add]; simp
    rw [e1, e2, e3]
    omega
theorem sum_parts_le {S : Int} (l : List Int) (hS : 32 ≤ S ∧ S ≤ 512) (hT : 0 < sumK l ∧ sumK l ≤ 400) (hc : ∀ z ∈ l, 0 ≤ z ∧ z ≤ sumK l) : 0 ≤ sumK (l.map (ptK S (sumK l))) ∧ sumK (l.map (ptK S (sumK l))) ≤ S + l.length := by
  obtain ⟨h0, h1⟩ := sum_parts hS hT l hc
  refine ⟨h0, ?_⟩
  have e : S * sumK l + sumK l * (l.length : Int) = sumK l * (S + l.length) := by rw [Int.mul_add, Int.mul_comm S]
  rw [e] at h1
  exact Int.le_of_mul_le_mul_left h1 hT.1
end Go.X.Try
