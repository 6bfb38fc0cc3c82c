import Derived.Test.YthcbhmgjkecppaaKb
set_option maxRecDepth 100000
set_option linter.unusedSimpArgs false
set_option linter.unusedVariables false
namespace Go.X.Try
open Go.IntWalk
/-! ### the parts of a share -/
def ptK (S T c : Int) : Int := if 0 < c then (if (c * S).tdiv T < 1 then 1 else (c * S).tdiv T) else 0
def canon82 (t : Nat) (l : List Int) (S T i : Int) (X : List Int) : St := ⟨[(1, .one (.int .i64 S)), (5, .one (.int .i64 T)), (6, .one (.row 0)), (14, .one (.ro t (.ints .i64 l))), (15, .one (.int .i64 l.length)), (16, .one (.int .i64 i))], [.ro t (.ints .i64 l), .int .i64 S], [.rows (.ints .i64 X)]⟩
theorem body82 (t : Nat) (l X X' : List Int) (S T n i' : Int) (i : Nat) (hi : i < l.length) (hX : X.length = l.length) (hn' : l[i] = n) (hT : ¬ T = 0) (wm : IntKind.i64.wrap (n * S) = n * S) (wq : IntKind.i64.wrap ((n * S).tdiv T) = (n * S).tdiv T)
    (he : (if 0 < n then X.set i (ptK S T n) else X) = X') (ei : IntKind.i64.wrap ((i : Int) + 1) = i') :
    ∃ st1, evC T82 KK b82x0 (canon82 t l S T i X) = some (.norm, st1) ∧ St.head [1, 5, 6, 14, 15, 16] st1 = canon82 t l S T i' X' := by
  have hi2 : (i : Int) < l.length := by omega
  have h0 : (0 : Int) ≤ i := by omega
  have hi3 : i < X.length := by omega
  have hi4 : (i : Int) < X.length := by omega
  by_cases hp : 0 < n
  · rw [if_pos hp] at he
    simp only [ptK, if_pos hp] at he
    by_cases hq : (n * S).tdiv T < 1
    · rw [if_pos hq] at he; subst he
      simp -implicitDefEqProofs [b82x0, canon82, upd, hi, hi2, hi3, hi4, h0, hn', hp, hT, wm, wq, hq, ei, RC.len, RC.size, RC.get, RC.set]
    · rw [if_neg hq] at he; subst he
      simp -implicitDefEqProofs [b82x0, canon82, upd, hi, hi2, hi3, hi4, h0, hn', hp, hT, wm, wq, hq, ei, RC.len, RC.size, RC.get, RC.set]
  · rw [if_neg hp] at he; subst he
    simp -implicitDefEqProofs [b82x0, canon82, upd, hi, hi2, h0, hn', hp, ei, RC.len, RC.size, RC.get]
theorem end82 (t : Nat) (l X : List Int) (S T i : Int) (hi : ¬ i < l.length) :
    ∃ env, evC T82 KK b82x0 (canon82 t l S T i X) = some (.exit 0, ⟨env, [.ro t (.ints .i64 l), .int .i64 S], [.rows (.ints .i64 X)]⟩) ∧ getT 6 env = .one (.row 0) := by
  simp -implicitDefEqProofs [b82x0, canon82, upd, hi]
theorem pt_bound {S T c : Int} (hS : 32 ≤ S ∧ S ≤ 512) (hT : 0 < T ∧ T ≤ 400) (hc : 0 ≤ c ∧ c ≤ T) : 0 ≤ ptK S T c ∧ ptK S T c ≤ S ∧ IntKind.i64.wrap (c * S) = c * S ∧ IntKind.i64.wrap ((c * S).tdiv T) = (c * S).tdiv T ∧ T * ptK S T c ≤ c * S + T := by
  have h1 : 0 ≤ c * S := Int.mul_nonneg hc.1 (by omega)
  have h2 : c * S ≤ T * S := Int.mul_le_mul_of_nonneg_right hc.2 (by omega)
  have h3 : T * S ≤ 400 * S := Int.mul_le_mul_of_nonneg_right hT.2 (by omega)
  have e : (c * S).tdiv T = c * S / T := Int.tdiv_eq_ediv_of_nonneg h1
  have q0 : 0 ≤ c * S / T := Int.ediv_nonneg h1 (by omega)
  have q1 : c * S / T ≤ S := by
    have : c * S / T ≤ T * S / T := Int.ediv_le_ediv hT.1 h2
    rw [Int.mul_ediv_cancel_left S (by omega)] at this
    exact this
  have q2 : T * (c * S / T) ≤ c * S := Int.mul_ediv_self_le (by omega)
  refine ⟨?_, ?_, i64_in _ (by omega), by rw [e]; exact i64_in _ (by omega), ?_⟩
  · unfold ptK; rw [e]; (repeat' split) <;> omega
  · unfold ptK; rw [e]; (repeat' split) <;> omega
  · unfold ptK; rw [e]
    by_cases hc0 : 0 < c
    · rw [if_pos hc0]
      by_cases hq : c * S / T < 1
      · rw [if_pos hq]; omega
      · rw [if_neg hq]; omega
    · rw [if_neg hc0]; omega
theorem loop82 (t : Nat) (l : List Int) (S T : Int) (hl : l.length ≤ 256) (hS : 32 ≤ S ∧ S ≤ 512) (hT : 0 < T ∧ T ≤ 400) (hc : ∀ z ∈ l, 0 ≤ z ∧ z ≤ T) : ∀ (j i : Nat) (X : List Int) (K : Nat), i + j = l.length → (hX : X.length = l.length) →
    (∀ k (h : k < l.length), X[k] = if k < i then ptK S T l[k] else 0) → j < K →
    ∃ env, loopH (evC T82 KK b82x0) [1, 5, 6, 14, 15, 16] K (canon82 t l S T i X) = some (.exit 0, ⟨env, [.ro t (.ints .i64 l), .int .i64 S], [.rows (.ints .i64 (l.map (ptK S T)))]⟩) ∧ getT 6 env = .one (.row 0)
  | 0, i, X, K, hi, hX, hk, hK => by
    obtain ⟨env, e, g⟩ := end82 t l X S T i (by omega)
    have : X = l.map (ptK S T) := by
      apply List.ext_getElem (by simp [hX])
      intro k h1 h2
      rw [hk k (by omega), if_pos (by omega)]; simp
    subst this
    exact ⟨env, loopH_exit e, g⟩
  | j + 1, i, X, K, hi, hX, hk, hK => by
    have hlt : i < l.length := by omega
    obtain ⟨p1, p2, p3, p4, _⟩ := pt_bound hS hT (hc l[i] (List.getElem_mem hlt))
    obtain ⟨st1, e1, e2⟩ := body82 t l X _ S T l[i] (i + 1 : Nat) i hlt hX rfl (by omega) p3 p4 rfl (by rw [i64_in _ (by omega)]; omega)
    obtain ⟨env, e, g⟩ := loop82 t l S T hl hS hT hc j (i + 1) (if 0 < l[i] then X.set i (ptK S T l[i]) else X) (K - 1) (by omega) (by split <;> simp [hX]) (fun k h => by
      by_cases hki : k = i
      · subst hki
        by_cases hp : 0 < l[k]
        · simp [hp]
        · have := hk k h
          simp [hp, ptK, this]
      · have := hk k h
        have hik : ¬ i = k := fun e => hki e.symm
        by_cases hp : 0 < l[i]
        · simp [hp, hik, List.getElem_set, this]
          by_cases hlt' : k < i
          · rw [if_pos hlt', if_pos (by omega)]
          · rw [if_neg hlt', if_neg (by omega)]
        · simp [hp, this]
          by_cases hlt' : k < i
          · rw [if_pos hlt', if_pos (by omega)]
          · rw [if_neg hlt', if_neg (by omega)]) (by omega)
    exact ⟨env, by rw [loopH_norm e1 (by omega), e2]; exact e, g⟩
end Go.X.Try
