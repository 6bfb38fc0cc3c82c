import Derived.Test.YtmkfebnahaembaaG2
import Derived.Test.YtmkfebnahaembaaAw
set_option maxRecDepth 100000
set_option linter.unusedSimpArgs false
set_option linter.unusedVariables false
namespace Go.X.Try
open Go.IntWalk
theorem num_le' (a b c x : Int) (h : 1 ≤ x ∧ x ≤ 65533) : 0 ≤ num a b c x ∧ num a b c x ≤ 65535 := by
  unfold num; (repeat' split) <;> omega
theorem off_num' (a b c x : Int) (h : 1 ≤ x ∧ x ≤ 65533) : offOf a b c (num a b c x) = x := by
  unfold num
  by_cases h1 : x = a
  · rw [if_pos h1]; simp [offOf, h1]
  · rw [if_neg h1]
    by_cases h2 : x = b
    · rw [if_pos h2]; simp [offOf, h2]
    · rw [if_neg h2]
      by_cases h3 : x = c
      · rw [if_pos h3]; simp [offOf, h3]
      · rw [if_neg h3]; unfold offOf
        rw [if_neg (by omega), if_neg (by omega), if_neg (by omega)]; omega
def dist3 (p q r : Int) : Prop := p ≠ q ∧ q ≠ r ∧ p ≠ r
theorem beh_dist {p q r x : Int} (h : dist3 p q r) : ∃ q' r', beh p q r x = R3 x q' r' ∧ dist3 x q' r' := by
  obtain ⟨h1, h2, h3⟩ := h
  unfold beh
  by_cases e1 : x = p
  · rw [if_pos e1]; exact ⟨q, r, rfl, by subst e1; exact ⟨h1, h2, h3⟩⟩
  · rw [if_neg e1]
    by_cases e2 : x = q
    · rw [if_pos e2]; exact ⟨p, r, rfl, e1, h3, by subst e2; exact h2⟩
    · rw [if_neg e2]; exact ⟨p, q, rfl, e1, h1, e2⟩
def canon11 (p q r : Int) (xs : List Int) (i : Int) : St :=
  ⟨[(3, .one (.ptr 0 0)), (4, .one (.ptr 1 0)), (21, .one (.ro 0 (.ints .u16 xs))), (22, .one (.int .i64 xs.length)), (23, .one (.int .i64 i))], [.ro 0 (.ints .u16 xs)],
    [.cells none [.int .i64 p, .int .i64 q, .int .i64 r], .cells none [.int .i64 p, .int .i64 q, .int .i64 r]]⟩
theorem body11 (p q r q' r' m o x : Int) (xs : List Int) (i : Nat) (h : i < xs.length) (hx : xs[i] = x) (w1 : IntKind.i64.wrap x = x) (w2 : IntKind.i64.wrap (1 + x.tmod 65533) = o) (w3 : IntKind.i64.wrap ((i : Int) + 1) = (i : Int) + 1)
    (k1 : F49 [R3 p q r, .one (.int .i64 o)] [] = some (.tup [.one (.int .i64 m), R3 o q' r', .one (.bool true)], []))
    (k2 : F52 [R3 p q r, .one (.int .i64 m)] [] = some (.tup [.one (.int .i64 o), R3 o q' r', .one (.bool true)], [])) (d1 : ¬ o = q') (d2 : ¬ q' = r') :
    ∃ st1, evC T11 KK b11x0 (canon11 p q r xs i) = some (.norm, st1) ∧ St.head [3, 4, 21, 22, 23] st1 = canon11 o q' r' xs ((i : Int) + 1) := by
  have hi : (i : Int) < xs.length := by omega
  have h0 : (0 : Int) ≤ i := by omega
  simp -implicitDefEqProofs [b11x0, canon11, upd, h, hi, h0, hx, w1, w2, w3, k1, k2, d1, d2, RC.len, RC.size, RC.get]
theorem end11 (p q r : Int) (xs : List Int) (i : Int) (hi : ¬ i < xs.length) : ∃ env hp, evC T11 KK b11x0 (canon11 p q r xs i) = some (.exit 0, ⟨env, [.ro 0 (.ints .u16 xs)], hp⟩) := by
  simp -implicitDefEqProofs [b11x0, canon11, upd, hi]
theorem loop11 (xs : List Int) (hw : ∀ z ∈ xs, 0 ≤ z ∧ z ≤ 65535) (hl : xs.length ≤ 100) : ∀ (j i K : Nat) (p q r : Int), i + j = xs.length → dist3 p q r → j + 1 < K →
    ∃ env hp, loopH (evC T11 KK b11x0) [3, 4, 21, 22, 23] K (canon11 p q r xs i) = some (.exit 0, ⟨env, [.ro 0 (.ints .u16 xs)], hp⟩)
  | 0, i, K, p, q, r, h, _, hK => by
    obtain ⟨env, hp, he⟩ := end11 p q r xs i (by omega)
    exact ⟨env, hp, loopH_exit he⟩
  | j + 1, i, K, p, q, r, h, hd, hK => by
    have hi : i < xs.length := by omega
    obtain ⟨hz0, hz1⟩ := hw xs[i] (List.getElem_mem hi)
    have ht : (xs[i]).tmod 65533 = xs[i] % 65533 := Int.tmod_eq_emod_of_nonneg hz0
    have w1 : IntKind.i64.wrap xs[i] = xs[i] := IntWalk.i64_in _ (by omega)
    have w2 : IntKind.i64.wrap (1 + (xs[i]).tmod 65533) = 1 + xs[i] % 65533 := by rw [ht]; exact IntWalk.i64_in _ (by omega)
    have w3 : IntKind.i64.wrap ((i : Int) + 1) = (i : Int) + 1 := IntWalk.i64_in _ (by omega)
    have ho : 1 ≤ 1 + xs[i] % 65533 ∧ 1 + xs[i] % 65533 ≤ 65533 := by omega
    obtain ⟨q', r', hb, hd'⟩ := beh_dist (x := 1 + xs[i] % 65533) hd
    have k1 := f49 p q r _ ho
    have k2 := f52 p q r _ _ (num_le' p q r _ ho) (off_num' p q r _ ho) ho rfl
    rw [hb] at k1 k2
    obtain ⟨st1, h1, h2⟩ := body11 p q r q' r' _ _ _ xs i hi rfl w1 w2 w3 k1 k2 hd'.1 hd'.2.1
    obtain ⟨env, hp, e⟩ := loop11 xs hw hl j (i + 1) (K - 1) _ _ _ (by omega) hd' (by omega)
    refine ⟨env, hp, ?_⟩
    rw [loopH_norm h1 (by omega), h2]
    exact e
theorem e11 (xs : List Int) (hw : ∀ z ∈ xs, 0 ≤ z ∧ z ≤ 65535) : F11 [.one (.ro 0 (.ints .u16 xs))] [] = some (.one (.bool true), []) := by
  by_cases hl : xs.length ≤ 100
  · obtain ⟨env, hp, e⟩ := loop11 xs hw hl xs.length 0 KK 1 2 4 (by omega) ⟨by decide, by decide, by decide⟩ (by rw [KK_eq]; omega)
    have hl' : ¬ (100 : Int) < xs.length := by omega
    simp [canon11] at e
    simp -implicitDefEqProofs [F11, c11, upd, e12, e53, hl', RC.len, e]
  · have hl' : (100 : Int) < xs.length := by omega
    simp -implicitDefEqProofs [F11, c11, upd, e12, hl', RC.len]
theorem law11 (xs : List Int) (_ : xs.length ≤ maxLen) (hw : ∀ z ∈ xs, (Lit.int .u16 z).wf = true) : F11 [.one (.ro 0 (.ints .u16 xs))] [] = some (.one (.bool true), []) :=
  e11 xs fun z hz => by
    have := hw z hz
    simp [Lit.wf, IntKind.min, IntKind.max, IntKind.signed, IntKind.bits] at this
    omega
end Go.X.Try
