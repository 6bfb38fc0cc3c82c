import Derived.Test.YtmkfebnahaembaaEe
set_option maxRecDepth 100000
set_option linter.unusedSimpArgs false
namespace Go.X.Try
open Go.IntWalk
/-- A writer's bytes behind 32 bits. -/
theorem holds32 {bs : List Int} {v : Nat} (h : Holds bs 32 v) : ∃ b rest, bs = b :: rest ∧ rest.length = 3 := by
  obtain ⟨hB, hl, hv, _⟩ := h
  match bs, hl with
  | b :: rest, hl => exact ⟨b, rest, rfl, by simp at hl; omega⟩
theorem law6 (bs : List Int) (v : Int) (_ : bs.length ≤ maxLen) (hw : ∀ z ∈ bs, (Lit.int .u8 z).wf = true) (hv : (Lit.int .u32 v).wf = true) : F6 [.one (.ro 0 (.ints .u8 bs)), .one (.int .u32 v)] [] = some (.one (.bool true), []) := by
  have hB := isB_of hw
  have hvr : 0 ≤ v ∧ v < 4294967296 := by
    simp [Lit.wf, IntKind.min, IntKind.max, IntKind.signed, IntKind.bits] at hv
    omega
  have e31 := e31 v hvr.1 hvr.2
  have e32 := e32 v hvr.1 hvr.2
  by_cases hb : bs.length ≤ 20
  · have hb1 : ¬ ((20 : Int) < bs.length) := by omega
    have hb2 : ¬ (20 < bs.length) := by omega
    cases bs with
    | nil => simp -implicitDefEqProofs [F6, c6, upd, h25, RC.len, e31, e32]
    | cons b rest =>
      have hr : rest.length ≤ 19 := by simp only [List.length_cons] at hb; omega
      have hbr := hB b (by simp)
      obtain ⟨w, rfl⟩ : ∃ w : Nat, v = w := ⟨v.toNat, by omega⟩
      have e26 := f26 0 (b :: rest) (by simp only [List.length_cons]; omega)
      have e28 := f28 (b :: rest) 0 8 hB (by omega) (by simp only [List.length_cons]; omega) (by simp only [List.length_cons]; omega)
      have hval : leB (b :: rest) / 2 ^ 0 % 2 ^ 8 = b.toNat := by simp only [leB, Nat.pow_zero, Nat.div_one]; omega
      have hval2 : ((leB (b :: rest) / 2 ^ 0 % 2 ^ 8 : Nat) : Int) = b := by rw [hval]; omega
      rw [hval2] at e28
      obtain ⟨ws, e33, hh⟩ := f33 w 32 0 0 [] holds0 (by omega) (by omega) (by omega)
      have hm : 0 + w % 2 ^ 32 * 2 ^ 0 = w := by rw [Nat.pow_zero, Nat.mul_one, Nat.zero_add, Nat.mod_eq_of_lt (by omega)]
      rw [hm] at hh
      obtain ⟨c, ws', hws, hl3⟩ := holds32 hh
      have e34 := f34 ws ((0 + 32 : Nat) : Int) (by rw [hh.len]; omega)
      have e26w := f26 0 ws (by rw [hh.len]; omega)
      have e28w := f28 ws 0 32 hh.isB (by omega) (by rw [hh.len]; omega) (by rw [hh.len]; omega)
      rw [hh.val, Nat.pow_zero, Nat.div_one, Nat.mod_eq_of_lt (by omega)] at e28w
      subst hws
      have e28n := f28n 0
      have e30n := f30n
      have c0 : ((0 : Nat) : Int) = 0 := rfl
      have c8 : ((8 : Nat) : Int) = 8 := rfl
      have c8' : ((0 + 8 : Nat) : Int) = 8 := rfl
      have c32 : ((32 : Nat) : Int) = 32 := rfl
      have c32' : ((0 + 32 : Nat) : Int) = 32 := rfl
      simp only [bufHp, tup2, c0, c8, c8', c32, c32', List.cons_append, List.nil_append] at e26 e28 e33 e34 e26w e28w e28n
      have hr1 : rest.length + 1 ≤ 20 := by omega
      have hr2 : ¬ ((20 : Int) < (rest.length : Int) + 1) := by omega
      have hr3 : ¬ ((rest.length : Int) + 1 = 0) := by omega
      have hr4 : rest.length + 1 ≤ 140737488355328 := by omega
      have hr5 : ¬ (20 < rest.length + 1) := by omega
      have hr6 : (0 : Int) < (rest.length : Int) + 1 := by omega
      have hw3 : (0 : Int) < (ws'.length : Int) + 1 := by omega
      have wb : IntKind.u32.wrap b = b := u32_in _ (by omega)
      clear hh hB hw hval hval2 hm
      simp -implicitDefEqProofs [F6, c6, upd, h25, hr1, hr2, hr3, hr4, hr5, hr6, hw3, RC.len, RC.size, RC.get, RC.set, RC.app, RC.ofElems, e31, e32, e26, e28, e33, e34, e26w, e28w, e28n, e30n, wb]
  · have hb1 : (20 : Int) < bs.length := by omega
    have hb2 : 20 < bs.length := by omega
    simp -implicitDefEqProofs [F6, c6, upd, h25, hb1, hb2, RC.len, e31, e32]
end Go.X.Try
