import Derived.Test.YthcbhmgjkecppaaHf
set_option maxRecDepth 100000
set_option linter.unusedSimpArgs false
set_option linter.unusedVariables false
namespace Go.X.Try
open Go.IntWalk
theorem okN_zeros : ∀ (l : List Int) (m : Nat), okN l = true → okN (l ++ List.replicate m 0) = true
  | [], 0, _ => rfl
  | [], m + 1, h => by simp only [List.nil_append, List.replicate_succ, okN]; rw [show okN (List.replicate m 0) = true from okN_zeros [] m h]; rfl
  | x :: l, m, h => by
    simp only [okN, Bool.and_eq_true, List.cons_append] at h ⊢
    exact ⟨h.1, okN_zeros l m h.2⟩
theorem sumL_zeros : ∀ (l : List Int) (m : Nat), sumL (l ++ List.replicate m 0) = sumL l
  | [], 0 => rfl
  | [], m + 1 => by
    have := sumL_zeros [] m
    simp only [List.nil_append] at this
    simp only [List.nil_append, List.replicate_succ, sumL, this]; rfl
  | x :: l, m => by simp only [List.cons_append, sumL, sumL_zeros l m]
theorem hpr_zeros : ∀ (l : List Int) (m rest : Nat), okN l = true → sumL l = (rest : Int) → hpr rest (l ++ List.replicate m 0) = hpr rest l
  | [], m, rest, _, h => by
    simp only [sumL] at h
    obtain rfl : rest = 0 := by omega
    rw [hpr_zero, hpr_zero]
  | x :: l, m, rest, ho, h => by
    obtain ⟨p1, p2, p3⟩ := sumL_ge ho
    rw [h] at p2
    simp only [List.cons_append, hpr]
    split
    · rfl
    · rw [hpr_zeros l m (rest - x.toNat) p3 (by simp only [sumL] at h; omega)]
theorem mapM_rep {α β : Type} {f : α → Option β} {a : α} {b : β} (h : f a = some b) : ∀ n : Nat, List.mapM f (List.replicate n a) = some (List.replicate n b)
  | 0 => rfl
  | n + 1 => by rw [List.replicate_succ, List.mapM_cons, h, mapM_rep h n]; rfl
theorem mks_ints (n : Nat) : RC.ofElems (.ints .i64 []) (List.replicate n [Sc.int .i64 0]) = some (.ints .i64 (List.replicate n 0)) := by
  simp only [RC.ofElems]
  rw [mapM_rep (b := (0 : Int))]
  · rfl
  · rfl
theorem keyOf_undef : keyOf .undef = none := rfl
theorem mks_none : RC.ofElems (.ints .i64 []) [] = some (.ints .i64 []) := rfl
theorem law13 (a0 : List Int) (a1 a2 : Int) (_ : a0.length ≤ maxLen) (w0 : ∀ z ∈ a0, (Lit.int .i64 z).wf = true) (_ : (Lit.int .i64 a1).wf = true) (w2 : (Lit.int .u8 a2).wf = true) :
    F13 [.one (.ro 0 (.ints .i64 a0)), .one (.int .i64 a1), .one (.int .u8 a2)] [] = some (.one (.bool true), []) := by
  simp [Lit.wf, IntKind.min, IntKind.max, IntKind.signed, IntKind.bits] at w2
  by_cases h3 : 200 < a0.length
  · have h3i : (200 : Int) < a0.length := by omega
    simp -implicitDefEqProofs [F13, c13, upd, h47, RC.len, h3, h3i]
  have h3i : ¬ (200 : Int) < a0.length := by omega
  have e16 := f16 0 a0 a1 (by omega)
  cases hf : fairB a0 a1 with
  | false =>
    rw [hf] at e16
    simp -implicitDefEqProofs [F13, c13, upd, h47, RC.len, h3, h3i, e16]
  | true =>
    rw [hf] at e16
    obtain ⟨d, rfl⟩ : ∃ d : Nat, a2 = d := ⟨a2.toNat, by omega⟩
    obtain ⟨k, hk⟩ : ∃ k : Nat, k = d % 50 := ⟨_, rfl⟩
    have hk9 : k < 50 := by omega
    have et : ((d : Int)).tmod 50 = (k : Int) := by rw [hk]; exact (Int.ofNat_tmod d 50).symm
    obtain ⟨h5, hl256, ho, hs⟩ := fair_parts hf
    have hf2 : fairB (a0 ++ List.replicate k 0) a1 = true := by
      unfold fairB
      rw [okN_zeros a0 k ho, sumL_zeros, hs]
      simp
      exact ⟨h5.1, h5.2, by omega⟩
    have eP : allP a1 (a0 ++ List.replicate k 0) = allP a1 a0 := by
      unfold allP
      rw [hpr_zeros a0 k _ ho hs]
    obtain ⟨bs, e68, hh⟩ := f68 a0 a1 (by omega) hf 0 0 [] holds0 (by omega)
    obtain ⟨bs2, e68b, hh2⟩ := f68 (a0 ++ List.replicate k 0) a1 (by simp; omega) hf2 0 0 [] holds0 (by omega)
    rw [eP] at e68b hh2
    obtain rfl := holds_inj hh hh2
    have hp2 := pow9 h5
    have hLle : prL (allP a1 a0) ≤ 3000 := by
      have : ∀ (l : List Int) (rest : Nat), rest ≤ 512 → prL (hpr rest l) ≤ 10 * l.length := by
        intro l
        induction l with
        | nil => intro rest _; simp [hpr, prL]
        | cons x l ih =>
          intro rest hr
          rw [hpr]
          split
          · simp [prL]
          · have := ih (rest - x.toNat) (by omega)
            have := bl9 hr
            simp only [prL, List.length_cons]; omega
      have := this a0 (2 ^ a1.toNat) hp2.2
      unfold allP
      simp only [prL]; omega
    have h3L : 3 ≤ prL (allP a1 a0) := by unfold allP; simp only [prL]; omega
    have h3Li : (3 : Int) ≤ ((prL (allP a1 a0) : Nat) : Int) := by omega
    rw [Nat.zero_add] at e68 e68b
    have hbl := hh.len
    have e72 := f72 bs ((prL (allP a1 a0) : Nat) : Int) (by omega)
    have e69 := f69 bs ((prL (allP a1 a0) : Nat) : Int)
    have e70 := f70 0 (a0 ++ List.replicate k 0) a1 (by simp; omega) hf2
    rw [eP] at e70
    have e68z := f68z a0 a1
    have z : ((0 : Nat) : Int) = 0 := rfl
    have hm1 : a0.length * 8 ≤ 140737488355328 := by omega
    have hm2 : (a0.length + k) * 8 ≤ 140737488355328 := by omega
    have hk0 : (k : Int) * 8 ≤ 140737488355328 := by omega
    generalize ((prL (allP a1 a0) : Nat) : Int) = tot at *
    simp only [bufHp, tupB, z] at e68 e68b e72 e69 e68z
    simp -implicitDefEqProofs [F13, c13, upd, h47, RC.len, RC.size, RC.app, mks_ints, mks_none, keyOf_undef, h3, h3i, e16, et, hm1, hm2, hk0, e68, e68b, e72, e69, e70, e68z, h3Li]
end Go.X.Try
