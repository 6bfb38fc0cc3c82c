import Derived.Test.YthcbhmgjkecppaaHe
set_option maxRecDepth 100000
set_option linter.unusedSimpArgs false
set_option linter.unusedVariables false
namespace Go.X.Try
open Go.IntWalk
theorem allP24 : allP 5 [24, 8] = [(0, 3), (24, 6), (8, 4)] := by
  have b1 : bl 32 = 6 := bl_unique (n := 32) (k := 5) (by decide) (by decide)
  have b2 : bl 8 = 4 := bl_unique (n := 8) (k := 3) (by decide) (by decide)
  simp [allP, hpr, b1, b2]
theorem h47 : F47 [] [] = some (.one (.bool true), []) := by
  have hf : fairB [24, 8] 5 = true := by decide
  obtain ⟨bs, e68, hh⟩ := f68 [24, 8] 5 (by decide) hf 0 0 [] holds0 (by omega)
  have hL : prL (allP 5 [24, 8]) = 13 := by rw [allP24]; rfl
  rw [hL, Nat.zero_add] at e68 hh
  rw [Nat.zero_add, Nat.pow_zero, Nat.mul_one] at hh
  have hlen : bs.length = 2 := hh.len
  have e72 := f72 bs 13 (by omega)
  have e69 := f69 bs 13
  have e48 := f48 0 bs (by omega)
  have e49 := f49 bs 0 hh.isB (by omega) (by omega)
  have hT := hdT_put (l := [24, 8]) (log := 5) hf (N := leB bs) (T := 8 * bs.length) (pos := 0) (M := 0) (by rw [hh.val]; simp) (by rw [hL]; omega)
  have hm : (hpr (2 ^ (5 : Int).toNat) [24, 8]).length = 2 := by
    have b1 : bl 32 = 6 := bl_unique (n := 32) (k := 5) (by decide) (by decide)
    have b2 : bl 8 = 4 := bl_unique (n := 8) (k := 3) (by decide) (by decide)
    simp [hpr, b1, b2]
  rw [hm] at hT
  rw [hT] at e49
  have c13 : ((13 : Nat) : Int) = 13 := rfl
  have z : ((0 : Nat) : Int) = 0 := rfl
  have c5 : (((5 : Int).toNat : Nat) : Int) = 5 := rfl
  have ht : [(24 : Int), 8].take 2 = [24, 8] := rfl
  simp only [bufHp, hHp, tupB, tup3, c13, z, c5, ht] at e68 e72 e69 e48 e49
  simp -implicitDefEqProofs [F47, c47, upd, e68, e72, e69, e48, e49, RC.ofElems, RC.len, RC.size, RC.get]
theorem isB_u8 {l : List Int} (h : ∀ z ∈ l, (Lit.int .u8 z).wf = true) : isB l := fun x hx => by
  have := h x hx
  simp [Lit.wf, IntKind.min, IntKind.max, IntKind.signed, IntKind.bits] at this
  omega
theorem law9 (a0 : List Int) (_ : a0.length ≤ maxLen) (w0 : ∀ z ∈ a0, (Lit.int .u8 z).wf = true) : F9 [.one (.ro 0 (.ints .u8 a0))] [] = some (.one (.bool true), []) := by
  have hB := isB_u8 w0
  by_cases h2 : 200 < a0.length
  · have h2i : (200 : Int) < a0.length := by omega
    simp -implicitDefEqProofs [F9, c9, upd, h47, RC.len, h2, h2i]
  have h2i : ¬ (200 : Int) < a0.length := by omega
  have e48 := f48 0 a0 (by omega)
  have e49 := f49 a0 0 hB (by omega) (by omega)
  obtain ⟨l, e51, hN, hl, hv⟩ := f51 0 a0 hB (by omega)
  have e50 := f50 l hN (by omega)
  rw [hv, hl] at e50
  have z : ((0 : Nat) : Int) = 0 := rfl
  cases hh : hdT (leB a0) (8 * a0.length) 0 with
  | none =>
    rw [hh] at e49 e50
    obtain ⟨pos', e49⟩ := e49
    have e52 := f52 [] (by decide)
    simp only [bufHp, hHp, tup3, tup3i, z] at e48 e49 e50
    simp -implicitDefEqProofs [F9, c9, upd, h47, RC.len, h2, h2i, e48, e49, e51, e50, e52]
  | some p =>
    obtain ⟨o, lg, pos⟩ := p
    obtain ⟨q1, q2, q3, q4, q5, q6⟩ := hdT_ok hh
    rw [hh] at e49 e50
    simp only at e49 e50
    have e52 := f52 o (by omega)
    have e16 := f16 0 o (lg : Nat) (by omega)
    rw [q1] at e16
    have e53 := f53 a0 pos (by omega) q4
    have hp : (0 : Int) < pos := by omega
    have hpn : 0 < pos := by omega
    have w8 : IntKind.i64.wrap (8 * (a0.length : Int)) = 8 * a0.length := i64_in _ (by omega)
    have w9 : IntKind.i64.wrap (8 * (a0.length : Int) - pos) = ((8 * a0.length - pos : Nat) : Int) := by rw [i64_in _ (by omega)]; omega
    simp only [bufHp, hHp, tup3, tup3i, z] at e48 e49 e50 e53
    generalize ((8 * a0.length - pos : Nat) : Int) = lf at *
    simp -implicitDefEqProofs [F9, c9, upd, h47, RC.len, h2, h2i, e48, e49, e51, e50, e52, e16, e53, hp, hpn, w8, w9]
theorem law12 (a0 : List Int) (a1 a2 : Int) (_ : a0.length ≤ maxLen) (w0 : ∀ z ∈ a0, (Lit.int .i64 z).wf = true) (_ : (Lit.int .i64 a1).wf = true) (w2 : (Lit.int .u8 a2).wf = true) :
    F12 [.one (.ro 0 (.ints .i64 a0)), .one (.int .i64 a1), .one (.int .u8 a2)] [] = some (.one (.bool true), []) := by
  simp [Lit.wf, IntKind.min, IntKind.max, IntKind.signed, IntKind.bits] at w2
  by_cases h3 : 300 < a0.length
  · have h3i : (300 : Int) < a0.length := by omega
    simp -implicitDefEqProofs [F12, c12, upd, h47, RC.len, h3, h3i]
  have h3i : ¬ (300 : Int) < a0.length := by omega
  obtain ⟨d, rfl⟩ : ∃ d : Nat, a2 = d := ⟨a2.toNat, by omega⟩
  obtain ⟨k, hk⟩ : ∃ k : Nat, k = d % 9 := ⟨_, rfl⟩
  have hk9 : k < 9 := by omega
  have et : ((d : Int)).tmod 9 = (k : Int) := by rw [hk]; exact (Int.ofNat_tmod d 9).symm
  have wk8 : IntKind.u8.wrap (k : Int) = k := u8_in _ (by omega)
  have wk : IntKind.i64.wrap (k : Int) = k := i64_in _ (by omega)
  have wd : IntKind.u32.wrap (d : Int) = d := u32_in _ (by omega)
  obtain ⟨b0, e67, hh0⟩ := f67 d k 0 0 [] holds0 (by omega) (by omega) (by omega)
  rw [Nat.zero_add] at e67
  rw [Nat.zero_add, Nat.zero_add, Nat.pow_zero, Nat.mul_one] at hh0
  have e16 := f16 0 a0 a1 (by omega)
  have z : ((0 : Nat) : Int) = 0 := rfl
  cases hf : fairB a0 a1 with
  | false =>
    rw [hf] at e16
    have e68 := f68n a0 a1 (by omega) hf k b0
    have e69 := f69 b0 k
    have e70 := f70n 0 a0 a1 (by omega) hf
    simp only [bufHp, tupB, z] at e67 e68 e69
    simp -implicitDefEqProofs [F12, c12, upd, h47, RC.len, h3, h3i, et, wk8, wk, wd, e67, e68, e16, e69, e70]
  | true =>
    rw [hf] at e16
    obtain ⟨bs, e68, hh⟩ := f68 a0 a1 (by omega) hf k _ b0 hh0 (by omega)
    obtain ⟨h5, hl256, ho, hs⟩ := fair_parts hf
    have hp2 := pow9 h5
    obtain ⟨m1, m2, m3, m4, m5⟩ := hpr_take a0 (2 ^ a1.toNat) ho hs (by omega)
    have e71 := f71 a0 a1 hf
    have e70 := f70 0 a0 a1 (by omega) hf
    have hlB := prB_length (allP a1 a0)
    have e74 := f74 d k (by omega) (by omega)
    have hNN : isN (ofN d k ++ prB (allP a1 a0)) := fun b hb => by
      rcases List.mem_append.1 hb with h | h
      · exact ofN_isN _ _ b h
      · exact prB_isN _ b h
    have hlen2 : (ofN d k ++ prB (allP a1 a0)).length = k + prL (allP a1 a0) := by rw [List.length_append, ofN_length, hlB]
    have hval2 : leN (ofN d k ++ prB (allP a1 a0)) = d % 2 ^ k + prN (allP a1 a0) * 2 ^ k := by rw [leN_append, leN_ofN, ofN_length, prB_leN, Nat.mul_comm]
    have hLle : prL (allP a1 a0) ≤ 3000 := by
      have : ∀ (l : List Int) (rest : Nat), rest ≤ 512 → prL (hpr rest l) ≤ 10 * l.length := by
        intro l
        induction l with
        | nil => intro rest _; simp [hpr, prL]
        | cons x l ih =>
          intro rest hr
          rw [hpr]
          split
          · simp [prL]
          · have := ih (rest - x.toNat) (by omega)
            have := bl9 hr
            simp only [prL, List.length_cons]; omega
      have := this a0 (2 ^ a1.toNat) hp2.2
      unfold allP
      simp only [prL]; omega
    obtain ⟨out, e73, hh2⟩ := f73 0 (ofN d k ++ prB (allP a1 a0)) hNN (by omega)
    rw [hlen2, hval2] at hh2
    obtain rfl := holds_inj hh hh2
    have hbl := hh.len
    have e72 := f72 bs ((k + prL (allP a1 a0) : Nat) : Int) (by omega)
    have e69 := f69 bs ((k + prL (allP a1 a0) : Nat) : Int)
    have e48 := f48 0 bs (by omega)
    have e75 := f75 bs 0 k hh.isB (by omega) (by omega) (by omega)
    rw [Nat.zero_add] at e75
    have e49 := f49 bs k hh.isB (by omega) (by omega)
    have hT := hdT_put hf (N := leB bs) (T := 8 * bs.length) (pos := k) (M := 0) (by
      rw [hh.val, Nat.mul_zero, Nat.add_zero, Nat.mul_comm, Nat.add_mul_div_left _ _ (Nat.two_pow_pos k), Nat.div_eq_of_lt (Nat.mod_lt _ (Nat.two_pow_pos k)), Nat.zero_add]) (by omega)
    rw [hT] at e49
    simp only at e49
    have e76 := f76 a0 (by omega) _ m2 m5 (.inr m4)
    have e52 := f52 (a0.take (hpr (2 ^ a1.toNat) a0).length) (by rw [List.length_take]; omega)
    have e53 := f53 bs (k + prL (allP a1 a0)) (by omega) (by omega)
    have c1 : (((a1.toNat : Nat)) : Int) = a1 := by omega
    have wl : IntKind.i64.wrap ((k : Int) + ((prL (allP a1 a0) : Nat) : Int)) = ((k + prL (allP a1 a0) : Nat) : Int) := by rw [i64_in _ (by omega)]; omega
    have w8 : IntKind.i64.wrap (8 * (bs.length : Int)) = 8 * bs.length := i64_in _ (by omega)
    have w9 : IntKind.i64.wrap (8 * (bs.length : Int) - ((k + prL (allP a1 a0) : Nat) : Int)) = ((8 * bs.length - (k + prL (allP a1 a0)) : Nat) : Int) := by rw [i64_in _ (by omega)]; omega
    have hol := ofN_length k d
    have hm1 : (k + (prL (allP a1 a0))) * 8 ≤ 140737488355328 := by omega
    rw [c1] at e49
    generalize a0.take (hpr (2 ^ a1.toNat) a0).length = sh at *
    generalize ((8 * bs.length - (k + prL (allP a1 a0)) : Nat) : Int) = lf at *
    generalize ((k + prL (allP a1 a0) : Nat) : Int) = tot at *
    generalize hpb : prB (allP a1 a0) = pb at *
    generalize hon : ofN d k = on at *
    generalize ((leB bs / 2 ^ 0 % 2 ^ k : Nat) : Int) = v0 at *
    generalize prL (allP a1 a0) = pl at *
    simp only [bufHp, hHp, tup2, tup3, tupB, z] at e67 e68 e72 e69 e48 e75 e49 e53
    simp -implicitDefEqProofs [F12, c12, upd, h47, RC.len, RC.size, RC.app, h3, h3i, et, wk8, wk, wd, e67, e68, e16, e70, e71, hlB, e74, e73, e72, e69, e48, e75, e49, e76, e52, e53, wl, w8, w9, hol, hm1]
end Go.X.Try
