import Derived.Test.YtcpgijcdmhehaaaCb
set_option maxRecDepth 100000
set_option linter.unusedSimpArgs false
namespace Go.X.Try
open Go.IntWalk
theorem f46n (s : ByteArray) : F46 [.one .nilp, .one (.str s)] [] = some (.one .nilp, []) := by
  simp -implicitDefEqProofs [F46, c46, upd]
theorem f46 (s : ByteArray) (bs : List Int) (h : bs.length + s.size ≤ 140737488355328) : F46 [.one (.ptr 0 0), .one (.str s)] (wHp (some 0) bs) = some (.one (.ptr 0 0), wHp (some 0) (bs ++ toBytes s)) := by
  have hm : bs.length + (toBytes s).length ≤ 140737488355328 := by rw [size_toBytes]; exact h
  simp -implicitDefEqProofs [F46, c46, upd, wHp, hm, RC.len, RC.size, RC.app]
theorem f48 (s : ByteArray) (bs : List Int) (h : bs.length ≤ 80000) (hs : s.size ≤ 100000) : F48 [.one (.ptr 0 0), .one (.str s)] (wHp (some 0) bs) = some (.one (.ptr 0 0), wHp (some 0) (bs ++ grp s.size ++ toBytes s)) := by
  have w : IntKind.u64.wrap (s.size : Int) = s.size := u64_in _ (by omega)
  have e78 := f78 s.size bs (by omega) (by omega)
  have h10 := grp_ten (v := s.size) (by omega)
  have e46 := f46 s (bs ++ grp s.size) (by rw [List.length_append]; omega)
  simp only [wHp] at e78 e46
  simp -implicitDefEqProofs [F48, c48, upd, wHp, w, e78, e46]
/-- What a reader of so many bytes answers, and what is left. -/
def rAns (l : List Int) (n : Int) : List Int × List Int × Bool := if (l.length : Int) < n then ([], [], true) else (l.take n.toNat, l.drop n.toNat, false)
theorem f51' (l : List Int) (n : Int) (hl : l.length ≤ 90000) : F51 [.one (.ptr 0 0), .one (.int .i64 n)] (rHp (some 0) l false) = some (.one (.str (ofBytes (rAns l n).1)), rHp (some 0) (rAns l n).2.1 (rAns l n).2.2) := by
  unfold rAns
  by_cases h : (l.length : Int) < n
  · rw [if_pos h]; exact f51s l n h
  · rw [if_neg h]
    by_cases h0 : n < 0
    · have e : n.toNat = 0 := by omega
      rw [e]
      exact f51 l n 0 (by rw [if_pos h0]) (by omega) (by omega)
    · exact f51 l n n.toNat (by rw [if_neg h0]) (by omega) (by omega)
/-- .. a number in groups, not above another one. -/
def iAns (l : List Int) (most : Int) : Nat × List Int × Bool := if (gAns l).2.2 = true ∨ most < 0 ∨ most < (gAns l).1 then (0, [], true) else gAns l
theorem f81b (l : List Int) (most : Int) : F81 [.one (.ptr 0 0), .one (.int .i64 most)] (rHp (some 0) l true) = some (.one (.int .i64 0), rHp (some 0) [] true) := by
  have e53 := f53b l
  have e54 := f54 [] true
  have e79 := f79 [] true
  simp only [rHp] at e53 e54 e79 ⊢
  simp -implicitDefEqProofs [F81, c81, upd, e53, e54, e79]
theorem gdec_lt : ∀ (l : List Int) (i v u : Nat) (r : List Int), isB l → i ≤ 9 → v < 2 ^ (7 * i) → gdec i v l = some (u, r) → u < 2 ^ 64
  | [], _, _, _, _, _, _, _, h => by simp [gdec] at h
  | b :: l, i, v, u, r, hB, hi, hv, h => by
    have hb := hB b (by simp)
    simp only [gdec] at h
    by_cases hbad : i = 9 ∧ 1 < b ∨ 0 < i ∧ b = 0
    · rw [if_pos hbad] at h; cases h
    · rw [if_neg hbad] at h
      by_cases hlt : b < 128
      · rw [if_pos hlt] at h
        simp only [Option.some.injEq, Prod.mk.injEq] at h
        rw [← h.1]
        rcases Nat.lt_or_ge i 9 with h9 | h9
        · have e1 : (b.toNat % 128 + 1) * 2 ^ (7 * i) ≤ 128 * 2 ^ (7 * i) := Nat.mul_le_mul_right _ (by omega)
          have e2 : 128 * 2 ^ (7 * i) = 2 ^ (7 * i + 7) := by rw [Nat.pow_add]; omega
          have e3 : 2 ^ (7 * i + 7) ≤ 2 ^ 64 := Nat.pow_le_pow_right (by omega) (by omega)
          rw [Nat.add_mul, Nat.one_mul] at e1
          omega
        · obtain rfl : i = 9 := by omega
          have : b.toNat ≤ 1 := by omega
          have e1 : b.toNat % 128 * 2 ^ (7 * 9) ≤ 1 * 2 ^ (7 * 9) := Nat.mul_le_mul_right _ (by omega)
          omega
      · rw [if_neg hlt] at h
        have hv' : v + b.toNat % 128 * 2 ^ (7 * i) < 2 ^ (7 * (i + 1)) := by
          have e1 : (b.toNat % 128 + 1) * 2 ^ (7 * i) ≤ 128 * 2 ^ (7 * i) := Nat.mul_le_mul_right _ (by omega)
          rw [Nat.add_mul, Nat.one_mul] at e1
          rw [Nat.mul_add, Nat.pow_add]
          omega
        exact gdec_lt l (i + 1) _ u r hB.tail (by omega) hv' h
theorem gdec_len : ∀ (l : List Int) (i v u : Nat) (r : List Int), gdec i v l = some (u, r) → r.length < l.length
  | [], _, _, _, _, h => by simp [gdec] at h
  | b :: l, i, v, u, r, h => by
    simp only [gdec] at h
    split at h
    · cases h
    · split at h
      · simp only [Option.some.injEq, Prod.mk.injEq] at h
        rw [← h.2]; simp
      · have := gdec_len l _ _ u r h
        simp only [List.length_cons]; omega
theorem gdec_isB : ∀ (l : List Int) (i v u : Nat) (r : List Int), isB l → gdec i v l = some (u, r) → isB r
  | [], _, _, _, _, _, h => by simp [gdec] at h
  | b :: l, i, v, u, r, hB, h => by
    simp only [gdec] at h
    split at h
    · cases h
    · split at h
      · simp only [Option.some.injEq, Prod.mk.injEq] at h
        rw [← h.2]; exact hB.tail
      · exact gdec_isB l _ _ u r hB.tail h
theorem gAns_ok (l : List Int) (hB : isB l) : (gAns l).1 < 2 ^ 64 ∧ isB (gAns l).2.1 ∧ (gAns l).2.1.length ≤ l.length := by
  unfold gAns
  cases h : gdec 0 0 l with
  | none => simp [isB]
  | some p =>
    obtain ⟨u, r⟩ := p
    have := gdec_len l 0 0 u r h
    exact ⟨gdec_lt l 0 0 u r hB (by omega) (by simp) h, gdec_isB l 0 0 u r hB h, by simp only; omega⟩
theorem f81 (l : List Int) (most : Int) (hm : most ≤ 9223372036854775807) (hB : isB l) (hl : l.length ≤ 90000) : F81 [.one (.ptr 0 0), .one (.int .i64 most)] (rHp (some 0) l false) = some (.one (.int .i64 (iAns l most).1), rHp (some 0) (iAns l most).2.1 (iAns l most).2.2) := by
  have e53 := f53 l hB hl
  have hlt := (gAns_ok l hB).1
  have e54 := f54 (gAns l).2.1 (gAns l).2.2
  have e79 := f79 (gAns l).2.1 (gAns l).2.2
  unfold iAns
  generalize hq : gAns l = q at *
  obtain ⟨v', r, bad⟩ := q
  simp only at e53 e54 e79 hlt ⊢
  simp only [rHp] at e53 e54 e79 ⊢
  cases bad with
  | true => simp -implicitDefEqProofs [F81, c81, upd, e53, e54, e79]
  | false =>
    by_cases h0 : most < 0
    · simp -implicitDefEqProofs [F81, c81, upd, e53, e54, e79, h0]
    · have w : IntKind.u64.wrap most = most := u64_in _ (by omega)
      by_cases h1 : most < (v' : Int)
      · simp -implicitDefEqProofs [F81, c81, upd, e53, e54, e79, h0, w, h1]
      · have w2 : IntKind.i64.wrap (v' : Int) = v' := i64_in _ (by omega)
        simp -implicitDefEqProofs [F81, c81, upd, e53, e54, e79, h0, w, w2, h1]
theorem f82b (l : List Int) (most : Int) : F82 [.one (.ptr 0 0), .one (.int .i64 most)] (rHp (some 0) l true) = some (.one (.str (ofBytes [])), rHp (some 0) [] true) := by
  have e81 := f81b l most
  have e51 := f51b [] 0
  simp only [rHp] at e81 e51 ⊢
  simp -implicitDefEqProofs [F82, c82, upd, e81, e51]
/-- .. of a text. -/
def tAns (l : List Int) (most : Int) : List Int × List Int × Bool := if (iAns l most).2.2 = true then ([], [], true) else rAns (iAns l most).2.1 (iAns l most).1
theorem f82 (l : List Int) (most : Int) (hm : most ≤ 9223372036854775807) (hB : isB l) (hl : l.length ≤ 90000) : F82 [.one (.ptr 0 0), .one (.int .i64 most)] (rHp (some 0) l false) = some (.one (.str (ofBytes (tAns l most).1)), rHp (some 0) (tAns l most).2.1 (tAns l most).2.2) := by
  have e81 := f81 l most hm hB hl
  have hg := (gAns_ok l hB).2.2
  have hi : (iAns l most).2.1.length ≤ 90000 := by
    unfold iAns
    split
    · simp
    · omega
  unfold tAns
  generalize hq : iAns l most = q at *
  obtain ⟨v, r, bad⟩ := q
  simp only at e81 hi ⊢
  cases bad with
  | true =>
    have e51 := f51b r v
    rw [if_pos rfl]
    simp only [rHp] at e81 e51 ⊢
    simp -implicitDefEqProofs [F82, c82, upd, e81, e51]
  | false =>
    have e51 := f51' r v hi
    rw [if_neg (by simp)]
    generalize rAns r v = t at *
    obtain ⟨x, y, z⟩ := t
    simp only [rHp] at e81 e51 ⊢
    simp -implicitDefEqProofs [F82, c82, upd, e81, e51]
theorem gAns_grp (a : Nat) (l : List Int) (ha : a < 2 ^ 64) : gAns (grp a ++ l) = (a, l, false) := by
  unfold gAns
  rw [gdec_grp l a 0 0 (by omega) (by simpa using ha) (.inl rfl)]
  simp
theorem grp_mono : ∀ (b a : Nat), a ≤ b → (grp a).length ≤ (grp b).length := by
  intro b
  induction b using Nat.strongRecOn with
  | ind b ih =>
  intro a hab
  by_cases ha : a < 128
  · rw [grp_lt ha]
    by_cases hb : b < 128
    · rw [grp_lt hb]; simp
    · rw [grp_ge hb]; simp
  · rw [grp_ge ha, grp_ge (by omega : ¬ b < 128), List.length_cons, List.length_cons]
    have := ih (b / 128) (by omega) (a / 128) (by omega)
    omega
theorem grp_pos (a : Nat) : 1 ≤ (grp a).length := by
  have := grp_mono a 0 (by omega)
  rw [grp_lt (by omega)] at this
  simpa using this
theorem grp_inj {a b : Nat} (ha : a < 2 ^ 64) (hb : b < 2 ^ 64) : grp a = grp b ↔ a = b := by
  refine ⟨fun h => ?_, fun h => by rw [h]⟩
  have h1 := gAns_grp a [] ha
  rw [h, gAns_grp b [] hb] at h1
  simp only [Prod.mk.injEq] at h1
  exact h1.1.symm
end Go.X.Try
