import Derived.Test.YtejcknhmobnbeaaCb
set_option maxRecDepth 100000
set_option linter.unusedSimpArgs false
namespace Go.X.Try
open Go.IntWalk
theorem f55n (s : ByteArray) : F55 [.one .nilp, .one (.str s)] [] = some (.one .nilp, []) := by
  simp -implicitDefEqProofs [F55, c55, upd]
theorem f55 (s : ByteArray) (bs : List Int) (h : bs.length + s.size ≤ 140737488355328) : F55 [.one (.ptr 0 0), .one (.str s)] (wHp (some 0) bs) = some (.one (.ptr 0 0), wHp (some 0) (bs ++ toBytes s)) := by
  have hm : bs.length + (toBytes s).length ≤ 140737488355328 := by rw [size_toBytes]; exact h
  simp -implicitDefEqProofs [F55, c55, upd, wHp, hm, RC.len, RC.size, RC.app]
theorem f56 (s : ByteArray) (bs : List Int) (h : bs.length ≤ 80000) (hs : s.size ≤ 100000) : F56 [.one (.ptr 0 0), .one (.str s)] (wHp (some 0) bs) = some (.one (.ptr 0 0), wHp (some 0) (bs ++ grp s.size ++ toBytes s)) := by
  have w : IntKind.u64.wrap (s.size : Int) = s.size := u64_in _ (by omega)
  have e18 := f18 s.size bs (by omega) (by omega)
  have h10 := grp_ten (v := s.size) (by omega)
  have e55 := f55 s (bs ++ grp s.size) (by rw [List.length_append]; omega)
  simp only [wHp] at e18 e55
  simp -implicitDefEqProofs [F56, c56, upd, wHp, w, e18, e55]
/-- What a reader of so many bytes answers, and what is left. -/
def rAns (l : List Int) (n : Int) : List Int × List Int × Bool := if (l.length : Int) < n then ([], [], true) else (l.take n.toNat, l.drop n.toNat, false)
theorem f44' (l : List Int) (n : Int) (hl : l.length ≤ 90000) : F44 [.one (.ptr 0 0), .one (.int .i64 n)] (rHp (some 0) l false) = some (.one (.str (ofBytes (rAns l n).1)), rHp (some 0) (rAns l n).2.1 (rAns l n).2.2) := by
  unfold rAns
  by_cases h : (l.length : Int) < n
  · rw [if_pos h]; exact f44s l n h
  · rw [if_neg h]
    by_cases h0 : n < 0
    · have e : n.toNat = 0 := by omega
      rw [e]
      exact f44 l n 0 (by rw [if_pos h0]) (by omega) (by omega)
    · exact f44 l n n.toNat (by rw [if_neg h0]) (by omega) (by omega)
/-- .. a number in groups, not above another one. -/
def iAns (l : List Int) (most : Int) : Nat × List Int × Bool := if (gAns l).2.2 = true ∨ most < 0 ∨ most < (gAns l).1 then (0, [], true) else gAns l
theorem f46b (l : List Int) (most : Int) : F46 [.one (.ptr 0 0), .one (.int .i64 most)] (rHp (some 0) l true) = some (.one (.int .i64 0), rHp (some 0) [] true) := by
  have e21 := f21b l
  have e23 := f23 [] true
  have e62 := f62 [] true
  simp only [rHp] at e21 e23 e62 ⊢
  simp -implicitDefEqProofs [F46, c46, upd, e21, e23, e62]
theorem gdec_lt : ∀ (l : List Int) (i v u : Nat) (r : List Int), isB l → i ≤ 9 → v < 2 ^ (7 * i) → gdec i v l = some (u, r) → u < 2 ^ 64
  | [], _, _, _, _, _, _, _, h => by simp [gdec] at h
  | b :: l, i, v, u, r, hB, hi, hv, h => by
    have hb := hB b (by simp)
    simp only [gdec] at h
    by_cases hbad : i = 9 ∧ 1 < b ∨ 0 < i ∧ b = 0
    · rw [if_pos hbad] at h; cases h
    · rw [if_neg hbad] at h
      by_cases hlt : b < 128
      · rw [if_pos hlt] at h
        simp only [Option.some.injEq, Prod.mk.injEq] at h
        rw [← h.1]
        rcases Nat.lt_or_ge i 9 with h9 | h9
        · have e1 : (b.toNat % 128 + 1) * 2 ^ (7 * i) ≤ 128 * 2 ^ (7 * i) := Nat.mul_le_mul_right _ (by omega)
          have e2 : 128 * 2 ^ (7 * i) = 2 ^ (7 * i + 7) := by rw [Nat.pow_add]; omega
          have e3 : 2 ^ (7 * i + 7) ≤ 2 ^ 64 := Nat.pow_le_pow_right (by omega) (by omega)
          rw [Nat.add_mul, Nat.one_mul] at e1
          omega
        · obtain rfl : i = 9 := by omega
          have : b.toNat ≤ 1 := by omega
          have e1 : b.toNat % 128 * 2 ^ (7 * 9) ≤ 1 * 2 ^ (7 * 9) := Nat.mul_le_mul_right _ (by omega)
          omega
      · rw [if_neg hlt] at h
        have hv' : v + b.toNat % 128 * 2 ^ (7 * i) < 2 ^ (7 * (i + 1)) := by
          have e1 : (b.toNat % 128 + 1) * 2 ^ (7 * i) ≤ 128 * 2 ^ (7 * i) := Nat.mul_le_mul_right _ (by omega)
          rw [Nat.add_mul, Nat.one_mul] at e1
          rw [Nat.mul_add, Nat.pow_add]
          omega
        exact gdec_lt l (i + 1) _ u r hB.tail (by omega) hv' h
theorem gdec_len : ∀ (l : List Int) (i v u : Nat) (r : List Int), gdec i v l = some (u, r) → r.length < l.length
  | [], _, _, _, _, h => by simp [gdec] at h
  | b :: l, i, v, u, r, h => by
    simp only [gdec] at h
    split at h
    · cases h
    · split at h
      · simp only [Option.some.injEq, Prod.mk.injEq] at h
        rw [← h.2]; simp
      · have := gdec_len l _ _ u r h
        simp only [List.length_cons]; omega
theorem gdec_isB : ∀ (l : List Int) (i v u : Nat) (r : List Int), isB l → gdec i v l = some (u, r) → isB r
  | [], _, _, _, _, _, h => by simp [gdec] at h
  | b :: l, i, v, u, r, hB, h => by
    simp only [gdec] at h
    split at h
    · cases h
    · split at h
      · simp only [Option.some.injEq, Prod.mk.injEq] at h
        rw [← h.2]; exact hB.tail
      · exact gdec_isB l _ _ u r hB.tail h
theorem gAns_ok (l : List Int) (hB : isB l) : (gAns l).1 < 2 ^ 64 ∧ isB (gAns l).2.1 ∧ (gAns l).2.1.length ≤ l.length := by
  unfold gAns
  cases h : gdec 0 0 l with
  | none => simp [isB]
  | some p =>
    obtain ⟨u, r⟩ := p
    have := gdec_len l 0 0 u r h
    exact ⟨gdec_lt l 0 0 u r hB (by omega) (by simp) h, gdec_isB l 0 0 u r hB h, by simp only; omega⟩
theorem f46 (l : List Int) (most : Int) (hm : most ≤ 9223372036854775807) (hB : isB l) (hl : l.length ≤ 90000) : F46 [.one (.ptr 0 0), .one (.int .i64 most)] (rHp (some 0) l false) = some (.one (.int .i64 (iAns l most).1), rHp (some 0) (iAns l most).2.1 (iAns l most).2.2) := by
  have e21 := f21 l hB hl
  have hlt := (gAns_ok l hB).1
  have e23 := f23 (gAns l).2.1 (gAns l).2.2
  have e62 := f62 (gAns l).2.1 (gAns l).2.2
  unfold iAns
  generalize hq : gAns l = q at *
  obtain ⟨v', r, bad⟩ := q
  simp only at e21 e23 e62 hlt ⊢
  simp only [rHp] at e21 e23 e62 ⊢
  cases bad with
  | true => simp -implicitDefEqProofs [F46, c46, upd, e21, e23, e62]
  | false =>
    by_cases h0 : most < 0
    · simp -implicitDefEqProofs [F46, c46, upd, e21, e23, e62, h0]
    · have w : IntKind.u64.wrap most = most := u64_in _ (by omega)
      by_cases h1 : most < (v' : Int)
      · simp -implicitDefEqProofs [F46, c46, upd, e21, e23, e62, h0, w, h1]
      · have w2 : IntKind.i64.wrap (v' : Int) = v' := i64_in _ (by omega)
        simp -implicitDefEqProofs [F46, c46, upd, e21, e23, e62, h0, w, w2, h1]
theorem f45b (l : List Int) (most : Int) : F45 [.one (.ptr 0 0), .one (.int .i64 most)] (rHp (some 0) l true) = some (.one (.str (ofBytes [])), rHp (some 0) [] true) := by
  have e46 := f46b l most
  have e44 := f44b [] 0
  simp only [rHp] at e46 e44 ⊢
  simp -implicitDefEqProofs [F45, c45, upd, e46, e44]
/-- .. of a text. -/
def tAns (l : List Int) (most : Int) : List Int × List Int × Bool := if (iAns l most).2.2 = true then ([], [], true) else rAns (iAns l most).2.1 (iAns l most).1
theorem f45 (l : List Int) (most : Int) (hm : most ≤ 9223372036854775807) (hB : isB l) (hl : l.length ≤ 90000) : F45 [.one (.ptr 0 0), .one (.int .i64 most)] (rHp (some 0) l false) = some (.one (.str (ofBytes (tAns l most).1)), rHp (some 0) (tAns l most).2.1 (tAns l most).2.2) := by
  have e46 := f46 l most hm hB hl
  have hg := (gAns_ok l hB).2.2
  have hi : (iAns l most).2.1.length ≤ 90000 := by
    unfold iAns
    split
    · simp
    · omega
  unfold tAns
  generalize hq : iAns l most = q at *
  obtain ⟨v, r, bad⟩ := q
  simp only at e46 hi ⊢
  cases bad with
  | true =>
    have e44 := f44b r v
    rw [if_pos rfl]
    simp only [rHp] at e46 e44 ⊢
    simp -implicitDefEqProofs [F45, c45, upd, e46, e44]
  | false =>
    have e44 := f44' r v hi
    rw [if_neg (by simp)]
    generalize rAns r v = t at *
    obtain ⟨x, y, z⟩ := t
    simp only [rHp] at e46 e44 ⊢
    simp -implicitDefEqProofs [F45, c45, upd, e46, e44]
theorem f47 (l : List Int) (bad : Bool) (hl : l.length ≤ 90000) : F47 [.one (.ptr 0 0)] (rHp (some 0) l bad) = some (.one (.str (ofBytes (if bad = true then [] else l))), rHp (some 0) (if bad = true then l else []) bad) := by
  have e23 := f23 l bad
  cases bad with
  | true =>
    simp only [rHp, if_true] at e23 ⊢
    simp -implicitDefEqProofs [F47, c47, upd, e23, ofBytes_nil]
  | false =>
    have e44 := f44 l l.length l.length (by rw [if_neg (by omega), Int.toNat_natCast]) (Nat.le_refl _) (by omega)
    simp only [List.take_length, List.drop_length] at e44
    simp only [rHp] at e23 e44 ⊢
    simp -implicitDefEqProofs [F47, c47, upd, e23, size_ofBytes, e44]
theorem gAns_grp (a : Nat) (l : List Int) (ha : a < 2 ^ 64) : gAns (grp a ++ l) = (a, l, false) := by
  unfold gAns
  rw [gdec_grp l a 0 0 (by omega) (by simpa using ha) (.inl rfl)]
  simp
theorem grp_mono : ∀ (b a : Nat), a ≤ b → (grp a).length ≤ (grp b).length := by
  intro b
  induction b using Nat.strongRecOn with
  | ind b ih =>
  intro a hab
  by_cases ha : a < 128
  · rw [grp_lt ha]
    by_cases hb : b < 128
    · rw [grp_lt hb]; simp
    · rw [grp_ge hb]; simp
  · rw [grp_ge ha, grp_ge (by omega : ¬ b < 128), List.length_cons, List.length_cons]
    have := ih (b / 128) (by omega) (a / 128) (by omega)
    omega
theorem grp_pos (a : Nat) : 1 ≤ (grp a).length := by
  have := grp_mono a 0 (by omega)
  rw [grp_lt (by omega)] at this
  simpa using this
theorem grp_inj {a b : Nat} (ha : a < 2 ^ 64) (hb : b < 2 ^ 64) : grp a = grp b ↔ a = b := by
  refine ⟨fun h => ?_, fun h => by rw [h]⟩
  have h1 := gAns_grp a [] ha
  rw [h, gAns_grp b [] hb] at h1
  simp only [Prod.mk.injEq] at h1
  exact h1.1.symm
theorem h17 : F17 [] [] = some (.one (.bool true), []) := by
  have g300 : grp 300 = [172, 2] := by rw [grp_ge (by omega), grp_lt (by omega)]; rfl
  have g1 : grp 1 = [1] := by rw [grp_lt (by omega)]; rfl
  have e18 := f18 300 [] (by omega) (by simp)
  have e56 := f56 ⟨#[97]⟩ [172, 2] (by simp) (by decide)
  have e19 := f19 [172, 2, 1, 97]
  have hs : ({ data := #[97] } : ByteArray).size = 1 := rfl
  have ht : toBytes { data := #[97] } = [97] := rfl
  rw [g300] at e18
  rw [hs, ht, g1] at e56
  simp only [List.nil_append, List.cons_append] at e18 e56
  have hB : isB [172, 2, 1, 97] := by intro b hb; simp at hb; omega
  have e20 := f20 (ofBytes [172, 2, 1, 97])
  rw [toBytes_ofBytes hB] at e20
  have e21 := f21 [172, 2, 1, 97] hB (by simp)
  have hg : gAns [172, 2, 1, 97] = (300, [1, 97], false) := by
    have := gAns_grp 300 [1, 97] (by omega)
    rw [g300] at this
    exact this
  rw [hg] at e21
  have hg2 : gAns [1, 97] = (1, [97], false) := by
    have := gAns_grp 1 [97] (by omega)
    rw [g1] at this
    exact this
  have e45 := f45 [1, 97] 5 (by omega) (by intro b hb; simp at hb; omega) (by simp)
  have hi : iAns [1, 97] 5 = (1, [97], false) := by unfold iAns; rw [hg2]; rfl
  have ht2 : tAns [1, 97] 5 = ([97], [], false) := by unfold tAns; rw [hi]; rfl
  rw [ht2] at e45
  have e22 := f22 [] false
  have q1 : ofBytes [172, 2, 1, 97] = ⟨#[172, 2, 1, 97]⟩ := rfl
  have q2 : ofBytes [97] = ⟨#[97]⟩ := rfl
  have c300 : ((300 : Nat) : Int) = 300 := rfl
  simp only [wHp, rHp, q1, q2, c300] at e18 e56 e19 e20 e21 e45 e22
  simp -implicitDefEqProofs [F17, c17, upd, e18, e56, e19, e20, e21, e45, e22]
set_option maxHeartbeats 2000000 in
theorem law4 (a b : Int) (ha : (Lit.int .u64 a).wf = true) (hb : (Lit.int .u64 b).wf = true) : F4 [.one (.int .u64 a), .one (.int .u64 b)] [] = some (.one (.bool true), []) := by
  have ha' : 0 ≤ a ∧ a < 18446744073709551616 := by
    simp [Lit.wf, IntKind.min, IntKind.max, IntKind.signed, IntKind.bits] at ha; omega
  have hb' : 0 ≤ b ∧ b < 18446744073709551616 := by
    simp [Lit.wf, IntKind.min, IntKind.max, IntKind.signed, IntKind.bits] at hb; omega
  obtain ⟨x, rfl⟩ : ∃ x : Nat, a = x := ⟨a.toNat, by omega⟩
  obtain ⟨y, rfl⟩ : ∃ y : Nat, b = y := ⟨b.toNat, by omega⟩
  clear ha hb
  have ex := f18 x [] (by omega) (by simp)
  have ey := f18 y [] (by omega) (by simp)
  rw [List.nil_append] at ex ey
  have e19x := f19 (grp x)
  have e19y := f19 (grp y)
  have hx10 := grp_ten (v := x) (by omega)
  have hy10 := grp_ten (v := y) (by omega)
  have hx1 := grp_pos x
  have hB : isB (grp x ++ grp y) := isB_append (grp_isB x) (grp_isB y)
  have e20 := f20 (ofBytes (grp x ++ grp y))
  rw [toBytes_ofBytes hB] at e20
  have e21x := f21 (grp x ++ grp y) hB (by rw [List.length_append]; omega)
  rw [gAns_grp x _ (by omega)] at e21x
  have e21y := f21 (grp y) (grp_isB y) (by omega)
  have gy : gAns (grp y) = (y, [], false) := by
    have := gAns_grp y [] (by omega)
    rw [List.append_nil] at this
    exact this
  rw [gy] at e21y
  have e22 := f22 [] false
  have n18 := f18n x
  have n19 := f19n
  have n23 := f23n
  have n21 := f21n
  have n22 := f22n
  have hap := ofBytes_append (grp x) (grp y)
  have hxy : (grp x).length + (grp y).length ≤ 9223372036854775807 := by omega
  have heq : ((ofBytes (grp x)).toList == (ofBytes (grp y)).toList) = ((x : Int) == (y : Int)) := by
    rw [eqS (grp_isB x) (grp_isB y), Bool.eq_iff_iff]
    simp only [decide_eq_true_eq, beq_iff_eq, grp_inj (by omega : x < 2 ^ 64) (by omega : y < 2 ^ 64)]
    omega
  have sx := size_ofBytes (grp x)
  have sy := size_ofBytes (grp y)
  have hx1' : (1 : Int) ≤ (grp x).length := by omega
  have hx10' : ((grp x).length : Int) ≤ 10 := by omega
  simp only [wHp, rHp] at ex ey e19x e19y e20 e21x e21y e22
  by_cases hlt : (y : Int) < x
  · have hlt' : y < x := by omega
    simp (maxSteps := 2000000) -implicitDefEqProofs [F4, c4, upd, h17, ex, ey, e19x, e19y, e20, e21x, e21y, e22, n18, n19, n23, n21, n22, hap, hxy, heq, sx, sy, hx1, hx10, hx1', hx10', hlt, hlt']
  · have hm := grp_mono y x (by omega)
    have hm' : ((grp x).length : Int) ≤ (grp y).length := by omega
    have hlt' : ¬ y < x := by omega
    simp (maxSteps := 2000000) -implicitDefEqProofs [F4, c4, upd, h17, ex, ey, e19x, e19y, e20, e21x, e21y, e22, n18, n19, n23, n21, n22, hap, hxy, heq, sx, sy, hx1, hx10, hx1', hx10', hlt, hlt', hm, hm']
end Go.X.Try
