import Derived.Test.YtejcknhmobnbeaaBd
set_option maxRecDepth 100000
set_option linter.unusedSimpArgs false
namespace Go.X.Try
open Go.IntWalk
theorem f35c (v n : Int) (u1 u2 m1 m2 : Nat) (bs1 out : List Int) (c1 c2 : Nat)
    (w1 : IntKind.u32.wrap v = u1) (hm1 : (if (32 : Int) < n then (32 : Int) else n) = m1) (ws : IntKind.u32.wrap (shrI .u64 v 32) = u2) (wn : IntKind.i64.wrap (n - 32) = n - 32) (hm2 : (if n - 32 < 0 then (0 : Int) else n - 32) = m2)
    (e25a : F25 [.one (.ptr 0 0), .one (.int .u32 u1), .one (.int .i64 m1)] (bufHp (some 0) [] 0) = some (.one (.bool true), bufHp (some 0) bs1 c1))
    (e25b : ∃ bs2, F25 [.one (.ptr 0 0), .one (.int .u32 u2), .one (.int .i64 m2)] (bufHp (some 0) bs1 c1) = some (.one (.bool true), bufHp (some 0) bs2 c2) ∧ F27 [.one (.ptr 0 0)] (bufHp (some 0) bs2 c2) = some (.one (.row 2), bufHp (some 0) bs2 c2 ++ [.rows (.ints .u8 out)])) :
    F35 [.one (.int .u64 v), .one (.int .i64 n)] [] = some (.one (.row 0), [.rows (.ints .u8 out)]) := by
  obtain ⟨bs2, e25b, e27⟩ := e25b
  simp only [bufHp, List.cons_append, List.nil_append] at e25a e25b e27
  by_cases h : 32 < n
  · have h2 : ¬ n - 32 < 0 := by omega
    have h3 : ¬ n < 32 := by omega
    rw [if_pos h] at hm1
    rw [if_neg h2] at hm2
    rw [← hm1] at e25a
    rw [← hm2] at e25b
    simp -implicitDefEqProofs [F35, c35, upd, w1, ws, wn, h, h2, h3, e25a, e25b, e27]
  · rw [if_neg h] at hm1
    by_cases h2 : n - 32 < 0
    · have h3 : n < 32 := by omega
      rw [if_pos h2] at hm2
      rw [← hm1] at e25a
      rw [← hm2] at e25b
      simp -implicitDefEqProofs [F35, c35, upd, w1, ws, wn, h, h2, h3, e25a, e25b, e27]
    · have h3 : ¬ n < 32 := by omega
      rw [if_neg h2] at hm2
      rw [← hm1] at e25a
      rw [← hm2] at e25b
      simp -implicitDefEqProofs [F35, c35, upd, w1, ws, wn, h, h2, h3, e25a, e25b, e27]
theorem f35 (v n : Nat) (hv : v < 2 ^ 64) (hn : n ≤ 40) : ∃ out, F35 [.one (.int .u64 v), .one (.int .i64 n)] [] = some (.one (.row 0), [.rows (.ints .u8 out)]) ∧ Holds out (n + 1) (v % 2 ^ n + 2 ^ n) := by
  obtain ⟨m1, hm1⟩ : ∃ m1, m1 = if 32 < n then 32 else n := ⟨_, rfl⟩
  have hm1' : m1 ≤ 32 ∧ m1 ≤ n := by subst hm1; split <;> omega
  have hle : m1 + (n - 32) = n := by subst hm1; split <;> omega
  obtain ⟨bs1, e1, h1⟩ := f25 (v % 2 ^ 32) m1 0 0 [] holds0 (by omega) (Nat.mod_lt _ (Nat.two_pow_pos _)) (by omega)
  obtain ⟨bs2, e2, h2⟩ := f25 (v / 2 ^ 32) (n - 32) _ _ bs1 h1 (by omega) (by omega) (by omega)
  have hval : 0 + v % 2 ^ 32 % 2 ^ m1 * 2 ^ 0 + v / 2 ^ 32 % 2 ^ (n - 32) * 2 ^ (0 + m1) = v % 2 ^ n := by
    rw [Nat.pow_zero, Nat.mul_one, Nat.zero_add, Nat.zero_add]
    by_cases h : 32 < n
    · have : m1 = 32 := by rw [hm1, if_pos h]
      subst this
      have := mod_more v 32 (n - 32)
      rw [show 32 + (n - 32) = n by omega] at this
      rw [Nat.mod_mod, this]
    · have h0 : n - 32 = 0 := by omega
      have : m1 = n := by rw [hm1, if_neg h]
      subst this
      rw [h0, Nat.pow_zero, Nat.mod_one, Nat.zero_mul, Nat.add_zero, Nat.mod_mod_of_dvd _ (Nat.pow_dvd_pow 2 (by omega))]
  rw [hval] at h2
  rw [show 0 + m1 + (n - 32) = n by omega] at e2 h2
  obtain ⟨out, e3, h3⟩ := f27 bs2 n _ h2 (by omega)
  refine ⟨out, ?_, h3⟩
  refine f35c v n (v % 2 ^ 32) (v / 2 ^ 32) m1 (n - 32) bs1 out (0 + m1) n ?_ ?_ ?_ ?_ ?_ e1 ⟨bs2, e2, e3⟩
  · rw [IntKind.wrap_u32]; omega
  · rw [hm1]
    by_cases h : 32 < n
    · rw [if_pos h, if_pos (by omega)]; rfl
    · rw [if_neg h, if_neg (by omega)]
  · have hs : shrI .u64 (v : Int) 32 = ((v / 2 ^ 32 : Nat) : Int) := shr_in (n := 32) (by simp only [IntKind.bits]; omega)
    rw [hs]
    exact u32_in _ (by omega)
  · exact i64_in _ (by omega)
  · by_cases h : (n : Int) - 32 < 0
    · rw [if_pos h]; omega
    · rw [if_neg h]; omega
theorem xor_and {x y n : Nat} (hx : x < 2 ^ 64) (hy : y < 2 ^ 64) (hn : n ≤ 40) : ∃ w : Nat, bitsI .and .u64 (bitsI .xor .u64 (x : Int) (y : Int)) ((2 ^ n - 1 : Nat) : Int) = w ∧ (w = 0 ↔ x % 2 ^ n = y % 2 ^ n) := by
  have hlt : x ^^^ y < 2 ^ 64 := Nat.xor_lt_two_pow hx hy
  have e : bitsI .xor .u64 (x : Int) (y : Int) = ((x ^^^ y : Nat) : Int) := by
    have e1 : ((BitVec.ofInt 64 (x : Int) ^^^ BitVec.ofInt 64 (y : Int)).toNat : Int) = ((x ^^^ y : Nat) : Int) := by
      rw [BitVec.toNat_xor, BitVec.ofInt_natCast, BitVec.ofInt_natCast, BitVec.toNat_ofNat, BitVec.toNat_ofNat, Nat.mod_eq_of_lt hx, Nat.mod_eq_of_lt hy]
    show IntKind.u64.wrap _ = _
    have e2 : ((BitVec.ofInt IntKind.u64.bits (x : Int) ^^^ BitVec.ofInt IntKind.u64.bits (y : Int)).toNat : Int) = ((x ^^^ y : Nat) : Int) := e1
    rw [e2]
    exact u64_in _ (by omega)
  refine ⟨(x ^^^ y) % 2 ^ n, ?_, ?_⟩
  · rw [e]
    exact mask_and rfl (by simp only [IntKind.bits]; exact hlt) (by simp only [IntKind.bits]; omega)
  · rw [Nat.xor_mod_two_pow]
    constructor
    · intro h
      have e2 : x % 2 ^ n ^^^ (x % 2 ^ n ^^^ y % 2 ^ n) = y % 2 ^ n := by rw [← Nat.xor_assoc, Nat.xor_self, Nat.zero_xor]
      rw [h, Nat.xor_zero] at e2
      exact e2
    · intro h; rw [h, Nat.xor_self]
set_option maxHeartbeats 2000000 in
theorem law7 (a : List Int) (n m : Int) (hl : a.length = 2) (hw : ∀ z ∈ a, (Lit.int .u64 z).wf = true) (_ : (Lit.int .i64 n).wf = true) (_ : (Lit.int .i64 m).wf = true) : F7 [.agg (a.map (SV.int .u64)), .one (.int .i64 n), .one (.int .i64 m)] [] = some (.one (.bool true), []) := by
  match a, hl, hw with
  | [v0, v1], _, hw =>
    have h0 : 0 ≤ v0 ∧ v0 < 18446744073709551616 := by
      have := hw v0 (by simp)
      simp [Lit.wf, IntKind.min, IntKind.max, IntKind.signed, IntKind.bits] at this; omega
    have h1 : 0 ≤ v1 ∧ v1 < 18446744073709551616 := by
      have := hw v1 (by simp)
      simp [Lit.wf, IntKind.min, IntKind.max, IntKind.signed, IntKind.bits] at this; omega
    clear hw
    obtain ⟨x, rfl⟩ : ∃ x : Nat, v0 = x := ⟨v0.toNat, by omega⟩
    obtain ⟨y, rfl⟩ : ∃ y : Nat, v1 = y := ⟨v1.toNat, by omega⟩
    by_cases hn0 : n < 0
    · simp -implicitDefEqProofs [F7, c7, upd, h24, hn0]
    by_cases hn1 : 40 < n
    · simp -implicitDefEqProofs [F7, c7, upd, h24, hn0, hn1]
    by_cases hm0 : m < 0
    · simp -implicitDefEqProofs [F7, c7, upd, h24, hn0, hn1, hm0]
    by_cases hm1 : 40 < m
    · simp -implicitDefEqProofs [F7, c7, upd, h24, hn0, hn1, hm0, hm1]
    obtain ⟨p, rfl⟩ : ∃ p : Nat, n = p := ⟨n.toNat, by omega⟩
    obtain ⟨q, rfl⟩ : ∃ q : Nat, m = q := ⟨m.toNat, by omega⟩
    obtain ⟨X, eX, hX⟩ := f35 x p (by omega) (by omega)
    obtain ⟨Y, eY, hY⟩ := f35 y q (by omega) (by omega)
    obtain ⟨b, hb1, hb2, hbl⟩ := sealed_last hX (Nat.mod_lt _ (Nat.two_pow_pos p))
    obtain ⟨b', hb1', hb2', hbl'⟩ := sealed_last hY (Nat.mod_lt _ (Nat.two_pow_pos q))
    have hbl2 := bl_leB hX.isB hb1 hb2
    have hbb : 0 < bl b.toNat := by
      have := hX.isB b (List.mem_of_getLast? hb1)
      exact (bl_pos (n := b.toNat) (by omega)).2.2
    have hol := hX.len
    have e28 := fun t => f28 t X b hX.isB hb1 hb2 (by omega)
    have hq : 8 * (X.length - 1) + (bl b.toNat - 1) = p := by omega
    rw [hq] at e28
    obtain ⟨τ, hτ⟩ : ∃ τ, τ = if 32 < p then 32 else p := ⟨_, rfl⟩
    have hτ' : τ ≤ 32 ∧ τ ≤ p := by subst hτ; split <;> omega
    have e32 := f32 X p τ hX.isB (by omega) (by omega) hτ'.1 hτ'.2
    have hX0 : (0 : Int) < X.length := by omega
    have hX0' : 0 < X.length := by omega
    have ws : shlI .u64 1 (p : Int) = ((2 ^ p : Nat) : Int) := by
      have hp : (2 : Nat) ^ p < 2 ^ 64 := Nat.pow_lt_pow_right (by omega) (by omega)
      have := shl_in (k := .u64) (x := 1) (n := p) rfl (by simp only [IntKind.bits]; omega) (by simp only [IntKind.bits]; omega)
      rw [Nat.one_mul] at this
      exact this
    have wm : IntKind.u64.wrap (((2 ^ p : Nat) : Int) - 1) = ((2 ^ p - 1 : Nat) : Int) := by
      have hp : (2 : Nat) ^ p < 2 ^ 64 := Nat.pow_lt_pow_right (by omega) (by omega)
      have hp0 := Nat.two_pow_pos p
      generalize (2 : Nat) ^ p = P at hp hp0 ⊢
      rw [u64_in _ (by omega)]; omega
    obtain ⟨w, hw, hw0⟩ := xor_and (x := x) (y := y) (n := p) (by omega) (by omega) (by omega)
    have hsame : (X = Y) ↔ (p = q ∧ w = 0) := by
      constructor
      · intro h
        rw [h] at hbl
        have hpq : p = q := by omega
        subst hpq
        refine ⟨rfl, hw0.2 ?_⟩
        have e1 := hX.val
        have e2 := hY.val
        rw [h] at e1
        omega
      · rintro ⟨rfl, h⟩
        exact leB_inj hX.isB hY.isB (by rw [hX.len, hY.len]) (by rw [hX.val, hY.val, hw0.1 h])
    have heq : ((ofBytes X).toList == (ofBytes Y).toList) = decide (X = Y) := eqS hX.isB hY.isB
    have hp0 : ¬ (p : Int) < 0 := by omega
    simp only [bufHp, tup2] at e28 e32
    generalize ((leB X / 2 ^ (p - τ) % 2 ^ τ : Nat) : Int) = kv at *
    generalize ((p - τ : Nat) : Int) = pt at *
    generalize ((2 ^ p - 1 : Nat) : Int) = mk at *
    generalize ((2 ^ p : Nat) : Int) = P at *
    have hw0' : ((w : Int) == 0) = decide (w = 0) := by
      rw [Bool.eq_iff_iff]; simp
    clear hX hY hb1 hb1' hb2 hb2' hbl hbl' hbl2 hbb hol hq hw0
    have hn0' : ¬ p < 0 := by omega
    have hn1' : ¬ 40 < p := by omega
    have hm1' : ¬ 40 < q := by omega
    by_cases h32 : 32 < p
    · have h32' : (32 : Int) < p := by omega
      rw [if_pos h32] at hτ
      subst hτ
      have c32 : ((32 : Nat) : Int) = 32 := rfl
      rw [c32] at e32
      by_cases hXY : X = Y
      · obtain ⟨rfl, rfl⟩ := hsame.1 hXY
        subst hXY
        simp (maxSteps := 2000000) -implicitDefEqProofs [F7, c7, upd, h24, hn0, hn1, hn1', hp0, eX, eY, e28, e32, hX0, hX0', ws, wm, hw, h32, h32', RC.len, RC.size, RC.get, RC.set]
      · by_cases hpq : p = q
        · subst hpq
          have hwn : ¬ w = 0 := fun c => hXY (hsame.2 ⟨rfl, c⟩)
          simp (maxSteps := 2000000) -implicitDefEqProofs [F7, c7, upd, h24, hn0, hn1, hn1', hp0, eX, eY, e28, e32, hX0, hX0', ws, wm, hw, h32, h32', heq, hXY, hwn, RC.len, RC.size, RC.get, RC.set]
        · have hpq' : ¬ ((p : Int) = (q : Int)) := by omega
          simp (maxSteps := 2000000) -implicitDefEqProofs [F7, c7, upd, h24, hn0, hn1, hn1', hm0, hm1, hm1', hp0, eX, eY, e28, e32, hX0, hX0', h32, h32', heq, hXY, hpq, hpq', RC.len, RC.size, RC.get, RC.set]
    · have h32' : ¬ (32 : Int) < p := by omega
      rw [if_neg h32] at hτ
      subst hτ
      by_cases hXY : X = Y
      · obtain ⟨rfl, rfl⟩ := hsame.1 hXY
        subst hXY
        simp (maxSteps := 2000000) -implicitDefEqProofs [F7, c7, upd, h24, hn0, hn1, hn1', hp0, eX, eY, e28, e32, hX0, hX0', ws, wm, hw, h32, h32', RC.len, RC.size, RC.get, RC.set]
      · by_cases hpq : τ = q
        · subst hpq
          have hwn : ¬ w = 0 := fun c => hXY (hsame.2 ⟨rfl, c⟩)
          simp (maxSteps := 2000000) -implicitDefEqProofs [F7, c7, upd, h24, hn0, hn1, hn1', hp0, eX, eY, e28, e32, hX0, hX0', ws, wm, hw, h32, h32', heq, hXY, hwn, RC.len, RC.size, RC.get, RC.set]
        · have hpq' : ¬ ((τ : Int) = (q : Int)) := by omega
          simp (maxSteps := 2000000) -implicitDefEqProofs [F7, c7, upd, h24, hn0, hn1, hn1', hm0, hm1, hm1', hp0, eX, eY, e28, e32, hX0, hX0', h32, h32', heq, hXY, hpq, hpq', RC.len, RC.size, RC.get, RC.set]
end Go.X.Try
