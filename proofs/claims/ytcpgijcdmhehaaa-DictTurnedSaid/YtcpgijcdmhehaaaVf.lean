import Derived.Test.YtcpgijcdmhehaaaVe
set_option maxRecDepth 100000
set_option linter.unusedSimpArgs false
namespace Go.X.Try
open Go.IntWalk
theorem bitsI_xor8 {x y : Nat} (hx : x < 256) (hy : y < 256) : bitsI .xor .u8 (x : Int) (y : Int) = ((x ^^^ y : Nat) : Int) ∧ x ^^^ y < 256 := by
  have e : ((BitVec.ofInt 8 (x : Int) ^^^ BitVec.ofInt 8 (y : Int)).toNat : Int) = ((x ^^^ y : Nat) : Int) := by
    rw [BitVec.toNat_xor, BitVec.ofInt_natCast, BitVec.ofInt_natCast, BitVec.toNat_ofNat, BitVec.toNat_ofNat, Nat.mod_eq_of_lt (by omega), Nat.mod_eq_of_lt (by omega)]
  have hlt : x ^^^ y < 2 ^ 8 := Nat.xor_lt_two_pow (by omega) (by omega)
  refine ⟨?_, by omega⟩
  show IntKind.u8.wrap _ = _
  have e2 : ((BitVec.ofInt IntKind.u8.bits (x : Int) ^^^ BitVec.ofInt IntKind.u8.bits (y : Int)).toNat : Int) = ((x ^^^ y : Nat) : Int) := e
  rw [e2]
  exact u8_in _ (by omega)
theorem xor_ne {x y : Nat} (hy : y ≠ 0) : x ^^^ y ≠ x := fun h => by
  have : x ^^^ (x ^^^ y) = x ^^^ x := by rw [h]
  rw [← Nat.xor_assoc, Nat.xor_self, Nat.zero_xor] at this
  exact hy this
theorem law5c (s : ByteArray) (a b x x' : Int) (d t : List Int) (e : Int) (k0 k : Nat) (res : Bool) (h2 : s.size ≤ 200) (hb0 : ¬ b = 0) (hb : 0 ≤ b ∧ b < 256)
    (e14 : F14 [.one (.str s)] [] = some (tupSI (ofBytes d) 0, [])) (ht : toBytes (ofBytes d) = d) (hd : d.length ≤ 5000) (hn : s.size ≤ d.length)
    (wa : IntKind.i64.wrap a = a) (wm : IntKind.i64.wrap ((8 : Int) + s.size) = 8 + s.size) (hk0 : a.tmod (8 + s.size) = (k0 : Int) - 2) (wk : IntKind.i64.wrap ((2 : Int) + ((k0 : Int) - 2)) = k0)
    (wr : IntKind.i64.wrap ((k0 : Int) - 2) = (k0 : Int) - 2)
    (hm0 : ¬ (8 : Int) + s.size = 0)
    (hk : (k0 < 10 ∧ k = k0) ∨ (10 ≤ k0 ∧ IntKind.i64.wrap ((d.length : Int) - s.size + k0) = (d.length : Int) - s.size + k0 ∧ IntKind.i64.wrap ((d.length : Int) - s.size + k0 - 10) = (k : Int)))
    (wh : IntKind.i64.wrap ((d.length : Int) - s.size) = (d.length : Int) - s.size)
    (hkd : k < d.length) (hx : d[k]?.getD 0 = x) (hxo : bitsI .xor .u8 x b = x')
    (e15 : F15 [.one (.str (ofBytes (d.set k x')))] [] = some (tupSI (ofBytes t) e, []))
    (hres : (e = 0 ∧ (ofBytes t) ≠ s ∧ ∃ m, F18 [.one (.str (ofBytes t))] [] = some (.one (.int .u64 m), []) ∧ F18 [.one (.str s)] [] = some (.one (.int .u64 m), [])) ∨ (e = 4 ∧ t = [])) :
    F5 [.one (.str s), .one (.int .u16 a), .one (.int .u8 b)] [] = some (.one (.bool true), []) := by
  have h2i : ¬ (200 : Int) < s.size := by omega
  have h2n : ¬ 200 < s.size := by omega
  have hx' : d[k] = x := by rw [List.getElem?_eq_getElem hkd] at hx; exact hx
  have hkdi : (k : Int) < d.length := by omega
  have hsz : (ofBytes d).size ≤ 140737488355328 := by rw [size_ofBytes]; omega
  simp only [tupSI] at e14 e15
  have fin : ∀ (q : Bool), ((ofBytes t).toList == s.toList) = decide (ofBytes t = s) := fun _ => beqS _ _
  rcases hk with ⟨h10, rfl⟩ | ⟨h10, w1, w2⟩
  · have h10i : ¬ (10 : Int) ≤ (k : Int) := by omega
    have h10n : ¬ 10 ≤ k := by omega
    rcases hres with ⟨rfl, hne, m, e18, e18b⟩ | ⟨rfl, rfl⟩
    · have hq : ¬ (ofBytes t).toList = s.toList := fun h => by
        have := fin true
        rw [h, beq_self_eq_true] at this
        exact hne (of_decide_eq_true this.symm)
      simp -implicitDefEqProofs [F5, c5, upd, h13, h2i, h2n, hb0, e14, ht, hsz, RC.len, RC.size, RC.elem, takeE, wh, wa, wm, hm0, hk0, wr, wk, h10i, h10n, hkd, hkdi, hx, hx', hxo, e15, hq, e18, e18b, RC.set]
    · simp -implicitDefEqProofs [F5, c5, upd, h13, h2i, h2n, hb0, e14, ht, hsz, RC.len, RC.size, RC.elem, takeE, wh, wa, wm, hm0, hk0, wr, wk, h10i, h10n, hkd, hkdi, hx, hx', hxo, e15, ofBytes_nil, RC.set]
  · have h10i : (10 : Int) ≤ (k0 : Int) := by omega
    rcases hres with ⟨rfl, hne, m, e18, e18b⟩ | ⟨rfl, rfl⟩
    · have hq : ¬ (ofBytes t).toList = s.toList := fun h => by
        have := fin true
        rw [h, beq_self_eq_true] at this
        exact hne (of_decide_eq_true this.symm)
      simp -implicitDefEqProofs [F5, c5, upd, h13, h2i, h2n, hb0, e14, ht, hsz, RC.len, RC.size, RC.elem, takeE, wh, wa, wm, hm0, hk0, wr, wk, h10i, h10, w1, w2, hkd, hkdi, hx, hx', hxo, e15, hq, e18, e18b, RC.set]
    · simp -implicitDefEqProofs [F5, c5, upd, h13, h2i, h2n, hb0, e14, ht, hsz, RC.len, RC.size, RC.elem, takeE, wh, wa, wm, hm0, hk0, wr, wk, h10i, h10, w1, w2, hkd, hkdi, hx, hx', hxo, e15, ofBytes_nil, RC.set]
theorem law5 (s : ByteArray) (a b : Int) (_ : s.size ≤ maxLen) (ha : (Lit.int .u16 a).wf = true) (hb : (Lit.int .u8 b).wf = true) : F5 [.one (.str s), .one (.int .u16 a), .one (.int .u8 b)] [] = some (.one (.bool true), []) := by
  simp [Lit.wf, IntKind.min, IntKind.max, IntKind.signed, IntKind.bits] at ha hb
  by_cases h2 : 200 < s.size
  · have h2i : (200 : Int) < s.size := by omega
    simp -implicitDefEqProofs [F5, c5, upd, h13, h2, h2i]
  · have h2i : ¬ (200 : Int) < s.size := by omega
    by_cases hb0 : b = 0
    · subst hb0
      simp -implicitDefEqProofs [F5, c5, upd, h13, h2, h2i]
    · have hlen := size_toBytes s
      have hB := isB_toBytes s
      have hgr := grp_ten (v := (toBytes s).length) (by omega)
      have hgp := grp_pos (toBytes s).length
      have hdl := dictB_length (toBytes s)
      have hdB := dictB_isB hB
      have e14 := f14 s (by omega)
      obtain ⟨k0, hk0⟩ : ∃ k0 : Nat, (k0 : Int) = a.tmod (8 + s.size) + 2 := ⟨(a.tmod (8 + s.size) + 2).toNat, by
        have := Int.tmod_nonneg (8 + s.size : Int) ha.1
        omega⟩
      have hk1 : k0 < 10 + s.size := by
        have := Int.tmod_lt_of_pos a (show (0 : Int) < 8 + s.size by omega)
        omega
      have hk2 : 2 ≤ k0 := by
        have := Int.tmod_nonneg (8 + s.size : Int) ha.1
        omega
      obtain ⟨k, hk⟩ : ∃ k, k = if k0 < 10 then k0 else (dictB (toBytes s)).length - s.size + k0 - 10 := ⟨_, rfl⟩
      have hkc : (k0 < 10 ∧ k = k0) ∨ (10 ≤ k0 ∧ k + 10 = (dictB (toBytes s)).length - s.size + k0) := by
        by_cases h : k0 < 10
        · rw [if_pos h] at hk; exact .inl ⟨h, hk⟩
        · rw [if_neg h] at hk; exact .inr ⟨by omega, by omega⟩
      have hkd : k < (dictB (toBytes s)).length := by omega
      obtain ⟨x, hx⟩ : ∃ x : Nat, (dictB (toBytes s))[k]? = some (x : Int) ∧ x < 256 := by
        have := hdB _ (List.getElem_mem hkd)
        exact ⟨((dictB (toBytes s))[k]).toNat, by rw [List.getElem?_eq_getElem hkd, show ((((dictB (toBytes s))[k]).toNat : Nat) : Int) = (dictB (toBytes s))[k] by omega], by omega⟩
      obtain ⟨y, rfl⟩ : ∃ y : Nat, b = y := ⟨b.toNat, by omega⟩
      obtain ⟨hxo, hxl⟩ := bitsI_xor8 hx.2 (show y < 256 by omega)
      have hne : (dictB (toBytes s))[k]? ≠ some ((x ^^^ y : Nat) : Int) := by
        rw [hx.1]
        intro h
        simp only [Option.some.injEq] at h
        exact xor_ne (x := x) (show y ≠ 0 by omega) (by omega)
      have e15 := f15 ((dictB (toBytes s)).set k ((x ^^^ y : Nat) : Int)) (isB_set hdB (by omega)) (by rw [List.length_set]; omega)
      have hturn := dict_turned hB (by omega) (k := k) (x := ((x ^^^ y : Nat) : Int)) (by omega) hne (by omega)
      generalize hdd : dictD ((dictB (toBytes s)).set k ((x ^^^ y : Nat) : Int)) = dd at *
      refine law5c s a y x _ (dictB (toBytes s)) dd.1 dd.2 k0 k true (by omega) hb0 (by omega) e14 (toBytes_ofBytes hdB) (by omega) (by omega) (i64_in _ (by omega)) (i64_in _ (by omega)) (by omega) (by rw [i64_in _ (by omega)]; omega) (i64_in _ (by omega)) (by omega) ?_ (i64_in _ (by omega)) hkd (by rw [hx.1]; rfl) hxo e15 ?_
      · rcases hkc with h | ⟨h1, h3⟩
        · exact .inl h
        · exact .inr ⟨h1, i64_in _ (by omega), by rw [i64_in _ (by omega)]; omega⟩
      · rcases hturn with h | ⟨t, h, hts, htB, hsum⟩
        · rw [h]; exact .inr ⟨rfl, rfl⟩
        · rw [h]
          have e1 := e18' s (by omega)
          have htl := (dict_any (isB_set hdB (by omega)) (hdd.trans h)).2.1
          have e2 := e18' (ofBytes t) (by rw [size_ofBytes]; omega)
          rw [toBytes_ofBytes htB, hsum] at e2
          refine .inl ⟨rfl, fun h => ?_, _, e2, e1⟩
          apply hts
          have := congrArg toBytes h
          rwa [toBytes_ofBytes htB] at this
end Go.X.Try
