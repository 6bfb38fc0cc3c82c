import Derived.Test.YthcbhmgjkecppaaNi
set_option maxRecDepth 100000
set_option linter.unusedSimpArgs false
set_option linter.unusedVariables false
set_option maxHeartbeats 4000000
namespace Go.X.Try
open Go.IntWalk
theorem b7add_y (L : List (List Sc)) (i : Nat) (kd e : Int) (t : ByteArray) (last last' n x hd : Int) (tx : ByteArray) (E E' : List En) (R R' : List Rf) (b0 : Bool) (k : Nat) (r : Rf) (hi : i < L.length) (hL : L.length ≤ 80) (hd : L[i]?.getD [] = [.int .u8 kd, .int .i64 e, .str t]) (ht : t.size ≤ 300) (hk : kd.tmod 3 = 0) (h41 : F41 [.one (.ptr 0 0), .one (.int .i64 e)] (stR (some 0) R) = some (.one (.bool b0), stR (some 0) R))
    (h19 : F19 [.one (.ptr 0 0), .one (.str t)] (stE (some 0) last E) = some (.tup [.one (.int .i64 n), .one (.int .i64 x)], stE (some 0) last' E'))
    (h42 : F42 [.one (.ptr 0 0), .one (.str t)] (stR (some 0) R) = some (.tup [.one (.int .i64 n), .one (.int .i64 x)], stR (some 0) R'))
    (he : e = (k : Int) + 1) (hr : R'[k]? = some r) (hr80 : R'.length ≤ 1000)
    (A : Ask e last' E' R' true r.tx r.hd) : ∃ st1, evC T7 KK b7x0 (canon7 L last E R i) = some (.norm, st1) ∧ St.head [3, 4, 25, 26, 27] st1 = canon7 L last' E' R' (i + 1) := by
  have hii : (i : Int) < L.length := by omega
  have w : IntKind.i64.wrap ((i : Int) + 1) = i + 1 := i64_in _ (by omega)
  have e0 : (RC.recs 3 L).elem i = [.int .u8 kd, .int .i64 e, .str t] := by simpa [RC.elem, List.getD] using hd
  have hts : ¬ ((300 : Int) < t.size) := by omega
  obtain ⟨a41, a21, a44, a22, a46, a45, rfl⟩ := A
  have f23 := fun E => f23 (R'.length : Int) E
  have hkl := (List.getElem?_eq_some_iff.1 hr).1
  have hx := (List.getElem?_eq_some_iff.1 hr).2
  have wk : IntKind.i64.wrap (k : Int) = k := i64_in _ (by omega)
  subst he
  simp only [stE, stR, List.cons_append, List.nil_append] at h41 h19 h42 a41 a21 a44 a22 a46 f23
  simp -implicitDefEqProofs [b7x0, canon7, upd, hi, hii, w, RC.len, RC.size, e0, takeE, hts, hk, h41, h19, h42, hkl, hx, wk, a41, a21, a44, a22, a46, a45, f23, RC.get]
theorem b7hold_n (L : List (List Sc)) (i : Nat) (kd e : Int) (t : ByteArray) (last : Int) (E : List En) (R : List Rf) (hi : i < L.length) (hL : L.length ≤ 80) (hd : L[i]?.getD [] = [.int .u8 kd, .int .i64 e, .str t]) (ht : t.size ≤ 300) (hk : kd.tmod 3 = 1) (h41 : F41 [.one (.ptr 0 0), .one (.int .i64 e)] (stR (some 0) R) = some (.one (.bool false), stR (some 0) R))
    (h20 : F20 [.one (.ptr 0 0), .one (.int .i64 e)] (stE (some 0) last E) = some (.one (.bool false), stE (some 0) last E))
    (A : Ask e last E R false ⟨#[]⟩ 0) : ∃ st1, evC T7 KK b7x0 (canon7 L last E R i) = some (.norm, st1) ∧ St.head [3, 4, 25, 26, 27] st1 = canon7 L last E R (i + 1) := by
  have hii : (i : Int) < L.length := by omega
  have w : IntKind.i64.wrap ((i : Int) + 1) = i + 1 := i64_in _ (by omega)
  have e0 : (RC.recs 3 L).elem i = [.int .u8 kd, .int .i64 e, .str t] := by simpa [RC.elem, List.getD] using hd
  have hts : ¬ ((300 : Int) < t.size) := by omega
  obtain ⟨a41, a21, a44, a22, a46, a45, rfl⟩ := A
  have f23 := fun E => f23 (R.length : Int) E
  simp only [stE, stR, List.cons_append, List.nil_append] at h41 h20 a41 a21 a44 a22 a46 f23
  simp -implicitDefEqProofs [b7x0, canon7, upd, hi, hii, w, RC.len, RC.size, e0, takeE, hts, hk, h41, h20, a41, a21, a44, a22, a46, a45, f23, RC.get]
theorem b7hold_y (L : List (List Sc)) (i : Nat) (kd e : Int) (t : ByteArray) (last : Int) (E E' : List En) (R : List Rf) (k : Nat) (r : Rf) (hi : i < L.length) (hL : L.length ≤ 80) (hd : L[i]?.getD [] = [.int .u8 kd, .int .i64 e, .str t]) (ht : t.size ≤ 300) (hk : kd.tmod 3 = 1) (h41 : F41 [.one (.ptr 0 0), .one (.int .i64 e)] (stR (some 0) R) = some (.one (.bool true), stR (some 0) R))
    (h20 : F20 [.one (.ptr 0 0), .one (.int .i64 e)] (stE (some 0) last E) = some (.one (.bool true), stE (some 0) last E'))
    (he : e = (k : Int) + 1) (hr : R[k]? = some r) (hth : r.th = true) (hr80 : R.length ≤ 1000) (hb : 0 ≤ r.hd ∧ r.hd ≤ 1000)
    (A : Ask e last E' (R.set k ⟨r.tx, true, r.hd + 1⟩) true r.tx (r.hd + 1)) : ∃ st1, evC T7 KK b7x0 (canon7 L last E R i) = some (.norm, st1) ∧ St.head [3, 4, 25, 26, 27] st1 = canon7 L last E' (R.set k ⟨r.tx, true, r.hd + 1⟩) (i + 1) := by
  have hii : (i : Int) < L.length := by omega
  have w : IntKind.i64.wrap ((i : Int) + 1) = i + 1 := i64_in _ (by omega)
  have e0 : (RC.recs 3 L).elem i = [.int .u8 kd, .int .i64 e, .str t] := by simpa [RC.elem, List.getD] using hd
  have hts : ¬ ((300 : Int) < t.size) := by omega
  obtain ⟨a41, a21, a44, a22, a46, a45, hlen⟩ := A
  rw [List.length_set] at hlen
  subst hlen
  have f23 := fun E => f23 (R.length : Int) E
  have hkl := (List.getElem?_eq_some_iff.1 hr).1
  have hx := (List.getElem?_eq_some_iff.1 hr).2
  have wk : IntKind.i64.wrap (k : Int) = k := i64_in _ (by omega)
  have wh : IntKind.i64.wrap (r.hd + 1) = r.hd + 1 := i64_in _ (by omega)
  have hpos := hb.1
  subst he
  have q1 : (R.set k ⟨r.tx, true, r.hd + 1⟩).map Rf.tx = R.map Rf.tx := by
    rw [List.map_set]; apply List.ext_getElem? ; intro j; by_cases q : j = k
    · subst q; simp [hkl, hx]
    · simp [List.getElem?_set_ne (Ne.symm q)]
  have q2 : (R.set k ⟨r.tx, true, r.hd + 1⟩).map Rf.th = R.map Rf.th := by
    rw [List.map_set]; apply List.ext_getElem? ; intro j; by_cases q : j = k
    · subst q; simp [hkl, hx, hth]
    · simp [List.getElem?_set_ne (Ne.symm q)]
  have q3 : (R.set k ⟨r.tx, true, r.hd + 1⟩).map Rf.hd = (R.map Rf.hd).set k (r.hd + 1) := by rw [List.map_set]
  have q4 : (R.set k ⟨r.tx, true, r.hd + 1⟩).length = R.length := by simp
  simp only [stR, q1, q2, q3, List.cons_append, List.nil_append] at a41 a46
  simp only [stE, stR, List.cons_append, List.nil_append] at h41 h20 a21 a44 a22 f23
  simp -implicitDefEqProofs [b7x0, canon7, upd, hi, hii, w, RC.len, RC.size, e0, takeE, hts, hk, h41, h20, hkl, hx, wk, wh, q1, q2, q3, q4, RC.set, hpos, a41, a21, a44, a22, a46, a45, f23, RC.get]
theorem b7let_y (L : List (List Sc)) (i : Nat) (kd e : Int) (t : ByteArray) (last : Int) (E E' : List En) (R : List Rf) (k : Nat) (r : Rf) (hi : i < L.length) (hL : L.length ≤ 80) (hd : L[i]?.getD [] = [.int .u8 kd, .int .i64 e, .str t]) (ht : t.size ≤ 300) (hk : kd.tmod 3 = 2) (h41 : F41 [.one (.ptr 0 0), .one (.int .i64 e)] (stR (some 0) R) = some (.one (.bool true), stR (some 0) R))
    (h43 : F43 [.one (.ptr 0 0), .one (.int .i64 e)] (stE (some 0) last E) = some (.one (.bool true), stE (some 0) last E'))
    (he : e = (k : Int) + 1) (hr : R[k]? = some r) (hth : r.th = true) (hr80 : R.length ≤ 1000) (hb : 0 < r.hd ∧ r.hd ≤ 1000)
    (A : Ask e last E' (R.set k ⟨r.tx, true, r.hd - 1⟩) true r.tx (r.hd - 1)) : ∃ st1, evC T7 KK b7x0 (canon7 L last E R i) = some (.norm, st1) ∧ St.head [3, 4, 25, 26, 27] st1 = canon7 L last E' (R.set k ⟨r.tx, true, r.hd - 1⟩) (i + 1) := by
  have hii : (i : Int) < L.length := by omega
  have w : IntKind.i64.wrap ((i : Int) + 1) = i + 1 := i64_in _ (by omega)
  have e0 : (RC.recs 3 L).elem i = [.int .u8 kd, .int .i64 e, .str t] := by simpa [RC.elem, List.getD] using hd
  have hts : ¬ ((300 : Int) < t.size) := by omega
  obtain ⟨a41, a21, a44, a22, a46, a45, hlen⟩ := A
  rw [List.length_set] at hlen
  subst hlen
  have f23 := fun E => f23 (R.length : Int) E
  have hkl := (List.getElem?_eq_some_iff.1 hr).1
  have hx := (List.getElem?_eq_some_iff.1 hr).2
  have wk : IntKind.i64.wrap (k : Int) = k := i64_in _ (by omega)
  have wh : IntKind.i64.wrap (r.hd - 1) = r.hd - 1 := i64_in _ (by omega)
  have hpos : 0 < r.hd := hb.1
  subst he
  have q1 : (R.set k ⟨r.tx, true, r.hd - 1⟩).map Rf.tx = R.map Rf.tx := by
    rw [List.map_set]; apply List.ext_getElem? ; intro j; by_cases q : j = k
    · subst q; simp [hkl, hx]
    · simp [List.getElem?_set_ne (Ne.symm q)]
  have q2 : (R.set k ⟨r.tx, true, r.hd - 1⟩).map Rf.th = R.map Rf.th := by
    rw [List.map_set]; apply List.ext_getElem? ; intro j; by_cases q : j = k
    · subst q; simp [hkl, hx, hth]
    · simp [List.getElem?_set_ne (Ne.symm q)]
  have q3 : (R.set k ⟨r.tx, true, r.hd - 1⟩).map Rf.hd = (R.map Rf.hd).set k (r.hd - 1) := by rw [List.map_set]
  have q4 : (R.set k ⟨r.tx, true, r.hd - 1⟩).length = R.length := by simp
  simp only [stR, q1, q2, q3, List.cons_append, List.nil_append] at a41 a46
  simp only [stE, stR, List.cons_append, List.nil_append] at h41 h43 a21 a44 a22 f23
  simp -implicitDefEqProofs [b7x0, canon7, upd, hi, hii, w, RC.len, RC.size, e0, takeE, hts, hk, h41, h43, hkl, hx, wk, wh, q1, q2, q3, q4, RC.set, hpos, a41, a21, a44, a22, a46, a45, f23, RC.get]
theorem b7let_n (L : List (List Sc)) (i : Nat) (kd e : Int) (t : ByteArray) (last : Int) (E : List En) (R : List Rf) (hi : i < L.length) (hL : L.length ≤ 80) (hd : L[i]?.getD [] = [.int .u8 kd, .int .i64 e, .str t]) (ht : t.size ≤ 300) (hk : kd.tmod 3 = 2) (h41 : F41 [.one (.ptr 0 0), .one (.int .i64 e)] (stR (some 0) R) = some (.one (.bool false), stR (some 0) R))
    (h43 : F43 [.one (.ptr 0 0), .one (.int .i64 e)] (stE (some 0) last E) = some (.one (.bool false), stE (some 0) last E))
    (A : Ask e last E R false ⟨#[]⟩ 0) : ∃ st1, evC T7 KK b7x0 (canon7 L last E R i) = some (.norm, st1) ∧ St.head [3, 4, 25, 26, 27] st1 = canon7 L last E R (i + 1) := by
  have hii : (i : Int) < L.length := by omega
  have w : IntKind.i64.wrap ((i : Int) + 1) = i + 1 := i64_in _ (by omega)
  have e0 : (RC.recs 3 L).elem i = [.int .u8 kd, .int .i64 e, .str t] := by simpa [RC.elem, List.getD] using hd
  have hts : ¬ ((300 : Int) < t.size) := by omega
  obtain ⟨a41, a21, a44, a22, a46, a45, rfl⟩ := A
  have f23 := fun E => f23 (R.length : Int) E
  simp only [stE, stR, List.cons_append, List.nil_append] at h41 h43 a41 a21 a44 a22 a46 f23
  simp -implicitDefEqProofs [b7x0, canon7, upd, hi, hii, w, RC.len, RC.size, e0, takeE, hts, hk, h41, h43, a41, a21, a44, a22, a46, a45, f23, RC.get]
theorem b7let_z (L : List (List Sc)) (i : Nat) (kd e : Int) (t : ByteArray) (last : Int) (E : List En) (R : List Rf) (k : Nat) (r : Rf) (hi : i < L.length) (hL : L.length ≤ 80) (hd : L[i]?.getD [] = [.int .u8 kd, .int .i64 e, .str t]) (ht : t.size ≤ 300) (hk : kd.tmod 3 = 2) (h41 : F41 [.one (.ptr 0 0), .one (.int .i64 e)] (stR (some 0) R) = some (.one (.bool true), stR (some 0) R))
    (h43 : F43 [.one (.ptr 0 0), .one (.int .i64 e)] (stE (some 0) last E) = some (.one (.bool false), stE (some 0) last E))
    (he : e = (k : Int) + 1) (hr : R[k]? = some r) (hr80 : R.length ≤ 1000) (hb : r.hd = 0)
    (A : Ask e last E R true r.tx r.hd) : ∃ st1, evC T7 KK b7x0 (canon7 L last E R i) = some (.norm, st1) ∧ St.head [3, 4, 25, 26, 27] st1 = canon7 L last E R (i + 1) := by
  have hii : (i : Int) < L.length := by omega
  have w : IntKind.i64.wrap ((i : Int) + 1) = i + 1 := i64_in _ (by omega)
  have e0 : (RC.recs 3 L).elem i = [.int .u8 kd, .int .i64 e, .str t] := by simpa [RC.elem, List.getD] using hd
  have hts : ¬ ((300 : Int) < t.size) := by omega
  obtain ⟨a41, a21, a44, a22, a46, a45, rfl⟩ := A
  have f23 := fun E => f23 (R.length : Int) E
  have hkl := (List.getElem?_eq_some_iff.1 hr).1
  have hx := (List.getElem?_eq_some_iff.1 hr).2
  have wk : IntKind.i64.wrap (k : Int) = k := i64_in _ (by omega)
  subst he
  simp only [stE, stR, List.cons_append, List.nil_append] at h41 h43 a41 a21 a44 a22 a46 f23
  simp -implicitDefEqProofs [b7x0, canon7, upd, hi, hii, w, RC.len, RC.size, e0, takeE, hts, hk, h41, h43, hkl, hx, wk, hb, a41, a21, a44, a22, a46, a45, f23, RC.get]
end Go.X.Try
