import Derived.Test.YthcbhmgjkecppaaNg
set_option maxRecDepth 100000
set_option linter.unusedSimpArgs false
set_option linter.unusedVariables false
namespace Go.X.Try
open Go.IntWalk
theorem f42l (R : List Rf) (t : ByteArray) (h : (256 : Int) < t.size) : F42 [.one (.ptr 0 0), .one (.str t)] (stR (some 0) R) = some (.tup [.one (.int .i64 0), .one (.int .i64 5)], stR (some 0) R) := by
  simp -implicitDefEqProofs [F42, c42, upd, stR, h]
theorem f42a (R : List Rf) (t : ByteArray) (h : ¬ (256 : Int) < t.size) (hl : R.length ≤ 500) (hc : cntR R ≠ 8) : F42 [.one (.ptr 0 0), .one (.str t)] (stR (some 0) R) = some (.tup [.one (.int .i64 (R.length + 1)), .one (.int .i64 0)], stR (some 0) (R ++ [⟨t, true, 0⟩])) := by
  have e1 := f89 R (by omega)
  simp only [stR] at e1
  have hc' : ¬ ((cntR R : Int) = 8) := by omega
  have hb1 : (R.length + 1) * 16 ≤ 140737488355328 := by omega
  have hb2 : R.length + 1 ≤ 140737488355328 := by omega
  have hb3 : (R.length + 1) * 8 ≤ 140737488355328 := by omega
  simp -implicitDefEqProofs [F42, c42, upd, stR, h, e1, hc', hb1, hb2, hb3, RC.len, RC.size, RC.app, RC.ofElems]
theorem head42 (R : List Rf) (t : ByteArray) (hl : R.length ≤ 500) (hc : cntR R = 8) : ∃ env, loopH (evC T42 KK b42x0) [0, 1, 6, 7] KK (canon42 R t (R.length - 1) (-1)) = some (.exit 0, ⟨env, [.ptr 0 0, .str t], stR (some 0) R⟩) ∧ getT 6 env = .one (.int .i64 (lo R (R.length - 1) (-1))) ∧ getT 0 env = .one (.ptr 0 0) ∧ getT 1 env = .one (.str t) := by
  have hK := KK_eq
  have := cnt_le R
  exact loop42 R t (by omega) (R.length - 1) (-1) KK (by omega) (by omega)
theorem f42n (R : List Rf) (t : ByteArray) (h : ¬ (256 : Int) < t.size) (hl : R.length ≤ 500) (hc : cntR R = 8) (hk : lo R (R.length - 1) (-1) = -1) : F42 [.one (.ptr 0 0), .one (.str t)] (stR (some 0) R) = some (.tup [.one (.int .i64 0), .one (.int .i64 2)], stR (some 0) R) := by
  have e1 := f89 R (by omega)
  rw [hc] at e1
  have := cnt_le R
  obtain ⟨env, el, g6, g0, g1⟩ := head42 R t hl hc
  rw [hk] at g6
  have w : IntKind.i64.wrap ((R.length : Int) - 2) = R.length - 2 := i64_in _ (by omega)
  have w' : ((R.length - 1 : Nat) : Int) - 1 = R.length - 2 := by omega
  simp only [stR, canon42, w'] at e1 el
  simp -implicitDefEqProofs [F42, c42, upd, stR, h, e1, RC.len, w, el, g6, g0, g1]
theorem f42y (R : List Rf) (t : ByteArray) (k : Nat) (r : Rf) (h : ¬ (256 : Int) < t.size) (hl : R.length ≤ 500) (hc : cntR R = 8) (hk : lo R (R.length - 1) (-1) = k) (hr : R[k]? = some r) : F42 [.one (.ptr 0 0), .one (.str t)] (stR (some 0) R) = some (.tup [.one (.int .i64 (R.length + 1)), .one (.int .i64 0)], stR (some 0) (R.set k ⟨r.tx, false, r.hd⟩ ++ [⟨t, true, 0⟩])) := by
  have e1 := f89 R (by omega)
  rw [hc] at e1
  have := cnt_le R
  obtain ⟨env, el, g6, g0, g1⟩ := head42 R t hl hc
  rw [hk] at g6
  have w : IntKind.i64.wrap ((R.length : Int) - 2) = R.length - 2 := i64_in _ (by omega)
  have w' : ((R.length - 1 : Nat) : Int) - 1 = R.length - 2 := by omega
  have hkl := (List.getElem?_eq_some_iff.1 hr).1
  have hk0 : ¬ (k : Int) < 0 := by omega
  have hb1 : (R.length + 1) * 16 ≤ 140737488355328 := by omega
  have hb2 : R.length + 1 ≤ 140737488355328 := by omega
  have hb3 : (R.length + 1) * 8 ≤ 140737488355328 := by omega
  have q1 : (R.set k ⟨r.tx, false, r.hd⟩).map Rf.tx = R.map Rf.tx := by
    rw [List.map_set]; apply List.ext_getElem? ; intro i; by_cases e : i = k
    · subst e; simp [hkl, (List.getElem?_eq_some_iff.1 hr).2]
    · simp [List.getElem?_set_ne (Ne.symm e)]
  have q2 : (R.set k ⟨r.tx, false, r.hd⟩).map Rf.hd = R.map Rf.hd := by
    rw [List.map_set]; apply List.ext_getElem? ; intro i; by_cases e : i = k
    · subst e; simp [hkl, (List.getElem?_eq_some_iff.1 hr).2]
    · simp [List.getElem?_set_ne (Ne.symm e)]
  have q3 : (R.set k ⟨r.tx, false, r.hd⟩).map Rf.th = (R.map Rf.th).set k false := by rw [List.map_set]
  simp only [stR, canon42, w'] at e1 el
  simp only [stR, List.map_append, q1, q2, q3]
  simp -implicitDefEqProofs [F42, c42, upd, stR, h, e1, RC.len, w, el, g6, g0, g1, hk0, hkl, hb1, hb2, hb3, RC.size, RC.app, RC.ofElems, RC.set]
/-! ### All -/
def allR : Nat → List Rf → List Int
  | _, [] => []
  | n, r :: l => if r.th = true then (n : Int) :: allR (n + 1) l else allR (n + 1) l
theorem ents_ep : ∀ (R : List Rf) (n : Nat), (ents n R).map En.ep = allR n R
  | [], n => rfl
  | r :: R, n => by
    have := ents_ep R (n + 1)
    unfold ents allR
    cases hr : r.th <;> simp [this]
theorem allR_app : ∀ (R S : List Rf) (n : Nat), allR n (R ++ S) = allR n R ++ allR (n + R.length) S
  | [], S, n => rfl
  | r :: R, S, n => by
    have := allR_app R S (n + 1)
    simp only [List.cons_append, allR, this, List.length_cons]
    rw [show n + 1 + R.length = n + (R.length + 1) by omega]
    cases hr : r.th <;> simp
theorem allR_len (R : List Rf) (n : Nat) : (allR n R).length ≤ R.length := by
  rw [← ents_ep, List.length_map]; exact ents_len R n
def canon46 (R : List Rf) (i : Nat) : St := ⟨[(0, .one (.ptr 0 0)), (3, .one (.row 4)), (4, .one (.int .i64 i))], [.ptr 0 0], stR (some 0) R ++ [.rows none (.ints .i64 (allR 1 (R.take i)))]⟩
theorem body46 (R : List Rf) (i : Nat) (r : Rf) (h : R[i]? = some r) (hl : R.length ≤ 1000) : ∃ st1, evC T46 KK b46x0 (canon46 R i) = some (.norm, st1) ∧ St.head [0, 3, 4] st1 = canon46 R (i + 1) := by
  have hi := (List.getElem?_eq_some_iff.1 h).1
  have hii : (i : Int) < R.length := by omega
  have w : IntKind.i64.wrap ((i : Int) + 1) = i + 1 := i64_in _ (by omega)
  have hx := (List.getElem?_eq_some_iff.1 h).2
  have hs : allR 1 (R.take (i + 1)) = allR 1 (R.take i) ++ (if r.th = true then [(i : Int) + 1] else []) := by
    rw [← take_snoc h, allR_app]
    have : (R.take i).length = i := by simp; omega
    rw [this]
    have e : ((1 + i : Nat) : Int) = (i : Int) + 1 := by omega
    simp only [allR, e]
  have hb : ((allR 1 (R.take i)).length + 1) * 8 ≤ 140737488355328 := by have := allR_len (R.take i) 1; simp at this; omega
  cases hr : r.th with
  | true =>
    simp only [hr, if_true] at hs
    simp -implicitDefEqProofs [b46x0, canon46, stR, upd, hi, hii, w, RC.len, RC.size, RC.get, hx, hr, hs, RC.app, RC.ofElems, hb]
  | false =>
    simp only [hr, if_false, List.append_nil, Bool.false_eq_true] at hs
    simp -implicitDefEqProofs [b46x0, canon46, stR, upd, hi, hii, w, RC.len, RC.size, RC.get, hx, hr, hs]
theorem f46 (R : List Rf) (hl : R.length ≤ 1000) : F46 [.one (.ptr 0 0)] (stR (some 0) R) = some (.one (.row 4), stR (some 0) R ++ [.rows none (.ints .i64 (allR 1 R))]) := by
  have hK := KK_eq
  obtain ⟨env, he, g3⟩ : ∃ env, evC T46 KK b46x0 (canon46 R R.length) = some (.exit 0, ⟨env, [.ptr 0 0], stR (some 0) R ++ [.rows none (.ints .i64 (allR 1 R))]⟩) ∧ getT 3 env = .one (.row 4) := by
    refine ⟨?w, ?a, ?b⟩
    case a =>
      simp -implicitDefEqProofs [b46x0, canon46, stR, upd, RC.len, RC.size]
      rfl
    case b => simp
  have el := loopUp (fun i hi => body46 R i _ (List.getElem?_eq_getElem hi) hl) he (by omega)
  have h0 : allR 1 [] = [] := rfl
  simp only [canon46, Int.natCast_zero, List.take_zero, h0, stR, List.cons_append, List.nil_append] at el
  simp -implicitDefEqProofs [F46, c46, upd, stR, RC.len, el, g3]
/-! ### same -/
def canon45 (X : List Int) (t t' : Nat) (i : Nat) : St := ⟨[(0, .one (.ro t (.ints .i64 X))), (1, .one (.ro t' (.ints .i64 X))), (12, .one (.int .i64 X.length)), (13, .one (.int .i64 i))], [.ro t (.ints .i64 X), .ro t' (.ints .i64 X)], []⟩
theorem f45 (X : List Int) (t t' : Nat) (hl : X.length ≤ 1000) : F45 [.one (.ro t (.ints .i64 X)), .one (.ro t' (.ints .i64 X))] [] = some (.one (.bool true), []) := by
  have hK := KK_eq
  have hb : ∀ i, i < X.length → ∃ st1, evC T45 KK b45x0 (canon45 X t t' i) = some (.norm, st1) ∧ St.head [0, 1, 12, 13] st1 = canon45 X t t' (i + 1) := by
    intro i hi
    have hii : (i : Int) < X.length := by omega
    have w : IntKind.i64.wrap ((i : Int) + 1) = i + 1 := i64_in _ (by omega)
    simp -implicitDefEqProofs [b45x0, canon45, upd, hi, hii, w, RC.len, RC.size, RC.get]
  obtain ⟨env, he, _⟩ : ∃ env, evC T45 KK b45x0 (canon45 X t t' X.length) = some (.exit 0, ⟨env, [.ro t (.ints .i64 X), .ro t' (.ints .i64 X)], []⟩) ∧ True := by
    refine ⟨?w, ?a, trivial⟩
    case a =>
      simp -implicitDefEqProofs [b45x0, canon45, upd, RC.len, RC.size]
      rfl
  have el := loopUp hb he (by omega)
  simp only [canon45, Int.natCast_zero] at el
  simp -implicitDefEqProofs [F45, c45, upd, RC.len, el]
end Go.X.Try
