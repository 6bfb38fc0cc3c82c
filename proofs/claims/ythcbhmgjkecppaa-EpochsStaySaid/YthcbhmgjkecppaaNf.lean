import Derived.Test.YthcbhmgjkecppaaNe
set_option maxRecDepth 100000
set_option linter.unusedSimpArgs false
set_option linter.unusedVariables false
namespace Go.X.Try
open Go.IntWalk
theorem f19l (last : Int) (E : List En) (t : ByteArray) (h : (256 : Int) < t.size) : F19 [.one (.ptr 0 0), .one (.str t)] (stE (some 0) last E) = some (.tup [.one (.int .i64 0), .one (.int .i64 5)], stE (some 0) last E) := by
  simp -implicitDefEqProofs [F19, c19, upd, stE, h]
theorem f19f (last : Int) (E : List En) (t : ByteArray) (h : ¬ (256 : Int) < t.size) (hf : F79 [.one (.ptr 0 0)] (stE (some 0) last E) = some (.one (.bool false), stE (some 0) last E)) : F19 [.one (.ptr 0 0), .one (.str t)] (stE (some 0) last E) = some (.tup [.one (.int .i64 0), .one (.int .i64 2)], stE (some 0) last E) := by
  simp only [stE] at hf
  simp -implicitDefEqProofs [F19, c19, upd, stE, h, hf]
theorem sc_app (E : List En) (x : En) : E.map En.sc ++ [[.int .i64 x.ep, .str x.tx, .int .i64 x.hd]] = (E ++ [x]).map En.sc := by
  simp [En.sc]
theorem f19y (last : Int) (E E' : List En) (t : ByteArray) (h : ¬ (256 : Int) < t.size) (hf : F79 [.one (.ptr 0 0)] (stE (some 0) last E) = some (.one (.bool true), stE (some 0) last E')) (hE : E'.length < 8) (hl : 0 ≤ last ∧ last ≤ 1000) : F19 [.one (.ptr 0 0), .one (.str t)] (stE (some 0) last E) = some (.tup [.one (.int .i64 (last + 1)), .one (.int .i64 0)], stE (some 0) (last + 1) (E' ++ [⟨last + 1, t, 0⟩])) := by
  simp only [stE] at hf
  have w : IntKind.i64.wrap (last + 1) = last + 1 := i64_in _ (by omega)
  have hb : (E'.length + 1) * 32 ≤ 140737488355328 := by omega
  have e2 := sc_app E' ⟨last + 1, t, 0⟩
  simp only at e2
  simp -implicitDefEqProofs [F19, c19, upd, stE, h, hf, w, RC.len, RC.size, RC.app, RC.ofElems, hb, En.sc]
/-! ### All -/
def canon22 (last : Int) (E : List En) (i : Nat) : St := ⟨[(3, .one (.row 2)), (12, .one (.row 1)), (13, .one (.int .i64 E.length)), (14, .one (.int .i64 i))], [.ptr 0 0], [.cells (some 0) [.row 1, .int .i64 last], .rows none (.recs 3 (E.map En.sc)), .rows none (.ints .i64 ((E.map En.ep).take i))]⟩
theorem take_snoc {α : Type} {l : List α} {i : Nat} {x : α} (h : l[i]? = some x) : l.take i ++ [x] = l.take (i + 1) := by
  rw [List.take_add_one, h]; rfl
theorem body22 (last : Int) (E : List En) (i : Nat) (x : En) (h : E[i]? = some x) (hl : E.length ≤ 1000) : ∃ st1, evC T22 KK b22x0 (canon22 last E i) = some (.norm, st1) ∧ St.head [3, 12, 13, 14] st1 = canon22 last E (i + 1) := by
  have hi := (List.getElem?_eq_some_iff.1 h).1
  have hii : (i : Int) < E.length := by omega
  have e2 := elemE h
  rw [En.sc] at e2
  have w : IntKind.i64.wrap ((i : Int) + 1) = i + 1 := i64_in _ (by omega)
  have e3 := take_snoc (l := E.map En.ep) (i := i) (x := x.ep) (by simp [h])
  have hb : (min i E.length + 1) * 8 ≤ 140737488355328 := by omega
  simp -implicitDefEqProofs [b22x0, canon22, upd, hi, hii, w, RC.len, RC.size, e2, takeE, RC.app, RC.ofElems, hb, e3]
def fin22 (last : Int) (E : List En) : St := ⟨(15, .one (.bool false)) :: (canon22 last E E.length).env, (canon22 last E E.length).rts, (canon22 last E E.length).hp⟩
theorem end22 (last : Int) (E : List En) : evC T22 KK b22x0 (canon22 last E E.length) = some (.exit 0, fin22 last E) := by
  simp -implicitDefEqProofs [b22x0, canon22, fin22, upd, RC.len, RC.size]
theorem loop22 (last : Int) (E : List En) (hl : E.length ≤ 1000) : ∀ (n i K : Nat), i + n = E.length → n + 1 < K → loopH (evC T22 KK b22x0) [3, 12, 13, 14] K (canon22 last E i) = some (.exit 0, fin22 last E)
  | 0, i, K, h, hK => by
    obtain rfl : i = E.length := by omega
    exact loopH_exit (end22 last E)
  | n + 1, i, K, h, hK => by
    obtain ⟨st1, h1, h2⟩ := body22 last E i _ (List.getElem?_eq_getElem (by omega : i < E.length)) hl
    rw [loopH_norm h1 (by omega), h2]
    exact loop22 last E hl n (i + 1) (K - 1) (by omega) (by omega)
theorem f22 (last : Int) (E : List En) (hl : E.length ≤ 1000) : F22 [.one (.ptr 0 0)] (stE (some 0) last E) = some (.one (.row 2), stE (some 0) last E ++ [.rows none (.ints .i64 (E.map En.ep))]) := by
  have hK := KK_eq
  have el := loop22 last E hl E.length 0 KK (by omega) (by omega)
  simp only [canon22, fin22, Int.natCast_zero, List.take_zero] at el
  have et : (E.map En.ep).take E.length = E.map En.ep := List.take_of_length_le (by simp)
  simp -implicitDefEqProofs [F22, c22, upd, stE, RC.len, el, et]
end Go.X.Try
