import Derived.Test.YthcbhmgjkecppaaNb
import Derived.Test.YthcbhmgjkecppaaAx
set_option maxRecDepth 100000
set_option linter.unusedSimpArgs false
set_option linter.unusedVariables false
namespace Go.X.Try
open Go.IntWalk
structure En where
  ep : Int
  tx : ByteArray
  hd : Int
def En.sc (e : En) : List Sc := [.int .i64 e.ep, .str e.tx, .int .i64 e.hd]
def En.sv (e : En) : List SV := [.int .i64 e.ep, .str e.tx, .int .i64 e.hd]
def stE (g : Option Nat) (last : Int) (E : List En) : List Ob := [.cells g [.row 1, .int .i64 last], .rows none (.recs 3 (E.map En.sc))]
theorem f18 : F18 [] [] = some (.one (.ptr 0 0), stE none 0 []) := by
  simp -implicitDefEqProofs [F18, c18, upd, stE]
theorem f23 (last : Int) (E : List En) : F23 [.one (.ptr 0 0)] (stE (some 0) last E) = some (.one (.int .i64 last), stE (some 0) last E) := by
  simp -implicitDefEqProofs [F23, c23, upd, stE]
theorem f104 (ep e held : Int) (t : ByteArray) : F104 [.agg [.int .i64 ep, .str t, .int .i64 held], .one (.ptr 0 0)] [.cells (some 0) [.int .i64 e]] = some (.one (.bool (ep == e)), [.cells (some 0) [.int .i64 e]]) := by
  simp -implicitDefEqProofs [F104, c104, upd]
theorem f102 (ep last held : Int) (t : ByteArray) (g g' g'' : Option Nat) (X : List (List Sc)) : F102 [.agg [.int .i64 ep, .str t, .int .i64 held], .one (.ptr 1 0)] [.rows g'' (.recs 3 X), .cells g [.ptr 2 0], .cells g' [.row 0, .int .i64 last]] = some (.one (.bool (held == 0 && ep != last)), [.cells g [.ptr 1 0], .cells g' [.row 2, .int .i64 last], .rows g'' (.recs 3 X)]) := by
  by_cases h : held = 0 <;> by_cases h' : ep = last <;> simp -implicitDefEqProofs [F102, c102, upd, h, h']
theorem f102' (ep last held : Int) (t : ByteArray) (g g' g'' : Option Nat) (X : List (List Sc)) : F102 [.agg [.int .i64 ep, .str t, .int .i64 held], .one (.ptr 0 0)] [.cells g [.ptr 1 0], .cells g' [.row 2, .int .i64 last], .rows g'' (.recs 3 X)] = some (.one (.bool (held == 0 && ep != last)), [.cells g [.ptr 1 0], .cells g' [.row 2, .int .i64 last], .rows g'' (.recs 3 X)]) := by
  by_cases h : held = 0 <;> by_cases h' : ep = last <;> simp -implicitDefEqProofs [F102, c102, upd, h, h']
def canon104 (e : Int) (E : List En) (i : Nat) : St := ⟨[(0, .one (.ro 0 (.recs 3 (E.map En.sc)))), (1, .one (.fn 104 [.ptr 0 0])), (7, .one (.int .i64 E.length)), (8, .one (.int .i64 i))], [.ro 0 (.recs 3 (E.map En.sc)), .fn 104 [.ptr 0 0]], [.cells (some 0) [.int .i64 e]]⟩
theorem elemE {E : List En} {i : Nat} {x : En} (h : E[i]? = some x) : (RC.recs 3 (E.map En.sc)).elem i = x.sc := by
  simp [RC.elem, h]
theorem body104n (e : Int) (E : List En) (i : Nat) (x : En) (h : E[i]? = some x) (hl : E.length ≤ 1000) (hx : x.ep ≠ e) : ∃ st1, evC T101 KK b101x0 (canon104 e E i) = some (.norm, st1) ∧ St.head [0, 1, 7, 8] st1 = canon104 e E (i + 1) := by
  have hi := (List.getElem?_eq_some_iff.1 h).1
  have hii : (i : Int) < E.length := by omega
  have e1 := f104 x.ep e x.hd x.tx
  have e2 := elemE h
  have w : IntKind.i64.wrap ((i : Int) + 1) = i + 1 := i64_in _ (by omega)
  rw [En.sc] at e2
  simp -implicitDefEqProofs [b101x0, canon104, upd, e1, hi, hii, hx, w, RC.len, RC.size, e2, takeE]
theorem body104y (e : Int) (E : List En) (i : Nat) (x : En) (h : E[i]? = some x) (hl : E.length ≤ 1000) (hx : x.ep = e) : ∃ st1, evC T101 KK b101x0 (canon104 e E i) = some (.ret, st1) ∧ resC [(4, none)] (some (.ret, st1)) = some (.one (.int .i64 i), [.cells (some 0) [.int .i64 e]]) := by
  have hi := (List.getElem?_eq_some_iff.1 h).1
  have hii : (i : Int) < E.length := by omega
  have e1 := f104 e e x.hd x.tx
  rw [beq_self_eq_true] at e1
  have e2 := elemE h
  rw [En.sc] at e2
  refine ⟨?w, ?a, ?b⟩
  case a =>
    simp -implicitDefEqProofs [b101x0, canon104, upd, e1, hi, hii, hx, RC.len, RC.size, e2, takeE]
    rfl
  case b => simp -implicitDefEqProofs []
def fin104 (e : Int) (E : List En) : St := ⟨[(9, AV.one (SV.bool false)), (0, AV.one (SV.ro 0 (RC.recs 3 (List.map En.sc E)))), (1, AV.one (SV.fn 104 [SV.ptr 0 0])), (7, AV.one (SV.int IntKind.i64 E.length)), (8, AV.one (SV.int IntKind.i64 E.length))], [SV.ro 0 (RC.recs 3 (List.map En.sc E)), SV.fn 104 [SV.ptr 0 0]], [Ob.cells (some 0) [SV.int IntKind.i64 e]]⟩
theorem end104 (e : Int) (E : List En) : evC T101 KK b101x0 (canon104 e E E.length) = some (.exit 0, fin104 e E) := by
  simp -implicitDefEqProofs [b101x0, canon104, fin104, upd, RC.len, RC.size]
def fnd (p : En → Bool) : List En → Option Nat
  | [] => none
  | x :: l => if p x then some 0 else (fnd p l).map (· + 1)
def fndI (p : En → Bool) (l : List En) : Int := match fnd p l with | some i => i | none => -1
theorem loopFnd (p : En → Bool) (E : List En) (body : St → Option (Ex × St)) (live : List Nat) (canon : Nat → St) (fin : St) (H : List Ob)
    (hn : ∀ i x, E[i]? = some x → p x = false → ∃ st1, body (canon i) = some (.norm, st1) ∧ St.head live st1 = canon (i + 1))
    (hy : ∀ i x, E[i]? = some x → p x = true → ∃ st1, body (canon i) = some (.ret, st1) ∧ resC [(4, none)] (some (.ret, st1)) = some (.one (.int .i64 i), H))
    (he : body (canon E.length) = some (.exit 0, fin)) : ∀ (l : List En) (i K : Nat), E.drop i = l → l.length + 1 < K →
    (∃ j st1, fnd p l = some j ∧ loopH body live K (canon i) = some (.ret, st1) ∧ resC [(4, none)] (some (.ret, st1)) = some (.one (.int .i64 ((i + j : Nat) : Int)), H)) ∨ (fnd p l = none ∧ loopH body live K (canon i) = some (.exit 0, fin) ∧ i ≤ E.length) ∨ E.length < i
  | [], i, K, h, hK => by
    have hi : E.length ≤ i := by simpa using h
    rcases Nat.lt_or_ge E.length i with h' | h'
    · exact .inr (.inr h')
    · obtain rfl : i = E.length := by omega
      exact .inr (.inl ⟨rfl, loopH_exit he, Nat.le_refl _⟩)
  | x :: l, i, K, h, hK => by
    simp only [List.length_cons] at hK
    have hx : E[i]? = some x := by
      have : (E.drop i)[0]? = some x := by rw [h]; rfl
      rwa [List.getElem?_drop] at this
    have hd : E.drop (i + 1) = l := by rw [← List.drop_drop, h]; rfl
    have hi := (List.getElem?_eq_some_iff.1 hx).1
    cases hp : p x with
    | true =>
      obtain ⟨st1, h1, h2⟩ := hy i x hx hp
      exact .inl ⟨0, st1, by simp [fnd, hp], loopH_ret h1, h2⟩
    | false =>
      obtain ⟨st1, h1, h2⟩ := hn i x hx hp
      have e := loopH_norm (live := live) (k := K) h1 (by omega)
      rw [h2] at e
      rcases loopFnd p E body live canon fin H hn hy he l (i + 1) (K - 1) hd (by omega) with ⟨j, st1, h3, h4, h5⟩ | ⟨h3, h4, h5⟩ | h3
      · exact .inl ⟨j + 1, st1, by simp [fnd, hp, h3], by rw [e]; exact h4, by rw [h5]; congr 5; omega⟩
      · exact .inr (.inl ⟨by simp [fnd, hp, h3], by rw [e]; exact h4, by omega⟩)
      · omega
theorem f101a (e : Int) (E : List En) (hl : E.length ≤ 1000) : F101 [.one (.ro 0 (.recs 3 (E.map En.sc))), .one (.fn 104 [.ptr 0 0])] [.cells (some 0) [.int .i64 e]] = some (.one (.int .i64 (fndI (fun x => x.ep == e) E)), [.cells (some 0) [.int .i64 e]]) := by
  have hK := KK_eq
  rcases loopFnd (fun x => x.ep == e) E (evC T101 KK b101x0) [0, 1, 7, 8] (canon104 e E) (fin104 e E) [.cells (some 0) [.int .i64 e]] (fun i x h hp => body104n e E i x h hl (by simpa using hp)) (fun i x h hp => body104y e E i x h hl (by simpa using hp)) (end104 e E) E 0 KK rfl (by omega) with ⟨j, st1, h3, el, er⟩ | ⟨h3, el, _⟩ | h3
  · rw [Nat.zero_add] at er
    have : fndI (fun x => x.ep == e) E = j := by simp [fndI, h3]
    rw [this, ← er]
    simp only [canon104, Int.natCast_zero] at el
    simp -implicitDefEqProofs [F101, c101, upd, RC.len, el]
  · have : fndI (fun x => x.ep == e) E = -1 := by simp [fndI, h3]
    rw [this]
    simp only [canon104, fin104, Int.natCast_zero] at el
    simp -implicitDefEqProofs [F101, c101, upd, RC.len, el]
  · omega
/-! ### the first one that nobody holds -/
def canon102 (last : Int) (E : List En) (i : Nat) : St := ⟨[(0, .one (.row 0)), (1, .one (.fn 102 [.ptr 1 0])), (7, .one (.int .i64 E.length)), (8, .one (.int .i64 i))], [.row 0, .fn 102 [.ptr 1 0]], [.rows none (.recs 3 (E.map En.sc)), .cells (some 0) [.ptr 2 0], .cells (some 1) [.row 0, .int .i64 last]]⟩
theorem body102n (last : Int) (E : List En) (i : Nat) (x : En) (h : E[i]? = some x) (hl : E.length ≤ 1000) (hx : (x.hd == 0 && x.ep != last) = false) : ∃ st1, evC T101 KK b101x0 (canon102 last E i) = some (.norm, st1) ∧ St.head [0, 1, 7, 8] st1 = canon102 last E (i + 1) := by
  have hi := (List.getElem?_eq_some_iff.1 h).1
  have hii : (i : Int) < E.length := by omega
  have e1 := fun g g' g'' X => f102' x.ep last x.hd x.tx g g' g'' X
  rw [hx] at e1
  have e2 := elemE h
  have w : IntKind.i64.wrap ((i : Int) + 1) = i + 1 := i64_in _ (by omega)
  rw [En.sc] at e2
  simp -implicitDefEqProofs [b101x0, canon102, upd, e1, hi, hii, w, RC.len, RC.size, e2, takeE]
def out102 (last : Int) (E : List En) : List Ob := [.rows none (.recs 3 (E.map En.sc)), .cells (some 0) [.ptr 2 0], .cells (some 1) [.row 0, .int .i64 last]]
theorem body102y (last : Int) (E : List En) (i : Nat) (x : En) (h : E[i]? = some x) (hl : E.length ≤ 1000) (hx : (x.hd == 0 && x.ep != last) = true) : ∃ st1, evC T101 KK b101x0 (canon102 last E i) = some (.ret, st1) ∧ resC [(4, none)] (some (.ret, st1)) = some (.one (.int .i64 i), out102 last E) := by
  have hi := (List.getElem?_eq_some_iff.1 h).1
  have hii : (i : Int) < E.length := by omega
  have e1 := fun g g' g'' X => f102' x.ep last x.hd x.tx g g' g'' X
  rw [hx] at e1
  have e2 := elemE h
  rw [En.sc] at e2
  refine ⟨?w, ?a, ?b⟩
  case a =>
    simp -implicitDefEqProofs [b101x0, canon102, upd, e1, hi, hii, RC.len, RC.size, e2, takeE]
    rfl
  case b => simp -implicitDefEqProofs [out102]
def fin102 (last : Int) (E : List En) : St := ⟨(9, AV.one (SV.bool false)) :: (canon102 last E E.length).env, (canon102 last E E.length).rts, (canon102 last E E.length).hp⟩
theorem end102 (last : Int) (E : List En) : evC T101 KK b101x0 (canon102 last E E.length) = some (.exit 0, fin102 last E) := by
  simp -implicitDefEqProofs [b101x0, canon102, fin102, upd, RC.len, RC.size]
theorem f101b (last : Int) (E : List En) (hl : E.length ≤ 1000) : F101 [.one (.row 2), .one (.fn 102 [.ptr 0 0])] [.cells (some 0) [.ptr 1 0], .cells (some 1) [.row 2, .int .i64 last], .rows none (.recs 3 (E.map En.sc))] = some (.one (.int .i64 (fndI (fun x => x.hd == 0 && x.ep != last) E)), out102 last E) := by
  have hK := KK_eq
  rcases loopFnd (fun x => x.hd == 0 && x.ep != last) E (evC T101 KK b101x0) [0, 1, 7, 8] (canon102 last E) (fin102 last E) (out102 last E) (fun i x h hp => body102n last E i x h hl hp) (fun i x h hp => body102y last E i x h hl hp) (end102 last E) E 0 KK rfl (by omega) with ⟨j, st1, h3, el, er⟩ | ⟨h3, el, _⟩ | h3
  · rw [Nat.zero_add] at er
    have : fndI (fun x => x.hd == 0 && x.ep != last) E = j := by simp [fndI, h3]
    rw [this, ← er]
    simp only [canon102, Int.natCast_zero] at el
    simp -implicitDefEqProofs [F101, c101, upd, RC.len, el]
  · have : fndI (fun x => x.hd == 0 && x.ep != last) E = -1 := by simp [fndI, h3]
    rw [this]
    simp only [canon102, fin102, Int.natCast_zero] at el
    simp -implicitDefEqProofs [F101, c101, upd, RC.len, el, out102]
  · omega
end Go.X.Try
