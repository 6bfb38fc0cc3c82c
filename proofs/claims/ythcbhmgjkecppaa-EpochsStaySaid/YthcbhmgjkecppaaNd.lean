import Derived.Test.YthcbhmgjkecppaaNc
set_option maxRecDepth 100000
set_option linter.unusedSimpArgs false
set_option linter.unusedVariables false
namespace Go.X.Try
open Go.IntWalk
/-! ### the document's store -/
structure Rf where
  tx : ByteArray
  th : Bool
  hd : Int
def ents : Nat → List Rf → List En
  | _, [] => []
  | n, r :: l => if r.th = true then ⟨n, r.tx, r.hd⟩ :: ents (n + 1) l else ents (n + 1) l
theorem fnd_ents_none (p : En → Bool) : ∀ (R : List Rf) (n : Nat), (∀ j r, R[j]? = some r → r.th = true → p ⟨((n + j : Nat) : Int), r.tx, r.hd⟩ = false) → fnd p (ents n R) = none
  | [], n, h => rfl
  | r :: R, n, h => by
    have ih := fnd_ents_none p R (n + 1) (fun j r' hj ht => by have := h (j + 1) r' (by simpa using hj) ht; rwa [show n + (j + 1) = n + 1 + j by omega] at this)
    unfold ents
    split
    · rename_i ht
      have := h 0 r (by simp) ht
      simp only [Nat.add_zero] at this
      simp [fnd, this, ih]
    · exact ih
theorem fnd_ents (p : En → Bool) : ∀ (R : List Rf) (n k : Nat) (r : Rf), R[k]? = some r → r.th = true → p ⟨((n + k : Nat) : Int), r.tx, r.hd⟩ = true → (∀ j r', j < k → R[j]? = some r' → r'.th = true → p ⟨((n + j : Nat) : Int), r'.tx, r'.hd⟩ = false) →
    ∃ j, fnd p (ents n R) = some j ∧ (ents n R)[j]? = some ⟨((n + k : Nat) : Int), r.tx, r.hd⟩ ∧ (∀ h', (ents n R).set j ⟨((n + k : Nat) : Int), r.tx, h'⟩ = ents n (R.set k ⟨r.tx, true, h'⟩)) ∧ (ents n R).take j ++ (ents n R).drop (j + 1) = ents n (R.set k ⟨r.tx, false, r.hd⟩)
  | [], n, k, r, h, _, _, _ => by simp at h
  | x :: R, n, 0, r, h, ht, hp, hq => by
    simp only [List.getElem?_cons_zero, Option.some.injEq] at h
    subst h
    simp only [Nat.add_zero] at hp ⊢
    refine ⟨0, ?_, ?_, fun h' => ?_, ?_⟩ <;> simp [ents, ht, fnd, hp]
  | x :: R, n, k + 1, r, h, ht, hp, hq => by
    simp only [List.getElem?_cons_succ] at h
    obtain ⟨j, h1, h2, h3, h4⟩ := fnd_ents p R (n + 1) k r h ht (by rwa [show n + 1 + k = n + (k + 1) by omega]) (fun j r' hj hr ht' => by have := hq (j + 1) r' (by omega) (by simpa using hr) ht'; rwa [show n + (j + 1) = n + 1 + j by omega] at this)
    rw [show n + 1 + k = n + (k + 1) by omega] at h2 h3
    by_cases hx : x.th = true
    · have := hq 0 x (by omega) (by simp) hx
      simp only [Nat.add_zero] at this
      exact ⟨j + 1, by simp [ents, hx, fnd, this, h1], by simp [ents, hx, h2], fun h' => by have := h3 h'; simp only [Int.natCast_add, Int.natCast_one] at this; simp [ents, hx, this], by simp [ents, hx, h4]⟩
    · exact ⟨j, by simp [ents, hx, h1], by simp [ents, hx, h2], fun h' => by have := h3 h'; simp only [Int.natCast_add, Int.natCast_one] at this; simp [ents, hx, this], by simp [ents, hx, h4]⟩
theorem ents_app : ∀ (R : List Rf) (n : Nat) (t : ByteArray), ents n (R ++ [⟨t, true, 0⟩]) = ents n R ++ [⟨((n + R.length : Nat) : Int), t, 0⟩]
  | [], n, t => by simp [ents]
  | x :: R, n, t => by
    have := ents_app R (n + 1) t
    simp only [List.cons_append, ents, this, List.length_cons]
    rw [show n + 1 + R.length = n + (R.length + 1) by omega]
    split <;> simp
theorem ents_len : ∀ (R : List Rf) (n : Nat), (ents n R).length ≤ R.length
  | [], n => by simp [ents]
  | x :: R, n => by
    have := ents_len R (n + 1)
    unfold ents
    split <;> simp <;> omega
def atR (R : List Rf) (e : Int) : Option Nat := if 1 ≤ e then (match R[(e - 1).toNat]? with | some r => if r.th = true then some (e - 1).toNat else none | none => none) else none
theorem atR_some {R : List Rf} {e : Int} {k : Nat} (h : atR R e = some k) : ∃ r, R[k]? = some r ∧ r.th = true ∧ e = (k : Int) + 1 := by
  unfold atR at h
  split at h
  · split at h
    · rename_i h1 r h2
      split at h
      · rename_i h3
        simp only [Option.some.injEq] at h
        subst h
        exact ⟨r, h2, h3, by omega⟩
      · simp at h
    · simp at h
  · simp at h
theorem atR_none {R : List Rf} {e : Int} (h : atR R e = none) : ∀ j r, R[j]? = some r → r.th = true → ¬ ((1 + j : Nat) : Int) = e := by
  intro j r hj ht he
  subst he
  unfold atR at h
  rw [if_pos (by omega)] at h
  rw [show (((1 + j : Nat) : Int) - 1).toNat = j by omega, hj] at h
  simp [ht] at h
/-- The place of an epoch. -/
theorem fnd_at_none {R : List Rf} {e : Int} (h : atR R e = none) : fndI (fun x => x.ep == e) (ents 1 R) = -1 := by
  rw [fndI, fnd_ents_none _ R 1 (fun j r hj ht => by simpa using atR_none h j r hj ht)]
theorem fnd_at {R : List Rf} {e : Int} {k : Nat} {r : Rf} (h : atR R e = some k) (hr : R[k]? = some r) : e = (k : Int) + 1 ∧ ∃ j : Nat, fndI (fun x => x.ep == e) (ents 1 R) = (j : Int) ∧ (ents 1 R)[j]? = some ⟨e, r.tx, r.hd⟩ ∧ (∀ h', (ents 1 R).set j ⟨e, r.tx, h'⟩ = ents 1 (R.set k ⟨r.tx, true, h'⟩)) := by
  obtain ⟨r', h1, h2, rfl⟩ := atR_some h
  obtain rfl : r = r' := by rw [hr] at h1; simpa using h1
  obtain ⟨j, h3, h4, h5, _⟩ := fnd_ents (fun x => x.ep == (k : Int) + 1) R 1 k r hr h2 (by simp; omega) (fun j r' hj hr ht => by simp; omega)
  have he : ((1 + k : Nat) : Int) = (k : Int) + 1 := by omega
  rw [he] at h4 h5
  exact ⟨rfl, j, by rw [fndI, h3], h4, h5⟩
/-! ### the program's functions -/
theorem f80 (last e : Int) (E : List En) (hl : E.length ≤ 1000) : F80 [.one (.ptr 0 0), .one (.int .i64 e)] (stE (some 0) last E) = some (.one (.int .i64 (fndI (fun x => x.ep == e) E)), stE (some 0) last E) := by
  have e1 := f101a e E hl
  simp -implicitDefEqProofs [F80, c80, upd, stE, e1]
theorem setE {E : List En} {j : Nat} {x : En} (h : E[j]? = some x) (h' : Int) : RC.set (.recs 3 (E.map En.sc)) j 2 (.int .i64 h') = some (.recs 3 ((E.set j ⟨x.ep, x.tx, h'⟩).map En.sc)) := by
  simp [RC.set, List.getD, h, En.sc, List.map_set]
theorem getE {E : List En} {j : Nat} {x : En} (h : E[j]? = some x) : RC.get (.recs 3 (E.map En.sc)) j 2 = some (.int .i64 x.hd) ∧ RC.get (.recs 3 (E.map En.sc)) j 1 = some (.str x.tx) := by
  simp [RC.get, List.getD, h, En.sc]
theorem f20n (last e : Int) (E : List En) (hl : E.length ≤ 1000) (h : fndI (fun x => x.ep == e) E = -1) : F20 [.one (.ptr 0 0), .one (.int .i64 e)] (stE (some 0) last E) = some (.one (.bool false), stE (some 0) last E) := by
  have e1 := f80 last e E hl
  rw [h] at e1
  simp only [stE] at e1
  simp -implicitDefEqProofs [F20, c20, upd, stE, e1]
theorem f20y (last e : Int) (E : List En) (j : Nat) (x : En) (hl : E.length ≤ 1000) (h : fndI (fun x => x.ep == e) E = j) (hx : E[j]? = some x) (hb : 0 ≤ x.hd ∧ x.hd ≤ 1000) : F20 [.one (.ptr 0 0), .one (.int .i64 e)] (stE (some 0) last E) = some (.one (.bool true), stE (some 0) last (E.set j ⟨x.ep, x.tx, x.hd + 1⟩)) := by
  have e1 := f80 last e E hl
  rw [h] at e1
  have hj := (List.getElem?_eq_some_iff.1 hx).1
  have hj0 : ¬ (j : Int) < 0 := by omega
  have w : IntKind.i64.wrap (x.hd + 1) = x.hd + 1 := i64_in _ (by omega)
  have hs := setE hx (x.hd + 1)
  have hg := getE hx
  simp only [stE] at e1
  simp -implicitDefEqProofs [F20, c20, upd, stE, e1, RC.len, RC.size, hj, hj0, w, hg, hs]
  rw [(List.getElem?_eq_some_iff.1 hx).2]; rfl
theorem f43n (last e : Int) (E : List En) (hl : E.length ≤ 1000) (h : fndI (fun x => x.ep == e) E = -1) : F43 [.one (.ptr 0 0), .one (.int .i64 e)] (stE (some 0) last E) = some (.one (.bool false), stE (some 0) last E) := by
  have e1 := f80 last e E hl
  rw [h] at e1
  simp only [stE] at e1
  simp -implicitDefEqProofs [F43, c43, upd, stE, e1]
theorem f43z (last e : Int) (E : List En) (j : Nat) (x : En) (hl : E.length ≤ 1000) (h : fndI (fun x => x.ep == e) E = j) (hx : E[j]? = some x) (hb : x.hd = 0) : F43 [.one (.ptr 0 0), .one (.int .i64 e)] (stE (some 0) last E) = some (.one (.bool false), stE (some 0) last E) := by
  have e1 := f80 last e E hl
  rw [h] at e1
  have hj := (List.getElem?_eq_some_iff.1 hx).1
  have hj0 : ¬ (j : Int) < 0 := by omega
  have hg := (getE hx).1
  rw [hb] at hg
  simp only [stE] at e1
  simp -implicitDefEqProofs [F43, c43, upd, stE, e1, RC.len, RC.size, hj, hj0, hg]
theorem f43y (last e : Int) (E : List En) (j : Nat) (x : En) (hl : E.length ≤ 1000) (h : fndI (fun x => x.ep == e) E = j) (hx : E[j]? = some x) (hb : 0 < x.hd ∧ x.hd ≤ 1000) : F43 [.one (.ptr 0 0), .one (.int .i64 e)] (stE (some 0) last E) = some (.one (.bool true), stE (some 0) last (E.set j ⟨x.ep, x.tx, x.hd - 1⟩)) := by
  have e1 := f80 last e E hl
  rw [h] at e1
  have hj := (List.getElem?_eq_some_iff.1 hx).1
  have hj0 : ¬ (j : Int) < 0 := by omega
  have w : IntKind.i64.wrap (x.hd - 1) = x.hd - 1 := i64_in _ (by omega)
  have hs := setE hx (x.hd - 1)
  have hg := getE hx
  have hne : ¬ x.hd = 0 := by omega
  simp only [stE] at e1
  simp -implicitDefEqProofs [F43, c43, upd, stE, e1, RC.len, RC.size, hj, hj0, w, hg, hs, hne]
  rw [(List.getElem?_eq_some_iff.1 hx).2]; rfl
theorem f21n (last e : Int) (E : List En) (hl : E.length ≤ 1000) (h : fndI (fun x => x.ep == e) E = -1) : F21 [.one (.ptr 0 0), .one (.int .i64 e)] (stE (some 0) last E) = some (.tup [.one (.str ⟨#[]⟩), .one (.bool false)], stE (some 0) last E) := by
  have e1 := f80 last e E hl
  rw [h] at e1
  simp only [stE] at e1
  simp -implicitDefEqProofs [F21, c21, upd, stE, e1]
theorem f21y (last e : Int) (E : List En) (j : Nat) (x : En) (hl : E.length ≤ 1000) (h : fndI (fun x => x.ep == e) E = j) (hx : E[j]? = some x) : F21 [.one (.ptr 0 0), .one (.int .i64 e)] (stE (some 0) last E) = some (.tup [.one (.str x.tx), .one (.bool true)], stE (some 0) last E) := by
  have e1 := f80 last e E hl
  rw [h] at e1
  have hj := (List.getElem?_eq_some_iff.1 hx).1
  have hj0 : ¬ (j : Int) < 0 := by omega
  have hg := getE hx
  simp only [stE] at e1
  simp -implicitDefEqProofs [F21, c21, upd, stE, e1, RC.len, RC.size, hj, hj0, hg]
theorem f44n (last e : Int) (E : List En) (hl : E.length ≤ 1000) (h : fndI (fun x => x.ep == e) E = -1) : F44 [.one (.ptr 0 0), .one (.int .i64 e)] (stE (some 0) last E) = some (.one (.int .i64 0), stE (some 0) last E) := by
  have e1 := f80 last e E hl
  rw [h] at e1
  simp only [stE] at e1
  simp -implicitDefEqProofs [F44, c44, upd, stE, e1]
theorem f44y (last e : Int) (E : List En) (j : Nat) (x : En) (hl : E.length ≤ 1000) (h : fndI (fun x => x.ep == e) E = j) (hx : E[j]? = some x) : F44 [.one (.ptr 0 0), .one (.int .i64 e)] (stE (some 0) last E) = some (.one (.int .i64 x.hd), stE (some 0) last E) := by
  have e1 := f80 last e E hl
  rw [h] at e1
  have hj := (List.getElem?_eq_some_iff.1 hx).1
  have hj0 : ¬ (j : Int) < 0 := by omega
  have hg := getE hx
  simp only [stE] at e1
  simp -implicitDefEqProofs [F44, c44, upd, stE, e1, RC.len, RC.size, hj, hj0, hg]
end Go.X.Try
