import Derived.Test.YthcbhmgjkecppaaNf
set_option maxRecDepth 100000
set_option linter.unusedSimpArgs false
set_option linter.unusedVariables false
namespace Go.X.Try
open Go.IntWalk
/-! ### the document's functions -/
def stR (g : Option Nat) (R : List Rf) : List Ob := [.cells g [.row 1, .row 2, .row 3], .rows none (.strs (R.map Rf.tx)), .rows none (.bools (R.map Rf.th)), .rows none (.ints .i64 (R.map Rf.hd))]
theorem f41t (R : List Rf) (k : Nat) (r : Rf) (h : R[k]? = some r) (hl : R.length ≤ 1000) : F41 [.one (.ptr 0 0), .one (.int .i64 ((k : Int) + 1))] (stR (some 0) R) = some (.one (.bool r.th), stR (some 0) R) := by
  have hk := (List.getElem?_eq_some_iff.1 h).1
  have h1 : (1 : Int) ≤ (k : Int) + 1 := by omega
  have h2 : (k : Int) + 1 ≤ R.length := by omega
  have w : IntKind.i64.wrap (k : Int) = k := i64_in _ (by omega)
  have hx := (List.getElem?_eq_some_iff.1 h).2
  simp -implicitDefEqProofs [F41, c41, upd, stR, RC.len, RC.size, h1, h2, hk, w, RC.get, hx]
theorem f41f (R : List Rf) (e : Int) (h : e < 1 ∨ (R.length : Int) < e) : F41 [.one (.ptr 0 0), .one (.int .i64 e)] (stR (some 0) R) = some (.one (.bool false), stR (some 0) R) := by
  by_cases h1 : 1 ≤ e
  · have h2 : ¬ e ≤ R.length := by omega
    simp -implicitDefEqProofs [F41, c41, upd, stR, RC.len, RC.size, h1, h2]
  · simp -implicitDefEqProofs [F41, c41, upd, stR, RC.len, RC.size, h1]
theorem f41 (R : List Rf) (e : Int) (hl : R.length ≤ 1000) : F41 [.one (.ptr 0 0), .one (.int .i64 e)] (stR (some 0) R) = some (.one (.bool (atR R e).isSome), stR (some 0) R) := by
  by_cases h : e < 1 ∨ (R.length : Int) < e
  · rw [f41f R e h]
    congr 4
    unfold atR
    split
    · rw [List.getElem?_eq_none (by omega)]; rfl
    · rfl
  · obtain ⟨k, rfl⟩ : ∃ k : Nat, e = (k : Int) + 1 := ⟨(e - 1).toNat, by omega⟩
    have hk : R[k]? = some R[k] := List.getElem?_eq_getElem (by omega)
    rw [f41t R k _ hk hl]
    congr 4
    unfold atR
    rw [if_pos (by omega), show ((k : Int) + 1 - 1).toNat = k by omega, hk]
    cases h' : (R[k]).th <;> simp [h']
def cntR (R : List Rf) : Nat := (R.filter Rf.th).length
theorem ents_cnt : ∀ (R : List Rf) (n : Nat), (ents n R).length = cntR R
  | [], n => rfl
  | r :: R, n => by
    have := ents_cnt R (n + 1)
    unfold ents cntR
    cases hr : r.th <;> simp [hr, this, cntR]
def canon89 (R : List Rf) (i : Nat) : St := ⟨[(0, .one (.ptr 0 0)), (3, .one (.int .i64 (cntR (R.take i)))), (4, .one (.int .i64 i))], [.ptr 0 0], stR (some 0) R⟩
theorem cnt_step {R : List Rf} {i : Nat} {r : Rf} (h : R[i]? = some r) : cntR (R.take (i + 1)) = cntR (R.take i) + (if r.th = true then 1 else 0) := by
  rw [← take_snoc h, cntR, cntR, List.filter_append, List.length_append]
  cases hr : r.th <;> simp [hr]
theorem cnt_le (R : List Rf) : cntR R ≤ R.length := List.length_filter_le _ _
theorem body89 (R : List Rf) (i : Nat) (r : Rf) (h : R[i]? = some r) (hl : R.length ≤ 1000) : ∃ st1, evC T89 KK b89x0 (canon89 R i) = some (.norm, st1) ∧ St.head [0, 3, 4] st1 = canon89 R (i + 1) := by
  have hi := (List.getElem?_eq_some_iff.1 h).1
  have hii : (i : Int) < R.length := by omega
  have w : IntKind.i64.wrap ((i : Int) + 1) = i + 1 := i64_in _ (by omega)
  have hs := cnt_step h
  have hc := cnt_le (R.take i)
  have hc2 : cntR (R.take i) ≤ 1000 := by simp at hc; omega
  have w2 : IntKind.i64.wrap ((cntR (R.take i) : Int) + 1) = cntR (R.take i) + 1 := i64_in _ (by omega)
  have hx := (List.getElem?_eq_some_iff.1 h).2
  cases hr : r.th with
  | true => simp -implicitDefEqProofs [b89x0, canon89, stR, upd, hi, hii, w, w2, RC.len, RC.size, RC.get, hx, hr, hs]
  | false => simp -implicitDefEqProofs [b89x0, canon89, stR, upd, hi, hii, w, w2, RC.len, RC.size, RC.get, hx, hr, hs]
theorem loopUp {body : St → Option (Ex × St)} {live : List Nat} {canon : Nat → St} {n x : Nat} {fin : St} (hn : ∀ i, i < n → ∃ st1, body (canon i) = some (.norm, st1) ∧ St.head live st1 = canon (i + 1)) (he : body (canon n) = some (.exit x, fin)) (hK : n + 1 < KK) : loopH body live KK (canon 0) = some (.exit x, fin) := by
  have key : ∀ (m i K : Nat), i + m = n → m + 1 < K → loopH body live K (canon i) = some (.exit x, fin) := by
    intro m
    induction m with
    | zero => intro i K h1 h2; obtain rfl : i = n := by omega
              exact loopH_exit he
    | succ m ih =>
      intro i K h1 h2
      obtain ⟨st1, h3, h4⟩ := hn i (by omega)
      rw [loopH_norm h3 (by omega), h4]
      exact ih (i + 1) (K - 1) (by omega) (by omega)
  exact key n 0 KK (by omega) hK
theorem f89 (R : List Rf) (hl : R.length ≤ 1000) : F89 [.one (.ptr 0 0)] (stR (some 0) R) = some (.one (.int .i64 (cntR R)), stR (some 0) R) := by
  have hK := KK_eq
  obtain ⟨env, he, g3⟩ : ∃ env, evC T89 KK b89x0 (canon89 R R.length) = some (.exit 0, ⟨env, [.ptr 0 0], stR (some 0) R⟩) ∧ getT 3 env = .one (.int .i64 (cntR R)) := by
    refine ⟨?w, ?a, ?b⟩
    case a =>
      simp -implicitDefEqProofs [b89x0, canon89, stR, upd, RC.len, RC.size]
      rfl
    case b => simp
  have el := loopUp (fun i hi => body89 R i _ (List.getElem?_eq_getElem hi) hl) he (by omega)
  have h0 : cntR [] = 0 := rfl
  simp only [canon89, Int.natCast_zero, List.take_zero, h0, stR] at el
  simp -implicitDefEqProofs [F89, c89, upd, stR, RC.len, el, g3]
/-! ### the first one that may go -/
def mayGo (R : List Rf) (i : Nat) : Bool := match R[i]? with | some r => r.th && r.hd == 0 | none => false
def lo (R : List Rf) : Nat → Int → Int
  | 0, k => k
  | m + 1, k => lo R m (if mayGo R m = true then (m : Int) else k)
theorem lo_spec (R : List Rf) : ∀ (m : Nat) (k : Int), (∃ i : Nat, lo R m k = i ∧ i < m ∧ mayGo R i = true ∧ ∀ j, j < i → mayGo R j = false) ∨ (lo R m k = k ∧ ∀ j, j < m → mayGo R j = false)
  | 0, k => .inr ⟨rfl, fun j hj => by omega⟩
  | m + 1, k => by
    rcases lo_spec R m (if mayGo R m = true then (m : Int) else k) with ⟨i, h1, h2, h3, h4⟩ | ⟨h1, h2⟩
    · exact .inl ⟨i, h1, by omega, h3, h4⟩
    · by_cases h : mayGo R m = true
      · rw [if_pos h] at h1
        exact .inl ⟨m, by rw [lo, if_pos h, h1], by omega, h, h2⟩
      · rw [if_neg h] at h1
        refine .inr ⟨by rw [lo, if_neg h, h1], fun j hj => ?_⟩
        by_cases e : j = m
        · subst e; simpa using h
        · exact h2 j (by omega)
def canon42 (R : List Rf) (t : ByteArray) (m : Nat) (k : Int) : St := ⟨[(0, .one (.ptr 0 0)), (1, .one (.str t)), (6, .one (.int .i64 k)), (7, .one (.int .i64 ((m : Int) - 1)))], [.ptr 0 0, .str t], stR (some 0) R⟩
theorem body42 (R : List Rf) (t : ByteArray) (m : Nat) (k : Int) (hm : m < R.length) (hl : R.length ≤ 1000) : ∃ st1, evC T42 KK b42x0 (canon42 R t (m + 1) k) = some (.norm, st1) ∧ St.head [0, 1, 6, 7] st1 = canon42 R t m (if mayGo R m = true then (m : Int) else k) := by
  have e0 : ((m + 1 : Nat) : Int) - 1 = m := by omega
  have w : IntKind.i64.wrap ((m : Int) - 1) = m - 1 := i64_in _ (by omega)
  have hx : R[m]? = some R[m] := List.getElem?_eq_getElem hm
  have hg : mayGo R m = ((R[m]).th && (R[m]).hd == 0) := by simp [mayGo, hx]
  rw [hg, canon42, e0]
  cases hr : (R[m]).th with
  | true =>
    by_cases h2 : (R[m]).hd = 0
    · simp -implicitDefEqProofs [b42x0, canon42, stR, upd, w, RC.len, RC.size, RC.get, hm, hr, h2]
    · simp -implicitDefEqProofs [b42x0, canon42, stR, upd, w, RC.len, RC.size, RC.get, hm, hr, h2]
  | false => simp -implicitDefEqProofs [b42x0, canon42, stR, upd, w, RC.len, RC.size, RC.get, hm, hr]
theorem loop42 (R : List Rf) (t : ByteArray) (hl : R.length ≤ 1000) : ∀ (m : Nat) (k : Int) (K : Nat), m < R.length → m + 1 < K → ∃ env, loopH (evC T42 KK b42x0) [0, 1, 6, 7] K (canon42 R t m k) = some (.exit 0, ⟨env, [.ptr 0 0, .str t], stR (some 0) R⟩) ∧ getT 6 env = .one (.int .i64 (lo R m k)) ∧ getT 0 env = .one (.ptr 0 0) ∧ getT 1 env = .one (.str t)
  | 0, k, K, hm, hK => by
    have h : ∃ env, evC T42 KK b42x0 (canon42 R t 0 k) = some (.exit 0, ⟨env, [.ptr 0 0, .str t], stR (some 0) R⟩) ∧ getT 6 env = .one (.int .i64 k) ∧ getT 0 env = .one (.ptr 0 0) ∧ getT 1 env = .one (.str t) := by
      refine ⟨?w, ?a, ?b, ?c, ?d⟩
      case a =>
        simp -implicitDefEqProofs [b42x0, canon42, stR, upd, RC.len, RC.size]
        rfl
      case b => simp
      case c => simp
      case d => simp
    obtain ⟨env, h1, h2⟩ := h
    exact ⟨env, loopH_exit h1, h2⟩
  | m + 1, k, K, hm, hK => by
    obtain ⟨st1, h1, h2⟩ := body42 R t m k (by omega) hl
    rw [loopH_norm h1 (by omega), h2]
    exact loop42 R t hl m _ (K - 1) (by omega) (by omega)
end Go.X.Try
