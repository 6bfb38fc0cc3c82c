import Derived.Test.YtejcknhmobnbeaaSj
set_option maxRecDepth 100000
set_option linter.unusedSimpArgs false
set_option linter.unusedVariables false
namespace Go.X.Try
open Go.IntWalk
theorem f15 (L : Int) (cs : List (List Sc)) (l fi al : List Int) : F15 [.one (.ptr 0 0)] (tabHp (some 0) L cs l fi al) = some (.one (.int .i64 cs.length), tabHp (some 0) L cs l fi al) := by
  simp -implicitDefEqProofs [F15, c15, upd, tabHp, RC.len, RC.size]
theorem f15z : F15 [.one .nilp] [] = some (.one (.int .i64 0), []) := by
  simp -implicitDefEqProofs [F15, c15, upd]
theorem f36 (L : Int) (cs : List (List Sc)) (l fi al : List Int) : F36 [.one (.ptr 0 0)] (tabHp (some 0) L cs l fi al) = some (.one (.int .i64 L), tabHp (some 0) L cs l fi al) := by
  simp -implicitDefEqProofs [F36, c36, upd, tabHp, RC.len, RC.size]
theorem f36z : F36 [.one .nilp] [] = some (.one (.int .i64 0), []) := by
  simp -implicitDefEqProofs [F36, c36, upd]
theorem f61 (L st : Int) (cs : List (List Sc)) (l fi al : List Int) : F61 [.one (.ptr 0 0), .one (.int .i64 st)] (tabHp (some 0) L cs l fi al) = some (.one (.bool (decide (0 ≤ st ∧ st < cs.length))), tabHp (some 0) L cs l fi al) := by
  have e := f15 L cs l fi al
  simp only [tabHp] at e
  by_cases h : 0 ≤ st
  · simp -implicitDefEqProofs [F61, c61, upd, tabHp, e, h]
  · simp -implicitDefEqProofs [F61, c61, upd, tabHp, e, h]
theorem f61z (st : Int) : F61 [.one .nilp, .one (.int .i64 st)] [] = some (.one (.bool false), []) := by
  by_cases h : 0 ≤ st
  · have h2 : ¬ st < 0 := by omega
    simp -implicitDefEqProofs [F61, c61, upd, f15z, h, h2]
  · simp -implicitDefEqProofs [F61, c61, upd, f15z, h]
def cel (c : List Sc) (b : Bool) : AV := .tup [.agg (c.map Sc.sv), .one (.bool b)]
theorem f16 (L s b base : Int) (st : Nat) (cs : List (List Sc)) (l fi al : List Int) (hc : cs[st]? = some [.int .u8 s, .int .i64 b, .int .i64 base]) : F16 [.one (.ptr 0 0), .one (.int .i64 st)] (tabHp (some 0) L cs l fi al) = some (cel [.int .u8 s, .int .i64 b, .int .i64 base] true, tabHp (some 0) L cs l fi al) := by
  have e := f61 L st cs l fi al
  have hl := (List.getElem?_eq_some_iff.1 hc).1
  have hc' : ∀ hh, cs[st]'hh = [Sc.int .u8 s, .int .i64 b, .int .i64 base] := fun hh => by rw [List.getElem?_eq_getElem hh] at hc; simpa using hc
  have h0 : (0 : Int) ≤ st := by omega
  have h1 : (st : Int) < cs.length := by omega
  simp only [tabHp, h0, h1, and_self, decide_true] at e
  simp -implicitDefEqProofs [F16, c16, upd, tabHp, cel, e, hl, h1, hc, hc', takeE, RC.len, RC.size, RC.get, RC.elem]
theorem f16n (L st : Int) (cs : List (List Sc)) (l fi al : List Int) (h : ¬ (0 ≤ st ∧ st < cs.length)) : F16 [.one (.ptr 0 0), .one (.int .i64 st)] (tabHp (some 0) L cs l fi al) = some (cel [.int .u8 0, .int .i64 0, .int .i64 0] false, tabHp (some 0) L cs l fi al) := by
  have e := f61 L st cs l fi al
  simp only [tabHp, h, decide_false] at e
  simp -implicitDefEqProofs [F16, c16, upd, tabHp, cel, e]
theorem f16z (st : Int) : F16 [.one .nilp, .one (.int .i64 st)] [] = some (cel [.int .u8 0, .int .i64 0, .int .i64 0] false, []) := by
  simp -implicitDefEqProofs [F16, c16, upd, cel, f61z]
theorem f50n (L st m : Int) (cs : List (List Sc)) (l fi al : List Int) (h : ¬ (0 ≤ st ∧ st < cs.length)) : F50 [.one (.ptr 0 0), .one (.int .i64 st), .one (.int .i64 m)] (tabHp (some 0) L cs l fi al) = some (.tup [.one (.int .i64 0), .one (.bool false)], tabHp (some 0) L cs l fi al) := by
  have e := f16n L st cs l fi al h
  simp only [tabHp, cel] at e
  simp -implicitDefEqProofs [F50, c50, upd, tabHp, e]
theorem f50 (L m s b base p r : Int) (st : Nat) (cs : List (List Sc)) (l fi al : List Int) (hc : cs[st]? = some [.int .u8 s, .int .i64 b, .int .i64 base]) (hb : ¬ b < 0) (hp : shlI .i64 1 b = p) (hr : 0 ≤ m → m < p → IntKind.i64.wrap (base + m) = r) :
    F50 [.one (.ptr 0 0), .one (.int .i64 st), .one (.int .i64 m)] (tabHp (some 0) L cs l fi al) = some (if 0 ≤ m ∧ m < p then .tup [.one (.int .i64 r), .one (.bool true)] else .tup [.one (.int .i64 0), .one (.bool false)], tabHp (some 0) L cs l fi al) := by
  have e := f16 L s b base st cs l fi al hc
  simp only [tabHp, cel, List.map_cons, List.map_nil, Sc.sv] at e
  by_cases h0 : 0 ≤ m
  · have h0' : ¬ m < 0 := by omega
    by_cases h1 : m < p
    · have h1' : ¬ p ≤ m := by omega
      have hr' := hr h0 h1
      simp -implicitDefEqProofs [F50, c50, upd, tabHp, e, hb, hp, h0, h0', h1, h1', hr']
    · have h1' : p ≤ m := by omega
      simp -implicitDefEqProofs [F50, c50, upd, tabHp, e, hb, hp, h0, h0', h1, h1']
  · have h0' : m < 0 := by omega
    simp -implicitDefEqProofs [F50, c50, upd, tabHp, e, hb, hp, h0, h0']
/-! ### back -/
def canon48 (st : Int) (sb n x k L : Int) (cs : List (List Sc)) (l fi al : List Int) : St :=
  ⟨[(0, .one (.ptr 0 0)), (2, .one (.int .u8 sb)), (10, .one (.int .i64 n)), (11, .one (.int .i64 x)), (12, .one (.int .i64 k))], [.ptr 0 0, .int .i64 st, .int .u8 sb], tabHp (some 0) L cs l fi al⟩
theorem body48 (st : Int) (sb n x k L y n2 k' : Int) (cs : List (List Sc)) (l fi al : List Int) (hk : ¬ k < 0) (hy : shrI .i64 x k = y) (wn : IntKind.i64.wrap (2 * n) = n2) (h : n2 ≤ y) (wk : IntKind.i64.wrap (k + 1) = k') :
    ∃ st1, evC T48 KK b48x0 (canon48 st sb n x k L cs l fi al) = some (.norm, st1) ∧ St.head [0, 2, 10, 11, 12] st1 = canon48 st sb n x k' L cs l fi al := by
  simp -implicitDefEqProofs [b48x0, canon48, tabHp, upd, hk, hy, wn, h, wk]
theorem end48 (st : Int) (sb n x k L y n2 : Int) (cs : List (List Sc)) (l fi al : List Int) (hk : ¬ k < 0) (hy : shrI .i64 x k = y) (wn : IntKind.i64.wrap (2 * n) = n2) (h : ¬ n2 ≤ y) :
    ∃ env, evC T48 KK b48x0 (canon48 st sb n x k L cs l fi al) = some (.exit 0, ⟨env, [.ptr 0 0, .int .i64 st, .int .u8 sb], tabHp (some 0) L cs l fi al⟩) ∧ getT 0 env = .one (.ptr 0 0) ∧ getT 2 env = .one (.int .u8 sb) ∧ getT 10 env = .one (.int .i64 n) ∧ getT 11 env = .one (.int .i64 x) ∧ getT 12 env = .one (.int .i64 k) := by
  simp -implicitDefEqProofs [b48x0, canon48, tabHp, upd, hk, hy, wn, h]
theorem f48n (L st : Int) (sb : Nat) (hsb : sb < 256) (cs : List (List Sc)) (l fi al : List Int) (h : ¬ (0 ≤ st ∧ st < cs.length) ∨ ¬ (sb : Int) < l.length ∨ l[sb]? = some 0) :
    F48 [.one (.ptr 0 0), .one (.int .i64 st), .one (.int .u8 sb)] (tabHp (some 0) L cs l fi al) = some (.tup [.one (.int .i64 0), .one (.int .i64 0), .one (.int .i64 0), .one (.bool false)], tabHp (some 0) L cs l fi al) := by
  have e := f61 L st cs l fi al
  have wb : IntKind.i64.wrap (sb : Int) = sb := i64_in _ (by omega)
  simp only [tabHp] at e
  by_cases h0 : 0 ≤ st ∧ st < cs.length
  · rw [decide_eq_true h0] at e
    by_cases h1 : (sb : Int) < l.length
    · have h1n : sb < l.length := by omega
      have h2 : l[sb]? = some 0 := by
        rcases h with h | h | h
        · exact absurd h0 h
        · exact absurd h1 h
        · exact h
      have h2' : ∀ hh, l[sb]'hh = 0 := fun hh => by rw [List.getElem?_eq_getElem hh] at h2; simpa using h2
      have h1' : ¬ (l.length : Int) ≤ sb := by omega
      have h1'' : ¬ l.length ≤ sb := by omega
      simp -implicitDefEqProofs [F48, c48, upd, tabHp, e, wb, h1, h1n, h1', h1'', h2, h2', RC.len, RC.size, RC.get]
    · have h1' : (l.length : Int) ≤ sb := by omega
      have h1'' : l.length ≤ sb := by omega
      simp -implicitDefEqProofs [F48, c48, upd, tabHp, e, wb, h1, h1', h1'', RC.len, RC.size]
  · rw [decide_eq_false h0] at e
    simp -implicitDefEqProofs [F48, c48, upd, tabHp, e]
end Go.X.Try
