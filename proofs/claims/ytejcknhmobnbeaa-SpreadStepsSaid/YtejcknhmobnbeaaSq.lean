import Derived.Test.YtejcknhmobnbeaaSp
set_option maxRecDepth 100000
set_option linter.unusedSimpArgs false
set_option linter.unusedVariables false
namespace Go.X.Try
open Go.IntWalk
theorem u8_rng (x : Int) : ∃ n : Nat, IntKind.u8.wrap x = n ∧ n < 256 := by
  have h : 0 ≤ IntKind.u8.wrap x ∧ IntKind.u8.wrap x < 256 := by
    simp [IntKind.wrap, IntKind.bits, IntKind.signed]
    omega
  exact ⟨(IntKind.u8.wrap x).toNat, by omega, by omega⟩
/-- In which state of a symbol another one lies. -/
theorem in_iff {l : List Int} {sh : List Nat} {L : Nat} (S : Shr l L sh) {st sb n k i : Nat} (hst : st < 2 ^ L) (hn : sh[sb]? = some n) (hn1 : 1 ≤ n) (hk1 : (st + 2 ^ L) / 2 ^ k < 2 * n) (hk2 : n ≤ (st + 2 ^ L) / 2 ^ k) (hi : i < 2 ^ L) :
    inCell st sb (cellSc L sh i) = decide ((symOf sh)[i]? = some sb ∧ n + ((symOf sh).take i).count sb = (st + 2 ^ L) / 2 ^ k) := by
  obtain ⟨s, m, h1, h2, h3, h4, h5, h6, h7, h8, h9, h10⟩ := cellSc_ok S hi
  rw [h7]
  simp only [inCell, h1, Option.some.injEq, Int.toNat_natCast]
  by_cases e : s = sb
  · subst e
    rw [hn] at h2; simp at h2; subst h2
    have hb : bOf L sh i = L + 1 - bl (yOf sh i) := rfl
    have := back_iff (L := L) (n := n) (x := st + 2 ^ L) (k := k) (y := yOf sh i) hn1 (by omega) (by rw [Nat.pow_succ]; omega) hk1 hk2 (by omega) (by omega)
    rw [← hb] at this
    rw [← h3]
    congr 1
    rw [eq_iff_iff]
    simp only [true_and]
    rw [← this, Nat.add_mul, Nat.one_mul]
    constructor
    · rintro ⟨a, b⟩; omega
    · rintro ⟨a, b⟩; exact ⟨by omega, by omega⟩
  · have : ¬ (s : Int) = sb := by omega
    simp [e, this]
theorem run10b (a0 : List Int) (L n1 n2 : Int) (sb : Nat) (cs : List (List Sc)) (fi al : List Int) (h3 : ¬ 300 < a0.length) (h3i : ¬ (300 : Int) < a0.length)
    (e13 : F13 [.one (.ro 0 (.ints .i64 a0)), .one (.int .i64 L)] [] = some (.one (.bool true), [])) (e14 : F14 [.one (.ro 0 (.ints .i64 a0)), .one (.int .i64 L)] [] = some (.tup [.one (.ptr 0 0), .one (.bool true)], tabHp none L cs a0 fi al))
    (e37 : F37 [.one (.ro 0 (.ints .i64 a0)), .one (.int .i64 L)] [] = some (.one (.row 0), [.rows (.recs 3 cs)])) (wsb : IntKind.u8.wrap n1 = (sb : Int)) (wsi : IntKind.i64.wrap (sb : Int) = sb) (st : Nat) (hsl : sb < a0.length) (s b base p : Int) (hst : st < cs.length) (hc : cs[st]? = some [.int .u8 s, .int .i64 b, .int .i64 base]) (e51 : F51 [.one (.int .i64 b)] [] = some (.one (.int .i64 p), [])) (wn : 0 ≤ n2 → n2 < p → IntKind.i64.wrap (base + n2) = base + n2)
    (e50 : F50 [.one (.ptr 0 0), .one (.int .i64 st), .one (.int .i64 n2)] (tabHp (some 0) L cs a0 fi al) = some (if 0 ≤ n2 ∧ n2 < p then .tup [.one (.int .i64 (base + n2)), .one (.bool true)] else .tup [.one (.int .i64 0), .one (.bool false)], tabHp (some 0) L cs a0 fi al))
    (e48 : F48 [.one (.ptr 0 0), .one (.int .i64 st), .one (.int .u8 sb)] (tabHp (some 0) L cs a0 fi al) = some (.tup [.one (.int .i64 0), .one (.int .i64 0), .one (.int .i64 0), .one (.bool false)], tabHp (some 0) L cs a0 fi al))
    (e49 : F49 [.one (.ro 0 (.recs 3 cs)), .one (.int .i64 st), .one (.int .u8 sb)] [] = some (.tup [.one (.int .i64 0), .one (.int .i64 0), .one (.bool false)], [])) :
    F10 [.one (.ro 0 (.ints .i64 a0)), .one (.int .i64 L), .agg [.int .i64 st, .int .i64 n1, .int .i64 n2]] [] = some (.one (.bool true), []) := by
  have i1 : (0 : Int) ≤ st := by omega
  have i2 : (st : Int) < cs.length := by omega
  have i1' : ¬ (st : Int) < 0 := by omega
  have i2' : ¬ (cs.length : Int) ≤ st := by omega
  have i2'' : ¬ cs.length ≤ st := by omega
  have hc' : ∀ hh, cs[st]'hh = [Sc.int .u8 s, .int .i64 b, .int .i64 base] := fun hh => by rw [List.getElem?_eq_getElem hh] at hc; simpa using hc
  have j1 : (sb : Int) < a0.length := by omega
  simp only [tabHp] at e14 e48 
  by_cases m1 : 0 ≤ n2
  · have m1' : ¬ n2 < 0 := by omega
    by_cases m2 : n2 < p
    · have m2' : ¬ p ≤ n2 := by omega
      have wn := wn m1 m2
      rw [if_pos ⟨m1, m2⟩] at e50
      simp only [tabHp] at e50
      simp -implicitDefEqProofs [F10, c10, upd, h12, RC.len, RC.size, RC.get, h3, h3i, e13, e14, e37, e48, e50, wsb, wsi, i1, i2, i1', i2', i2'', hst, hc, hc', e51, hsl, j1, e49, m1, m2, m1', m2', wn]
    · have m2' : p ≤ n2 := by omega
      rw [if_neg (fun h => m2 h.2)] at e50
      simp only [tabHp] at e50
      simp -implicitDefEqProofs [F10, c10, upd, h12, RC.len, RC.size, RC.get, h3, h3i, e13, e14, e37, e48, e50, wsb, wsi, i1, i2, i1', i2', i2'', hst, hc, hc', e51, hsl, j1, e49, m1, m2, m1', m2']
  · have m1' : n2 < 0 := by omega
    rw [if_neg (fun h => m1 h.1)] at e50
    simp only [tabHp] at e50
    simp -implicitDefEqProofs [F10, c10, upd, h12, RC.len, RC.size, RC.get, h3, h3i, e13, e14, e37, e48, e50, wsb, wsi, i1, i2, i1', i2', i2'', hst, hc, hc', e51, hsl, j1, e49, m1, m1']
theorem run10a (a0 : List Int) (L n1 n2 : Int) (sb : Nat) (cs : List (List Sc)) (fi al : List Int) (h3 : ¬ 300 < a0.length) (h3i : ¬ (300 : Int) < a0.length)
    (e13 : F13 [.one (.ro 0 (.ints .i64 a0)), .one (.int .i64 L)] [] = some (.one (.bool true), [])) (e14 : F14 [.one (.ro 0 (.ints .i64 a0)), .one (.int .i64 L)] [] = some (.tup [.one (.ptr 0 0), .one (.bool true)], tabHp none L cs a0 fi al))
    (e37 : F37 [.one (.ro 0 (.ints .i64 a0)), .one (.int .i64 L)] [] = some (.one (.row 0), [.rows (.recs 3 cs)])) (wsb : IntKind.u8.wrap n1 = (sb : Int)) (wsi : IntKind.i64.wrap (sb : Int) = sb) (st : Nat) (hsl : sb < a0.length) (s b base p : Int) (hst : st < cs.length) (hc : cs[st]? = some [.int .u8 s, .int .i64 b, .int .i64 base]) (e51 : F51 [.one (.int .i64 b)] [] = some (.one (.int .i64 p), [])) (wn : 0 ≤ n2 → n2 < p → IntKind.i64.wrap (base + n2) = base + n2)
    (e50 : F50 [.one (.ptr 0 0), .one (.int .i64 st), .one (.int .i64 n2)] (tabHp (some 0) L cs a0 fi al) = some (if 0 ≤ n2 ∧ n2 < p then .tup [.one (.int .i64 (base + n2)), .one (.bool true)] else .tup [.one (.int .i64 0), .one (.bool false)], tabHp (some 0) L cs a0 fi al)) (i0 : Nat) (v k c0 c2 : Int) (hi0 : cs[i0]? = some [.int .u8 c0, .int .i64 k, .int .i64 c2])
    (e48 : F48 [.one (.ptr 0 0), .one (.int .i64 st), .one (.int .u8 sb)] (tabHp (some 0) L cs a0 fi al) = some (.tup [.one (.int .i64 i0), .one (.int .i64 v), .one (.int .i64 k), .one (.bool true)], tabHp (some 0) L cs a0 fi al))
    (e49 : F49 [.one (.ro 0 (.recs 3 cs)), .one (.int .i64 st), .one (.int .u8 sb)] [] = some (.tup [.one (.int .i64 i0), .one (.int .i64 v), .one (.bool true)], []))
    (e50a : F50 [.one (.ptr 0 0), .one (.int .i64 i0), .one (.int .i64 v)] (tabHp (some 0) L cs a0 fi al) = some (.tup [.one (.int .i64 st), .one (.bool true)], tabHp (some 0) L cs a0 fi al)) :
    F10 [.one (.ro 0 (.ints .i64 a0)), .one (.int .i64 L), .agg [.int .i64 st, .int .i64 n1, .int .i64 n2]] [] = some (.one (.bool true), []) := by
  have i1 : (0 : Int) ≤ st := by omega
  have i2 : (st : Int) < cs.length := by omega
  have i1' : ¬ (st : Int) < 0 := by omega
  have i2' : ¬ (cs.length : Int) ≤ st := by omega
  have i2'' : ¬ cs.length ≤ st := by omega
  have hc' : ∀ hh, cs[st]'hh = [Sc.int .u8 s, .int .i64 b, .int .i64 base] := fun hh => by rw [List.getElem?_eq_getElem hh] at hc; simpa using hc
  have j1 : (sb : Int) < a0.length := by omega
  have l0 := (List.getElem?_eq_some_iff.1 hi0).1
  have l0i : (i0 : Int) < cs.length := by omega
  have hi0' : ∀ hh, cs[i0]'hh = [Sc.int .u8 c0, .int .i64 k, .int .i64 c2] := fun hh => by rw [List.getElem?_eq_getElem hh] at hi0; simpa using hi0
  simp only [tabHp] at e14 e48 e50a
  by_cases m1 : 0 ≤ n2
  · have m1' : ¬ n2 < 0 := by omega
    by_cases m2 : n2 < p
    · have m2' : ¬ p ≤ n2 := by omega
      have wn := wn m1 m2
      rw [if_pos ⟨m1, m2⟩] at e50
      simp only [tabHp] at e50
      simp -implicitDefEqProofs [F10, c10, upd, h12, RC.len, RC.size, RC.get, h3, h3i, e13, e14, e37, e48, e50, wsb, wsi, i1, i2, i1', i2', i2'', hst, hc, hc', e51, hsl, j1, e49, e50a, l0, l0i, hi0, hi0', m1, m2, m1', m2', wn]
    · have m2' : p ≤ n2 := by omega
      rw [if_neg (fun h => m2 h.2)] at e50
      simp only [tabHp] at e50
      simp -implicitDefEqProofs [F10, c10, upd, h12, RC.len, RC.size, RC.get, h3, h3i, e13, e14, e37, e48, e50, wsb, wsi, i1, i2, i1', i2', i2'', hst, hc, hc', e51, hsl, j1, e49, e50a, l0, l0i, hi0, hi0', m1, m2, m1', m2']
  · have m1' : n2 < 0 := by omega
    rw [if_neg (fun h => m1 h.1)] at e50
    simp only [tabHp] at e50
    simp -implicitDefEqProofs [F10, c10, upd, h12, RC.len, RC.size, RC.get, h3, h3i, e13, e14, e37, e48, e50, wsb, wsi, i1, i2, i1', i2', i2'', hst, hc, hc', e51, hsl, j1, e49, e50a, l0, l0i, hi0, hi0', m1, m1']
theorem run10c (a0 : List Int) (L n1 n2 : Int) (sb : Nat) (cs : List (List Sc)) (fi al : List Int) (h3 : ¬ 300 < a0.length) (h3i : ¬ (300 : Int) < a0.length)
    (e13 : F13 [.one (.ro 0 (.ints .i64 a0)), .one (.int .i64 L)] [] = some (.one (.bool true), [])) (e14 : F14 [.one (.ro 0 (.ints .i64 a0)), .one (.int .i64 L)] [] = some (.tup [.one (.ptr 0 0), .one (.bool true)], tabHp none L cs a0 fi al))
    (e37 : F37 [.one (.ro 0 (.ints .i64 a0)), .one (.int .i64 L)] [] = some (.one (.row 0), [.rows (.recs 3 cs)])) (wsb : IntKind.u8.wrap n1 = (sb : Int)) (wsi : IntKind.i64.wrap (sb : Int) = sb) (st : Nat) (hsl : ¬ sb < a0.length) (s b base p : Int) (hst : st < cs.length) (hc : cs[st]? = some [.int .u8 s, .int .i64 b, .int .i64 base]) (e51 : F51 [.one (.int .i64 b)] [] = some (.one (.int .i64 p), [])) (wn : 0 ≤ n2 → n2 < p → IntKind.i64.wrap (base + n2) = base + n2)
    (e50 : F50 [.one (.ptr 0 0), .one (.int .i64 st), .one (.int .i64 n2)] (tabHp (some 0) L cs a0 fi al) = some (if 0 ≤ n2 ∧ n2 < p then .tup [.one (.int .i64 (base + n2)), .one (.bool true)] else .tup [.one (.int .i64 0), .one (.bool false)], tabHp (some 0) L cs a0 fi al))
    (e48 : F48 [.one (.ptr 0 0), .one (.int .i64 st), .one (.int .u8 sb)] (tabHp (some 0) L cs a0 fi al) = some (.tup [.one (.int .i64 0), .one (.int .i64 0), .one (.int .i64 0), .one (.bool false)], tabHp (some 0) L cs a0 fi al)) :
    F10 [.one (.ro 0 (.ints .i64 a0)), .one (.int .i64 L), .agg [.int .i64 st, .int .i64 n1, .int .i64 n2]] [] = some (.one (.bool true), []) := by
  have i1 : (0 : Int) ≤ st := by omega
  have i2 : (st : Int) < cs.length := by omega
  have i1' : ¬ (st : Int) < 0 := by omega
  have i2' : ¬ (cs.length : Int) ≤ st := by omega
  have i2'' : ¬ cs.length ≤ st := by omega
  have hc' : ∀ hh, cs[st]'hh = [Sc.int .u8 s, .int .i64 b, .int .i64 base] := fun hh => by rw [List.getElem?_eq_getElem hh] at hc; simpa using hc
  have j1 : ¬ (sb : Int) < a0.length := by omega
  simp only [tabHp] at e14 e48 
  by_cases m1 : 0 ≤ n2
  · have m1' : ¬ n2 < 0 := by omega
    by_cases m2 : n2 < p
    · have m2' : ¬ p ≤ n2 := by omega
      have wn := wn m1 m2
      rw [if_pos ⟨m1, m2⟩] at e50
      simp only [tabHp] at e50
      simp -implicitDefEqProofs [F10, c10, upd, h12, RC.len, RC.size, RC.get, h3, h3i, e13, e14, e37, e48, e50, wsb, wsi, i1, i2, i1', i2', i2'', hst, hc, hc', e51, hsl, j1, m1, m2, m1', m2', wn]
    · have m2' : p ≤ n2 := by omega
      rw [if_neg (fun h => m2 h.2)] at e50
      simp only [tabHp] at e50
      simp -implicitDefEqProofs [F10, c10, upd, h12, RC.len, RC.size, RC.get, h3, h3i, e13, e14, e37, e48, e50, wsb, wsi, i1, i2, i1', i2', i2'', hst, hc, hc', e51, hsl, j1, m1, m2, m1', m2']
  · have m1' : n2 < 0 := by omega
    rw [if_neg (fun h => m1 h.1)] at e50
    simp only [tabHp] at e50
    simp -implicitDefEqProofs [F10, c10, upd, h12, RC.len, RC.size, RC.get, h3, h3i, e13, e14, e37, e48, e50, wsb, wsi, i1, i2, i1', i2', i2'', hst, hc, hc', e51, hsl, j1, m1, m1']
theorem run10d (a0 : List Int) (L n1 n2 : Int) (sb : Nat) (cs : List (List Sc)) (fi al : List Int) (h3 : ¬ 300 < a0.length) (h3i : ¬ (300 : Int) < a0.length)
    (e13 : F13 [.one (.ro 0 (.ints .i64 a0)), .one (.int .i64 L)] [] = some (.one (.bool true), [])) (e14 : F14 [.one (.ro 0 (.ints .i64 a0)), .one (.int .i64 L)] [] = some (.tup [.one (.ptr 0 0), .one (.bool true)], tabHp none L cs a0 fi al))
    (e37 : F37 [.one (.ro 0 (.ints .i64 a0)), .one (.int .i64 L)] [] = some (.one (.row 0), [.rows (.recs 3 cs)])) (wsb : IntKind.u8.wrap n1 = (sb : Int)) (wsi : IntKind.i64.wrap (sb : Int) = sb) (n0 : Int) (hin : ¬ (0 ≤ n0 ∧ n0 < cs.length))
    (e48 : F48 [.one (.ptr 0 0), .one (.int .i64 n0), .one (.int .u8 sb)] (tabHp (some 0) L cs a0 fi al) = some (.tup [.one (.int .i64 0), .one (.int .i64 0), .one (.int .i64 0), .one (.bool false)], tabHp (some 0) L cs a0 fi al))
    (e50 : F50 [.one (.ptr 0 0), .one (.int .i64 n0), .one (.int .i64 n2)] (tabHp (some 0) L cs a0 fi al) = some (.tup [.one (.int .i64 0), .one (.bool false)], tabHp (some 0) L cs a0 fi al)) :
    F10 [.one (.ro 0 (.ints .i64 a0)), .one (.int .i64 L), .agg [.int .i64 n0, .int .i64 n1, .int .i64 n2]] [] = some (.one (.bool true), []) := by
  simp only [tabHp] at e14 e48 e50
  by_cases h0 : 0 ≤ n0
  · have h0' : ¬ n0 < 0 := by omega
    have h1 : ¬ n0 < cs.length := fun h => hin ⟨h0, h⟩
    have h1' : (cs.length : Int) ≤ n0 := by omega
    simp -implicitDefEqProofs [F10, c10, upd, h12, RC.len, RC.size, RC.get, h3, h3i, e13, e14, e37, e48, e50, wsb, wsi, h0, h0', h1, h1']
  · have h0' : n0 < 0 := by omega
    simp -implicitDefEqProofs [F10, c10, upd, h12, RC.len, RC.size, RC.get, h3, h3i, e13, e14, e37, e48, e50, wsb, wsi, h0, h0']
theorem law10 (a0 : List Int) (a1 : Int) (a2 : List Int) (_ : a0.length ≤ maxLen) (w0 : ∀ z ∈ a0, (Lit.int .i64 z).wf = true) (_ : (Lit.int .i64 a1).wf = true) (hl2 : a2.length = 3) (w2 : ∀ z ∈ a2, (Lit.int .i64 z).wf = true) :
    F10 [.one (.ro 0 (.ints .i64 a0)), .one (.int .i64 a1), .agg (a2.map (SV.int .i64))] [] = some (.one (.bool true), []) := by
  obtain ⟨n0, n1, n2, rfl⟩ : ∃ n0 n1 n2, a2 = [n0, n1, n2] := by
    match a2, hl2 with
    | [x, y, z], _ => exact ⟨x, y, z, rfl⟩
  simp only [List.map_cons, List.map_nil]
  by_cases h3 : 300 < a0.length
  · have h3i : (300 : Int) < a0.length := by omega
    simp -implicitDefEqProofs [F10, c10, upd, h12, RC.len, h3, h3i]
  have h3i : ¬ (300 : Int) < a0.length := by omega
  have e13 := f13 0 a0 a1 (by omega)
  cases hf : fairB a0 a1 with
  | false =>
    rw [hf] at e13
    simp -implicitDefEqProofs [F10, c10, upd, h12, RC.len, h3, h3i, e13]
  | true =>
    rw [hf] at e13
    obtain ⟨L, rfl, S⟩ := shr_of hf
    obtain ⟨al, e14, hal, hok⟩ := f14 0 a0 (natsOf a0) S hf
    have e37 := f37 0 a0 (natsOf a0) S
    generalize hshe : natsOf a0 = sh at *
    have hsz := S.size
    have h9 := S.hi
    have hl : a0.length = sh.length := by rw [S.eq]; simp
    have hlen := S.len
    have hcl : (cellsTo L sh (2 ^ L)).length = 2 ^ L := cellsTo_length _ _ _
    obtain ⟨sb, wsb, hsb⟩ := u8_rng n1
    have wsi : IntKind.i64.wrap (sb : Int) = sb := i64_in _ (by omega)
    have okA := cells_ok S
    by_cases hin : 0 ≤ n0 ∧ n0 < (cellsTo L sh (2 ^ L)).length
    · obtain ⟨st, rfl⟩ : ∃ st : Nat, n0 = st := ⟨n0.toNat, by omega⟩
      have hst : st < 2 ^ L := by omega
      obtain ⟨s, m, k1, k2, k3, k4, k5, k6, k7, k8, k9, k10⟩ := cellSc_ok S hst
      have hcst := cellsTo_get (sh := sh) hst
      rw [k7] at hcst
      have hpb : 2 ^ bOf L sh st ≤ 2 ^ 9 := Nat.pow_le_pow_right (by omega) (by omega)
      have hb51 := e51 ((bOf L sh st : Nat) : Int) (by omega) (by omega)
      rw [Int.toNat_natCast] at hb51
      have hmulst : yOf sh st * 2 ^ bOf L sh st ≤ (yOf sh st + 1) * 2 ^ bOf L sh st := Nat.mul_le_mul_right _ (by omega)
      have hpw1 : 2 ^ (L + 1) = 2 * 2 ^ L := by rw [Nat.pow_succ]; omega
      have hbase : baseOf L sh st ≤ 1024 := by omega
      have wnx : 0 ≤ n2 → n2 < ((2 ^ bOf L sh st : Nat) : Int) → IntKind.i64.wrap (((baseOf L sh st : Nat) : Int) + n2) = ((baseOf L sh st : Nat) : Int) + n2 := fun a b => i64_in _ (by omega)
      have e50 := f50 L n2 s (bOf L sh st : Nat) (baseOf L sh st : Nat) ((2 ^ bOf L sh st : Nat) : Int) (((baseOf L sh st : Nat) : Int) + n2) st (cellsTo L sh (2 ^ L)) a0 (fiTo sh sh.length) al hcst (by omega) (shl1 (by omega)) wnx
      by_cases hsl : sb < sh.length
      · have hnn : sh[sb]? = some sh[sb] := List.getElem?_eq_getElem hsl
        have hg : a0[sb]? = some ((sh[sb] : Nat) : Int) := by rw [S.eq, List.getElem?_map, hnn]; rfl
        rcases Nat.eq_zero_or_pos sh[sb] with h0 | h0
        · rw [h0] at hg hnn
          have e48 := f48n L st sb hsb (cellsTo L sh (2 ^ L)) a0 (fiTo sh sh.length) al (.inr (.inr hg))
          have e49 := f49n 0 st sb (cellsTo L sh (2 ^ L)) (by omega) okA (fun i c hi hc => by
            rw [hcl] at hi
            rw [cellsTo_get hi] at hc
            simp only [Option.some.injEq] at hc; subst hc
            obtain ⟨s', m', q1, q2, q3, q4, q5, q6, q7, _⟩ := cellSc_ok S hi
            rw [q7]
            simp only [inCell, decide_eq_false_iff_not]
            rintro ⟨a, _⟩
            have : s' = sb := by omega
            subst this
            rw [hnn] at q2; simp at q2; omega)
          exact run10b a0 L n1 n2 sb _ _ al h3 h3i e13 e14 e37 wsb wsi st (by omega) _ _ _ _ (by omega) hcst hb51 wnx e50 e48 e49
        · have hle : sh[sb] ≤ 2 ^ L := by
            have h1 := fstS_succ hsl
            have h2 := fstS_le sh (sb + 1)
            have := S.sum
            omega
          have hfle := fstS_le sh sb
          rw [S.sum] at hfle
          obtain ⟨k, hk1, hk2, hk3, hrun⟩ := f48 L st sb sh[sb] (fstS sh sb) hsb (cellsTo L sh (2 ^ L)) a0 (fiTo sh sh.length) al (by omega) (by omega) hg (by omega) (by simp [fiTo, List.getElem?_map, List.getElem?_range hsl, hsl]) (by omega)
          rw [hcl] at hk1 hk2 hrun
          generalize hn : sh[sb] = n at *
          have hk4 : n ≤ (st + 2 ^ L) / 2 ^ k := by
            rcases Nat.eq_zero_or_pos k with h | h
            · subst h; rw [Nat.pow_zero, Nat.div_one]; omega
            · obtain ⟨d, rfl⟩ : ∃ d, k = d + 1 := ⟨k - 1, by omega⟩
              have := hk2 d (by omega)
              rw [Nat.pow_succ, ← Nat.div_div_eq_div_mul]; omega
          obtain ⟨i0, hi0, hrk⟩ := rk_find (symOf sh) sb ((st + 2 ^ L) / 2 ^ k - n) (by rw [sym_count S.sum S.lo, hnn]; simp; omega)
          have hsyl : (symOf sh).length = 2 ^ L := by rw [symOf_length, S.sum]
          have hi0l : i0 < 2 ^ L := by have := (List.getElem?_eq_some_iff.1 hi0).1; omega
          have hal0 := hok i0 sb hi0l hi0
          rw [hrk] at hal0
          have e48 := hrun (fstS sh sb + ((st + 2 ^ L) / 2 ^ k - n)) i0 (by omega) hal0
          obtain ⟨s', m', q1, q2, q3, q4, q5, q6, q7, q8, q9, q10⟩ := cellSc_ok S hi0l
          rw [hi0] at q1; simp at q1; subst q1
          rw [hnn] at q2; simp at q2; subst q2
          rw [hrk] at q3 q4
          have hy0 : yOf sh i0 = (st + 2 ^ L) / 2 ^ k := by omega
          have hkx : 2 ^ k ≤ st + 2 ^ L := by
            rcases Nat.lt_or_ge (st + 2 ^ L) (2 ^ k) with h | h
            · rw [Nat.div_eq_of_lt h] at hk4; omega
            · exact h
          have hbk : bOf L sh i0 = k := by unfold bOf; rw [hy0]; exact bits_div (by omega) (by omega) hkx
          rw [hbk, hy0] at q9
          rw [hbk] at q7 q8 q10
          have hdm := Nat.div_add_mod (st + 2 ^ L) (2 ^ k)
          rw [Nat.mul_comm] at hdm
          have hmlt := Nat.mod_lt (st + 2 ^ L) (Nat.two_pow_pos k)
          have hvb : (st : Int) - (baseOf L sh i0 : Nat) = (((st + 2 ^ L) % 2 ^ k : Nat) : Int) := by omega
          have hci0 := cellsTo_get (sh := sh) hi0l
          rw [q7] at hci0
          have hIC := fun i (hi : i < 2 ^ L) => in_iff S hst hnn h0 hk1 hk4 hi
          have e49 := f49 0 st sb k (baseOf L sh i0 : Nat) (cellsTo L sh (2 ^ L)) (by omega) okA i0 (fun i c hi hc => by
            have hil : i < 2 ^ L := by omega
            rw [cellsTo_get hil] at hc
            simp only [Option.some.injEq] at hc; subst hc
            rw [hIC i hil, decide_eq_false_iff_not]
            rintro ⟨a, b⟩
            have := rk_inj a hi0 (by omega)
            omega) hci0 (by rw [Int.toNat_natCast]; omega)
          rw [hvb] at e49
          have hpk : 2 ^ k ≤ 2 ^ 9 := Nat.pow_le_pow_right (by omega) (by omega)
          have e50a := f50 L (((st + 2 ^ L) % 2 ^ k : Nat) : Int) sb k (baseOf L sh i0 : Nat) ((2 ^ k : Nat) : Int) st i0 (cellsTo L sh (2 ^ L)) a0 (fiTo sh sh.length) al hci0 (by omega) (shl1 (by omega)) (fun _ _ => by rw [i64_in _ (by omega)]; omega)
          rw [if_pos ⟨by omega, by omega⟩] at e50a
          exact run10a a0 L n1 n2 sb _ _ al h3 h3i e13 e14 e37 wsb wsi st (by omega) _ _ _ _ (by omega) hcst hb51 wnx e50 i0 _ _ _ _ hci0 e48 e49 e50a
      · have e48 := f48n L st sb hsb (cellsTo L sh (2 ^ L)) a0 (fiTo sh sh.length) al (.inr (.inl (by omega)))
        exact run10c a0 L n1 n2 sb _ _ al h3 h3i e13 e14 e37 wsb wsi st (by omega) _ _ _ _ (by omega) hcst hb51 wnx e50 e48
    · have e48 := f48n L n0 sb hsb (cellsTo L sh (2 ^ L)) a0 (fiTo sh sh.length) al (.inl hin)
      have e50 := f50n L n0 n2 (cellsTo L sh (2 ^ L)) a0 (fiTo sh sh.length) al hin
      exact run10d a0 L n1 n2 sb _ _ al h3 h3i e13 e14 e37 wsb wsi n0 hin e48 e50
end Go.X.Try
