import Derived.Test.YtejcknhmobnbeaaSn
set_option maxRecDepth 100000
set_option linter.unusedSimpArgs false
set_option linter.unusedVariables false
namespace Go.X.Try
open Go.IntWalk
theorem cellsTo_get {L : Nat} {sh : List Nat} {i : Nat} (h : i < 2 ^ L) : (cellsTo L sh (2 ^ L))[i]? = some (cellSc L sh i) := by
  simp [cellsTo, List.getElem?_map, List.getElem?_range h, h]
theorem awk_cell : (cellsTo 5 [32] 32)[7]? = some [Sc.int .u8 0, .int .i64 0, .int .i64 7] := by decide +kernel
theorem awk_fair : fairB [32] 5 = true := by decide
theorem awk_shr : Shr [32] 5 [32] := ⟨by decide, by decide, by decide, rfl, by decide⟩
theorem h12 : F12 [] [] = some (.one (.bool true), []) := by
  obtain ⟨al, e14, h1, h2⟩ := f14 0 [32] [32] awk_shr awk_fair
  have c5 : ((5 : Nat) : Int) = 5 := rfl
  have p5 : 2 ^ 5 = 32 := rfl
  rw [c5, p5] at e14
  have e16 := f16 5 0 0 7 7 (cellsTo 5 [32] 32) [32] (fiTo [32] [32].length) al awk_cell
  have e15 := f15 5 (cellsTo 5 [32] 32) [32] (fiTo [32] [32].length) al
  have hl : (cellsTo 5 [32] 32).length = 32 := by simp [cellsTo]
  rw [hl] at e15
  have c7 : ((7 : Nat) : Int) = 7 := rfl
  have c32 : ((32 : Nat) : Int) = 32 := rfl
  generalize cellsTo 5 [32] 32 = cs at *
  generalize fiTo [32] [32].length = fi at *
  simp only [tabHp, cel, List.map_cons, List.map_nil, Sc.sv, c7, c32] at e14 e15 e16
  simp -implicitDefEqProofs [F12, c12, upd, e14, e15, e16, RC.ofElems, RC.len, RC.size, RC.get]
def canon8 (l : List Int) (L st i : Int) (cs : List (List Sc)) (fi al : List Int) : St :=
  ⟨[(2, .one (.int .i64 st)), (7, .one (.ptr 0 0)), (11, .one (.row 5)), (72, .one (.row 5)), (73, .one (.int .i64 cs.length)), (74, .one (.int .i64 i))],
    [.ro 0 (.ints .i64 l), .int .i64 L, .int .i64 st], tabHp none L cs l fi al ++ [.rows (.recs 3 cs)]⟩
theorem body8 (l : List Int) (L st s b base i' : Int) (i : Nat) (cs : List (List Sc)) (fi al : List Int) (hc : cs[i]? = some [.int .u8 s, .int .i64 b, .int .i64 base]) (wi : IntKind.i64.wrap ((i : Int) + 1) = i') :
    ∃ st1, evC T8 KK b8x0 (canon8 l L st i cs fi al) = some (.norm, st1) ∧ St.head [2, 7, 11, 72, 73, 74] st1 = canon8 l L st i' cs fi al := by
  have e16 := f16 L s b base i cs l fi al hc
  have l2 := (List.getElem?_eq_some_iff.1 hc).1
  have l2i : (i : Int) < cs.length := by omega
  have hc' : ∀ hh, cs[i]'hh = [Sc.int .u8 s, .int .i64 b, .int .i64 base] := fun hh => by rw [List.getElem?_eq_getElem hh] at hc; simpa using hc
  simp only [tabHp, cel, List.map_cons, List.map_nil, Sc.sv] at e16
  simp -implicitDefEqProofs [b8x0, canon8, tabHp, upd, l2, l2i, hc, hc', wi, e16, takeE, RC.len, RC.size, RC.get, RC.elem]
theorem end8 (l : List Int) (L st i : Int) (cs : List (List Sc)) (fi al : List Int) (h : ¬ i < cs.length) :
    ∃ env, evC T8 KK b8x0 (canon8 l L st i cs fi al) = some (.exit 0, ⟨env, [.ro 0 (.ints .i64 l), .int .i64 L, .int .i64 st], tabHp none L cs l fi al ++ [.rows (.recs 3 cs)]⟩) ∧ getT 2 env = .one (.int .i64 st) ∧ getT 7 env = .one (.ptr 0 0) ∧ getT 11 env = .one (.row 5) := by
  simp -implicitDefEqProofs [b8x0, canon8, tabHp, upd, h]
theorem loop8 (l : List Int) (L st : Int) (cs : List (List Sc)) (fi al : List Int) (hcs : cs.length ≤ 1000) (hc : ∀ i, i < cs.length → ∃ s b base : Int, cs[i]? = some [.int .u8 s, .int .i64 b, .int .i64 base]) : ∀ (j i K : Nat), i + j = cs.length → j < K →
    ∃ env, loopH (evC T8 KK b8x0) [2, 7, 11, 72, 73, 74] K (canon8 l L st i cs fi al) = some (.exit 0, ⟨env, [.ro 0 (.ints .i64 l), .int .i64 L, .int .i64 st], tabHp none L cs l fi al ++ [.rows (.recs 3 cs)]⟩) ∧ getT 2 env = .one (.int .i64 st) ∧ getT 7 env = .one (.ptr 0 0) ∧ getT 11 env = .one (.row 5)
  | 0, i, K, hj, hK => by
    obtain ⟨env, e, g⟩ := end8 l L st i cs fi al (by omega)
    exact ⟨env, loopH_exit e, g⟩
  | j + 1, i, K, hj, hK => by
    obtain ⟨s, b, base, h⟩ := hc i (by omega)
    obtain ⟨st1, e1, e2⟩ := body8 l L st s b base ((i + 1 : Nat) : Int) i cs fi al h (by rw [i64_in _ (by omega)]; omega)
    obtain ⟨env, q1, q2⟩ := loop8 l L st cs fi al hcs hc j (i + 1) (K - 1) (by omega) (by omega)
    refine ⟨env, ?_, q2⟩
    rw [loopH_norm e1 (by omega), e2, q1]
theorem law8 (a0 : List Int) (a1 a2 : Int) (_ : a0.length ≤ maxLen) (w0 : ∀ z ∈ a0, (Lit.int .i64 z).wf = true) (_ : (Lit.int .i64 a1).wf = true) (_ : (Lit.int .i64 a2).wf = true) :
    F8 [.one (.ro 0 (.ints .i64 a0)), .one (.int .i64 a1), .one (.int .i64 a2)] [] = some (.one (.bool true), []) := by
  by_cases h3 : 300 < a0.length
  · have h3i : (300 : Int) < a0.length := by omega
    simp -implicitDefEqProofs [F8, c8, upd, h12, RC.len, h3, h3i]
  have h3i : ¬ (300 : Int) < a0.length := by omega
  have e13 := f13 0 a0 a1 (by omega)
  cases hf : fairB a0 a1 with
  | false =>
    rw [hf] at e13
    have e14 := f14n 0 a0 a1 (by omega) hf
    have e16 := f16z a2
    simp only [cel, List.map_cons, List.map_nil, Sc.sv] at e16
    simp -implicitDefEqProofs [F8, c8, upd, h12, RC.len, h3, h3i, e13, e14, e16, f15z, f36z]
  | true =>
    rw [hf] at e13
    obtain ⟨L, rfl, S⟩ := shr_of hf
    obtain ⟨al, e14, h1, h2⟩ := f14 0 a0 (natsOf a0) S hf
    have e37 := f37 0 a0 (natsOf a0) S
    have hsz := S.size
    have hcl : (cellsTo L (natsOf a0) (2 ^ L)).length = 2 ^ L := cellsTo_length _ _ _
    have hcg : ∀ i, i < (cellsTo L (natsOf a0) (2 ^ L)).length → ∃ s b base : Int, (cellsTo L (natsOf a0) (2 ^ L))[i]? = some [Sc.int .u8 s, .int .i64 b, .int .i64 base] := fun i hi => ⟨_, _, _, cellsTo_get (by omega)⟩
    generalize cellsTo L (natsOf a0) (2 ^ L) = cs at *
    generalize fiTo (natsOf a0) (natsOf a0).length = fi at *
    obtain ⟨env, el, g2, g7, g11⟩ := loop8 a0 L a2 cs fi al (by omega) hcg cs.length 0 KK (by omega) (by rw [KK_eq]; omega)
    have e15 := f15 L cs a0 fi al
    have e36 := f36 L cs a0 fi al
    have z : ((0 : Nat) : Int) = 0 := rfl
    simp only [tabHp, canon8, z, List.cons_append, List.nil_append] at e14 e15 e36 el
    by_cases hin : 0 ≤ a2 ∧ a2 < cs.length
    · obtain ⟨i, rfl⟩ : ∃ i : Nat, a2 = i := ⟨a2.toNat, by omega⟩
      obtain ⟨s, b, base, hc⟩ := hcg i (by omega)
      have e16 := f16 L s b base i cs a0 fi al hc
      have hi1 : (0 : Int) ≤ i := hin.1
      have hi2 : (i : Int) < cs.length := hin.2
      have hi3 : i < cs.length := by omega
      simp only [tabHp, cel, List.map_cons, List.map_nil, Sc.sv] at e16
      simp -implicitDefEqProofs [F8, c8, upd, h12, RC.len, RC.size, h3, h3i, e13, e14, e37, e15, e36, el, g2, g7, g11, e16, hi1, hi2, hi3]
    · have e16 := f16n L a2 cs a0 fi al hin
      simp only [tabHp, cel, List.map_cons, List.map_nil, Sc.sv] at e16
      by_cases h0 : 0 ≤ a2
      · have h1' : ¬ a2 < cs.length := fun h => hin ⟨h0, h⟩
        simp -implicitDefEqProofs [F8, c8, upd, h12, RC.len, RC.size, h3, h3i, e13, e14, e37, e15, e36, el, g2, g7, g11, e16, h0, h1']
      · simp -implicitDefEqProofs [F8, c8, upd, h12, RC.len, RC.size, h3, h3i, e13, e14, e37, e15, e36, el, g2, g7, g11, e16, h0]
end Go.X.Try
