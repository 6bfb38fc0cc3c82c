import Derived.Test.YtejcknhmobnbeaaSp
set_option maxRecDepth 100000
set_option linter.unusedSimpArgs false
set_option linter.unusedVariables false
namespace Go.X.Try
open Go.IntWalk
def canon3a (l : List Int) (L i : Int) (cs : List (List Sc)) (fi al me re : List Int) : St :=
  ⟨[(0, .one (.ro 0 (.ints .i64 l))), (1, .one (.int .i64 L)), (5, .one (.ptr 0 0)), (7, .one (.row 5)), (8, .one (.row 6)), (40, .one (.int .i64 cs.length)), (41, .one (.int .i64 i))],
    [.ro 0 (.ints .i64 l), .int .i64 L], tabHp none L cs l fi al ++ [.rows (.ints .i64 me), .rows (.ints .i64 re)]⟩
theorem body3a (l : List Int) (L b base p e m m' r r' i' : Int) (i s : Nat) (cs : List (List Sc)) (fi al me re : List Int) (hc : cs[i]? = some [.int .u8 (s : Int), .int .i64 b, .int .i64 base]) (ws : IntKind.i64.wrap (s : Int) = s) (hs : s < l.length) (b0 : ¬ b < 0) (b1 : ¬ L < b) (b2 : ¬ base < 0)
    (hp : shlI .i64 1 b = p) (we : IntKind.i64.wrap (base + p) = e) (he : ¬ (cs.length : Int) < e) (hm : me[s]? = some m) (wm : IntKind.i64.wrap (m + 1) = m') (hr : re[s]? = some r) (wr : IntKind.i64.wrap (r + p) = r') (wi : IntKind.i64.wrap ((i : Int) + 1) = i') :
    ∃ st1, evC T3 KK b3x0 (canon3a l L i cs fi al me re) = some (.norm, st1) ∧ St.head [0, 1, 5, 7, 8, 40, 41] st1 = canon3a l L i' cs fi al (me.set s m') (re.set s r') := by
  have e16 := f16 L s b base i cs l fi al hc
  have e15 := f15 L cs l fi al
  have l2 := (List.getElem?_eq_some_iff.1 hc).1
  have l2i : (i : Int) < cs.length := by omega
  have hsi : (s : Int) < l.length := by omega
  have hsi' : ¬ (l.length : Int) ≤ s := by omega
  have hsn' : ¬ l.length ≤ s := by omega
  have lm := (List.getElem?_eq_some_iff.1 hm).1
  have lr := (List.getElem?_eq_some_iff.1 hr).1
  have lmi : (s : Int) < me.length := by omega
  have lri : (s : Int) < re.length := by omega
  have hm' : ∀ hh, me[s]'hh = m := fun hh => by rw [List.getElem?_eq_getElem hh] at hm; simpa using hm
  have hr' : ∀ hh, re[s]'hh = r := fun hh => by rw [List.getElem?_eq_getElem hh] at hr; simpa using hr
  simp only [tabHp, cel, List.map_cons, List.map_nil, Sc.sv] at e16 e15
  simp -implicitDefEqProofs [b3x0, canon3a, tabHp, upd, l2, l2i, e16, e15, ws, hs, hsi, hsi', hsn', b0, b1, b2, hp, we, he, lm, lr, lmi, lri, hm, hm', hr, hr', wm, wr, wi, RC.len, RC.size, RC.get, RC.set]
theorem end3a (l : List Int) (L i : Int) (cs : List (List Sc)) (fi al me re : List Int) (h : ¬ i < cs.length) :
    ∃ env, evC T3 KK b3x0 (canon3a l L i cs fi al me re) = some (.exit 0, ⟨env, [.ro 0 (.ints .i64 l), .int .i64 L], tabHp none L cs l fi al ++ [.rows (.ints .i64 me), .rows (.ints .i64 re)]⟩) ∧ getT 0 env = .one (.ro 0 (.ints .i64 l)) ∧ getT 5 env = .one (.ptr 0 0) ∧ getT 7 env = .one (.row 5) ∧ getT 8 env = .one (.row 6) := by
  simp -implicitDefEqProofs [b3x0, canon3a, tabHp, upd, h]
def reTo (L : Nat) (sh : List Nat) (i : Nat) : List Int := (List.range sh.length).map fun s => ((gsum L (sh.getD s 0) (((symOf sh).take i).count s) : Nat) : Int)
theorem reTo_length (L : Nat) (sh : List Nat) (i : Nat) : (reTo L sh i).length = sh.length := by simp [reTo]
theorem reTo_set {L : Nat} {sh : List Nat} {i s : Nat} (h : (symOf sh)[i]? = some s) : (reTo L sh i).set s ((gsum L (sh.getD s 0) (((symOf sh).take i).count s) + 2 ^ (L + 1 - bl (sh.getD s 0 + ((symOf sh).take i).count s)) : Nat) : Int) = reTo L sh (i + 1) := by
  obtain ⟨h1, h2⟩ := List.getElem?_eq_some_iff.1 h
  apply List.ext_getElem (by simp [reTo])
  intro k h3 h4
  rw [List.getElem_set]
  simp only [reTo, List.getElem_map, List.getElem_range, count_take_succ h1, h2]
  by_cases e : s = k
  · subst e; rw [if_pos rfl, if_pos rfl]; rfl
  · rw [if_neg e, if_neg e]; rfl
theorem gsum_mono (L n : Nat) {a b : Nat} (h : a ≤ b) : gsum L n a ≤ gsum L n b := by
  induction h with
  | refl => exact Nat.le_refl _
  | step _ ih => exact Nat.le_trans ih (Nat.le_add_right _ _)
theorem loop3a (l : List Int) (sh : List Nat) {L : Nat} (S : Shr l L sh) (fi al : List Int) : ∀ (j i K : Nat), i + j = 2 ^ L → j < K →
    ∃ env, loopH (evC T3 KK b3x0) [0, 1, 5, 7, 8, 40, 41] K (canon3a l L i (cellsTo L sh (2 ^ L)) fi al (metTo sh i) (reTo L sh i)) =
      some (.exit 0, ⟨env, [.ro 0 (.ints .i64 l), .int .i64 L], tabHp none L (cellsTo L sh (2 ^ L)) l fi al ++ [.rows (.ints .i64 (metTo sh (2 ^ L))), .rows (.ints .i64 (reTo L sh (2 ^ L)))]⟩) ∧ getT 0 env = .one (.ro 0 (.ints .i64 l)) ∧ getT 5 env = .one (.ptr 0 0) ∧ getT 7 env = .one (.row 5) ∧ getT 8 env = .one (.row 6)
  | 0, i, K, hj, hK => by
    obtain rfl : i = 2 ^ L := by omega
    obtain ⟨env, e, g⟩ := end3a l L (2 ^ L : Nat) (cellsTo L sh (2 ^ L)) fi al (metTo sh (2 ^ L)) (reTo L sh (2 ^ L)) (by rw [cellsTo_length]; omega)
    exact ⟨env, loopH_exit e, g⟩
  | j + 1, i, K, hj, hK => by
    have hsz := S.size
    have h9 := S.hi
    have hlen := S.len
    have hl : l.length = sh.length := by rw [S.eq]; simp
    have hi : i < 2 ^ L := by omega
    obtain ⟨s, n, k1, k2, k3, k4, k5, k6, k7, k8, k9, k10⟩ := cellSc_ok S hi
    have hc := cellsTo_get (sh := sh) hi
    rw [k7] at hc
    have hsl := (List.getElem?_eq_some_iff.1 k2).1
    have hnD : sh.getD s 0 = n := by simp [List.getD, k2]
    have hb : bOf L sh i = L + 1 - bl (yOf sh i) := rfl
    have hset := reTo_set (L := L) k1
    have hmet := metTo_set k1
    rw [hnD] at hset
    generalize hcc : ((symOf sh).take i).count s = c at *
    rw [← k3, ← hb] at hset
    have hg : gsum L n c + 2 ^ bOf L sh i ≤ 2 ^ L := by
      rw [hb, k3]
      have h1 := gsum_mono L n (show c + 1 ≤ n by omega)
      rw [gsum_all (by omega) k5] at h1
      exact h1
    have hpw1 : 2 ^ (L + 1) = 2 * 2 ^ L := by rw [Nat.pow_succ]; omega
    rw [Nat.add_mul, Nat.one_mul] at k10
    have hpb := Nat.two_pow_pos (bOf L sh i)
    obtain ⟨st1, e1, e2⟩ := body3a l L (bOf L sh i : Nat) (baseOf L sh i : Nat) ((2 ^ bOf L sh i : Nat) : Int) ((baseOf L sh i + 2 ^ bOf L sh i : Nat) : Int) (c : Nat) ((c + 1 : Nat) : Int) ((gsum L n c : Nat) : Int) ((gsum L n c + 2 ^ bOf L sh i : Nat) : Int) ((i + 1 : Nat) : Int) i s (cellsTo L sh (2 ^ L)) fi al (metTo sh i) (reTo L sh i) hc (i64_in _ (by omega)) (by omega) (by omega) (by omega) (by omega)
      (shl1 (by omega)) (by rw [i64_in _ (by omega)]; omega) (by rw [cellsTo_length]; omega) (by simp [metTo, List.getElem?_map, List.getElem?_range hsl, hcc]) (by rw [i64_in _ (by omega)]; omega) (by simp [reTo, List.getElem?_map, List.getElem?_range hsl, hcc, List.getD, k2]) (by rw [i64_in _ (by omega)]; omega) (by rw [i64_in _ (by omega)]; omega)
    rw [hmet, hset] at e2
    obtain ⟨env, q1, q2⟩ := loop3a l sh S fi al j (i + 1) (K - 1) (by omega) (by omega)
    refine ⟨env, ?_, q2⟩
    rw [loopH_norm e1 (by omega), e2, q1]
def canon3b (l : List Int) (L i : Int) (cs : List (List Sc)) (fi al me re : List Int) : St :=
  ⟨[(5, .one (.ptr 0 0)), (7, .one (.row 5)), (8, .one (.row 6)), (101, .one (.ro 0 (.ints .i64 l))), (102, .one (.int .i64 l.length)), (103, .one (.int .i64 i))],
    [.ro 0 (.ints .i64 l), .int .i64 L], tabHp none L cs l fi al ++ [.rows (.ints .i64 me), .rows (.ints .i64 re)]⟩
theorem body3b (l : List Int) (L n i' : Int) (i : Nat) (cs : List (List Sc)) (fi al me re : List Int) (hn : l[i]? = some n) (hm : me[i]? = some n) (hrl : i < re.length) (hr : 0 < n → re[i]? = some (cs.length : Int)) (wi : IntKind.i64.wrap ((i : Int) + 1) = i') :
    ∃ st1, evC T3 KK b3x1 (canon3b l L i cs fi al me re) = some (.norm, st1) ∧ St.head [5, 7, 8, 101, 102, 103] st1 = canon3b l L i' cs fi al me re := by
  have e15 := f15 L cs l fi al
  have l1 := (List.getElem?_eq_some_iff.1 hn).1
  have lm := (List.getElem?_eq_some_iff.1 hm).1
  have l1i : (i : Int) < l.length := by omega
  have lmi : (i : Int) < me.length := by omega
  have lri : (i : Int) < re.length := by omega
  have hn' : ∀ hh, l[i]'hh = n := fun hh => by rw [List.getElem?_eq_getElem hh] at hn; simpa using hn
  have hm' : ∀ hh, me[i]'hh = n := fun hh => by rw [List.getElem?_eq_getElem hh] at hm; simpa using hm
  simp only [tabHp] at e15
  by_cases h : 0 < n
  · have hr := hr h
    have hr' : ∀ hh, re[i]'hh = cs.length := fun hh => by rw [List.getElem?_eq_getElem hh] at hr; simpa using hr
    simp -implicitDefEqProofs [b3x1, canon3b, tabHp, upd, l1, lm, l1i, lmi, lri, hrl, hn, hn', hm, hm', hr, hr', h, e15, wi, RC.len, RC.size, RC.get]
  · simp -implicitDefEqProofs [b3x1, canon3b, tabHp, upd, l1, lm, l1i, lmi, lri, hrl, hn, hn', hm, hm', h, e15, wi, RC.len, RC.size, RC.get]
theorem end3b (l : List Int) (L i : Int) (cs : List (List Sc)) (fi al me re : List Int) (h : ¬ i < l.length) :
    ∃ env, evC T3 KK b3x1 (canon3b l L i cs fi al me re) = some (.exit 2, ⟨env, [.ro 0 (.ints .i64 l), .int .i64 L], tabHp none L cs l fi al ++ [.rows (.ints .i64 me), .rows (.ints .i64 re)]⟩) := by
  simp -implicitDefEqProofs [b3x1, canon3b, tabHp, upd, h]
theorem loop3b (l : List Int) (L : Int) (cs : List (List Sc)) (fi al me re : List Int) (hl : l.length ≤ 1000) (hme : ∀ (i : Nat) (n : Int), l[i]? = some n → me[i]? = some n ∧ i < re.length ∧ (0 < n → re[i]? = some (cs.length : Int))) : ∀ (j i K : Nat), i + j = l.length → j < K →
    ∃ env, loopH (evC T3 KK b3x1) [5, 7, 8, 101, 102, 103] K (canon3b l L i cs fi al me re) = some (.exit 2, ⟨env, [.ro 0 (.ints .i64 l), .int .i64 L], tabHp none L cs l fi al ++ [.rows (.ints .i64 me), .rows (.ints .i64 re)]⟩)
  | 0, i, K, hj, hK => by
    obtain ⟨env, e⟩ := end3b l L i cs fi al me re (by omega)
    exact ⟨env, loopH_exit e⟩
  | j + 1, i, K, hj, hK => by
    obtain ⟨n, hn⟩ : ∃ n, l[i]? = some n := ⟨_, List.getElem?_eq_getElem (by omega)⟩
    obtain ⟨h1, h2, h3⟩ := hme i n hn
    obtain ⟨st1, e1, e2⟩ := body3b l L n ((i + 1 : Nat) : Int) i cs fi al me re hn h1 h2 h3 (by rw [i64_in _ (by omega)]; omega)
    obtain ⟨env, q⟩ := loop3b l L cs fi al me re hl hme j (i + 1) (K - 1) (by omega) (by omega)
    refine ⟨env, ?_⟩
    rw [loopH_norm e1 (by omega), e2, q]
theorem law3 (a0 : List Int) (a1 : Int) (_ : a0.length ≤ maxLen) (w0 : ∀ z ∈ a0, (Lit.int .i64 z).wf = true) (_ : (Lit.int .i64 a1).wf = true) :
    F3 [.one (.ro 0 (.ints .i64 a0)), .one (.int .i64 a1)] [] = some (.one (.bool true), []) := by
  by_cases h3 : 300 < a0.length
  · have h3i : (300 : Int) < a0.length := by omega
    simp -implicitDefEqProofs [F3, c3, upd, h12, RC.len, h3, h3i]
  have h3i : ¬ (300 : Int) < a0.length := by omega
  have e13 := f13 0 a0 a1 (by omega)
  cases hf : fairB a0 a1 with
  | false =>
    rw [hf] at e13
    simp -implicitDefEqProofs [F3, c3, upd, h12, RC.len, h3, h3i, e13]
  | true =>
    rw [hf] at e13
    obtain ⟨L, rfl, S⟩ := shr_of hf
    obtain ⟨al, e14, hal, hok⟩ := f14 0 a0 (natsOf a0) S hf
    generalize hshe : natsOf a0 = sh at *
    have hsz := S.size
    have hl : a0.length = sh.length := by rw [S.eq]; simp
    have hlen := S.len
    have hcl : (cellsTo L sh (2 ^ L)).length = 2 ^ L := cellsTo_length _ _ _
    obtain ⟨env1, ea, g0, g5, g7, g8⟩ := loop3a a0 sh S (fiTo sh sh.length) al (2 ^ L) 0 KK (by omega) (by rw [KK_eq]; omega)
    have hsyl : (symOf sh).length = 2 ^ L := by rw [symOf_length, S.sum]
    have hfin : ∀ s, ((symOf sh).take (2 ^ L)).count s = (sh[s]?).getD 0 := fun s => by
      rw [List.take_of_length_le (by omega), sym_count S.sum S.lo]
    obtain ⟨env2, eb⟩ := loop3b a0 L (cellsTo L sh (2 ^ L)) (fiTo sh sh.length) al (metTo sh (2 ^ L)) (reTo L sh (2 ^ L)) (by omega) (fun i n hn => by
      have hi : i < sh.length := by have := (List.getElem?_eq_some_iff.1 hn).1; omega
      rw [S.eq, List.getElem?_map, List.getElem?_eq_getElem hi] at hn
      simp only [Option.map_some, Option.some.injEq] at hn
      subst hn
      refine ⟨?_, by rw [reTo_length]; exact hi, fun h0 => ?_⟩
      · simp only [metTo, List.getElem?_map, List.getElem?_range hi, Option.map_some, hfin, List.getElem?_eq_getElem hi, Option.getD_some]
      · simp only [reTo, List.getElem?_map, List.getElem?_range hi, Option.map_some, hfin, List.getElem?_eq_getElem hi, Option.getD_some, List.getD]
        have hle : sh[i] ≤ 2 ^ L := by
          have h1 := fstS_succ hi
          have h2 := fstS_le sh (i + 1)
          have := S.sum
          omega
        rw [gsum_all (by omega) hle, hcl]) a0.length 0 KK (by omega) (by rw [KK_eq]; omega)
    have m0 : metTo sh 0 = List.replicate a0.length 0 := by
      apply List.ext_getElem (by simp [metTo, hl]); intro k _ _; simp [metTo]
    have r0 : reTo L sh 0 = List.replicate a0.length 0 := by
      apply List.ext_getElem (by simp [reTo, hl]); intro k _ _; simp [reTo, gsum]
    rw [m0, r0] at ea
    have e15 := f15 L (cellsTo L sh (2 ^ L)) a0 (fiTo sh sh.length) al
    generalize cellsTo L sh (2 ^ L) = cs at *
    generalize fiTo sh sh.length = fi at *
    generalize metTo sh (2 ^ L) = me at *
    generalize reTo L sh (2 ^ L) = re at *
    have n1 : (a0.length : Int) * 8 ≤ 140737488355328 := by omega
    have z : ((0 : Nat) : Int) = 0 := rfl
    simp only [tabHp, canon3a, canon3b, z, List.cons_append, List.nil_append] at e14 e15 ea eb
    simp -implicitDefEqProofs [F3, c3, upd, h12, RC.len, RC.size, h3, h3i, e13, e14, e15, ea, eb, g0, g5, g7, g8, n1, mks_ints]
end Go.X.Try
