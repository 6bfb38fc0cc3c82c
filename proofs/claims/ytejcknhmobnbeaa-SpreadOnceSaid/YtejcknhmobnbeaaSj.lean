import Derived.Test.YtejcknhmobnbeaaSi
set_option maxRecDepth 100000
set_option linter.unusedSimpArgs false
set_option linter.unusedVariables false
namespace Go.X.Try
open Go.IntWalk
def cellSc (L : Nat) (sh : List Nat) (i : Nat) : List Sc := [.int .u8 (((symOf sh).getD i 0 : Nat) : Int), .int .i64 ((bOf L sh i : Nat) : Int), .int .i64 ((baseOf L sh i : Nat) : Int)]
def cellsTo (L : Nat) (sh : List Nat) (st : Nat) : List (List Sc) := (List.range (2 ^ L)).map fun i => if i < st then cellSc L sh i else [.int .u8 0, .int .i64 0, .int .i64 0]
def metTo (sh : List Nat) (st : Nat) : List Int := (List.range sh.length).map fun s => ((((symOf sh).take st).count s : Nat) : Int)
theorem cellsTo_length (L : Nat) (sh : List Nat) (st : Nat) : (cellsTo L sh st).length = 2 ^ L := by simp [cellsTo]
theorem metTo_length (sh : List Nat) (st : Nat) : (metTo sh st).length = sh.length := by simp [metTo]
theorem cellsTo_set (L : Nat) (sh : List Nat) (st : Nat) : (cellsTo L sh st).set st (cellSc L sh st) = cellsTo L sh (st + 1) := by
  apply List.ext_getElem (by simp [cellsTo])
  intro k h1 h2
  rw [List.getElem_set]
  simp only [cellsTo, List.getElem_map, List.getElem_range]
  by_cases e : st = k
  · subst e; simp
  · rw [if_neg e]
    by_cases h3 : k < st
    · rw [if_pos h3, if_pos (by omega)]
    · rw [if_neg h3, if_neg (by omega)]
theorem metTo_set {sh : List Nat} {st s : Nat} (h : (symOf sh)[st]? = some s) : (metTo sh st).set s (((((symOf sh).take st).count s + 1 : Nat)) : Int) = metTo sh (st + 1) := by
  obtain ⟨h1, h2⟩ := List.getElem?_eq_some_iff.1 h
  apply List.ext_getElem (by simp [metTo])
  intro k h3 h4
  rw [List.getElem_set]
  simp only [metTo, List.getElem_map, List.getElem_range, count_take_succ h1, h2]
  by_cases e : s = k
  · subst e; simp
  · rw [if_neg e, if_neg e]; rfl
/-- Where each state lies in the list of all. -/
def AllOk (sh : List Nat) (st : Nat) (al : List Int) : Prop := ∀ i s, i < st → (symOf sh)[i]? = some s → al[fstS sh s + ((symOf sh).take i).count s]? = some (i : Int)
theorem end14b (t : Nat) (l : List Int) (L size i : Int) (cs : List (List Sc)) (fi al me sy : List Int) (hi : ¬ i < sy.length) :
    evC T14 KK b14x1 (canon14b t l L size i cs fi al me sy) = some (.exit 2, ⟨(60, .one (.bool false)) :: (canon14b t l L size i cs fi al me sy).env, (canon14b t l L size i cs fi al me sy).rts, tabHp none L cs l fi al ++ [.rows (.ints .i64 me), .rows (.ints .u8 sy)]⟩) := by
  simp -implicitDefEqProofs [b14x1, canon14b, upd, hi]
theorem loop14b (t : Nat) (l : List Int) (sh : List Nat) {L : Nat} (S : Shr l L sh) : ∀ (j st : Nat) (al : List Int) (K : Nat), st + j = 2 ^ L → al.length = 2 ^ L → AllOk sh st al → j < K →
    ∃ al', loopH (evC T14 KK b14x1) [0, 1, 6, 7, 11, 57, 58, 59] K (canon14b t l L (2 ^ L : Nat) st (cellsTo L sh st) (fiTo sh sh.length) al (metTo sh st) (ci (symOf sh))) =
      some (.exit 2, ⟨(60, .one (.bool false)) :: (canon14b t l L (2 ^ L : Nat) (2 ^ L : Nat) (cellsTo L sh (2 ^ L)) (fiTo sh sh.length) al' (metTo sh (2 ^ L)) (ci (symOf sh))).env, [.ro t (.ints .i64 l), .int .i64 L], tabHp none L (cellsTo L sh (2 ^ L)) l (fiTo sh sh.length) al' ++ [.rows (.ints .i64 (metTo sh (2 ^ L))), .rows (.ints .u8 (ci (symOf sh)))]⟩) ∧ al'.length = 2 ^ L ∧ AllOk sh (2 ^ L) al'
  | 0, st, al, K, hj, hal, hok, hK => by
    obtain rfl : st = 2 ^ L := by omega
    have hsl : (ci (symOf sh)).length = 2 ^ L := by rw [ci_length, symOf_length, S.sum]
    exact ⟨al, loopH_exit (end14b t l L _ _ _ _ _ _ _ (by omega)), hal, hok⟩
  | j + 1, st, al, K, hj, hal, hok, hK => by
    have hsz := S.size
    have hsl : (symOf sh).length = 2 ^ L := by rw [symOf_length, S.sum]
    have hi : st < (symOf sh).length := by omega
    obtain ⟨s, hs⟩ : ∃ s, (symOf sh)[st]? = some s := ⟨_, List.getElem?_eq_getElem hi⟩
    obtain ⟨n, hn, hy, hr, hnL⟩ := y_bd S.sum S.lo hs
    have hsl2 := (List.getElem?_eq_some_iff.1 hn).1
    have hlen := S.len
    have hq := slot_lt hn hr
    rw [S.sum] at hq
    generalize hc : ((symOf sh).take st).count s = c at *
    have hfs := fstS_le sh s
    rw [S.sum] at hfs
    have hyb : yOf sh st < 2 ^ (L + 1) := by rw [Nat.pow_succ]; omega
    obtain ⟨b1, b2, b3, b4⟩ := cell_bd (L := L) (y := yOf sh st) (by omega) hyb
    have hL9 := S.hi
    have e60 := e60 ((n + c : Nat) : Int) (by omega) (by omega)
    rw [Int.toNat_natCast, ← hy] at e60
    have hb : bOf L sh st = L + 1 - bl (yOf sh st) := rfl
    have hbase : baseOf L sh st = yOf sh st * 2 ^ bOf L sh st - 2 ^ L := rfl
    rw [← hb] at b3 b4
    have hpw : 2 ^ (L + 1) ≤ 1024 := by rw [Nat.pow_succ]; omega
    have hmul : yOf sh st * 2 ^ bOf L sh st ≤ 1024 := by
      have : yOf sh st * 2 ^ bOf L sh st ≤ (yOf sh st + 1) * 2 ^ bOf L sh st := Nat.mul_le_mul_right _ (by omega)
      omega
    have hshl : shlI .i64 ((yOf sh st : Nat) : Int) ((bOf L sh st : Nat) : Int) = ((yOf sh st * 2 ^ bOf L sh st : Nat) : Int) := by
      have hmin : Nat.min (((bOf L sh st : Nat) : Int)).toNat 64 = bOf L sh st := by rw [Int.toNat_natCast]; exact Nat.min_eq_left (by omega)
      have : shlI .i64 ((yOf sh st : Nat) : Int) ((bOf L sh st : Nat) : Int) = IntKind.i64.wrap (((yOf sh st : Nat) : Int) * 2 ^ Nat.min (((bOf L sh st : Nat) : Int)).toNat 64) := rfl
      rw [this, hmin]
      have e2 : ((yOf sh st : Nat) : Int) * (2 : Int) ^ bOf L sh st = ((yOf sh st * 2 ^ bOf L sh st : Nat) : Int) := by push_cast; rfl
      rw [e2]; exact i64_in _ (by omega)
    have hcell : (cellsTo L sh st)[st]? = some [.int .u8 0, .int .i64 0, .int .i64 0] := by
      simp [cellsTo, List.getElem?_map, List.getElem?_range (show st < 2 ^ L by omega)]
    obtain ⟨st1, q1, q2⟩ := body14b t l L (2 ^ L : Nat) (n : Nat) (c : Nat) ((yOf sh st : Nat) : Int) ((fstS sh s : Nat) : Int) ((bl (yOf sh st) : Nat) : Int) ((L : Int) - bl (yOf sh st)) ((bOf L sh st : Nat) : Int) ((yOf sh st * 2 ^ bOf L sh st : Nat) : Int) ((baseOf L sh st : Nat) : Int) ((c + 1 : Nat) : Int) ((st + 1 : Nat) : Int) st s (fstS sh s + c) _ _ _ (cellsTo L sh st) (fiTo sh sh.length) al (metTo sh st) (ci (symOf sh))
      (by rw [ci_length]; omega) (by rw [cellsTo_length, ci_length, hsl]) (ci_get hs) (by rw [S.eq, List.getElem?_map, hn]; rfl) (by simp [metTo, List.getElem?_map, List.getElem?_range hsl2, hc]) (by simp [fiTo, List.getElem?_map, List.getElem?_range hsl2, hsl2])
      (by rw [i64_in _ (by omega)]; omega) (by rw [i64_in _ (by omega)]; omega) (by omega) (by rw [i64_in _ (by omega)]; omega) (u32_in _ (by omega)) e60 (i64_in _ (by omega)) (by rw [i64_in _ (by omega)]; omega) (by omega) hshl (by rw [i64_in _ (by omega)]; omega) hcell (by rw [i64_in _ (by omega)]; omega)
    have ecell : [Sc.int .u8 (s : Int), .int .i64 ((bOf L sh st : Nat) : Int), .int .i64 ((baseOf L sh st : Nat) : Int)] = cellSc L sh st := by simp [cellSc, List.getD, hs]
    have emet := metTo_set hs
    rw [hc] at emet
    rw [ecell, cellsTo_set, emet] at q2
    obtain ⟨al', r1, r2, r3⟩ := loop14b t l sh S j (st + 1) (al.set (fstS sh s + c) st) (K - 1) (by omega) (by simpa using hal) (fun i s' hi' hs' => by
      rcases Nat.lt_or_ge i st with h | h
      · have hold := hok i s' h hs'
        obtain ⟨n', hn', _, hr', _⟩ := y_bd S.sum S.lo hs'
        rw [List.getElem?_set_ne]
        · exact hold
        · intro e
          obtain ⟨rfl, e2⟩ := slot_inj hn hn' hr hr' e
          have := rk_strict hs' h
          omega
      · obtain rfl : i = st := by omega
        rw [hs] at hs'; simp at hs'; subst hs'
        rw [hc, List.getElem?_set_self (by omega)]) (by omega)
    refine ⟨al', ?_, r2, r3⟩
    rw [loopH_norm q1 (by omega), q2, r1]
theorem f14n (t : Nat) (l : List Int) (log : Int) (hl : l.length ≤ 300) (hf : fairB l log = false) : F14 [.one (.ro t (.ints .i64 l)), .one (.int .i64 log)] [] = some (.tup [.one .nilp, .one (.bool false)], []) := by
  have e58 := fun t => f58 t l log hl
  rw [hf] at e58
  simp -implicitDefEqProofs [F14, c14, upd, e58]
theorem f14 (t : Nat) (l : List Int) (sh : List Nat) {L : Nat} (S : Shr l L sh) (hf : fairB l L = true) :
    ∃ al, F14 [.one (.ro t (.ints .i64 l)), .one (.int .i64 L)] [] = some (.tup [.one (.ptr 0 0), .one (.bool true)], tabHp none L (cellsTo L sh (2 ^ L)) l (fiTo sh sh.length) al) ∧ al.length = 2 ^ L ∧ AllOk sh (2 ^ L) al := by
  have hl : l.length = sh.length := by rw [S.eq]; simp
  have hlen := S.len
  have hsz := S.size
  have e58 := fun t => f58 t l L (by omega)
  rw [hf] at e58
  have e59 := fun t => f59 t l sh S
  have es := shl9 (log := (L : Int)) ⟨by have := S.lo; omega, by have := S.hi; omega⟩
  rw [Int.toNat_natCast] at es
  have hn0 : ¬ (L : Int) < 0 := by omega
  obtain ⟨at', ea⟩ := loop14a t l sh S (List.replicate (2 ^ L) [.int .u8 0, .int .i64 0, .int .i64 0]) (List.replicate (2 ^ L) 0) sh.length 0 KK (by omega) (by rw [KK_eq]; omega)
  obtain ⟨al', eb, h1, h2⟩ := loop14b t l sh S (2 ^ L) 0 (List.replicate (2 ^ L) 0) KK (by omega) (by simp) (fun i s h _ => by omega) (by rw [KK_eq]; omega)
  refine ⟨al', ?_, h1, h2⟩
  have c0 : cellsTo L sh 0 = List.replicate (2 ^ L) [.int .u8 0, .int .i64 0, .int .i64 0] := by
    apply List.ext_getElem (by simp [cellsTo]); intro k _ _; simp [cellsTo]
  have m0 : metTo sh 0 = List.replicate l.length 0 := by
    apply List.ext_getElem (by simp [metTo, hl]); intro k _ _; simp [metTo]
  have f0 : fiTo sh 0 = List.replicate l.length 0 := by
    apply List.ext_getElem (by simp [fiTo, hl]); intro k _ _; simp [fiTo]
  have g0 : fstS sh 0 = 0 := by simp [fstS]
  have hsl : (ci (symOf sh)).length = 2 ^ L := by rw [ci_length, symOf_length, S.sum]
  have z : ((0 : Nat) : Int) = 0 := rfl
  rw [c0, m0] at eb
  rw [f0, g0] at ea
  generalize hcs : cellsTo L sh (2 ^ L) = cs at *
  generalize hme : metTo sh (2 ^ L) = me at *
  generalize hfi : fiTo sh sh.length = fi at *
  generalize hsy : ci (symOf sh) = sy at *
  have n1 : (l.length : Int) * 8 ≤ 140737488355328 := by omega
  have n2 : l.length * 8 ≤ 140737488355328 := by omega
  generalize hszz : 2 ^ L = sz at *
  have n3 : (sz : Int) * 24 ≤ 140737488355328 := by omega
  have n4 : (sz : Int) * 8 ≤ 140737488355328 := by omega
  have mk1 := fun n => mks_recs n 3 [.int .u8 0, .int .i64 0, .int .i64 0] rfl
  simp only [canon14a, canon14b, tabHp, z, hsl, List.cons_append, List.nil_append] at ea eb
  simp -implicitDefEqProofs [F14, c14, upd, tabHp, e58, e59, es, hn0, ea, eb, n1, n2, n3, n4, mk1, mks_ints, hsl, RC.len, RC.size, RC.app]
end Go.X.Try
