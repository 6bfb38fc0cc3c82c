import Derived.Test.YtdiahnkippoppaaGreatZ4
set_option linter.unusedVariables false
set_option linter.unusedSimpArgs false
set_option linter.unusedSectionVars false
set_option maxRecDepth 100000
namespace Go.X.Tryz
open Go.IntWalk
def wk (L : Nat) (sh : List Nat) : List Int → Nat → Nat → Nat → Option (Nat × Nat × Nat)
  | [], st, c, N => some (st, c, N)
  | y :: ys, st, c, N => match bk L sh st y.toNat with
    | none => none
    | some i => wk L sh ys i (c + bOf L sh i) (N + (st - baseOf L sh i) * 2 ^ c)
def wkR : Option (Nat × Nat × Nat) → AV
  | some (st, _, _) => .tup [.one (.int .i64 st), .one (.bool true)]
  | none => .tup [.one (.int .i64 0), .one (.bool false)]
theorem roundsR_cons (F : Callee) (G t : Nat) (xs : List Int) (live ts : List Nat) (x : Int) (l : List Int) (st : St) : roundsR F G t xs live ts (x :: l) st = stepR F G t xs ts x (roundsR F G t xs live ts l) (st.head live) := rfl
theorem bOf_le {l : List Int} {sh : List Nat} {L : Nat} (S : Shr l L sh) {i : Nat} (hi : i < 2 ^ L) : bOf L sh i ≤ L := by
  obtain ⟨s, m, h1, h2, h3, h4, h5, h6, h7, h8, h9, h10⟩ := cellSc_ok S hi
  exact h8
theorem mod_small {v k : Nat} (h : v < 2 ^ k) : v % 2 ^ k = v := Nat.mod_eq_of_lt h
theorem rounds95w (t : Nat) {l : List Int} {sh : List Nat} {L : Nat} (S : Shr l L sh) {al : List Int} (hok : AllOk sh (2 ^ L) al) (xs : List Int) : ∀ (ys : List Int) (st c N : Nat) (bs : List Int) (s : St), isB ys → st < 2 ^ L → Holds bs c N → c + 9 * ys.length ≤ 700000 →
    At95w t L (cellsTo L sh (2 ^ L)) l (fiTo sh sh.length) al bs xs c st s →
    ∃ (bs' : List Int) (c' : Nat), E95 (roundsR G95 114 16 xs [3, 5, 6, 7, 8, 16] [3, 5, 6, 7, 8] ys s) = some (wkR (wk L sh ys st c N), hp95w L (cellsTo L sh (2 ^ L)) l (fiTo sh sh.length) al bs' c') ∧
      ∀ st1 c1 N1, wk L sh ys st c N = some (st1, c1, N1) → c' = c1 ∧ Holds bs' c1 N1 ∧ st1 < 2 ^ L ∧ c1 ≤ c + 9 * ys.length
  | [], st, c, N, bs, s, _, hst, hH, hc, hat => by
    refine ⟨bs, c, hat.2, ?_⟩
    rintro st1 c1 N1 h
    simp only [wk, Option.some.injEq, Prod.mk.injEq] at h
    obtain ⟨rfl, rfl, rfl⟩ := h
    exact ⟨rfl, hH, hst, by simp⟩
  | y :: ys, st, c, N, bs, s, hB, hst, hH, hc, hat => by
    obtain ⟨sb, rfl, hsb⟩ : ∃ sb : Nat, y = sb ∧ sb < 256 := by
      have := hB y (by simp)
      exact ⟨y.toNat, by omega, by omega⟩
    have e110 := bk90 S hok hst hsb
    simp only [tabOf] at e110
    rw [roundsR_cons, hat.1]
    simp only [List.length_cons] at hc
    simp only [wk, Int.toNat_natCast]
    cases e : bk L sh st sb with
    | none =>
      rw [e] at e110
      exact ⟨bs, c, miss95w t L _ l _ al bs xs c st sb _ e110, fun _ _ _ h => by simp at h⟩
    | some i =>
      rw [e] at e110
      obtain ⟨h1, h2, h3, h4⟩ := bk_some S e
      have hb := bOf_le S h1
      have h9 := S.hi
      have hpw : 2 ^ bOf L sh i ≤ 2 ^ 9 := Nat.pow_le_pow_right (by omega) (by omega)
      obtain ⟨bs1, e18, hH1⟩ := f18 (st - baseOf L sh i) (bOf L sh i) c N bs hH (by omega) (by omega) (by omega)
      rw [mod_small (by omega)] at hH1
      have e96 := e96 _ _ _ _ _ _ (u32_in _ (by omega)) _ e18
      obtain ⟨s1, e1, hat1⟩ := step95w t L (cellsTo L sh (2 ^ L)) l (fiTo sh sh.length) al bs bs1 xs c (c + bOf L sh i : Nat) st sb _ _ i (roundsR G95 114 16 xs [3, 5, 6, 7, 8, 16] [3, 5, 6, 7, 8] ys) e110 e96
      obtain ⟨bs2, c2, e2, h2⟩ := rounds95w t S hok xs ys i (c + bOf L sh i) _ bs1 s1 (fun b hb => hB b (by simp [hb])) h1 hH1 (by omega) hat1
      refine ⟨bs2, c2, by rw [e1]; exact e2, fun st1 c1 N1 h => ?_⟩
      obtain ⟨q1, q2, q3, q4⟩ := h2 st1 c1 N1 h
      exact ⟨q1, q2, q3, by simp only [List.length_cons]; omega⟩
theorem isB_rev {xs : List Int} (h : isB xs) : isB xs.reverse := fun b hb => h b (by simpa using hb)
theorem f95w (t : Nat) {l : List Int} {sh : List Nat} {L : Nat} (S : Shr l L sh) {al : List Int} (hok : AllOk sh (2 ^ L) al) (xs : List Int) (hB : isB xs) (hl : xs.length ≤ 1000) :
    ∃ (bs' : List Int) (c' : Nat), F95 [.one (.ptr 0 0), .one (.ro t (.ints .u8 xs)), .one (.fn 96 [.ptr 5 0])] (hp95w L (cellsTo L sh (2 ^ L)) l (fiTo sh sh.length) al [] 0) = some (wkR (wk L sh xs.reverse 0 0 0), hp95w L (cellsTo L sh (2 ^ L)) l (fiTo sh sh.length) al bs' c') ∧
      ∀ st1 c1 N1, wk L sh xs.reverse 0 0 0 = some (st1, c1, N1) → c' = c1 ∧ Holds bs' c1 N1 ∧ st1 < 2 ^ L ∧ c1 ≤ 9 * xs.length := by
  obtain ⟨s, e, hat⟩ := pre95w t L (cellsTo L sh (2 ^ L)) l (fiTo sh sh.length) al [] xs 0 (by omega) (fun t => e109 t xs)
  obtain ⟨bs', c', h1, h2⟩ := rounds95w t S hok xs xs.reverse 0 0 0 [] s (isB_rev hB) (Nat.two_pow_pos L) holds0 (by simp; omega) hat
  refine ⟨bs', c', by rw [e]; exact h1, fun st1 c1 N1 h => ?_⟩
  obtain ⟨q1, q2, q3, q4⟩ := h2 st1 c1 N1 h
  exact ⟨q1, q2, q3, by simpa using q4⟩
theorem run73 (t : Nat) (L : Int) (cs : List (List Sc)) (l fi al bs bs' out xs : List Int) (c c' st : Int) (b : Bool)
    (e95 : F95 [.one (.ptr 0 0), .one (.ro 1 (.ints .u8 xs)), .one (.fn 96 [.ptr 5 0])] (hp95w L cs l fi al [] 0) = some (.tup [.one (.int .i64 st), .one (.bool true)], hp95w L cs l fi al bs c))
    (ws : IntKind.u32.wrap st = st) (e18 : F18 [.one (.ptr 0 0), .one (.int .u32 st), .one (.int .i64 L)] (bufHp (some 0) bs c) = some (.one (.bool b), bufHp (some 0) bs' c'))
    (e98 : F98 [.one (.ptr 0 0)] (bufHp (some 0) bs' c') = some (.one (.row 2), bufHp (some 0) bs' c' ++ [.rows none (.ints .u8 out)])) :
    F73 [.one (.ptr 0 0), .one (.ro t (.ints .u8 xs))] (tabHp (some 0) L cs l fi al) = some (.tup [.one (.row 5), .one (.bool true)], tabHp (some 0) L cs l fi al ++ [.rows none (.ints .u8 out)]) := by
  have e97 := f97 L cs l fi al
  simp only [hp95w, tabHp, bufHp, List.cons_append, List.nil_append] at e95 e18 e98 e97
  simp -implicitDefEqProofs [F73, c73, tabHp, upd, e95, ws, e18, e98, e97]
theorem f73 (t : Nat) {l : List Int} {sh : List Nat} {L : Nat} (S : Shr l L sh) {al : List Int} (hok : AllOk sh (2 ^ L) al) (xs : List Int) (hB : isB xs) (hl : xs.length ≤ 1000) {st c N : Nat} (h : wk L sh xs.reverse 0 0 0 = some (st, c, N)) :
    ∃ out, F73 [.one (.ptr 0 0), .one (.ro t (.ints .u8 xs))] (tabOf (some 0) L sh l al) = some (.tup [.one (.row 5), .one (.bool true)], tabOf (some 0) L sh l al ++ [.rows none (.ints .u8 out)]) ∧ Holds out (c + L + 1) (N + st * 2 ^ c + 2 ^ (c + L)) ∧ st < 2 ^ L ∧ c ≤ 9 * xs.length := by
  have hsz := S.size
  have h9 := S.hi
  obtain ⟨bs, c', e, hx⟩ := f95w 1 S hok xs hB hl
  rw [h] at e hx
  obtain ⟨rfl, hH, hst, hc⟩ := hx _ _ _ rfl
  obtain ⟨bs', e18, hH1⟩ := f18 st L c' N bs hH (by omega) (by omega) (by omega)
  rw [mod_small hst] at hH1
  obtain ⟨out, e98, hH2⟩ := f98 bs' (c' + L) _ hH1 (by omega)
  exact ⟨out, run73 t L _ l _ al bs bs' out xs c' _ st true e (u32_in _ (by omega)) e18 e98, hH2, hst, hc⟩
def canon81 (t : Nat) (L : Int) (cs : List (List Sc)) (l fi al : List Int) (b0 : List Int) (bs out : List Int) (m st n i : Int) : St :=
  ⟨[(0, .one (.ptr 0 0)), (8, .one (.ptr 5 0)), (11, .one (.int .i64 st)), (12, .one (.row 7)), (47, .one (.int .i64 n)), (48, .one (.int .i64 i))], [.ptr 0 0, .ro t (.ints .u8 b0), .int .i64 n],
   tabHp (some 0) L cs l fi al ++ [.cells none [.row 6, .int .i64 m], .rows none (.ints .u8 bs), .rows none (.ints .u8 out)]⟩
theorem body81 (t : Nat) (L : Int) (cs : List (List Sc)) (l fi al : List Int) (b0 : List Int) (bs out : List Int) (m m' st st' n i i' s k base v : Int) (hi : i < n) (ho : out.length ≤ 140737488355327)
    (e105 : F105 [.one (.ptr 0 0), .one (.int .i64 st)] (tabHp (some 0) L cs l fi al) = some (cel [.int .u8 s, .int .i64 k, .int .i64 base] true, tabHp (some 0) L cs l fi al))
    (e104 : F104 [.one (.ptr 0 0), .one (.int .i64 k)] (bufHp (some 0) bs m) = some (tup2 v true, bufHp (some 0) bs m')) (wv : IntKind.i64.wrap v = v)
    (e106 : F106 [.one (.ptr 0 0), .one (.int .i64 st), .one (.int .i64 v)] (tabHp (some 0) L cs l fi al) = some (.tup [.one (.int .i64 st'), .one (.bool true)], tabHp (some 0) L cs l fi al)) (wi : IntKind.i64.wrap (i + 1) = i') :
    ∃ st1, evC T81 KK b81x0 (canon81 t L cs l fi al b0 bs out m st n i) = some (.norm, st1) ∧ St.head [0, 8, 11, 12, 47, 48] st1 = canon81 t L cs l fi al b0 bs (out ++ [s]) m' st' n i' := by
  simp only [tabHp, bufHp, cel, tup2, List.map_cons, List.map_nil, Sc.sv] at e105 e104 e106
  simp -implicitDefEqProofs [b81x0, canon81, tabHp, upd, hi, ho, e105, e104, e106, wv, wi, RC.len, RC.size, RC.app, RC.ofElems]
theorem bad18 (t : Nat) (L : Int) (cs : List (List Sc)) (l fi al : List Int) (b0 : List Int) (bs out : List Int) (m m' st n i s k base v : Int) (hi : i < n)
    (e105 : F105 [.one (.ptr 0 0), .one (.int .i64 st)] (tabHp (some 0) L cs l fi al) = some (cel [.int .u8 s, .int .i64 k, .int .i64 base] true, tabHp (some 0) L cs l fi al))
    (e104 : F104 [.one (.ptr 0 0), .one (.int .i64 k)] (bufHp (some 0) bs m) = some (tup2 v false, bufHp (some 0) bs m')) :
    ∃ st1, evC T81 KK b81x0 (canon81 t L cs l fi al b0 bs out m st n i) = some (.ret, st1) ∧ resC [(6, none), (7, none)] (some (.ret, st1)) = some (.tup [.one (.row 5), .one (.bool false)], tabHp (some 0) L cs l fi al ++ [.rows none (.ints .u8 [])]) := by
  simp only [tabHp, bufHp, cel, tup2, List.map_cons, List.map_nil, Sc.sv] at e105 e104
  refine ⟨?w, ?a, ?b⟩
  case a =>
    simp -implicitDefEqProofs [b81x0, canon81, tabHp, upd, hi, e105, e104, RC.len, RC.size, RC.app, RC.ofElems]
    rfl
  case b => simp -implicitDefEqProofs [tabHp]
theorem end81 (t : Nat) (L : Int) (cs : List (List Sc)) (l fi al : List Int) (b0 : List Int) (bs out : List Int) (m st n i : Int) (hi : ¬ i < n) :
    ∃ env, evC T81 KK b81x0 (canon81 t L cs l fi al b0 bs out m st n i) = some (.exit 0, ⟨env, [.ptr 0 0, .ro t (.ints .u8 b0), .int .i64 n], tabHp (some 0) L cs l fi al ++ [.cells none [.row 6, .int .i64 m], .rows none (.ints .u8 bs), .rows none (.ints .u8 out)]⟩) ∧ getT 8 env = .one (.ptr 5 0) ∧ getT 11 env = .one (.int .i64 st) ∧ getT 12 env = .one (.row 7) := by
  simp -implicitDefEqProofs [b81x0, canon81, tabHp, upd, hi]
def dk (L : Nat) (sh : List Nat) (M : Nat) : Nat → Nat → Nat → Option (List Int × Nat × Nat)
  | 0, st, m => some ([], st, m)
  | n + 1, st, m => if m < bOf L sh st then none else (dk L sh M n (baseOf L sh st + M / 2 ^ (m - bOf L sh st) % 2 ^ bOf L sh st) (m - bOf L sh st)).map fun r => ((((symOf sh).getD st 0 : Nat) : Int) :: r.1, r.2)
theorem cell_all {l : List Int} {sh : List Nat} {L : Nat} (S : Shr l L sh) {i : Nat} (hi : i < 2 ^ L) : (cellsTo L sh (2 ^ L))[i]? = some [.int .u8 (((symOf sh).getD i 0 : Nat) : Int), .int .i64 (bOf L sh i : Nat), .int .i64 (baseOf L sh i : Nat)] ∧ bOf L sh i ≤ L ∧ baseOf L sh i + 2 ^ bOf L sh i ≤ 2 ^ L := by
  obtain ⟨s, m, h1, h2, h3, h4, h5, h6, h7, h8, h9, h10⟩ := cellSc_ok S hi
  refine ⟨by rw [cellsTo_get hi]; rfl, h8, ?_⟩
  rw [Nat.add_mul, Nat.one_mul, Nat.pow_succ] at h10
  omega
theorem loop81 (t : Nat) {l : List Int} {sh : List Nat} {L : Nat} (S : Shr l L sh) {al : List Int} (b0 bs : List Int) (hB : isB bs) (hl : bs.length ≤ 100000) (n : Nat) (hn : n ≤ 1000) : ∀ (j i st m : Nat) (out : List Int) (K : Nat), i + j = n → st < 2 ^ L → m ≤ 8 * bs.length → out.length ≤ i → j < K →
    ∃ r, loopH (evC T81 KK b81x0) [0, 8, 11, 12, 47, 48] K (canon81 t L (cellsTo L sh (2 ^ L)) l (fiTo sh sh.length) al b0 bs out m st n i) = some r ∧
      (match dk L sh (leB bs) j st m with
      | none => ∃ st1, r = (.ret, st1) ∧ resC [(6, none), (7, none)] (some (.ret, st1)) = some (.tup [.one (.row 5), .one (.bool false)], tabOf (some 0) L sh l al ++ [.rows none (.ints .u8 [])])
      | some (o, st', m') => m' ≤ m ∧ ∃ env, r = (.exit 0, ⟨env, [.ptr 0 0, .ro t (.ints .u8 b0), .int .i64 n], tabOf (some 0) L sh l al ++ [.cells none [.row 6, .int .i64 m'], .rows none (.ints .u8 bs), .rows none (.ints .u8 (out ++ o))]⟩) ∧ getT 8 env = .one (.ptr 5 0) ∧ getT 11 env = .one (.int .i64 st') ∧ getT 12 env = .one (.row 7))
  | 0, i, st, m, out, K, hj, hst, hm, ho, hK => by
    obtain ⟨env, e, g1, g2, g3⟩ := end81 t L (cellsTo L sh (2 ^ L)) l (fiTo sh sh.length) al b0 bs out m st n i (by omega)
    refine ⟨_, loopH_exit e, ?_⟩
    simp only [dk]
    exact ⟨Nat.le_refl _, env, by rw [List.append_nil]; rfl, g1, g2, g3⟩
  | j + 1, i, st, m, out, K, hj, hst, hm, ho, hK => by
    obtain ⟨hc, hb, hbb⟩ := cell_all S hst
    have h9 := S.hi
    have hpw : 2 ^ L ≤ 2 ^ 9 := Nat.pow_le_pow_right (by omega) (by omega)
    have hpb : 2 ^ bOf L sh st ≤ 2 ^ 9 := Nat.pow_le_pow_right (by omega) (by omega)
    have e105 := f105 L _ _ _ st (cellsTo L sh (2 ^ L)) l (fiTo sh sh.length) al hc
    simp only [dk]
    by_cases hmb : m < bOf L sh st
    · rw [if_pos hmb]
      have e104 := f104a bs m (bOf L sh st : Nat) (.inr (.inr (by omega)))
      obtain ⟨st1, e, hr⟩ := bad18 t L (cellsTo L sh (2 ^ L)) l (fiTo sh sh.length) al b0 bs out m m st n i _ _ _ _ (by omega) e105 e104
      exact ⟨_, loopH_ret e, st1, rfl, hr⟩
    · rw [if_neg hmb]
      have e104 := f104 bs m (bOf L sh st) hB hl hm (by omega) (by omega)
      generalize hv : leB bs / 2 ^ (m - bOf L sh st) % 2 ^ bOf L sh st = v at *
      have hvl : v < 2 ^ bOf L sh st := by rw [← hv]; exact Nat.mod_lt _ (Nat.two_pow_pos _)
      have e106 := f106 L v _ (bOf L sh st : Nat) (baseOf L sh st : Nat) ((2 ^ bOf L sh st : Nat) : Int) ((baseOf L sh st + v : Nat) : Int) st (cellsTo L sh (2 ^ L)) l (fiTo sh sh.length) al hc (by omega) (shl1 (by omega)) (fun _ _ => by rw [i64_in _ (by omega)]; omega)
      rw [if_pos ⟨by omega, by omega⟩] at e106
      obtain ⟨st1, e1, e2⟩ := body81 t L (cellsTo L sh (2 ^ L)) l (fiTo sh sh.length) al b0 bs out m _ st _ n i ((i + 1 : Nat) : Int) _ _ _ _ (by omega) (by omega) e105 e104 (i64_in _ (by omega)) e106 (by rw [i64_in _ (by omega)]; omega)
      obtain ⟨r, h1, h2⟩ := loop81 t S b0 bs hB hl n hn j (i + 1) (baseOf L sh st + v) (m - bOf L sh st) (out ++ [(((symOf sh).getD st 0 : Nat) : Int)]) (K - 1) (by omega) (by omega) (by omega) (by simp; omega) (by omega)
      refine ⟨r, by rw [loopH_norm e1 (by omega), e2]; exact h1, ?_⟩
      cases hd : dk L sh (leB bs) j (baseOf L sh st + v) (m - bOf L sh st) with
      | none => rw [hd] at h2; exact h2
      | some p =>
        obtain ⟨o, st', m'⟩ := p
        rw [hd] at h2
        simp only [Option.map_some]
        obtain ⟨q, env, q1, q2⟩ := h2
        rw [List.append_assoc] at q1
        exact ⟨by omega, env, q1, q2⟩
def decO (L : Nat) (sh : List Nat) (bs : List Int) (n : Int) : Option (List Int) :=
  if bs = [] ∨ bs.getLast? = some 0 ∨ n < 0 ∨ 1048576 < n ∨ bl (leB bs) - 1 < L then none
  else match dk L sh (leB bs) n.toNat (leB bs / 2 ^ (bl (leB bs) - 1 - L) % 2 ^ L) (bl (leB bs) - 1 - L) with
    | some (o, st, m) => if st = 0 ∧ m = 0 then some o else none
    | none => none
def decR : Option (List Int) → AV
  | some _ => .tup [.one (.row 5), .one (.bool true)]
  | none => .tup [.one (.row 5), .one (.bool false)]
def decB : Option (List Int) → List Int
  | some o => o
  | none => []
section
variable (t : Nat) (L : Int) (cs : List (List Sc)) (l fi al : List Int) (bs : List Int) (n : Int)
theorem run81a (e103 : ∀ t, F103 [.one (.ro t (.ints .u8 bs))] [] = some (.tup [.one .nilp, .one (.bool false)], [])) :
    F81 [.one (.ptr 0 0), .one (.ro t (.ints .u8 bs)), .one (.int .i64 n)] (tabHp (some 0) L cs l fi al) = some (.tup [.one (.row 5), .one (.bool false)], tabHp (some 0) L cs l fi al ++ [.rows none (.ints .u8 [])]) := by
  simp -implicitDefEqProofs [F81, c81, upd, tabHp, e103]
theorem run81b (m : Int) (e103 : ∀ t, F103 [.one (.ro t (.ints .u8 bs))] [] = some (.tup [.one (.ptr 0 0), .one (.bool true)], bufHp none bs m)) (hn : n < 0 ∨ 1048576 < n) :
    F81 [.one (.ptr 0 0), .one (.ro t (.ints .u8 bs)), .one (.int .i64 n)] (tabHp (some 0) L cs l fi al) = some (.tup [.one (.row 5), .one (.bool false)], tabHp (some 0) L cs l fi al ++ [.rows none (.ints .u8 [])]) := by
  simp only [bufHp] at e103
  by_cases h : n < 0
  · simp -implicitDefEqProofs [F81, c81, upd, tabHp, e103, h]
  · have h2 : 1048576 < n := by omega
    simp -implicitDefEqProofs [F81, c81, upd, tabHp, e103, h, h2]
theorem run81c (m m' v : Int) (e103 : ∀ t, F103 [.one (.ro t (.ints .u8 bs))] [] = some (.tup [.one (.ptr 0 0), .one (.bool true)], bufHp none bs m)) (h1 : ¬ n < 0) (h2 : ¬ 1048576 < n)
    (e104 : F104 [.one (.ptr 0 0), .one (.int .i64 L)] (bufHp (some 0) bs m) = some (tup2 v false, bufHp (some 0) bs m')) :
    F81 [.one (.ptr 0 0), .one (.ro t (.ints .u8 bs)), .one (.int .i64 n)] (tabHp (some 0) L cs l fi al) = some (.tup [.one (.row 5), .one (.bool false)], tabHp (some 0) L cs l fi al ++ [.rows none (.ints .u8 [])]) := by
  have e97 := f97 L cs l fi al
  simp only [bufHp, tabHp, tup2] at e103 e104 e97
  simp -implicitDefEqProofs [F81, c81, upd, tabHp, e103, e104, e97, h1, h2]
theorem run81d (m m' v : Int) (st1 : St) (e103 : ∀ t, F103 [.one (.ro t (.ints .u8 bs))] [] = some (.tup [.one (.ptr 0 0), .one (.bool true)], bufHp none bs m)) (h1 : ¬ n < 0) (h2 : ¬ 1048576 < n)
    (e104 : F104 [.one (.ptr 0 0), .one (.int .i64 L)] (bufHp (some 0) bs m) = some (tup2 v true, bufHp (some 0) bs m')) (wv : IntKind.i64.wrap v = v)
    (el : loopH (evC T81 KK b81x0) [0, 8, 11, 12, 47, 48] KK (canon81 t L cs l fi al bs bs [] m' v n 0) = some (.ret, st1)) (er : resC [(6, none), (7, none)] (some (.ret, st1)) = some (.tup [.one (.row 5), .one (.bool false)], tabHp (some 0) L cs l fi al ++ [.rows none (.ints .u8 [])])) :
    F81 [.one (.ptr 0 0), .one (.ro t (.ints .u8 bs)), .one (.int .i64 n)] (tabHp (some 0) L cs l fi al) = some (.tup [.one (.row 5), .one (.bool false)], tabHp (some 0) L cs l fi al ++ [.rows none (.ints .u8 [])]) := by
  have e97 := f97 L cs l fi al
  simp only [bufHp, tabHp, tup2, canon81, List.cons_append, List.nil_append] at e103 e104 e97 el
  rw [← er]
  simp -implicitDefEqProofs [F81, c81, upd, tabHp, e103, e104, e97, wv, h1, h2, el]
theorem run81e (m m' v st : Int) (o : List Int) (mm : Nat) (env : Env) (e103 : ∀ t, F103 [.one (.ro t (.ints .u8 bs))] [] = some (.tup [.one (.ptr 0 0), .one (.bool true)], bufHp none bs m)) (h1 : ¬ n < 0) (h2 : ¬ 1048576 < n)
    (e104 : F104 [.one (.ptr 0 0), .one (.int .i64 L)] (bufHp (some 0) bs m) = some (tup2 v true, bufHp (some 0) bs m')) (wv : IntKind.i64.wrap v = v)
    (el : loopH (evC T81 KK b81x0) [0, 8, 11, 12, 47, 48] KK (canon81 t L cs l fi al bs bs [] m' v n 0) = some (.exit 0, ⟨env, [.ptr 0 0, .ro t (.ints .u8 bs), .int .i64 n], tabHp (some 0) L cs l fi al ++ [.cells none [.row 6, .int .i64 mm], .rows none (.ints .u8 bs), .rows none (.ints .u8 o)]⟩))
    (g8 : getT 8 env = .one (.ptr 5 0)) (g11 : getT 11 env = .one (.int .i64 st)) (g12 : getT 12 env = .one (.row 7)) :
    F81 [.one (.ptr 0 0), .one (.ro t (.ints .u8 bs)), .one (.int .i64 n)] (tabHp (some 0) L cs l fi al) = some (.tup [.one (.row 5), .one (.bool (decide (st = 0 ∧ mm = 0)))], tabHp (some 0) L cs l fi al ++ [.rows none (.ints .u8 (if st = 0 ∧ mm = 0 then o else []))]) := by
  have e97 := f97 L cs l fi al
  have e107 := f107 bs (mm : Int)
  simp only [bufHp, tabHp, tup2, canon81, List.cons_append, List.nil_append] at e103 e104 e97 el e107
  by_cases hs : st = 0
  · subst hs
    by_cases hm : mm = 0
    · subst hm
      have z : ((0 : Nat) : Int) = 0 := rfl
      rw [z] at el e107
      simp -implicitDefEqProofs [F81, c81, upd, tabHp, e103, e104, e97, e107, wv, h1, h2, el, g8, g11, g12]
    · have hm2 : 0 < mm := by omega
      have hm3 : (0 : Int) < mm := by omega
      simp -implicitDefEqProofs [F81, c81, upd, tabHp, e103, e104, e97, e107, wv, h1, h2, el, g8, g11, g12, hm, hm2, hm3]
  · simp -implicitDefEqProofs [F81, c81, upd, tabHp, e103, e104, e97, e107, wv, h1, h2, el, g8, g11, g12, hs]
end
theorem f81 (t : Nat) {l : List Int} {sh : List Nat} {L : Nat} (S : Shr l L sh) {al : List Int} (bs : List Int) (hB : isB bs) (hl : bs.length ≤ 10000) (n : Int) (hn : n ≤ 1000 ∨ 1048576 < n) :
    F81 [.one (.ptr 0 0), .one (.ro t (.ints .u8 bs)), .one (.int .i64 n)] (tabOf (some 0) L sh l al) = some (decR (decO L sh bs n), tabOf (some 0) L sh l al ++ [.rows none (.ints .u8 (decB (decO L sh bs n)))]) := by
  have h9 := S.hi
  have hpw : 2 ^ L ≤ 2 ^ 9 := Nat.pow_le_pow_right (by omega) (by omega)
  unfold tabOf
  by_cases h0 : bs = [] ∨ bs.getLast? = some 0
  · have e103 := fun t => f103z t bs h0 (by omega)
    have : decO L sh bs n = none := by unfold decO; rw [if_pos (by rcases h0 with h | h <;> simp [h])]
    rw [this]
    exact run81a t L _ l _ al bs n e103
  · obtain ⟨h1, h2⟩ := not_or.1 h0
    obtain ⟨b, hb⟩ : ∃ b, bs.getLast? = some b := by
      cases e : bs.getLast? with
      | none => rw [List.getLast?_eq_none_iff] at e; exact absurd e h1
      | some b => exact ⟨b, rfl⟩
    have hb0 : b ≠ 0 := by rintro rfl; exact h2 hb
    have hbB := hB b (List.mem_of_getLast? hb)
    have hbl := bl_leB hB hb hb0
    have hb1 := (bl_pos (n := b.toNat) (by omega)).2.2
    have hb8 : bl b.toNat ≤ 8 := bl_le (by omega)
    have hlen : 0 < bs.length := List.length_pos_iff.2 h1
    have e103 := fun t => f103 t bs b hB hb hb0 (by omega)
    have hm : 8 * (bs.length - 1) + (bl b.toNat - 1) = bl (leB bs) - 1 := by omega
    rw [hm] at e103
    unfold decO
    by_cases h3 : n < 0 ∨ 1048576 < n
    · rw [if_pos (.inr (.inr (by omega)))]
      exact run81b t L _ l _ al bs n _ e103 h3
    obtain ⟨h4, h5⟩ := not_or.1 h3
    by_cases h6 : bl (leB bs) - 1 < L
    · rw [if_pos (.inr (.inr (.inr (.inr h6))))]
      exact run81c t L _ l _ al bs n _ _ _ e103 h4 h5 (f104a bs _ L (.inr (.inr (by omega))))
    rw [if_neg (by simp only [not_or]; exact ⟨h1, h2, h4, h5, h6⟩)]
    have e104 := f104 bs (bl (leB bs) - 1) L hB (by omega) (by omega) (by omega) (by omega)
    have hv : leB bs / 2 ^ (bl (leB bs) - 1 - L) % 2 ^ L < 2 ^ L := Nat.mod_lt _ (Nat.two_pow_pos _)
    obtain ⟨N, rfl⟩ : ∃ N : Nat, n = N := ⟨n.toNat, by omega⟩
    generalize leB bs / 2 ^ (bl (leB bs) - 1 - L) % 2 ^ L = v at *
    have hlp := fun t => loop81 t S (al := al) bs bs hB (by omega) N (by omega) N 0 v (bl (leB bs) - 1 - L) [] KK (by omega) hv (by omega) (by simp) (by rw [KK_eq]; omega)
    rw [Int.toNat_natCast]
    have z : ((0 : Nat) : Int) = 0 := rfl
    cases hd : dk L sh (leB bs) N v (bl (leB bs) - 1 - L) with
    | none =>
      rw [hd] at hlp
      obtain ⟨r, e1, st1, rfl, hr⟩ := hlp t
      rw [z] at e1
      exact run81d t L _ l _ al bs N _ _ v st1 e103 h4 h5 e104 (i64_in _ (by omega)) e1 hr
    | some p =>
      obtain ⟨o, st', m'⟩ := p
      rw [hd] at hlp
      obtain ⟨r, e1, hle, env, rfl, g8, g11, g12⟩ := hlp t
      rw [z] at e1
      have := run81e t L _ l _ al bs N _ _ v st' o m' env e103 h4 h5 e104 (i64_in _ (by omega)) e1 g8 g11 g12
      rw [this]
      by_cases hz : st' = 0 ∧ m' = 0
      · obtain ⟨rfl, rfl⟩ := hz
        simp [decR, decB]
      · have hz2 : ¬ ((st' : Int) = 0 ∧ m' = 0) := by omega
        simp only [if_neg hz, if_neg hz2, decide_eq_false hz2, decR, decB]
def canon76 (t t2 : Nat) (L : Int) (cs : List (List Sc)) (bs A out : List Int) (m : Nat) (st n i : Int) : St :=
  ⟨[(0, .one (.ro t (.recs 3 cs))), (3, .one (.int .i64 n)), (10, .one (.view 0 0 m)), (12, .one (.int .i64 st)), (13, .one (.row 1)), (14, .one (.int .i64 i))], [.ro t (.recs 3 cs), .int .i64 L, .ro t2 (.ints .u8 bs), .int .i64 n], [.rows none (.ints .i64 A), .rows none (.ints .u8 out)]⟩
theorem body76 (t t2 : Nat) (L : Int) (cs : List (List Sc)) (bs A out : List Int) (m k st : Nat) (st' n i i' s base v : Int) (hi : i < n) (hm : m ≤ A.length) (hk : k ≤ m) (hc : cs[st]? = some [.int .u8 s, .int .i64 k, .int .i64 base]) (ho : out.length ≤ 140737488355327)
    (wk : IntKind.i64.wrap ((m : Int) - k) = ((m - k : Nat) : Int))
    (e29 : ∀ t, F29 [.one (.ro t (.ints .i64 ((A.drop (m - k)).take k)))] [] = some (.one (.int .u32 v), [])) (wv : IntKind.i64.wrap v = v) (ws : IntKind.i64.wrap (base + v) = st') (wi : IntKind.i64.wrap (i + 1) = i') :
    ∃ st1, evC T76 KK b76x0 (canon76 t t2 L cs bs A out m st n i) = some (.norm, st1) ∧ St.head [0, 3, 10, 12, 13, 14] st1 = canon76 t t2 L cs bs A (out ++ [s]) (m - k) st' n i' := by
  have l2 := (List.getElem?_eq_some_iff.1 hc).1
  have l2i : (st : Int) < cs.length := by omega
  have hc' : ∀ hh, cs[st]'hh = [Sc.int .u8 s, .int .i64 k, .int .i64 base] := fun hh => by rw [List.getElem?_eq_getElem hh] at hc; simpa using hc
  have hk1 : ¬ (m : Int) < k := by omega
  have hk2 : ¬ m < k := by omega
  have h3 : m - k ≤ m := by omega
  have h3i : ((m - k : Nat) : Int) ≤ m := by omega
  have h4 : m - k ≤ A.length := by omega
  have h5 : m - (m - k) = k := by omega
  simp -implicitDefEqProofs [b76x0, canon76, upd, hi, hm, l2, l2i, hc, hc', hk1, hk2, ho, wk, e29, wv, ws, wi, h3, h3i, h4, h5, takeE, RC.len, RC.size, RC.get, RC.elem, RC.app, RC.ofElems]
theorem bad19 (t t2 : Nat) (L : Int) (cs : List (List Sc)) (bs A out : List Int) (m k st : Nat) (n i s base : Int) (hi : i < n) (hm : m ≤ A.length) (hk : m < k) (hc : cs[st]? = some [.int .u8 s, .int .i64 k, .int .i64 base]) :
    ∃ st1, evC T76 KK b76x0 (canon76 t t2 L cs bs A out m st n i) = some (.ret, st1) ∧ resC [(8, none), (9, none)] (some (.ret, st1)) = some (.tup [.one (.row 0), .one (.bool false)], [.rows none (.ints .u8 [])]) := by
  have l2 := (List.getElem?_eq_some_iff.1 hc).1
  have l2i : (st : Int) < cs.length := by omega
  have hc' : ∀ hh, cs[st]'hh = [Sc.int .u8 s, .int .i64 k, .int .i64 base] := fun hh => by rw [List.getElem?_eq_getElem hh] at hc; simpa using hc
  have hk1 : (m : Int) < k := by omega
  refine ⟨?w, ?a, ?b⟩
  case a =>
    simp -implicitDefEqProofs [b76x0, canon76, upd, hi, hm, l2, l2i, hc, hc', hk, hk1, takeE, RC.len, RC.size, RC.get, RC.elem, RC.app, RC.ofElems]
    rfl
  case b => simp -implicitDefEqProofs []
theorem end76 (t t2 : Nat) (L : Int) (cs : List (List Sc)) (bs A out : List Int) (m : Nat) (st n i : Int) (hi : ¬ i < n) :
    ∃ env, evC T76 KK b76x0 (canon76 t t2 L cs bs A out m st n i) = some (.exit 0, ⟨env, [.ro t (.recs 3 cs), .int .i64 L, .ro t2 (.ints .u8 bs), .int .i64 n], [.rows none (.ints .i64 A), .rows none (.ints .u8 out)]⟩) ∧ getT 10 env = .one (.view 0 0 m) ∧ getT 12 env = .one (.int .i64 st) ∧ getT 13 env = .one (.row 1) := by
  simp -implicitDefEqProofs [b76x0, canon76, upd, hi]
theorem isN_cut {A : List Int} (h : isN A) (a b : Nat) : isN ((A.drop a).take b) := fun x hx => h x (List.mem_of_mem_drop (List.mem_of_mem_take hx))
theorem leN_cut {A : List Int} (h : isN A) (a b : Nat) : leN ((A.drop a).take b) = leN A / 2 ^ a % 2 ^ b := by
  rw [leN_take b (fun x hx => h x (List.mem_of_mem_drop hx)), leN_drop a h]
theorem loop76 (t t2 : Nat) {l : List Int} {sh : List Nat} {L : Nat} (S : Shr l L sh) (bs A : List Int) (hN : isN A) (n : Nat) (hn : n ≤ 1000) (hA : A.length ≤ 100000) : ∀ (j i st m : Nat) (out : List Int) (K : Nat), i + j = n → st < 2 ^ L → m ≤ A.length → out.length ≤ i → j < K →
    ∃ r, loopH (evC T76 KK b76x0) [0, 3, 10, 12, 13, 14] K (canon76 t t2 L (cellsTo L sh (2 ^ L)) bs A out m st n i) = some r ∧
      (match dk L sh (leN A) j st m with
      | none => ∃ st1, r = (.ret, st1) ∧ resC [(8, none), (9, none)] (some (.ret, st1)) = some (.tup [.one (.row 0), .one (.bool false)], [.rows none (.ints .u8 [])])
      | some (o, st', m') => ∃ env, r = (.exit 0, ⟨env, [.ro t (.recs 3 (cellsTo L sh (2 ^ L))), .int .i64 L, .ro t2 (.ints .u8 bs), .int .i64 n], [.rows none (.ints .i64 A), .rows none (.ints .u8 (out ++ o))]⟩) ∧ m' ≤ A.length ∧ getT 10 env = .one (.view 0 0 m') ∧ getT 12 env = .one (.int .i64 st') ∧ getT 13 env = .one (.row 1))
  | 0, i, st, m, out, K, hj, hst, hm, ho, hK => by
    obtain ⟨env, e, g1, g2, g3⟩ := end76 t t2 L (cellsTo L sh (2 ^ L)) bs A out m st n i (by omega)
    refine ⟨_, loopH_exit e, ?_⟩
    simp only [dk]
    exact ⟨env, by rw [List.append_nil], hm, g1, g2, g3⟩
  | j + 1, i, st, m, out, K, hj, hst, hm, ho, hK => by
    obtain ⟨hc, hb, hbb⟩ := cell_all S hst
    have h9 := S.hi
    have hpw : 2 ^ L ≤ 2 ^ 9 := Nat.pow_le_pow_right (by omega) (by omega)
    have hpb : 2 ^ bOf L sh st ≤ 2 ^ 9 := Nat.pow_le_pow_right (by omega) (by omega)
    simp only [dk]
    by_cases hmb : m < bOf L sh st
    · rw [if_pos hmb]
      obtain ⟨st1, e, hr⟩ := bad19 t t2 L (cellsTo L sh (2 ^ L)) bs A out m _ st n i _ _ (by omega) hm hmb hc
      exact ⟨_, loopH_ret e, st1, rfl, hr⟩
    · rw [if_neg hmb]
      have e29 := fun t => f29 t ((A.drop (m - bOf L sh st)).take (bOf L sh st)) (isN_cut hN _ _) (by rw [List.length_take]; omega)
      rw [leN_cut hN] at e29
      generalize hv : leN A / 2 ^ (m - bOf L sh st) % 2 ^ bOf L sh st = v at *
      have hvl : v < 2 ^ bOf L sh st := by rw [← hv]; exact Nat.mod_lt _ (Nat.two_pow_pos _)
      obtain ⟨st1, e1, e2⟩ := body76 t t2 L (cellsTo L sh (2 ^ L)) bs A out m _ st ((baseOf L sh st + v : Nat) : Int) n i ((i + 1 : Nat) : Int) _ _ v (by omega) hm (by omega) hc (by omega) (by rw [i64_in _ (by omega)]; omega) e29 (i64_in _ (by omega)) (by rw [i64_in _ (by omega)]; omega) (by rw [i64_in _ (by omega)]; omega)
      obtain ⟨r, h1, h2⟩ := loop76 t t2 S bs A hN n hn hA j (i + 1) (baseOf L sh st + v) (m - bOf L sh st) (out ++ [(((symOf sh).getD st 0 : Nat) : Int)]) (K - 1) (by omega) (by omega) (by omega) (by simp; omega) (by omega)
      refine ⟨r, by rw [loopH_norm e1 (by omega), e2]; exact h1, ?_⟩
      cases hd : dk L sh (leN A) j (baseOf L sh st + v) (m - bOf L sh st) with
      | none => rw [hd] at h2; exact h2
      | some p =>
        obtain ⟨o, st', m'⟩ := p
        rw [hd] at h2
        simp only [Option.map_some]
        obtain ⟨env, q1, q2⟩ := h2
        rw [List.append_assoc] at q1
        exact ⟨env, q1, q2⟩
section
variable (t t2 : Nat) (L : Int) (cs : List (List Sc)) (bs A : List Int) (n : Int)
theorem run76a (e100 : ∀ t, F100 [.one (.ro t (.ints .u8 bs))] [] = some (.tup [.one (.row 0), .one (.bool false)], [.rows none (.ints .i64 [])])) :
    F76 [.one (.ro t (.recs 3 cs)), .one (.int .i64 L), .one (.ro t2 (.ints .u8 bs)), .one (.int .i64 n)] [] = some (.tup [.one (.row 0), .one (.bool false)], [.rows none (.ints .u8 [])]) := by
  simp -implicitDefEqProofs [F76, c76, upd, e100]
theorem run76b (m : Nat) (hm : m ≤ A.length) (e100 : ∀ t, F100 [.one (.ro t (.ints .u8 bs))] [] = some (.tup [.one (.view 0 0 m), .one (.bool true)], [.rows none (.ints .i64 A)])) (hn : n < 0 ∨ 1048576 < n ∨ (m : Int) < L) :
    F76 [.one (.ro t (.recs 3 cs)), .one (.int .i64 L), .one (.ro t2 (.ints .u8 bs)), .one (.int .i64 n)] [] = some (.tup [.one (.row 0), .one (.bool false)], [.rows none (.ints .u8 [])]) := by
  by_cases h : n < 0
  · simp -implicitDefEqProofs [F76, c76, upd, e100, h]
  · by_cases h2 : 1048576 < n
    · simp -implicitDefEqProofs [F76, c76, upd, e100, h, h2]
    · have h3 : (m : Int) < L := by omega
      simp -implicitDefEqProofs [F76, c76, upd, e100, h, h2, h3, hm, RC.len, RC.size]
theorem run76d (m k : Nat) (v : Int) (st1 : St) (hm : m ≤ A.length) (hL : L = k) (hk : k ≤ m) (e100 : ∀ t, F100 [.one (.ro t (.ints .u8 bs))] [] = some (.tup [.one (.view 0 0 m), .one (.bool true)], [.rows none (.ints .i64 A)])) (h1 : ¬ n < 0) (h2 : ¬ 1048576 < n)
    (wk : IntKind.i64.wrap ((m : Int) - k) = ((m - k : Nat) : Int)) (e29 : ∀ t, F29 [.one (.ro t (.ints .i64 ((A.drop (m - k)).take k)))] [] = some (.one (.int .u32 v), [])) (wv : IntKind.i64.wrap v = v)
    (el : loopH (evC T76 KK b76x0) [0, 3, 10, 12, 13, 14] KK (canon76 t t2 L cs bs A [] (m - k) v n 0) = some (.ret, st1)) (er : resC [(8, none), (9, none)] (some (.ret, st1)) = some (.tup [.one (.row 0), .one (.bool false)], [.rows none (.ints .u8 [])])) :
    F76 [.one (.ro t (.recs 3 cs)), .one (.int .i64 L), .one (.ro t2 (.ints .u8 bs)), .one (.int .i64 n)] [] = some (.tup [.one (.row 0), .one (.bool false)], [.rows none (.ints .u8 [])]) := by
  subst hL
  have hk1 : ¬ (m : Int) < k := by omega
  have hk2 : ¬ m < k := by omega
  have h3 : m - k ≤ m := by omega
  have h3i : ((m - k : Nat) : Int) ≤ m := by omega
  have h4 : m - k ≤ A.length := by omega
  have h5 : m - (m - k) = k := by omega
  simp only [canon76] at el
  rw [← er]
  simp -implicitDefEqProofs [F76, c76, upd, e100, h1, h2, hm, hk1, hk2, h3, h3i, h4, h5, wk, e29, wv, el, takeE, RC.len, RC.size]
theorem run76e (m k : Nat) (v st : Int) (o : List Int) (mm : Nat) (env : Env) (hm : m ≤ A.length) (hmm : mm ≤ A.length) (hL : L = k) (hk : k ≤ m) (e100 : ∀ t, F100 [.one (.ro t (.ints .u8 bs))] [] = some (.tup [.one (.view 0 0 m), .one (.bool true)], [.rows none (.ints .i64 A)])) (h1 : ¬ n < 0) (h2 : ¬ 1048576 < n)
    (wk : IntKind.i64.wrap ((m : Int) - k) = ((m - k : Nat) : Int)) (e29 : ∀ t, F29 [.one (.ro t (.ints .i64 ((A.drop (m - k)).take k)))] [] = some (.one (.int .u32 v), [])) (wv : IntKind.i64.wrap v = v)
    (el : loopH (evC T76 KK b76x0) [0, 3, 10, 12, 13, 14] KK (canon76 t t2 L cs bs A [] (m - k) v n 0) = some (.exit 0, ⟨env, [.ro t (.recs 3 cs), .int .i64 L, .ro t2 (.ints .u8 bs), .int .i64 n], [.rows none (.ints .i64 A), .rows none (.ints .u8 o)]⟩))
    (g10 : getT 10 env = .one (.view 0 0 mm)) (g12 : getT 12 env = .one (.int .i64 st)) (g13 : getT 13 env = .one (.row 1)) :
    F76 [.one (.ro t (.recs 3 cs)), .one (.int .i64 L), .one (.ro t2 (.ints .u8 bs)), .one (.int .i64 n)] [] = some (.tup [.one (.row 0), .one (.bool (decide (st = 0 ∧ mm = 0)))], [.rows none (.ints .u8 (if st = 0 ∧ mm = 0 then o else []))]) := by
  subst hL
  have hk1 : ¬ (m : Int) < k := by omega
  have hk2 : ¬ m < k := by omega
  have h3 : m - k ≤ m := by omega
  have h3i : ((m - k : Nat) : Int) ≤ m := by omega
  have h4 : m - k ≤ A.length := by omega
  have h5 : m - (m - k) = k := by omega
  simp only [canon76] at el
  by_cases hs : st = 0
  · subst hs
    by_cases hm0 : mm = 0
    · subst hm0
      simp -implicitDefEqProofs [F76, c76, upd, e100, h1, h2, hm, hmm, hk1, hk2, h3, h3i, h4, h5, wk, e29, wv, el, g10, g12, g13, takeE, RC.len, RC.size]
    · have hm2 : 0 < mm := by omega
      have hm3 : (0 : Int) < mm := by omega
      simp -implicitDefEqProofs [F76, c76, upd, e100, h1, h2, hm, hmm, hk1, hk2, h3, h3i, h4, h5, wk, e29, wv, el, g10, g12, g13, hm0, hm2, hm3, takeE, RC.len, RC.size]
  · simp -implicitDefEqProofs [F76, c76, upd, e100, h1, h2, hm, hmm, hk1, hk2, h3, h3i, h4, h5, wk, e29, wv, el, g10, g12, g13, hs, takeE, RC.len, RC.size]
end
def decS : Option (List Int) → AV
  | some _ => .tup [.one (.row 0), .one (.bool true)]
  | none => .tup [.one (.row 0), .one (.bool false)]
theorem f76 (t t2 : Nat) {l : List Int} {sh : List Nat} {L : Nat} (S : Shr l L sh) (bs : List Int) (hB : isB bs) (hl : bs.length ≤ 10000) (n : Int) (hn : n ≤ 1000 ∨ 1048576 < n) :
    F76 [.one (.ro t (.recs 3 (cellsTo L sh (2 ^ L)))), .one (.int .i64 L), .one (.ro t2 (.ints .u8 bs)), .one (.int .i64 n)] [] = some (decS (decO L sh bs n), [.rows none (.ints .u8 (decB (decO L sh bs n)))]) := by
  have h9 := S.hi
  have hpw : 2 ^ L ≤ 2 ^ 9 := Nat.pow_le_pow_right (by omega) (by omega)
  by_cases h0 : bs = [] ∨ bs.getLast? = some 0
  · have e100 := fun t => f100z t bs h0 (by omega)
    have : decO L sh bs n = none := by unfold decO; rw [if_pos (by rcases h0 with h | h <;> simp [h])]
    rw [this]
    exact run76a t t2 L _ bs n e100
  · obtain ⟨h1, h2⟩ := not_or.1 h0
    obtain ⟨b, hb⟩ : ∃ b, bs.getLast? = some b := by
      cases e : bs.getLast? with
      | none => rw [List.getLast?_eq_none_iff] at e; exact absurd e h1
      | some b => exact ⟨b, rfl⟩
    have hb0 : b ≠ 0 := by rintro rfl; exact h2 hb
    have e100' := fun t => f100 t bs b hB hb hb0 (by omega)
    obtain ⟨A, e100, hN, hA, hml, hAl⟩ := e100' 0
    have e100 : ∀ t, F100 [.one (.ro t (.ints .u8 bs))] [] = some (.tup [.one (.view 0 0 (bl (leB bs) - 1)), .one (.bool true)], [.rows none (.ints .i64 A)]) := fun t => by
      obtain ⟨A', e, hN', hA', _, hAl'⟩ := e100' t
      rw [leN_inj hN hN' (by omega) (by omega)]
      exact e
    unfold decO
    by_cases h3 : n < 0 ∨ 1048576 < n ∨ bl (leB bs) - 1 < L
    · rw [if_pos (.inr (.inr h3))]
      exact run76b t t2 L _ bs A n _ (by omega) e100 (by omega)
    rw [if_neg (by simp only [not_or] at h3 ⊢; exact ⟨h1, h2, h3⟩)]
    simp only [not_or] at h3
    obtain ⟨h4, h5, h6⟩ := h3
    have e29 := fun t => f29 t ((A.drop (bl (leB bs) - 1 - L)).take L) (isN_cut hN _ _) (by rw [List.length_take]; omega)
    rw [leN_cut hN, hA] at e29
    have hv : leB bs / 2 ^ (bl (leB bs) - 1 - L) % 2 ^ L < 2 ^ L := Nat.mod_lt _ (Nat.two_pow_pos _)
    obtain ⟨N, rfl⟩ : ∃ N : Nat, n = N := ⟨n.toNat, by omega⟩
    generalize leB bs / 2 ^ (bl (leB bs) - 1 - L) % 2 ^ L = v at *
    obtain ⟨r, e1, hlp⟩ := loop76 t t2 S bs A hN N (by omega) (by omega) N 0 v (bl (leB bs) - 1 - L) [] KK (by omega) hv (by omega) (by simp) (by rw [KK_eq]; omega)
    rw [Int.toNat_natCast]
    have z : ((0 : Nat) : Int) = 0 := rfl
    rw [z] at e1
    rw [hA] at hlp
    have wk : IntKind.i64.wrap (((bl (leB bs) - 1 : Nat) : Int) - (L : Int)) = ((bl (leB bs) - 1 - L : Nat) : Int) := by rw [i64_in _ (by omega)]; omega
    cases hd : dk L sh (leB bs) N v (bl (leB bs) - 1 - L) with
    | none =>
      rw [hd] at hlp
      obtain ⟨st1, rfl, hr⟩ := hlp
      exact run76d t t2 L _ bs A N _ L v st1 (by omega) rfl (by omega) e100 h4 h5 wk e29 (i64_in _ (by omega)) e1 hr
    | some p =>
      obtain ⟨o, st', m'⟩ := p
      rw [hd] at hlp
      obtain ⟨env, rfl, hmm, g10, g12, g13⟩ := hlp
      have := run76e t t2 L _ bs A N _ L v st' o m' env (by omega) hmm rfl (by omega) e100 h4 h5 wk e29 (i64_in _ (by omega)) e1 g10 g12 g13
      rw [this]
      by_cases hz : st' = 0 ∧ m' = 0
      · obtain ⟨rfl, rfl⟩ := hz
        simp [decS, decB]
      · have hz2 : ¬ ((st' : Int) = 0 ∧ m' = 0) := by omega
        simp only [if_neg hz, if_neg hz2, decide_eq_false hz2, decS, decB]
theorem mod_lo {M N c0 c : Nat} (h : c0 ≤ c) (e : M % 2 ^ c = N) : M % 2 ^ c0 = N % 2 ^ c0 := by
  rw [← e, Nat.mod_mod_of_dvd _ (Nat.pow_dvd_pow 2 h)]
theorem wk_dk {l : List Int} {sh : List Nat} {L : Nat} (S : Shr l L sh) : ∀ (ys : List Int) (st0 c0 N0 st c N : Nat), isB ys → st0 < 2 ^ L → N0 < 2 ^ c0 → wk L sh ys st0 c0 N0 = some (st, c, N) →
    N < 2 ^ c ∧ c0 ≤ c ∧ c ≤ c0 + L * ys.length ∧ N % 2 ^ c0 = N0 ∧ st < 2 ^ L ∧ ∀ M n, M % 2 ^ c = N → dk L sh M (n + ys.length) st c = (dk L sh M n st0 c0).map fun r => (ys.reverse ++ r.1, r.2)
  | [], st0, c0, N0, st, c, N, _, hst, hN, h => by
    simp only [wk, Option.some.injEq, Prod.mk.injEq] at h
    obtain ⟨rfl, rfl, rfl⟩ := h
    refine ⟨hN, Nat.le_refl _, by simp, Nat.mod_eq_of_lt hN, hst, fun M n _ => ?_⟩
    cases h : dk L sh M n st0 c0 <;> simp [h]
  | y :: ys, st0, c0, N0, st, c, N, hB, hst, hN, h => by
    have hy := hB y (by simp)
    simp only [wk] at h
    cases e : bk L sh st0 y.toNat with
    | none => rw [e] at h; simp at h
    | some i =>
      rw [e] at h
      obtain ⟨h1, h2, h3, h4⟩ := bk_some S e
      have hv : st0 - baseOf L sh i < 2 ^ bOf L sh i := by omega
      have hb := bOf_le S h1
      have hN1 : N0 + (st0 - baseOf L sh i) * 2 ^ c0 < 2 ^ (c0 + bOf L sh i) := by
        rw [Nat.pow_add, Nat.mul_comm (2 ^ c0)]
        have := Nat.mul_le_mul_right (2 ^ c0) (Nat.succ_le_of_lt hv)
        rw [Nat.succ_mul] at this
        omega
      obtain ⟨q1, q2, q5, q3, q4, q⟩ := wk_dk S ys i (c0 + bOf L sh i) _ st c N (fun b hb => hB b (by simp [hb])) h1 hN1 h
      have hlow : N % 2 ^ c0 = N0 := by
        have := mod_lo (M := N) (Nat.le_add_right c0 (bOf L sh i)) q3
        rw [this, Nat.add_mul_mod_self_right, Nat.mod_eq_of_lt hN]
      refine ⟨q1, by omega, by rw [List.length_cons, Nat.mul_add]; omega, hlow, q4, fun M n hM => ?_⟩
      have hM1 : M % 2 ^ (c0 + bOf L sh i) = N0 + (st0 - baseOf L sh i) * 2 ^ c0 := by rw [mod_lo q2 hM, q3]
      have hM0 : M % 2 ^ c0 = N0 := by rw [mod_lo (by omega) hM, hlow]
      have hvM : M / 2 ^ c0 % 2 ^ bOf L sh i = st0 - baseOf L sh i := by
        rw [mod_more, hM0] at hM1
        exact Nat.eq_of_mul_eq_mul_right (Nat.two_pow_pos c0) (by omega)
      have hsy : (((symOf sh).getD i 0 : Nat) : Int) = y := by rw [getD_some h2]; omega
      rw [List.length_cons, show n + (ys.length + 1) = (n + 1) + ys.length by omega, q M (n + 1) hM]
      simp only [dk]
      rw [if_neg (by omega), show c0 + bOf L sh i - bOf L sh i = c0 by omega, hvM, show baseOf L sh i + (st0 - baseOf L sh i) = st0 by omega, hsy]
      cases dk L sh M n st0 c0 <;> simp
theorem dk_wk {l : List Int} {sh : List Nat} {L : Nat} (S : Shr l L sh) (M : Nat) : ∀ (n st m : Nat) (out : List Int) (st' m' : Nat), st < 2 ^ L → dk L sh M n st m = some (out, st', m') →
    out.length = n ∧ isB out ∧ ∀ ys, wk L sh (out.reverse ++ ys) st' m' (M % 2 ^ m') = wk L sh ys st m (M % 2 ^ m)
  | 0, st, m, out, st', m', hst, h => by
    simp only [dk, Option.some.injEq, Prod.mk.injEq] at h
    obtain ⟨rfl, rfl, rfl⟩ := h
    exact ⟨rfl, by simp [isB], fun ys => rfl⟩
  | n + 1, st, m, out, st', m', hst, h => by
    obtain ⟨s, k, h1, h2, h3, h4, h5, h6, h7, h8, h9, h10⟩ := cellSc_ok S hst
    obtain ⟨_, hb, hbb⟩ := cell_all S hst
    simp only [dk] at h
    split at h
    · simp at h
    · rename_i hm
      have hv : M / 2 ^ (m - bOf L sh st) % 2 ^ bOf L sh st < 2 ^ bOf L sh st := Nat.mod_lt _ (Nat.two_pow_pos _)
      have hmm := mod_more M (m - bOf L sh st) (bOf L sh st)
      rw [show m - bOf L sh st + bOf L sh st = m by omega] at hmm
      generalize M / 2 ^ (m - bOf L sh st) % 2 ^ bOf L sh st = v at h hv hmm
      cases hd : dk L sh M n (baseOf L sh st + v) (m - bOf L sh st) with
      | none => rw [hd] at h; simp at h
      | some p =>
        obtain ⟨o, st1, m1⟩ := p
        rw [hd] at h
        simp only [Option.map_some, Option.some.injEq, Prod.mk.injEq] at h
        obtain ⟨rfl, rfl, rfl⟩ := h
        obtain ⟨q1, q2, q3⟩ := dk_wk S M n _ _ o st1 m1 (by omega) hd
        have hs : (symOf sh).getD st 0 = s := getD_some h1
        have hs256 : s < 256 := h6
        refine ⟨by simp [q1], ?_, fun ys => ?_⟩
        · intro b hb
          rcases List.mem_cons.1 hb with rfl | hb
          · rw [hs]; omega
          · exact q2 b hb
        · rw [List.reverse_cons, List.append_assoc, q3]
          simp only [List.singleton_append, wk, Int.toNat_natCast, hs]
          rw [bk_of S (i := st) (by omega) hst h1 (by omega) (by omega)]
          simp only
          rw [show m - bOf L sh st + bOf L sh st = m by omega, show baseOf L sh st + v - baseOf L sh st = v by omega, ← hmm]
theorem dec_enc {l : List Int} {sh : List Nat} {L : Nat} (S : Shr l L sh) {xs out : List Int} (hB : isB xs) (hl : xs.length ≤ 1000) {st c N : Nat} (h : wk L sh xs.reverse 0 0 0 = some (st, c, N)) (hO : Holds out (c + L + 1) (N + st * 2 ^ c + 2 ^ (c + L))) : decO L sh out xs.length = some xs := by
  obtain ⟨q1, q2, _, q3, q4, q⟩ := wk_dk S xs.reverse 0 0 0 st c N (isB_rev hB) (Nat.two_pow_pos L) (by omega) h
  have hlt : N + st * 2 ^ c < 2 ^ (c + L) := by
    rw [Nat.pow_add, Nat.mul_comm (2 ^ c)]
    have := Nat.mul_le_mul_right (2 ^ c) (Nat.succ_le_of_lt q4)
    rw [Nat.succ_mul] at this
    omega
  obtain ⟨b, hb, hb0, hbl⟩ := sealed_last hO hlt
  have h0 : out ≠ [] := by rintro rfl; simp at hb
  unfold decO
  rw [if_neg (by
    rintro (h | h | h | h | h)
    · exact h0 h
    · rw [hb] at h; simp at h; exact hb0 h
    · omega
    · omega
    · omega), hbl, hO.val, Int.toNat_natCast, show c + L + 1 - 1 - L = c by omega]
  have hp : 2 ^ (c + L) = 2 ^ L * 2 ^ c := by rw [Nat.pow_add, Nat.mul_comm]
  have hd : (N + st * 2 ^ c + 2 ^ (c + L)) / 2 ^ c = st + 2 ^ L := by
    rw [hp, Nat.add_assoc, ← Nat.add_mul, Nat.add_mul_div_right _ _ (Nat.two_pow_pos c), Nat.div_eq_of_lt q1, Nat.zero_add]
  have hm : (N + st * 2 ^ c + 2 ^ (c + L)) % 2 ^ c = N := by
    rw [hp, Nat.add_assoc, ← Nat.add_mul, Nat.add_mul_mod_self_right, Nat.mod_eq_of_lt q1]
  rw [hd, Nat.add_mod_right, Nat.mod_eq_of_lt q4]
  have := q _ 0 hm
  rw [Nat.zero_add, List.length_reverse] at this
  rw [this]
  simp [dk]
theorem enc_dec {l : List Int} {sh : List Nat} {L : Nat} (S : Shr l L sh) {bs o : List Int} (hB : isB bs) {n : Int} (h : decO L sh bs n = some o) :
    (o.length : Int) = n ∧ isB o ∧ ∃ st c N, wk L sh o.reverse 0 0 0 = some (st, c, N) ∧ ∀ out, Holds out (c + L + 1) (N + st * 2 ^ c + 2 ^ (c + L)) → out = bs := by
  unfold decO at h
  split at h
  · simp at h
  · rename_i h0
    simp only [not_or] at h0
    obtain ⟨h1, h2, h3, h4, h5⟩ := h0
    obtain ⟨b, hb⟩ : ∃ b, bs.getLast? = some b := by
      cases e : bs.getLast? with
      | none => rw [List.getLast?_eq_none_iff] at e; exact absurd e h1
      | some b => exact ⟨b, rfl⟩
    have hb0 : b ≠ 0 := by rintro rfl; exact h2 hb
    have hbB := hB b (List.mem_of_getLast? hb)
    obtain ⟨hbl, hpos⟩ := bl_leB hB hb hb0
    have hb1 := (bl_pos (n := b.toNat) (by omega)).2.2
    have hb8 : bl b.toNat ≤ 8 := bl_le (by omega)
    have hlen : 0 < bs.length := List.length_pos_iff.2 h1
    have hv : leB bs / 2 ^ (bl (leB bs) - 1 - L) % 2 ^ L < 2 ^ L := Nat.mod_lt _ (Nat.two_pow_pos _)
    split at h
    · rename_i o' st m hd
      split at h
      · rename_i hz
        obtain ⟨rfl, rfl⟩ := hz
        simp only [Option.some.injEq] at h
        subst h
        obtain ⟨q1, q2, q3⟩ := dk_wk S _ _ _ _ _ _ _ hv hd
        have q := q3 []
        rw [List.append_nil, Nat.pow_zero, Nat.mod_one] at q
        simp only [wk] at q
        refine ⟨by omega, q2, _, _, _, q, fun out hO => ?_⟩
        have hp := bl_pos hpos
        generalize hc : bl (leB bs) - 1 - L = c at *
        have hcL : bl (leB bs) - 1 = c + L := by omega
        rw [hcL] at hp
        have hbl2 : bl (leB bs) = c + L + 1 := by omega
        rw [hbl2] at hp
        have htot : leB bs % 2 ^ c + leB bs / 2 ^ c % 2 ^ L * 2 ^ c + 2 ^ (c + L) = leB bs := by
          rw [← mod_more]
          have h7 : leB bs / 2 ^ (c + L) = 1 := by
            apply Nat.div_eq_of_lt_le
            · omega
            · rw [Nat.pow_succ] at hp; omega
          have h8 := Nat.div_add_mod (leB bs) (2 ^ (c + L))
          rw [h7] at h8
          omega
        rw [htot] at hO
        refine leB_inj hO.isB hB ?_ hO.val
        rw [hO.len]
        omega
      · simp at h
    · simp at h
theorem wk_some {l : List Int} {sh : List Nat} {L : Nat} (S : Shr l L sh) : ∀ (ys : List Int) (st c N : Nat), st < 2 ^ L → (∀ y ∈ ys, ∃ n, sh[y.toNat]? = some n ∧ 0 < n) → ∃ r, wk L sh ys st c N = some r
  | [], st, c, N, _, _ => ⟨_, rfl⟩
  | y :: ys, st, c, N, hst, h => by
    simp only [wk]
    cases e : bk L sh st y.toNat with
    | none => exact absurd (h y (by simp)) ((bk_none S hst).1 e)
    | some i => exact wk_some S ys _ _ _ (bk_some S e).1 (fun z hz => h z (by simp [hz]))
inductive ShR : List Int → List Int → Prop
  | nil : ShR [] []
  | cons (c x : Int) (l X : List Int) : (0 < c → 1 ≤ x) → (¬ 0 < c → x = 0) → ShR l X → ShR (c :: l) (x :: X)
theorem shR_map (S T : Int) : ∀ l : List Int, ShR l (l.map (ptK S T))
  | [] => .nil
  | c :: l => .cons _ _ _ _ (fun h => by unfold ptK; rw [if_pos h]; split <;> omega) (fun h => by unfold ptK; rw [if_neg h]) (shR_map S T l)
theorem ShR.len {l X : List Int} (h : ShR l X) : X.length = l.length := by
  induction h with
  | nil => rfl
  | cons _ _ _ _ _ _ _ ih => simp [ih]
theorem ShR.nonneg {l X : List Int} (h : ShR l X) : ∀ z ∈ X, 0 ≤ z := by
  induction h with
  | nil => simp
  | cons c x l X h1 h2 _ ih =>
    intro z hz
    rcases List.mem_cons.1 hz with rfl | hz
    · by_cases h : 0 < c
      · have := h1 h; omega
      · have := h2 h; omega
    · exact ih z hz
theorem ShR.sum_le {l X : List Int} (h : ShR l X) (h1 : ∀ z ∈ X, z ≤ 1) : sumK X ≤ symK l := by
  induction h with
  | nil => simp [sumK, symK]
  | cons c x l X a b _ ih =>
    have := ih fun z hz => h1 z (by simp [hz])
    have hx := h1 x (by simp)
    simp only [sumK, symK]
    by_cases hc : 0 < c
    · rw [if_pos hc]; omega
    · rw [if_neg hc]; have := b hc; omega
theorem ShR.set {l X : List Int} (h : ShR l X) : ∀ {g : Nat} {c v : Int}, l[g]? = some c → 0 < c → 1 ≤ v → ShR l (X.set g v) := by
  induction h with
  | nil => intro g c v h; simp at h
  | cons c x l X a b h ih =>
    intro g c' v hg hc hv
    cases g with
    | zero =>
      simp only [List.getElem?_cons_zero, Option.some.injEq] at hg
      subst hg
      exact .cons _ _ _ _ (fun _ => hv) (fun h => absurd hc h) h
    | succ g => exact .cons _ _ _ _ a b (ih (by simpa using hg) hc hv)
theorem ShR.pos {l X : List Int} (h : ShR l X) : ∀ {g : Nat} {c : Int}, l[g]? = some c → ∃ x, X[g]? = some x ∧ (0 < c → 1 ≤ x) ∧ (¬ 0 < c → x = 0) := by
  induction h with
  | nil => intro g c h; simp at h
  | cons c x l X a b h ih =>
    intro g c' hg
    cases g with
    | zero =>
      simp only [List.getElem?_cons_zero, Option.some.injEq] at hg
      subst hg
      exact ⟨x, rfl, a, b⟩
    | succ g =>
      obtain ⟨y, h1, h2⟩ := ih (by simpa using hg)
      exact ⟨y, by simpa using h1, h2⟩
theorem sumK_set : ∀ {X : List Int} {g : Nat} {x v : Int}, X[g]? = some x → sumK (X.set g v) = sumK X - x + v
  | [], g, x, v, h => by simp at h
  | y :: X, 0, x, v, h => by
    simp only [List.getElem?_cons_zero, Option.some.injEq] at h
    subst h
    simp only [List.set_cons_zero, sumK]; omega
  | y :: X, g + 1, x, v, h => by
    have := sumK_set (X := X) (g := g) (x := x) (v := v) (by simpa using h)
    simp only [List.set_cons_succ, sumK, this]; omega
theorem mem_le_sum : ∀ {X : List Int}, (∀ z ∈ X, 0 ≤ z) → 0 ≤ sumK X ∧ ∀ z ∈ X, z ≤ sumK X
  | [], _ => by simp [sumK]
  | x :: X, h => by
    obtain ⟨a, b⟩ := mem_le_sum (X := X) fun z hz => h z (by simp [hz])
    have := h x (by simp)
    refine ⟨by simp only [sumK]; omega, fun z hz => ?_⟩
    rcases List.mem_cons.1 hz with rfl | hz
    · simp only [sumK]; omega
    · have := b z hz; simp only [sumK]; omega
theorem sum_nonpos : ∀ {X : List Int}, (∀ z ∈ X, z ≤ 0) → sumK X ≤ 0
  | [], _ => by simp [sumK]
  | x :: X, h => by
    have := sum_nonpos (X := X) fun z hz => h z (by simp [hz])
    have := h x (by simp)
    simp only [sumK]; omega
theorem loop70s (t : Nat) (l : List Int) (log S : Int) (hS : 0 ≤ S ∧ S ≤ 512) (hs : symK l ≤ S) (hl : l.length ≤ 256) : ∀ (j : Nat) (left : Int) (X : List Int) (K : Nat), left + j = 0 → -1000 ≤ left → ShR l X → sumK X = S - left → 0 < X.length → j < K →
    ∃ env Y, loopH (evC T70 KK b70x0) [7, 8] K (canon70 t l X log left) = some (.exit 0, ⟨env, [.ro t (.ints .i64 l), .int .i64 log], [.rows none (.ints .i64 Y)]⟩) ∧ getT 7 env = .one (.row 0) ∧ ShR l Y ∧ sumK Y = S
  | 0, left, X, K, h, hb, hX, hsum, h0, hK => by
    obtain ⟨env, e, g⟩ := end70 t l X log left (by omega)
    exact ⟨env, X, loopH_exit e, g, hX, by omega⟩
  | j + 1, left, X, K, h, hb, hX, hsum, h0, hK => by
    have hlen := hX.len
    obtain ⟨g, hg, e90, hmax⟩ := f90 0 X (by omega) h0
    obtain ⟨hn0, hle⟩ := mem_le_sum hX.nonneg
    have hxg : X[g]? = some X[g] := List.getElem?_eq_getElem hg
    have hx1 := hle X[g] (List.getElem_mem hg)
    have hx0 := hX.nonneg X[g] (List.getElem_mem hg)
    have hx2 : 2 ≤ X[g] := by
      rcases Int.lt_or_le X[g] 2 with h2 | h2
      · have := hX.sum_le fun z hz => by have := hmax z hz; omega
        omega
      · exact h2
    obtain ⟨st1, e1, e2⟩ := body70 t l X log left (left + 1) g hg e90 (by omega) (i64_in _ (by omega))
    rw [i64_in _ (by omega)] at e2
    have hc : l[g]? = some l[g] := List.getElem?_eq_getElem (by omega)
    have hcp : 0 < l[g] := by
      obtain ⟨x, q1, _, q2⟩ := hX.pos hc
      rw [hxg] at q1
      simp at q1
      rcases Int.lt_or_le 0 l[g] with h | h
      · exact h
      · have := q2 (by omega); omega
    obtain ⟨env, Y, e, q, q2⟩ := loop70s t l log S hS hs hl j (left + 1) (X.set g (X[g] - 1)) (K - 1) (by omega) (by omega) (hX.set hc hcp (by omega)) (by rw [sumK_set hxg]; omega) (by simpa using h0) (by omega)
    exact ⟨env, Y, by rw [loopH_norm e1 (by omega), e2]; exact e, q, q2⟩
theorem f70s (t : Nat) (l : List Int) (log : Int) (hl : 0 < l.length) (hl2 : l.length ≤ 256) (hT : 0 < sumK l ∧ sumK l ≤ 400) (hB : ∀ z ∈ l, 0 ≤ z ∧ z ≤ sumK l) (h5 : 5 ≤ log ∧ log ≤ 9) (hs : symK l ≤ ((2 ^ log.toNat : Nat) : Int)) :
    ∃ Y, F70 [.one (.ro t (.ints .i64 l)), .one (.int .i64 log)] [] = some (.tup [.one (.row 0), .one (.bool true)], [.rows none (.ints .i64 Y)]) ∧ ShR l Y ∧ sumK Y = ((2 ^ log.toNat : Nat) : Int) := by
  have e85 := fun t => f85 t l hl2 fun z hz => by have := hB z hz; omega
  rw [decide_eq_true hT.1] at e85
  have e88 := e88 log
  rw [decide_eq_true h5] at e88
  have e86 := fun t => f86 t l (by omega)
  obtain ⟨es, p1, p2⟩ := shl_pow (log := log) h5
  generalize ((2 ^ log.toNat : Nat) : Int) = S at *
  have e89 := fun t => f89 t l S hl2 ⟨p1, p2⟩ hT hB
  obtain ⟨q1, q2⟩ := sum_parts_le (S := S) l ⟨p1, p2⟩ hT hB
  have e87 := fun t => f87 t (l.map (ptK S (sumK l))) (by simp; omega) (fun z hz => by
    simp only [List.mem_map] at hz
    obtain ⟨c, hc, rfl⟩ := hz
    obtain ⟨a1, a2, _⟩ := pt_bound (c := c) ⟨p1, p2⟩ hT (hB c hc)
    omega)
  have hSh := shR_map S (sumK l) l
  have hXl : (l.map (ptK S (sumK l))).length = l.length := by simp
  generalize hX : l.map (ptK S (sumK l)) = X at *
  have hn := hSh.nonneg
  obtain ⟨hn0, hle⟩ := mem_le_sum hn
  generalize hσ : sumK X = σ at *
  have wl : IntKind.i64.wrap (S - σ) = S - σ := i64_in _ (by omega)
  have n1 : ¬ S < symK l := by omega
  have hlog : ¬ log < 0 := by omega
  by_cases hpos : 0 < S - σ
  · obtain ⟨g, hg, e90, hmax⟩ := f90 0 l (by omega) hl
    have hgX : g < X.length := by omega
    have hg2 : (g : Int) < X.length := by omega
    have h0 : (0 : Int) ≤ g := by omega
    have hc : l[g]? = some l[g] := List.getElem?_eq_getElem hg
    have hxg : X[g]? = some X[g] := List.getElem?_eq_getElem hgX
    have hx0 := hn X[g] (List.getElem_mem hgX)
    have hx1 := hle X[g] (List.getElem_mem hgX)
    have hcp : 0 < l[g] := by
      rcases Int.lt_or_le 0 l[g] with h | h
      · exact h
      · have := sum_nonpos (X := l) fun z hz => by have := hmax z hz; omega
        omega
    have hw : IntKind.i64.wrap (X[g] + (S - σ)) = X[g] + (S - σ) := i64_in _ (by omega)
    obtain ⟨env, e, q⟩ := end70 t l (X.set g (X[g] + (S - σ))) log (S - σ) (by omega)
    have e := loopH_exit (live := [7, 8]) (k := KK) e
    have hS2 := hSh.set (v := X[g] + (S - σ)) hc hcp (by omega)
    have hs2 : sumK (X.set g (X[g] + (S - σ))) = S := by rw [sumK_set hxg]; omega
    simp only [canon70] at e
    generalize hd : S - σ = d at *
    refine ⟨X.set g (X[g] + d), ?_, hS2, hs2⟩
    simp -implicitDefEqProofs [F70, c70, upd, e85, e88, e86, es, n1, hlog, e89, e87, hd, wl, hpos, e90, hgX, hg2, h0, hw, e, q, RC.len, RC.size, RC.get, RC.set]
  · obtain ⟨env, Y, e, q, hS2, hs2⟩ := loop70s t l log S ⟨by omega, by omega⟩ hs hl2 (σ - S).toNat (S - σ) X KK (by omega) (by omega) hSh (by omega) (by omega) (by rw [KK_eq]; omega)
    simp only [canon70] at e
    generalize hd : S - σ = d at *
    refine ⟨Y, ?_, hS2, hs2⟩
    simp -implicitDefEqProofs [F70, c70, upd, e85, e88, e86, es, n1, hlog, e89, e87, hd, wl, hpos, e, q, RC.len, RC.size, RC.get, RC.set]
theorem sumL_sumK : ∀ l : List Int, sumL l = sumK l
  | [] => rfl
  | x :: l => by simp only [sumL, sumK, sumL_sumK l]
theorem okN_of : ∀ {l : List Int}, (∀ z ∈ l, 0 ≤ z ∧ z ≤ 1000) → okN l = true
  | [], _ => rfl
  | x :: l, h => by
    simp only [okN, Bool.and_eq_true, decide_eq_true_eq]
    exact ⟨h x (by simp), okN_of fun z hz => h z (by simp [hz])⟩
theorem fair_of {Y l : List Int} {log : Int} (h5 : 5 ≤ log ∧ log ≤ 9) (hl : l.length ≤ 256) (hY : ShR l Y) (hs : sumK Y = ((2 ^ log.toNat : Nat) : Int)) : fairB Y log = true := by
  obtain ⟨p1, p2⟩ := pow9 h5
  obtain ⟨_, hle⟩ := mem_le_sum hY.nonneg
  have hlen := hY.len
  simp only [fairB, Bool.and_eq_true, decide_eq_true_eq]
  exact ⟨⟨h5.1, h5.2, by omega⟩, okN_of fun z hz => ⟨hY.nonneg z hz, by have := hle z hz; omega⟩, by rw [sumL_sumK, hs]⟩
theorem cnt_pos (l : List Int) (s : Nat) : ∀ n i : Nat, i < n → (l.getD i 0).toNat = s → 0 < cntK l n s ∧ s < mxK l n
  | 0, i, h, _ => by omega
  | n + 1, i, h, e => by
    have h0 := (cntK_bound l s n).1
    simp only [cntK, mxK]
    by_cases hi : i = n
    · subst hi
      rw [if_pos e]
      exact ⟨by omega, by rw [e]; omega⟩
    · obtain ⟨a, b⟩ := cnt_pos l s n i (by omega) e
      refine ⟨?_, by omega⟩
      split <;> omega
theorem ofK_pos {l : List Int} {c : Int} (h : c ∈ l) : ∃ n, (ofK l)[c.toNat]? = some n ∧ 0 < n := by
  obtain ⟨i, hi, rfl⟩ := List.getElem_of_mem h
  obtain ⟨a, b⟩ := cnt_pos l (l[i]).toNat l.length i hi (by rw [getD_at hi])
  exact ⟨_, by simp [ofK, List.getElem?_range b], a⟩
theorem f36 (t : Nat) (bs : List Int) (h : bs.length ≤ 100000) : F36 [.one (.ro t (.ints .u8 bs))] [] = some (.one (.ptr 0 0), bufHp none bs 0) := by
  have hm : bs.length ≤ 140737488355328 := by omega
  simp -implicitDefEqProofs [F36, c36, bufHp, hm, RC.len, RC.size, RC.app]
theorem f61 (bs : List Int) (at_ : Nat) (h : bs.length ≤ 100000) (ha : at_ ≤ 8 * bs.length) : F61 [.one (.ptr 0 0)] (bufHp (some 0) bs at_) = some (.one (.int .i64 (8 * bs.length - at_ : Nat)), bufHp (some 0) bs at_) := by
  have w1 : IntKind.i64.wrap (8 * (bs.length : Int)) = 8 * bs.length := i64_in _ (by omega)
  have w2 : IntKind.i64.wrap (8 * (bs.length : Int) - at_) = ((8 * bs.length - at_ : Nat) : Int) := by rw [i64_in _ (by omega)]; omega
  simp -implicitDefEqProofs [F61, c61, bufHp, RC.len, w1, w2]
def canon62 (n v got : Int) (bs : List Int) (at_ : Int) : St :=
  ⟨[(0, .one (.ptr 0 0)), (1, .one (.int .i64 n)), (6, .one (.int .u32 v)), (7, .one (.int .i64 got))], [.ptr 0 0, .int .i64 n], bufHp (some 0) bs at_⟩
theorem body62 (n v got at_ : Int) (bs : List Int) (a m e k i β s1 q mk p r v' got' at' : Int) (c : k = if e < m then e else m) (hgn : got < n)
    (ea : bitsI .and .i64 at_ 7 = a) (em : IntKind.i64.wrap (n - got) = m) (ee : IntKind.i64.wrap (8 - a) = e) (ei : shrI .i64 at_ 3 = i) (hi : i < bs.length) (hi0 : 0 ≤ i) (hβ : bs[i.toNat]?.getD 0 = β) (ha0 : ¬ a < 0) (hk0 : ¬ k < 0) (hg0 : ¬ got < 0)
    (es : shrI .u8 β a = s1) (ec : IntKind.u32.wrap s1 = s1) (eq : shlI .u32 1 k = q) (emk : IntKind.u32.wrap (q - 1) = mk) (ep : bitsI .and .u32 s1 mk = p) (er : shlI .u32 p got = r) (ev : bitsI .or .u32 v r = v') (eg : IntKind.i64.wrap (got + k) = got') (eat : IntKind.i64.wrap (at_ + k) = at') :
    ∃ st1, evC T62 KK b62x0 (canon62 n v got bs at_) = some (.norm, st1) ∧ St.head [0, 1, 6, 7] st1 = canon62 n v' got' bs at' := by
  have hβ' : bs[i.toNat]'(by omega) = β := by rw [List.getElem?_eq_getElem (by omega)] at hβ; exact hβ
  by_cases hc : e < m
  · rw [if_pos hc] at c
    subst c
    simp -implicitDefEqProofs [b62x0, canon62, bufHp, upd, hgn, ea, em, ee, ei, hi, hi0, hβ, hβ', ha0, hk0, hg0, hc, es, ec, eq, emk, ep, er, ev, eg, eat, RC.len, RC.size, RC.get]
  · rw [if_neg hc] at c
    subst c
    simp -implicitDefEqProofs [b62x0, canon62, bufHp, upd, hgn, ea, em, ee, ei, hi, hi0, hβ, hβ', ha0, hk0, hg0, hc, es, ec, eq, emk, ep, er, ev, eg, eat, RC.len, RC.size, RC.get]
theorem end62 (n v got at_ : Int) (bs : List Int) (hgn : ¬ got < n) :
    ∃ env, evC T62 KK b62x0 (canon62 n v got bs at_) = some (.exit 0, ⟨env, [.ptr 0 0, .int .i64 n], bufHp (some 0) bs at_⟩) ∧ getT 6 env = .one (.int .u32 v) := by
  simp -implicitDefEqProofs [b62x0, canon62, upd, hgn]
theorem take_step {N at0 got k β a i : Nat} (hat : at0 + got = 8 * i + a) (hak : a + k ≤ 8) (hβ : N / 2 ^ (8 * i) % 256 = β) : N / 2 ^ at0 % 2 ^ got + β / 2 ^ a % 2 ^ k * 2 ^ got = N / 2 ^ at0 % 2 ^ (got + k) := by
  rw [mod_more, Nat.div_div_eq_div_mul, ← Nat.pow_add, hat, ← byte_bits hak, hβ]
theorem loop62 (n : Nat) (bs : List Int) (at0 : Nat) (hb : isB bs) (hn : n ≤ 32) (hle : at0 + n ≤ 8 * bs.length) (hl : bs.length ≤ 100000) : ∀ (j got : Nat) (K : Nat), got + j = n → j < K →
    ∃ env, loopH (evC T62 KK b62x0) [0, 1, 6, 7] K (canon62 n ((leB bs / 2 ^ at0 % 2 ^ got : Nat) : Int) got bs (at0 + got : Nat)) = some (.exit 0, ⟨env, [.ptr 0 0, .int .i64 n], bufHp (some 0) bs (at0 + n : Nat)⟩) ∧ getT 6 env = .one (.int .u32 ((leB bs / 2 ^ at0 % 2 ^ n : Nat) : Int)) := by
  intro j
  induction j using Nat.strongRecOn with
  | ind j ih =>
  intro got K hj hK
  by_cases hlt : got < n
  · obtain ⟨a, ha⟩ : ∃ a, a = (at0 + got) % 8 := ⟨_, rfl⟩
    obtain ⟨i, hi⟩ : ∃ i, i = (at0 + got) / 8 := ⟨_, rfl⟩
    obtain ⟨k, hk⟩ : ∃ k, k = if 8 - a < n - got then 8 - a else n - got := ⟨_, rfl⟩
    have hat : at0 + got = 8 * i + a := by omega
    have hk1 : 0 < k ∧ a + k ≤ 8 ∧ got + k ≤ n := by subst hk; split <;> omega
    have hib : i < bs.length := by omega
    obtain ⟨b, hbi⟩ : ∃ b, bs[i]? = some b := ⟨_, List.getElem?_eq_getElem hib⟩
    have hbr := hb b (List.mem_of_getElem? hbi)
    obtain ⟨β, rfl⟩ : ∃ β : Nat, b = β := ⟨b.toNat, by omega⟩
    have hβ := leB_at hb hbi
    simp only [Int.toNat_natCast] at hβ
    have hv : leB bs / 2 ^ at0 % 2 ^ got < 2 ^ got := Nat.mod_lt _ (Nat.two_pow_pos got)
    have hstep := take_step (N := leB bs) (k := k) hat hk1.2.1 hβ
    have hlim : leB bs / 2 ^ at0 % 2 ^ (got + k) < 2 ^ 32 := Nat.lt_of_lt_of_le (Nat.mod_lt _ (Nat.two_pow_pos _)) (Nat.pow_le_pow_right (by omega) (by omega))
    have hs1 : β / 2 ^ a < 256 := Nat.lt_of_le_of_lt (Nat.div_le_self _ _) (by omega)
    have hpk : (2 : Nat) ^ k ≤ 2 ^ 8 := Nat.pow_le_pow_right (by omega) (by omega)
    have hp0 := Nat.two_pow_pos k
    have hr0 : leB bs / 2 ^ at0 % 2 ^ got + β / 2 ^ a % 2 ^ k * 2 ^ got < 2 ^ 32 := by rw [hstep]; exact hlim
    have hr : β / 2 ^ a % 2 ^ k * 2 ^ got < 2 ^ 32 := Nat.lt_of_le_of_lt (Nat.le_add_left _ _) hr0
    have eq1 : shlI .u32 1 (k : Int) = ((2 ^ k : Nat) : Int) := by
      have := shl_in (k := .u32) (x := 1) (n := k) rfl (by simp only [IntKind.bits]; omega) (by simp only [IntKind.bits]; omega)
      rw [Nat.one_mul] at this
      exact this
    have emk : IntKind.u32.wrap (((2 ^ k : Nat) : Int) - 1) = ((2 ^ k - 1 : Nat) : Int) := by
      generalize (2 : Nat) ^ k = P at hpk hp0 ⊢
      rw [u32_in _ (by omega)]; omega
    have ec : IntKind.u32.wrap ((β / 2 ^ a : Nat) : Int) = ((β / 2 ^ a : Nat) : Int) := by
      generalize β / 2 ^ a = s1 at hs1 ⊢
      exact u32_in _ (by omega)
    obtain ⟨st1, e1, e2⟩ := body62 n ((leB bs / 2 ^ at0 % 2 ^ got : Nat) : Int) got (at0 + got : Nat) bs a (n - got : Nat) (8 - a : Nat) k i β (β / 2 ^ a : Nat) (2 ^ k : Nat) (2 ^ k - 1 : Nat) (β / 2 ^ a % 2 ^ k : Nat) (β / 2 ^ a % 2 ^ k * 2 ^ got : Nat) ((leB bs / 2 ^ at0 % 2 ^ (got + k) : Nat) : Int) (got + k : Nat) (at0 + (got + k) : Nat)
      (by rw [hk]; by_cases c : 8 - a < n - got
          · rw [if_pos c, if_pos (by omega)]
          · rw [if_neg c, if_neg (by omega)])
      (by omega) (by rw [and7_i64 (by omega), ← ha]) (by rw [i64_in _ (by omega)]; omega) (by rw [i64_in _ (by omega)]; omega)
      (by rw [show (3 : Int) = ((3 : Nat) : Int) from rfl, shr_in (by simp only [IntKind.bits]; omega), show (2 : Nat) ^ 3 = 8 from rfl, ← hi]) (by omega) (by omega) (by rw [Int.toNat_natCast, hbi]; rfl) (by omega) (by omega) (by omega)
      (shr_in (by simp only [IntKind.bits]; omega)) ec eq1 emk
      (mask_and rfl (by simp only [IntKind.bits]; omega) (by simp only [IntKind.bits]; omega)) (shl_in rfl (by simp only [IntKind.bits]; omega) (by simp only [IntKind.bits]; exact hr))
      (by rw [← hstep]; exact or_add rfl hv (by simp only [IntKind.bits]; exact hr0)) (by rw [i64_in _ (by omega)]; omega) (by rw [i64_in _ (by omega)]; omega)
    obtain ⟨env, e, g⟩ := ih (j - k) (by omega) (got + k) (K - 1) (by omega) (by omega)
    exact ⟨env, by rw [loopH_norm e1 (by omega), e2]; exact e, g⟩
  · obtain rfl : got = n := by omega
    obtain ⟨env, e, g⟩ := end62 got ((leB bs / 2 ^ at0 % 2 ^ got : Nat) : Int) got (at0 + got : Nat) bs (by omega)
    exact ⟨env, loopH_exit e, g⟩
theorem f62b (bs : List Int) (at_ : Nat) (n : Int) (h : 0 ≤ n ∧ n ≤ 32) (hl : bs.length ≤ 100000) (ha : at_ ≤ 8 * bs.length) (hn : (8 * bs.length - at_ : Nat) < n) : F62 [.one (.ptr 0 0), .one (.int .i64 n)] (bufHp (some 0) bs at_) = some (tup2 0 false, bufHp (some 0) bs at_) := by
  have e43 := f43a n h
  have e61 := f61 bs at_ hl ha
  simp only [bufHp] at e61
  generalize ((8 * bs.length - at_ : Nat) : Int) = q at *
  simp -implicitDefEqProofs [F62, c62, upd, tup2, bufHp, e43, e61, hn]
theorem f62 (bs : List Int) (at_ n : Nat) (hb : isB bs) (h : n ≤ 32) (hl : bs.length ≤ 100000) (hn : at_ + n ≤ 8 * bs.length) : F62 [.one (.ptr 0 0), .one (.int .i64 n)] (bufHp (some 0) bs at_) = some (tup2 ((leB bs / 2 ^ at_ % 2 ^ n : Nat) : Int) true, bufHp (some 0) bs (at_ + n : Nat)) := by
  have e43 := f43a (n : Int) (by omega)
  have e61 := f61 bs at_ hl (by omega)
  obtain ⟨env, e, g⟩ := loop62 n bs at_ hb h hn hl n 0 KK (by omega) (by rw [KK_eq]; omega)
  have z : ((0 : Nat) : Int) = 0 := rfl
  have hq : ¬ ((8 * bs.length - at_ : Nat) : Int) < (n : Int) := by omega
  simp only [canon62, bufHp, Nat.pow_zero, Nat.mod_one, z, Nat.add_zero] at e e61
  generalize ((8 * bs.length - at_ : Nat) : Int) = q at *
  generalize ((leB bs / 2 ^ at_ % 2 ^ n : Nat) : Int) = v at *
  generalize ((at_ + n : Nat) : Int) = at' at *
  simp -implicitDefEqProofs [F62, c62, upd, tup2, bufHp, e43, e61, hq, e, g]
def hlp (N T : Nat) : Nat → Nat → Nat → Option (List Int × Nat)
  | 0, rest, pos => if rest = 0 then some ([], pos) else none
  | j + 1, rest, pos => if rest = 0 then some ([], pos) else if T < pos + bl rest then none else if rest < N / 2 ^ pos % 2 ^ bl rest then none
      else (hlp N T j (rest - N / 2 ^ pos % 2 ^ bl rest) (pos + bl rest)).map fun p => (((N / 2 ^ pos % 2 ^ bl rest : Nat) : Int) :: p.1, p.2)
def hdT (N T pos : Nat) : Option (List Int × Nat × Nat) :=
  if T < pos + 3 then none else if 9 < 5 + N / 2 ^ pos % 8 then none else (hlp N T 256 (2 ^ (5 + N / 2 ^ pos % 8)) (pos + 3)).map fun p => (p.1, 5 + N / 2 ^ pos % 8, p.2)
def hHp (bs : List Int) (pos : Int) (out : List Int) : List Ob := [.cells (some 0) [.row 1, .int .i64 pos], .rows none (.ints .u8 bs), .rows none (.ints .i64 out)]
def canon80 (log : Int) (bs : List Int) (pos : Int) (rest : Int) (out : List Int) : St := ⟨[(0, .one (.ptr 0 0)), (7, .one (.int .i64 log)), (8, .one (.row 2)), (9, .one (.int .i64 rest))], [.ptr 0 0], hHp bs pos out⟩
def res49 : List (Nat × Option (Option Nat)) := [(2, none), (3, none), (4, none)]
def tup3 (v : SV) (n : Int) (b : Bool) : AV := .tup [.one v, .one (.int .i64 n), .one (.bool b)]
def bad49 (r : Option (Ex × St)) (bs : List Int) : Prop := ∃ st1 pos', r = some (.ret, st1) ∧ give st1.rts st1.hp (resL st1.env st1.hp res49) = some (tup3 (.row 2) 0 false, hHp bs pos' [])
theorem end80 (log : Int) (bs : List Int) (pos : Int) (out : List Int) : ∃ env, evC T80 KK b80x0 (canon80 log bs pos 0 out) = some (.exit 0, ⟨env, [.ptr 0 0], hHp bs pos out⟩) ∧ getT 7 env = .one (.int .i64 log) ∧ getT 8 env = .one (.row 2) := by
  simp -implicitDefEqProofs [b80x0, canon80, hHp]
theorem short49 (log : Int) (bs : List Int) (pos pos' rest w v : Int) (out : List Int) (ok : Bool) (hr : 0 < rest) (wr : IntKind.u32.wrap rest = rest) (e42 : F42 [.one (.int .u32 rest)] [] = some (.one (.int .i64 w), []))
    (e62 : F62 [.one (.ptr 0 0), .one (.int .i64 w)] (bufHp (some 0) bs pos) = some (tup2 v ok, bufHp (some 0) bs pos')) (wv : IntKind.i64.wrap v = v) (h : ok = false ∨ (ok = true ∧ (rest < v ∨ out.length = 256))) : bad49 (evC T80 KK b80x0 (canon80 log bs pos rest out)) bs := by
  unfold bad49
  simp only [bufHp, tup2] at e62
  rcases h with rfl | ⟨rfl, h⟩
  · simp -implicitDefEqProofs [b80x0, canon80, hHp, res49, tup3, upd, hr, wr, e42, e62]
  · by_cases h1 : rest < v
    · simp -implicitDefEqProofs [b80x0, canon80, hHp, res49, tup3, upd, hr, wr, e42, e62, wv, h1]
    · have h2 : out.length = 256 := by
        rcases h with h | h
        · exact absurd h h1
        · exact h
      have h2i : (out.length : Int) = 256 := by omega
      simp -implicitDefEqProofs [b80x0, canon80, hHp, res49, tup3, upd, hr, wr, e42, e62, wv, h1, h2, h2i, RC.len]
theorem body80 (log : Int) (bs : List Int) (pos pos' rest w v rest' : Int) (out : List Int) (hr : 0 < rest) (wr : IntKind.u32.wrap rest = rest) (e42 : F42 [.one (.int .u32 rest)] [] = some (.one (.int .i64 w), []))
    (e62 : F62 [.one (.ptr 0 0), .one (.int .i64 w)] (bufHp (some 0) bs pos) = some (tup2 v true, bufHp (some 0) bs pos')) (wv : IntKind.i64.wrap v = v) (h1 : ¬ rest < v) (h2 : out.length < 256) (ws : IntKind.i64.wrap (rest - v) = rest') :
    ∃ st1, evC T80 KK b80x0 (canon80 log bs pos rest out) = some (.norm, st1) ∧ St.head [0, 7, 8, 9] st1 = canon80 log bs pos' rest' (out ++ [v]) := by
  have h3 : ¬ out.length = 256 := by omega
  have h3i : ¬ (out.length : Int) = 256 := by omega
  have hm : (out.length + 1) * 8 ≤ 140737488355328 := by omega
  simp only [bufHp, tup2] at e62
  simp -implicitDefEqProofs [b80x0, canon80, hHp, upd, hr, wr, e42, e62, wv, h1, h3, h3i, ws, hm, RC.ofElems, RC.app, RC.len, RC.size]
theorem bl9 {r : Nat} (h : r ≤ 512) : bl r ≤ 10 := bl_le (n := r) (k := 10) (by omega)
theorem loop80 (log : Int) (bs : List Int) (hB : isB bs) (hl : bs.length ≤ 90000) : ∀ (j rest pos K : Nat) (out : List Int), out.length + j = 256 → rest ≤ 512 → pos ≤ 8 * bs.length → j + 1 < K →
    match hlp (leB bs) (8 * bs.length) j rest pos with
    | some p => ∃ env, loopH (evC T80 KK b80x0) [0, 7, 8, 9] K (canon80 log bs pos rest out) = some (.exit 0, ⟨env, [.ptr 0 0], hHp bs (p.2 : Nat) (out ++ p.1)⟩) ∧ getT 7 env = .one (.int .i64 log) ∧ getT 8 env = .one (.row 2)
    | none => bad49 (loopH (evC T80 KK b80x0) [0, 7, 8, 9] K (canon80 log bs pos rest out)) bs
  | j, 0, pos, K, out, ho, hr, hp, hK => by
    have e : hlp (leB bs) (8 * bs.length) j 0 pos = some ([], pos) := by cases j <;> rfl
    rw [e]
    obtain ⟨env, e1, g⟩ := end80 log bs pos out
    have z : ((0 : Nat) : Int) = 0 := rfl
    simp only [List.append_nil]
    rw [z]
    exact ⟨env, loopH_exit e1, g⟩
  | 0, rest + 1, pos, K, out, ho, hr, hp, hK => by
    have e : hlp (leB bs) (8 * bs.length) 0 (rest + 1) pos = none := rfl
    rw [e]
    have hb := bl9 hr
    have e42 := e42 ((rest + 1 : Nat) : Int) (by omega) (by omega)
    rw [Int.toNat_natCast] at e42
    have wr : IntKind.u32.wrap ((rest + 1 : Nat) : Int) = ((rest + 1 : Nat) : Int) := u32_in _ (by omega)
    have key : ∃ v pos' ok, F62 [.one (.ptr 0 0), .one (.int .i64 (bl (rest + 1) : Nat))] (bufHp (some 0) bs pos) = some (tup2 v ok, bufHp (some 0) bs pos') ∧ IntKind.i64.wrap v = v := by
      by_cases hn : pos + bl (rest + 1) ≤ 8 * bs.length
      · have e62 := f62 bs pos (bl (rest + 1)) hB (by omega) (by omega) hn
        have hm := Nat.mod_lt (leB bs / 2 ^ pos) (Nat.two_pow_pos (bl (rest + 1)))
        have hp2 : 2 ^ bl (rest + 1) ≤ 2 ^ 10 := Nat.pow_le_pow_right (by omega) hb
        exact ⟨_, _, _, e62, i64_in _ (by omega)⟩
      · exact ⟨_, _, _, f62b bs pos _ (by omega) (by omega) hp (by omega), by decide⟩
    obtain ⟨v, pos', ok, e62, wv⟩ := key
    have hb2 := short49 log bs pos pos' ((rest + 1 : Nat) : Int) _ v out ok (by omega) wr e42 e62 wv (by
      cases ok
      · exact .inl rfl
      · exact .inr ⟨rfl, .inr (by omega)⟩)
    obtain ⟨st1, q, e1, e2⟩ := hb2
    exact ⟨st1, q, loopH_ret e1, e2⟩
  | j + 1, rest + 1, pos, K, out, ho, hr, hp, hK => by
    have hb := bl9 hr
    have hb0 : 0 < bl (rest + 1) := (bl_pos (n := rest + 1) (by omega)).2.2
    have e42 := e42 ((rest + 1 : Nat) : Int) (by omega) (by omega)
    rw [Int.toNat_natCast] at e42
    have wr : IntKind.u32.wrap ((rest + 1 : Nat) : Int) = ((rest + 1 : Nat) : Int) := u32_in _ (by omega)
    rw [hlp, if_neg (by omega)]
    by_cases hn : 8 * bs.length < pos + bl (rest + 1)
    · rw [if_pos hn]
      obtain ⟨st1, q, e1, e2⟩ := short49 log bs pos pos ((rest + 1 : Nat) : Int) _ 0 out false (by omega) wr e42 (f62b bs pos _ (by omega) (by omega) hp (by omega)) (by decide) (.inl rfl)
      exact ⟨st1, q, loopH_ret e1, e2⟩
    · rw [if_neg hn]
      have e62 := f62 bs pos (bl (rest + 1)) hB (by omega) (by omega) (by omega)
      have hm := Nat.mod_lt (leB bs / 2 ^ pos) (Nat.two_pow_pos (bl (rest + 1)))
      have hp2 : 2 ^ bl (rest + 1) ≤ 2 ^ 10 := Nat.pow_le_pow_right (by omega) hb
      generalize leB bs / 2 ^ pos % 2 ^ bl (rest + 1) = v at *
      have wv : IntKind.i64.wrap (v : Int) = v := i64_in _ (by omega)
      by_cases hv : rest + 1 < v
      · rw [if_pos hv]
        obtain ⟨st1, q, e1, e2⟩ := short49 log bs pos _ ((rest + 1 : Nat) : Int) _ v out true (by omega) wr e42 e62 wv (.inr ⟨rfl, .inl (by omega)⟩)
        exact ⟨st1, q, loopH_ret e1, e2⟩
      · rw [if_neg hv]
        obtain ⟨st1, e1, e2⟩ := body80 log bs pos _ ((rest + 1 : Nat) : Int) _ v ((rest + 1 - v : Nat) : Int) out (by omega) wr e42 e62 wv (by omega) (by omega) (by rw [i64_in _ (by omega)]; omega)
        have ih := loop80 log bs hB hl j (rest + 1 - v) (pos + bl (rest + 1)) (K - 1) (out ++ [(v : Int)]) (by rw [List.length_append]; simp only [List.length_cons, List.length_nil]; omega) (by omega) (by omega) (by omega)
        rw [loopH_norm e1 (by omega), e2]
        cases hh : hlp (leB bs) (8 * bs.length) j (rest + 1 - v) (pos + bl (rest + 1)) with
        | none => rw [hh] at ih; exact ih
        | some p =>
          rw [hh] at ih
          simp only [Option.map_some]
          simp only at ih
          rw [List.append_assoc, List.singleton_append] at ih
          exact ih
theorem f80 (bs : List Int) (pos : Nat) (hB : isB bs) (hl : bs.length ≤ 90000) (hp : pos ≤ 8 * bs.length) :
    match hdT (leB bs) (8 * bs.length) pos with
    | some p => F80 [.one (.ptr 0 0)] (bufHp (some 0) bs pos) = some (tup3 (.row 2) (p.2.1 : Nat) true, hHp bs (p.2.2 : Nat) p.1)
    | none => ∃ pos', F80 [.one (.ptr 0 0)] (bufHp (some 0) bs pos) = some (tup3 (.row 2) 0 false, hHp bs pos' []) := by
  unfold hdT
  by_cases h3 : 8 * bs.length < pos + 3
  · rw [if_pos h3]
    have e62 := f62b bs pos 3 (by omega) (by omega) hp (by omega)
    refine ⟨(pos : Nat), ?_⟩
    have w0 : IntKind.i64.wrap (0 : Int) = 0 := by decide
    simp only [bufHp, tup2] at e62 ⊢
    simp -implicitDefEqProofs [F80, c80, upd, e62, hHp, tup3]
  · rw [if_neg h3]
    have e62 := f62 bs pos 3 hB (by omega) (by omega) (by omega)
    have hm := Nat.mod_lt (leB bs / 2 ^ pos) (show 0 < 8 by decide)
    have h8 : (2 : Nat) ^ 3 = 8 := rfl
    have c3 : ((3 : Nat) : Int) = 3 := rfl
    rw [h8, c3] at e62
    generalize hg : leB bs / 2 ^ pos % 8 = g at *
    have wg : IntKind.i64.wrap (g : Int) = g := i64_in _ (by omega)
    have wg5 : IntKind.i64.wrap (5 + (g : Int)) = ((5 + g : Nat) : Int) := by rw [i64_in _ (by omega)]; omega
    by_cases h9 : 9 < 5 + g
    · rw [if_pos h9]
      have h9i : (9 : Int) < ((5 + g : Nat) : Int) := by omega
      refine ⟨((pos + 3 : Nat) : Int), ?_⟩
      simp only [bufHp, tup2] at e62 ⊢
      generalize ((pos + 3 : Nat) : Int) = q at *
      generalize ((5 + g : Nat) : Int) = lg at *
      simp -implicitDefEqProofs [F80, c80, upd, e62, wg, wg5, h9i, hHp, tup3]
    · rw [if_neg h9]
      have h9i : ¬ (9 : Int) < ((5 + g : Nat) : Int) := by omega
      have h0i : ¬ ((5 + g : Nat) : Int) < 0 := by omega
      have hp2 := pow9 (log := ((5 + g : Nat) : Int)) (by omega)
      rw [Int.toNat_natCast] at hp2
      have es : shlI .i64 1 ((5 + g : Nat) : Int) = ((2 ^ (5 + g) : Nat) : Int) := by
        have hmin : Nat.min (5 + g) 64 = 5 + g := Nat.min_eq_left (by omega)
        have : shlI .i64 1 ((5 + g : Nat) : Int) = IntKind.i64.wrap (1 * 2 ^ Nat.min (5 + g) 64) := rfl
        rw [this, hmin, Int.one_mul]
        have e2 : (2 : Int) ^ (5 + g) = ((2 ^ (5 + g) : Nat) : Int) := by push_cast; rfl
        rw [e2]
        exact i64_in _ (by omega)
      have hlp' := loop80 ((5 + g : Nat) : Int) bs hB hl 256 (2 ^ (5 + g)) (pos + 3) KK [] rfl hp2.2 (by omega) (by rw [KK_eq]; omega)
      cases hh : hlp (leB bs) (8 * bs.length) 256 (2 ^ (5 + g)) (pos + 3) with
      | some p =>
        rw [hh] at hlp'
        simp only [Option.map_some]
        simp only [List.nil_append] at hlp'
        obtain ⟨env, e, g7, g8⟩ := hlp'
        simp only [canon80, hHp] at e
        simp only [bufHp, tup2] at e62 ⊢
        generalize ((pos + 3 : Nat) : Int) = q at *
        generalize ((5 + g : Nat) : Int) = lg at *
        generalize ((2 ^ (5 + g) : Nat) : Int) = sz at *
        simp -implicitDefEqProofs [F80, c80, upd, e62, wg, wg5, h9i, h0i, es, hHp, tup3, e, g7, g8]
      | none =>
        rw [hh] at hlp'
        simp only [Option.map_none]
        obtain ⟨st1, pos', e, e2⟩ := hlp'
        refine ⟨pos', ?_⟩
        rw [← e2]
        obtain ⟨env1, rts1, hp1⟩ := st1
        simp only [canon80, hHp] at e
        have e1' : evF T80 KK c80 [.one (.ptr 0 0)] (bufHp (some 0) bs pos) = resC res49 (some (.ret, ⟨env1, rts1, hp1⟩)) := by
          unfold evF
          have hr2 : c80.results = res49 := rfl
          rw [hr2]
          refine congrArg _ ?_
          simp only [bufHp, tup2] at e62 ⊢
          generalize ((pos + 3 : Nat) : Int) = q at *
          generalize ((5 + g : Nat) : Int) = lg at *
          generalize ((2 ^ (5 + g) : Nat) : Int) = sz at *
          simp -implicitDefEqProofs [c80, upd, e62, wg, wg5, h9i, h0i, es, e]
        exact e1'
def canon74 (l : List Int) (log pos rest : Int) (out : List Int) : St := ⟨[(0, .one (.ro 0 (.ints .i64 l))), (5, .one (.int .i64 log)), (6, .one (.row 0)), (7, .one (.int .i64 pos)), (8, .one (.int .i64 rest))], [.ro 0 (.ints .i64 l)], [.rows none (.ints .i64 out)]⟩
def tup3i (v : SV) (n m : Int) : AV := .tup [.one v, .one (.int .i64 n), .one (.int .i64 m)]
def bad50 (r : Option (Ex × St)) : Prop := ∃ st1, r = some (.ret, st1) ∧ give st1.rts st1.hp (resL st1.env st1.hp res49) = some (tup3i (.row 0) 0 0, [.rows none (.ints .i64 [])])
theorem end74 (l : List Int) (log pos : Int) (out : List Int) : ∃ env, evC T74 KK b74x0 (canon74 l log pos 0 out) = some (.exit 0, ⟨env, [.ro 0 (.ints .i64 l)], [.rows none (.ints .i64 out)]⟩) ∧ getT 5 env = .one (.int .i64 log) ∧ getT 6 env = .one (.row 0) ∧ getT 7 env = .one (.int .i64 pos) := by
  simp -implicitDefEqProofs [b74x0, canon74]
theorem short50 (l : List Int) (log : Int) (pos pos' : Nat) (rest w : Int) (out : List Int) (hr : 0 < rest) (wr : IntKind.u32.wrap rest = rest) (e99 : F99 [.one (.int .u32 rest)] [] = some (.one (.int .i64 w), [])) (wp : IntKind.i64.wrap ((pos : Int) + w) = pos')
    (h : l.length < pos' ∨ out.length = 256) : bad50 (evC T74 KK b74x0 (canon74 l log pos rest out)) := by
  unfold bad50
  by_cases h1 : l.length < pos'
  · have h1i : (l.length : Int) < pos' := by omega
    simp -implicitDefEqProofs [b74x0, canon74, res49, tup3i, upd, hr, wr, e99, wp, h1, h1i, RC.len]
  · have h1i : ¬ (l.length : Int) < pos' := by omega
    have h2 : out.length = 256 := by
      rcases h with h | h
      · exact absurd h h1
      · exact h
    have h2i : (out.length : Int) = 256 := by omega
    simp -implicitDefEqProofs [b74x0, canon74, res49, tup3i, upd, hr, wr, e99, wp, h1, h1i, h2, h2i, RC.len]
theorem over50 (l : List Int) (log : Int) (pos pos' : Nat) (rest w v : Int) (out : List Int) (hr : 0 < rest) (wr : IntKind.u32.wrap rest = rest) (e99 : F99 [.one (.int .u32 rest)] [] = some (.one (.int .i64 w), [])) (wp : IntKind.i64.wrap ((pos : Int) + w) = pos')
    (h1 : pos' ≤ l.length) (h0 : pos ≤ pos') (h2 : out.length < 256) (e29 : F29 [.one (.ro 0 (.ints .i64 ((l.drop pos).take (pos' - pos))))] [] = some (.one (.int .u32 v), [])) (wv : IntKind.i64.wrap v = v) (h3 : rest < v) : bad50 (evC T74 KK b74x0 (canon74 l log pos rest out)) := by
  unfold bad50
  have h1n : ¬ l.length < pos' := by omega
  have h1i : ¬ (l.length : Int) < pos' := by omega
  have h1j : (pos' : Int) ≤ l.length := by omega
  have h0i : (pos : Int) ≤ pos' := by omega
  have h2n : ¬ out.length = 256 := by omega
  have h2i : ¬ (out.length : Int) = 256 := by omega
  simp -implicitDefEqProofs [b74x0, canon74, res49, tup3i, upd, hr, wr, e99, wp, h1, h1n, h1i, h1j, h0, h0i, h2n, h2i, e29, wv, h3, RC.len, RC.size, RC.cut]
theorem body74 (l : List Int) (log : Int) (pos pos' : Nat) (rest w v rest' : Int) (out : List Int) (hr : 0 < rest) (wr : IntKind.u32.wrap rest = rest) (e99 : F99 [.one (.int .u32 rest)] [] = some (.one (.int .i64 w), [])) (wp : IntKind.i64.wrap ((pos : Int) + w) = pos')
    (h1 : pos' ≤ l.length) (h0 : pos ≤ pos') (h2 : out.length < 256) (e29 : F29 [.one (.ro 0 (.ints .i64 ((l.drop pos).take (pos' - pos))))] [] = some (.one (.int .u32 v), [])) (wv : IntKind.i64.wrap v = v) (h3 : ¬ rest < v) (ws : IntKind.i64.wrap (rest - v) = rest') :
    ∃ st1, evC T74 KK b74x0 (canon74 l log pos rest out) = some (.norm, st1) ∧ St.head [0, 5, 6, 7, 8] st1 = canon74 l log pos' rest' (out ++ [v]) := by
  have h1n : ¬ l.length < pos' := by omega
  have h1i : ¬ (l.length : Int) < pos' := by omega
  have h1j : (pos' : Int) ≤ l.length := by omega
  have h0i : (pos : Int) ≤ pos' := by omega
  have h2n : ¬ out.length = 256 := by omega
  have h2i : ¬ (out.length : Int) = 256 := by omega
  have hm : (out.length + 1) * 8 ≤ 140737488355328 := by omega
  simp -implicitDefEqProofs [b74x0, canon74, upd, hr, wr, e99, wp, h1, h1n, h1i, h1j, h0, h0i, h2n, h2i, e29, wv, h3, ws, hm, RC.len, RC.size, RC.cut, RC.ofElems, RC.app]
theorem cutN {l : List Int} (hN : isN l) (pos w : Nat) : leN ((l.drop pos).take w) = leN l / 2 ^ pos % 2 ^ w := by
  rw [leN_take _ (fun b hb => hN b (List.mem_of_mem_drop hb)), leN_drop _ hN]
theorem loop74 (log : Int) (l : List Int) (hN : isN l) (hl : l.length ≤ 90000) : ∀ (j rest pos K : Nat) (out : List Int), out.length + j = 256 → rest ≤ 512 → pos ≤ l.length → j + 1 < K →
    match hlp (leN l) l.length j rest pos with
    | some p => ∃ env, loopH (evC T74 KK b74x0) [0, 5, 6, 7, 8] K (canon74 l log pos rest out) = some (.exit 0, ⟨env, [.ro 0 (.ints .i64 l)], [.rows none (.ints .i64 (out ++ p.1))]⟩) ∧ getT 5 env = .one (.int .i64 log) ∧ getT 6 env = .one (.row 0) ∧ getT 7 env = .one (.int .i64 (p.2 : Nat))
    | none => bad50 (loopH (evC T74 KK b74x0) [0, 5, 6, 7, 8] K (canon74 l log pos rest out))
  | j, 0, pos, K, out, ho, hr, hp, hK => by
    have e : hlp (leN l) l.length j 0 pos = some ([], pos) := by cases j <;> rfl
    rw [e]
    obtain ⟨env, e1, g⟩ := end74 l log pos out
    have z : ((0 : Nat) : Int) = 0 := rfl
    simp only [List.append_nil]
    rw [z]
    exact ⟨env, loopH_exit e1, g⟩
  | 0, rest + 1, pos, K, out, ho, hr, hp, hK => by
    have e : hlp (leN l) l.length 0 (rest + 1) pos = none := rfl
    rw [e]
    have hb := bl9 hr
    have e99 := e99 ((rest + 1 : Nat) : Int) (by omega) (by omega)
    rw [Int.toNat_natCast] at e99
    have wr : IntKind.u32.wrap ((rest + 1 : Nat) : Int) = ((rest + 1 : Nat) : Int) := u32_in _ (by omega)
    obtain ⟨st1, e1, e2⟩ := short50 l log pos (pos + bl (rest + 1)) ((rest + 1 : Nat) : Int) _ out (by omega) wr e99 (by rw [i64_in _ (by omega)]; omega) (.inr (by omega))
    exact ⟨st1, loopH_ret e1, e2⟩
  | j + 1, rest + 1, pos, K, out, ho, hr, hp, hK => by
    have hb := bl9 hr
    have hb0 : 0 < bl (rest + 1) := (bl_pos (n := rest + 1) (by omega)).2.2
    have e99 := e99 ((rest + 1 : Nat) : Int) (by omega) (by omega)
    rw [Int.toNat_natCast] at e99
    have wr : IntKind.u32.wrap ((rest + 1 : Nat) : Int) = ((rest + 1 : Nat) : Int) := u32_in _ (by omega)
    have wp : IntKind.i64.wrap ((pos : Int) + (bl (rest + 1) : Nat)) = ((pos + bl (rest + 1) : Nat) : Int) := by rw [i64_in _ (by omega)]; omega
    rw [hlp, if_neg (by omega)]
    by_cases hn : l.length < pos + bl (rest + 1)
    · rw [if_pos hn]
      obtain ⟨st1, e1, e2⟩ := short50 l log pos (pos + bl (rest + 1)) ((rest + 1 : Nat) : Int) _ out (by omega) wr e99 wp (.inl hn)
      exact ⟨st1, loopH_ret e1, e2⟩
    · rw [if_neg hn]
      have e29 := f29 0 ((l.drop pos).take (bl (rest + 1))) (fun b hb => hN b (List.mem_of_mem_drop (List.mem_of_mem_take hb))) (by rw [List.length_take]; omega)
      rw [cutN hN, show bl (rest + 1) = pos + bl (rest + 1) - pos by omega] at e29
      rw [show pos + bl (rest + 1) - pos = bl (rest + 1) by omega] at e29
      have hm := Nat.mod_lt (leN l / 2 ^ pos) (Nat.two_pow_pos (bl (rest + 1)))
      have hp2 : 2 ^ bl (rest + 1) ≤ 2 ^ 10 := Nat.pow_le_pow_right (by omega) hb
      generalize leN l / 2 ^ pos % 2 ^ bl (rest + 1) = v at *
      have wv : IntKind.i64.wrap (v : Int) = v := i64_in _ (by omega)
      have e29' : F29 [.one (.ro 0 (.ints .i64 ((l.drop pos).take (pos + bl (rest + 1) - pos))))] [] = some (.one (.int .u32 v), []) := by rw [show pos + bl (rest + 1) - pos = bl (rest + 1) by omega]; exact e29
      by_cases hv : rest + 1 < v
      · rw [if_pos hv]
        obtain ⟨st1, e1, e2⟩ := over50 l log pos (pos + bl (rest + 1)) ((rest + 1 : Nat) : Int) _ v out (by omega) wr e99 wp (by omega) (by omega) (by omega) e29' wv (by omega)
        exact ⟨st1, loopH_ret e1, e2⟩
      · rw [if_neg hv]
        obtain ⟨st1, e1, e2⟩ := body74 l log pos (pos + bl (rest + 1)) ((rest + 1 : Nat) : Int) _ v ((rest + 1 - v : Nat) : Int) out (by omega) wr e99 wp (by omega) (by omega) (by omega) e29' wv (by omega) (by rw [i64_in _ (by omega)]; omega)
        have ih := loop74 log l hN hl j (rest + 1 - v) (pos + bl (rest + 1)) (K - 1) (out ++ [(v : Int)]) (by rw [List.length_append]; simp only [List.length_cons, List.length_nil]; omega) (by omega) (by omega) (by omega)
        rw [loopH_norm e1 (by omega), e2]
        cases hh : hlp (leN l) l.length j (rest + 1 - v) (pos + bl (rest + 1)) with
        | none => rw [hh] at ih; exact ih
        | some p =>
          rw [hh] at ih
          simp only [Option.map_some]
          simp only at ih
          rw [List.append_assoc, List.singleton_append] at ih
          exact ih
theorem f74 (l : List Int) (hN : isN l) (hl : l.length ≤ 90000) : F74 [.one (.ro 0 (.ints .i64 l))] [] = some (match hdT (leN l) l.length 0 with
    | some p => (tup3i (.row 0) (p.2.1 : Nat) (p.2.2 : Nat), [.rows none (.ints .i64 p.1)])
    | none => (tup3i (.row 0) 0 0, [.rows none (.ints .i64 [])])) := by
  unfold hdT
  rw [Nat.pow_zero, Nat.div_one, Nat.zero_add]
  by_cases h3 : l.length < 3
  · rw [if_pos h3]
    have h3i : (l.length : Int) < 3 := by omega
    simp -implicitDefEqProofs [F74, c74, upd, h3, h3i, tup3i, RC.len]
  · rw [if_neg h3]
    have h3i : ¬ (l.length : Int) < 3 := by omega
    have h3j : (3 : Int) ≤ l.length := by omega
    have h3k : 3 ≤ l.length := by omega
    have e29 := f29 0 ((l.drop 0).take 3) (fun b hb => hN b (List.mem_of_mem_drop (List.mem_of_mem_take hb))) (by rw [List.length_take]; omega)
    rw [cutN hN, Nat.pow_zero, Nat.div_one, List.drop_zero] at e29
    have h8 : (2 : Nat) ^ 3 = 8 := rfl
    rw [h8] at e29
    have hm := Nat.mod_lt (leN l) (show 0 < 8 by decide)
    generalize hg : leN l % 8 = g at *
    have wg : IntKind.i64.wrap (g : Int) = g := i64_in _ (by omega)
    have wg5 : IntKind.i64.wrap (5 + (g : Int)) = ((5 + g : Nat) : Int) := by rw [i64_in _ (by omega)]; omega
    by_cases h9 : 9 < 5 + g
    · rw [if_pos h9]
      have h9i : (9 : Int) < ((5 + g : Nat) : Int) := by omega
      generalize ((5 + g : Nat) : Int) = lg at *
      simp -implicitDefEqProofs [F74, c74, upd, h3, h3i, h3j, h3k, e29, wg, wg5, h9i, tup3i, RC.len, RC.size, RC.cut]
    · rw [if_neg h9]
      have h9i : ¬ (9 : Int) < ((5 + g : Nat) : Int) := by omega
      have hp2 := pow9 (log := ((5 + g : Nat) : Int)) (by omega)
      have e28 := e28 ((5 + g : Nat) : Int) (by omega) (by omega)
      rw [Int.toNat_natCast] at hp2 e28
      have hlp' := loop74 ((5 + g : Nat) : Int) l hN hl 256 (2 ^ (5 + g)) 3 KK [] rfl hp2.2 h3k (by rw [KK_eq]; omega)
      have c3 : ((3 : Nat) : Int) = 3 := rfl
      cases hh : hlp (leN l) l.length 256 (2 ^ (5 + g)) 3 with
      | some p =>
        rw [hh] at hlp'
        simp only [Option.map_some]
        simp only [List.nil_append] at hlp'
        obtain ⟨env, e, g5, g6, g7⟩ := hlp'
        simp only [canon74, c3] at e
        generalize ((5 + g : Nat) : Int) = lg at *
        generalize ((2 ^ (5 + g) : Nat) : Int) = sz at *
        simp -implicitDefEqProofs [F74, c74, upd, h3, h3i, h3j, h3k, e29, wg, wg5, h9i, e28, tup3i, RC.len, RC.size, RC.cut, e, g5, g6, g7]
      | none =>
        rw [hh] at hlp'
        simp only [Option.map_none]
        obtain ⟨st1, e, e2⟩ := hlp'
        rw [← e2]
        obtain ⟨env1, rts1, hp1⟩ := st1
        simp only [canon74, c3] at e
        have e1' : evF T74 KK c74 [.one (.ro 0 (.ints .i64 l))] [] = resC res49 (some (.ret, ⟨env1, rts1, hp1⟩)) := by
          unfold evF
          have hr2 : c74.results = res49 := rfl
          rw [hr2]
          refine congrArg _ ?_
          generalize ((5 + g : Nat) : Int) = lg at *
          generalize ((2 ^ (5 + g) : Nat) : Int) = sz at *
          simp -implicitDefEqProofs [c74, upd, h3, h3i, h3j, h3k, e29, wg, wg5, h9i, e28, RC.len, RC.size, RC.cut, e]
        exact e1'
theorem hlp_ok {N T : Nat} : ∀ {j rest pos : Nat} {o : List Int} {pos' : Nat}, hlp N T j rest pos = some (o, pos') → rest ≤ 512 → pos ≤ T → okN o = true ∧ sumL o = (rest : Int) ∧ o.length ≤ j ∧ pos ≤ pos' ∧ pos' ≤ T
  | 0, rest, pos, o, pos', h, hr, hp => by
    simp only [hlp] at h
    split at h
    · simp only [Option.some.injEq, Prod.mk.injEq] at h
      obtain ⟨rfl, rfl⟩ := h
      rename_i h0
      subst h0
      exact ⟨rfl, rfl, Nat.le_refl _, Nat.le_refl _, hp⟩
    · cases h
  | j + 1, rest, pos, o, pos', h, hr, hp => by
    rw [hlp] at h
    split at h
    · simp only [Option.some.injEq, Prod.mk.injEq] at h
      obtain ⟨rfl, rfl⟩ := h
      rename_i h0
      subst h0
      exact ⟨rfl, rfl, Nat.zero_le _, Nat.le_refl _, hp⟩
    · split at h
      · cases h
      · split at h
        · cases h
        · obtain ⟨q, h1, h2⟩ := Option.map_eq_some_iff.1 h
          simp only [Prod.mk.injEq] at h2
          obtain ⟨rfl, rfl⟩ := h2
          obtain ⟨p1, p2, p3, p4, p5⟩ := hlp_ok h1 (by omega) (by omega)
          generalize N / 2 ^ pos % 2 ^ bl rest = v at *
          refine ⟨?_, ?_, ?_, by omega, p5⟩
          · simp only [okN, Bool.and_eq_true, decide_eq_true_eq]; exact ⟨by omega, p1⟩
          · simp only [sumL]; rw [p2]; omega
          · simp only [List.length_cons]; omega
theorem hdT_ok {N T pos : Nat} {o : List Int} {lg pos' : Nat} (h : hdT N T pos = some (o, lg, pos')) : fairB o (lg : Nat) = true ∧ o.length ≤ 256 ∧ pos + 3 ≤ pos' ∧ pos' ≤ T ∧ 5 ≤ lg ∧ lg ≤ 9 := by
  unfold hdT at h
  split at h
  · cases h
  · split at h
    · cases h
    · obtain ⟨q, h1, h2⟩ := Option.map_eq_some_iff.1 h
      simp only [Prod.mk.injEq] at h2
      obtain ⟨rfl, rfl, rfl⟩ := h2
      have hp2 := pow9 (log := ((5 + N / 2 ^ pos % 8 : Nat) : Int)) (by omega)
      rw [Int.toNat_natCast] at hp2
      obtain ⟨p1, p2, p3, p4, p5⟩ := hlp_ok h1 hp2.2 (by omega)
      refine ⟨?_, p3, p4, p5, by omega, by omega⟩
      unfold fairB
      rw [p1, p2, Int.toNat_natCast, decide_eq_true (show (5 : Int) ≤ ((5 + N / 2 ^ pos % 8 : Nat) : Int) ∧ ((5 + N / 2 ^ pos % 8 : Nat) : Int) ≤ 9 ∧ q.1.length ≤ 256 by omega)]
      simp
def hpr : Nat → List Int → List (Nat × Nat)
  | _, [] => []
  | rest, n :: l => if rest = 0 then [] else (n.toNat, bl rest) :: hpr (rest - n.toNat) l
def allP (log : Int) (l : List Int) : List (Nat × Nat) := ((log - 5).toNat, 3) :: hpr (2 ^ log.toNat) l
def prN : List (Nat × Nat) → Nat
  | [] => 0
  | p :: l => p.1 % 2 ^ p.2 + 2 ^ p.2 * prN l
def prL : List (Nat × Nat) → Nat
  | [] => 0
  | p :: l => p.2 + prL l
def put99 (bs : List Int) (c : Int) : List Ob := [.cells (some 0) [.ptr 1 0], .cells (some 1) [.row 2, .int .i64 c], .rows none (.ints .u8 bs)]
theorem f93 (v n : Int) (v' n' c N : Nat) (bs : List Int) (h : Holds bs c N) (hn : n = n') (hn2 : n' ≤ 32) (hv : v = v') (hv2 : v' < 2 ^ 32) (hc : c + n' ≤ 700000) :
    ∃ bs', F93 [.one (.int .i64 v), .one (.int .i64 n), .one (.ptr 0 0)] (put99 bs c) = some (.tup [], put99 bs' (c + n' : Nat)) ∧ Holds bs' (c + n') (N + v' % 2 ^ n' * 2 ^ c) := by
  subst hn hv
  obtain ⟨bs', e18, h'⟩ := f18 v' n' c N bs h hn2 hv2 hc
  refine ⟨bs', ?_, h'⟩
  have wv : IntKind.u32.wrap (v' : Int) = v' := u32_in _ (by omega)
  simp only [bufHp] at e18
  generalize ((c + n' : Nat) : Int) = c' at *
  simp -implicitDefEqProofs [F93, c93, upd, put99, wv, e18]
def fn99 : SV := .fn 93 [.ptr 0 0]
def canon92 (log : Int) (l : List Int) (rest i : Int) (bs : List Int) (c : Int) : St :=
  ⟨[(2, .one fn99), (6, .one (.int .i64 rest)), (15, .one (.ro 0 (.ints .i64 l))), (16, .one (.int .i64 l.length)), (17, .one (.int .i64 i))], [.ro 0 (.ints .i64 l), .int .i64 log, fn99], put99 bs c⟩
theorem end92 (log : Int) (l : List Int) (rest i : Int) (bs : List Int) (c : Int) (hi : ¬ i < l.length) : ∃ env, evC T92 KK b92x0 (canon92 log l rest i bs c) = some (.exit 0, ⟨env, [.ro 0 (.ints .i64 l), .int .i64 log, fn99], put99 bs c⟩) := by
  simp -implicitDefEqProofs [b92x0, canon92, upd, hi]
theorem ret98 (log : Int) (l : List Int) (i : Nat) (bs : List Int) (c : Int) (hi : i < l.length) : ∃ env, evC T92 KK b92x0 (canon92 log l 0 i bs c) = some (.ret, ⟨env, [.ro 0 (.ints .i64 l), .int .i64 log, fn99], put99 bs c⟩) := by
  have hii : (i : Int) < l.length := by omega
  simp -implicitDefEqProofs [b92x0, canon92, put99, fn99, upd, hi, hii, RC.len, RC.size, RC.get]
theorem body92 (log : Int) (l : List Int) (rest w n rest' i' : Int) (i : Nat) (bs bs' : List Int) (c c' : Int) (hi : i < l.length) (hn : l[i]?.getD 0 = n) (hr : ¬ rest = 0) (wr : IntKind.u32.wrap rest = rest) (e42 : F42 [.one (.int .u32 rest)] [] = some (.one (.int .i64 w), []))
    (e93 : F93 [.one (.int .i64 n), .one (.int .i64 w), .one (.ptr 0 0)] (put99 bs c) = some (.tup [], put99 bs' c')) (ws : IntKind.i64.wrap (rest - n) = rest') (wi : IntKind.i64.wrap ((i : Int) + 1) = i') :
    ∃ st1, evC T92 KK b92x0 (canon92 log l rest i bs c) = some (.norm, st1) ∧ St.head [2, 6, 15, 16, 17] st1 = canon92 log l rest' i' bs' c' := by
  have hii : (i : Int) < l.length := by omega
  have hn' : ∀ hh, l[i]'hh = n := fun hh => by rw [List.getElem?_eq_getElem hh] at hn; exact hn
  simp only [put99] at e93
  simp -implicitDefEqProofs [b92x0, canon92, put99, fn99, upd, hi, hii, hn, hn', hr, wr, e42, e93, ws, wi, RC.len, RC.size, RC.get]
theorem loop92 (log : Int) (l : List Int) (hl : l.length ≤ 300) : ∀ (j i rest K c N : Nat) (bs : List Int), i + j = l.length → rest ≤ 512 → okN (l.drop i) = true → sumL (l.drop i) = (rest : Int) → c ≤ 13 + 10 * i → Holds bs c N → j + 1 < K →
    ∃ x env bs', loopH (evC T92 KK b92x0) [2, 6, 15, 16, 17] K (canon92 log l rest i bs c) = some (x, ⟨env, [.ro 0 (.ints .i64 l), .int .i64 log, fn99], put99 bs' (c + prL (hpr rest (l.drop i)) : Nat)⟩) ∧ (x = .ret ∨ x = .exit 0) ∧ Holds bs' (c + prL (hpr rest (l.drop i))) (N + prN (hpr rest (l.drop i)) * 2 ^ c)
  | 0, i, rest, K, c, N, bs, hi, hr, ho, hs, hc, hh, hK => by
    have hd : l.drop i = [] := List.drop_eq_nil_of_le (by omega)
    obtain ⟨env, e⟩ := end92 log l rest i bs c (by omega)
    rw [hd]
    simp only [hpr, prL, prN, Nat.add_zero, Nat.zero_mul]
    exact ⟨_, env, bs, loopH_exit e, .inr rfl, hh⟩
  | j + 1, i, rest, K, c, N, bs, hi, hr, ho, hs, hc, hh, hK => by
    have hlt : i < l.length := by omega
    have hd : l.drop i = l[i] :: l.drop (i + 1) := List.drop_eq_getElem_cons hlt
    have hg : l[i]?.getD 0 = l[i] := by rw [List.getElem?_eq_getElem hlt]; rfl
    have wi : IntKind.i64.wrap ((i : Int) + 1) = ((i + 1 : Nat) : Int) := by rw [i64_in _ (by omega)]; omega
    by_cases h0 : rest = 0
    · subst h0
      obtain ⟨env, e⟩ := ret98 log l i bs c hlt
      have e0 : hpr 0 (l.drop i) = [] := by rw [hd]; rfl
      rw [e0]
      simp only [prL, prN, Nat.add_zero, Nat.zero_mul]
      exact ⟨_, env, bs, loopH_ret e, .inl rfl, hh⟩
    · rw [hd] at ho hs
      obtain ⟨p1, p2, p3⟩ := sumL_ge ho
      rw [hs] at p2
      have e1 : hpr rest (l.drop i) = ((l[i]).toNat, bl rest) :: hpr (rest - (l[i]).toNat) (l.drop (i + 1)) := by rw [hd, hpr, if_neg h0]
      have hb := bl9 hr
      have e42 := e42 (rest : Int) (by omega) (by omega)
      rw [Int.toNat_natCast] at e42
      have wr : IntKind.u32.wrap (rest : Int) = rest := u32_in _ (by omega)
      obtain ⟨bs1, e93, hh1⟩ := f93 l[i] (bl rest : Nat) (l[i]).toNat (bl rest) c N bs hh rfl (by omega) (by omega) (by omega) (by omega)
      obtain ⟨st1, q1, q2⟩ := body92 log l rest (bl rest : Nat) l[i] ((rest - (l[i]).toNat : Nat) : Int) ((i + 1 : Nat) : Int) i bs bs1 c _ hlt hg (by omega) wr e42 e93 (by rw [i64_in _ (by omega)]; omega) wi
      obtain ⟨x, env, bs2, q3, q4, q5⟩ := loop92 log l hl j (i + 1) (rest - (l[i]).toNat) (K - 1) (c + bl rest) _ bs1 (by omega) (by omega) p3 (by simp only [sumL] at hs; omega) (by omega) hh1 (by omega)
      refine ⟨x, env, bs2, ?_, q4, ?_⟩
      · rw [loopH_norm q1 (by omega), q2, q3, e1]
        simp only [prL, Nat.add_assoc]
      · rw [e1]
        simp only [prL, prN]
        rw [Nat.add_assoc] at q5
        have : N + (l[i]).toNat % 2 ^ bl rest * 2 ^ c + prN (hpr (rest - (l[i]).toNat) (l.drop (i + 1))) * 2 ^ (c + bl rest) = N + ((l[i]).toNat % 2 ^ bl rest + 2 ^ bl rest * prN (hpr (rest - (l[i]).toNat) (l.drop (i + 1)))) * 2 ^ c := by
          rw [Nat.add_mul, Nat.pow_add, Nat.add_assoc, Nat.mul_comm (2 ^ bl rest) (prN _), Nat.mul_assoc, Nat.mul_comm (2 ^ c) (2 ^ bl rest)]
        rw [this] at q5
        exact q5
theorem f92p (log : Int) (l : List Int) (hf : fairB l log = true) (c N : Nat) (bs : List Int) (hh : Holds bs c N) (hc : c ≤ 10) :
    ∃ bs', F92 [.one (.ro 0 (.ints .i64 l)), .one (.int .i64 log), .one fn99] (put99 bs c) = some (.tup [], put99 bs' (c + prL (allP log l) : Nat)) ∧ Holds bs' (c + prL (allP log l)) (N + prN (allP log l) * 2 ^ c) := by
  obtain ⟨h5, hl, ho, hs⟩ := fair_parts hf
  have hp2 := pow9 h5
  have es := shl9 h5
  have w5 : IntKind.i64.wrap (log - 5) = log - 5 := i64_in _ (by omega)
  have hn0 : ¬ log < 0 := by omega
  obtain ⟨bs1, e93, hh1⟩ := f93 (log - 5) 3 (log - 5).toNat 3 c N bs hh rfl (by omega) (by omega) (by omega) (by omega)
  obtain ⟨x, env, bs2, e, hx, hh2⟩ := loop92 log l (by omega) l.length 0 (2 ^ log.toNat) KK (c + 3) _ bs1 (by omega) hp2.2 (by rw [List.drop_zero]; exact ho) (by rw [List.drop_zero]; exact hs) (by omega) hh1 (by rw [KK_eq]; omega)
  rw [List.drop_zero] at e hh2
  have eL : c + 3 + prL (hpr (2 ^ log.toNat) l) = c + prL (allP log l) := by unfold allP; simp only [prL]; omega
  have eN : N + (log - 5).toNat % 2 ^ 3 * 2 ^ c + prN (hpr (2 ^ log.toNat) l) * 2 ^ (c + 3) = N + prN (allP log l) * 2 ^ c := by
    unfold allP
    simp only [prN]
    rw [Nat.add_mul, Nat.pow_add, Nat.add_assoc, Nat.mul_comm (2 ^ 3) (prN _), Nat.mul_assoc, Nat.mul_comm (2 ^ c) (2 ^ 3)]
  rw [eL] at e hh2
  rw [eN] at hh2
  refine ⟨bs2, ?_, hh2⟩
  have z : ((0 : Nat) : Int) = 0 := rfl
  simp only [canon92, put99, fn99, z] at e
  simp only [put99] at e93
  generalize ((c + prL (allP log l) : Nat) : Int) = cc at *
  generalize ((c + 3 : Nat) : Int) = c3 at *
  generalize ((2 ^ log.toNat : Nat) : Int) = sz at *
  rcases hx with rfl | rfl <;> simp -implicitDefEqProofs [F92, c92, upd, w5, e93, es, hn0, RC.len, e, put99, fn99]
def tupB (b : Bool) : AV := .one (.bool b)
theorem f71 (l : List Int) (log : Int) (hl : l.length ≤ 300) (hf : fairB l log = true) (c N : Nat) (bs : List Int) (hh : Holds bs c N) (hc : c ≤ 10) :
    ∃ bs', F71 [.one (.ptr 0 0), .one (.ro 1 (.ints .i64 l)), .one (.int .i64 log)] (bufHp (some 0) bs c) = some (tupB true, bufHp (some 0) bs' (c + prL (allP log l) : Nat)) ∧ Holds bs' (c + prL (allP log l)) (N + prN (allP log l) * 2 ^ c) := by
  have e91 := f91 0 l log hl
  rw [hf] at e91
  obtain ⟨bs', e92, hh'⟩ := f92p log l hf c N bs hh hc
  refine ⟨bs', ?_, hh'⟩
  simp only [put99, fn99] at e92
  generalize ((c + prL (allP log l) : Nat) : Int) = cc at *
  simp -implicitDefEqProofs [F71, c71, upd, bufHp, tupB, e91, e92]
def prB : List (Nat × Nat) → List Int
  | [] => []
  | p :: l => ofN p.1 p.2 ++ prB l
theorem zeros : ∀ {l : List Int}, okN l = true → sumL l = 0 → ∀ i, i < l.length → l[i]? = some 0
  | [], _, _, i, hi => by simp at hi
  | x :: l, ho, hs, i, hi => by
    obtain ⟨p1, p2, p3⟩ := sumL_ge ho
    have := sumL_nonneg p3
    simp only [sumL] at hs p2
    cases i with
    | zero => simp only [List.getElem?_cons_zero, Option.some.injEq]; omega
    | succ i =>
      simp only [List.getElem?_cons_succ]
      exact zeros p3 (by omega) i (by simpa using hi)
theorem hpr_zero (l : List Int) : hpr 0 l = [] := by cases l <;> rfl
def fsts (q : List (Nat × Nat)) : List Int := q.map fun p => (p.1 : Int)
theorem hpr_take : ∀ (l : List Int) (rest : Nat), okN l = true → sumL l = (rest : Int) → 0 < rest → 1 ≤ (hpr rest l).length ∧ (hpr rest l).length ≤ l.length ∧ fsts (hpr rest l) = l.take (hpr rest l).length ∧ (∃ x, l[(hpr rest l).length - 1]? = some x ∧ x ≠ 0) ∧ ∀ i, (hpr rest l).length ≤ i → i < l.length → l[i]? = some 0
  | [], rest, _, hs, h => by simp [sumL] at hs; omega
  | n :: l, rest, ho, hs, h => by
    obtain ⟨p1, p2, p3⟩ := sumL_ge ho
    rw [hs] at p2
    have e : hpr rest (n :: l) = (n.toNat, bl rest) :: hpr (rest - n.toNat) l := by rw [hpr, if_neg (by omega)]
    have hs' : sumL l = ((rest - n.toNat : Nat) : Int) := by simp only [sumL] at hs; omega
    rw [e]
    by_cases h0 : rest - n.toNat = 0
    · rw [h0, hpr_zero]
      rw [h0] at hs'
      refine ⟨by simp, by simp, ?_, ⟨n, rfl, by omega⟩, fun i h1 h2 => ?_⟩
      · simp only [fsts, List.map_cons, List.map_nil, List.length_cons, List.length_nil]
        rw [show ((n.toNat : Nat) : Int) = n by omega]
        rfl
      · cases i with
        | zero => simp at h1
        | succ i => simp only [List.getElem?_cons_succ]; exact zeros p3 hs' i (by simpa using h2)
    · obtain ⟨q1, q2, q3, ⟨x, q4, q5⟩, q6⟩ := hpr_take l (rest - n.toNat) p3 hs' (by omega)
      refine ⟨by simp, by simp only [List.length_cons]; omega, ?_, ⟨x, ?_, q5⟩, fun i h1 h2 => ?_⟩
      · simp only [fsts, List.map_cons, List.length_cons, List.take_succ_cons] at q3 ⊢
        rw [q3, show ((n.toNat : Nat) : Int) = n by omega]
      · simp only [List.length_cons, Nat.add_sub_cancel]
        obtain ⟨k, hk⟩ : ∃ k, (hpr (rest - n.toNat) l).length = k + 1 := ⟨_, (Nat.sub_add_cancel q1).symm⟩
        rw [hk] at q4 ⊢
        simpa using q4
      · cases i with
        | zero => simp at h1
        | succ i =>
          simp only [List.getElem?_cons_succ]
          exact q6 i (by simpa using h1) (by simpa using h2)
theorem hlp_put : ∀ (l : List Int) (rest j pos N M T : Nat), okN l = true → sumL l = (rest : Int) → rest ≤ 512 → (hpr rest l).length ≤ j → N / 2 ^ pos = prN (hpr rest l) + 2 ^ prL (hpr rest l) * M → pos + prL (hpr rest l) ≤ T →
    hlp N T j rest pos = some (fsts (hpr rest l), pos + prL (hpr rest l))
  | l, 0, j, pos, N, M, T, _, _, _, _, _, _ => by
    rw [hpr_zero]
    cases j <;> rfl
  | [], rest + 1, j, pos, N, M, T, _, hs, _, _, _, _ => by simp [sumL] at hs; omega
  | n :: l, rest + 1, j, pos, N, M, T, ho, hs, hr, hj, hN, hT => by
    obtain ⟨p1, p2, p3⟩ := sumL_ge ho
    rw [hs] at p2
    have e : hpr (rest + 1) (n :: l) = (n.toNat, bl (rest + 1)) :: hpr (rest + 1 - n.toNat) l := by rw [hpr, if_neg (by omega)]
    have hs' : sumL l = ((rest + 1 - n.toNat : Nat) : Int) := by simp only [sumL] at hs; omega
    rw [e] at hj hN hT ⊢
    simp only [List.length_cons] at hj
    simp only [prN, prL] at hN hT
    have hb := (bl_pos (n := rest + 1) (by omega)).2.1
    have hmod : n.toNat % 2 ^ bl (rest + 1) = n.toNat := Nat.mod_eq_of_lt (by omega)
    rw [hmod, Nat.pow_add, Nat.mul_assoc, Nat.add_assoc, ← Nat.mul_add] at hN
    obtain ⟨j', rfl⟩ : ∃ j', j = j' + 1 := ⟨j - 1, by omega⟩
    have hpw := Nat.two_pow_pos (bl (rest + 1))
    have hv : N / 2 ^ pos % 2 ^ bl (rest + 1) = n.toNat := by rw [hN, Nat.add_mul_mod_self_left, hmod]
    have hN' : N / 2 ^ (pos + bl (rest + 1)) = prN (hpr (rest + 1 - n.toNat) l) + 2 ^ prL (hpr (rest + 1 - n.toNat) l) * M := by
      rw [Nat.pow_add, ← Nat.div_div_eq_div_mul, hN, Nat.add_mul_div_left _ _ hpw, Nat.div_eq_of_lt (by omega), Nat.zero_add]
    rw [hlp, if_neg (by omega), if_neg (by omega), hv, if_neg (by omega)]
    rw [hlp_put l (rest + 1 - n.toNat) j' (pos + bl (rest + 1)) N M T p3 hs' (by omega) (by omega) hN' (by omega)]
    simp only [Option.map_some, fsts, List.map_cons, prL, Nat.add_assoc]
theorem hdT_put {l : List Int} {log : Int} (hf : fairB l log = true) {N T pos M : Nat} (hN : N / 2 ^ pos = prN (allP log l) + 2 ^ prL (allP log l) * M) (hT : pos + prL (allP log l) ≤ T) :
    hdT N T pos = some (l.take (hpr (2 ^ log.toNat) l).length, log.toNat, pos + prL (allP log l)) := by
  obtain ⟨h5, hl, ho, hs⟩ := fair_parts hf
  have hp2 := pow9 h5
  obtain ⟨q1, q2, q3, _, _⟩ := hpr_take l (2 ^ log.toNat) ho hs (by omega)
  unfold allP at hN hT ⊢
  simp only [prN, prL] at hN hT ⊢
  have h8 : (log - 5).toNat % 2 ^ 3 = (log - 5).toNat := Nat.mod_eq_of_lt (by omega)
  rw [h8, Nat.pow_add, Nat.mul_assoc, Nat.add_assoc, ← Nat.mul_add] at hN
  have hv : N / 2 ^ pos % 8 = (log - 5).toNat := by
    rw [hN]
    have := Nat.add_mul_mod_self_left (log - 5).toNat (2 ^ 3) (prN (hpr (2 ^ log.toNat) l) + 2 ^ prL (hpr (2 ^ log.toNat) l) * M)
    rw [show (2 : Nat) ^ 3 = 8 from rfl] at this ⊢
    rw [this]; omega
  have hN' : N / 2 ^ (pos + 3) = prN (hpr (2 ^ log.toNat) l) + 2 ^ prL (hpr (2 ^ log.toNat) l) * M := by
    rw [Nat.pow_add, ← Nat.div_div_eq_div_mul, hN, Nat.add_mul_div_left _ _ (by decide), Nat.div_eq_of_lt (by omega), Nat.zero_add]
  unfold hdT
  have e5 : 5 + (log - 5).toNat = log.toNat := by omega
  rw [if_neg (by omega), hv, e5, if_neg (by omega), hlp_put l (2 ^ log.toNat) 256 (pos + 3) N M T ho hs hp2.2 (by omega) hN' (by omega)]
  simp only [Option.map_some, q3, Nat.add_assoc]
theorem e83a (c : Int) (h : c < 16) : F83 [.one (.int .u8 c)] [] = some (.tup [.one (.int .i64 0), .one (.bool true)], []) := by
  simp [F83, c83, h]
theorem e83b (c : Int) (h : ¬ c < 16) (h' : c ≤ 27) : F83 [.one (.int .u8 c)] [] = some (.tup [.one (.int .i64 (c - 12)), .one (.bool true)], []) := by
  simp (disch := omega) [F83, c83, h, h', i64_in]; omega
theorem e27 (c : Int) (hc : 0 ≤ c ∧ c < 256) : F27 [.one (.int .i64 c)] [] = some (.one (.int .i64 (if c < 16 then 0 else if c > 27 then -1 else c - 12)), []) := by
  by_cases h : c < 16
  · simp [F27, c27, h]
  · by_cases h' : 27 < c
    · simp [F27, c27, h, h']
    · simp (disch := omega) [F27, c27, h, h', i64_in]
theorem e17a (v : Int) (h : v < 0 ∨ 65535 < v) : F17 [.one (.int .i64 v)] [] = some (.tup [.one (.int .u8 0), .one (.int .i64 0), .one (.int .i64 0), .one (.bool false)], []) := by
  by_cases h1 : v < 0
  · simp [F17, c17, upd, h1]
  · have h2 : 65535 < v := by omega
    simp [F17, c17, upd, h1, h2]
theorem e17b (v : Int) (h : 0 ≤ v) (h' : v < 16) : F17 [.one (.int .i64 v)] [] = some (.tup [.one (.int .u8 v), .one (.int .i64 0), .one (.int .i64 0), .one (.bool true)], []) := by
  have h1 : ¬ v < 0 := by omega
  have h2 : ¬ 65535 < v := by omega
  simp (disch := omega) [F17, c17, upd, h1, h2, h', u8_in]
theorem e17c (v : Int) (h : 16 ≤ v) (h' : v ≤ 65535) : F17 [.one (.int .i64 v)] [] = some (.tup [.one (.int .u8 (11 + bl v.toNat)), .one (.int .i64 (v - (2 ^ (bl v.toNat - 1) : Nat))), .one (.int .i64 (bl v.toNat - 1)), .one (.bool true)], []) := by
  have h1 : ¬ v < 0 := by omega
  have h2 : ¬ 65535 < v := by omega
  have h3 : ¬ v < 16 := by omega
  have e := e42 v (by omega) (by omega)
  obtain ⟨p1, p2, p3⟩ := bl_pos (n := v.toNat) (by omega)
  have p4 := bl_le (n := v.toNat) (k := 16) (by omega)
  have e2 : ((bl v.toNat : Int) - 1) = ((bl v.toNat - 1 : Nat) : Int) := by omega
  have e3 := shl1 (k := bl v.toNat - 1) (by omega)
  rw [← e2] at e3
  have h4 : ¬ ((bl v.toNat : Int) - 1) < 0 := by omega
  simp (disch := omega) [F17, c17, upd, h1, h2, h3, u8_in, u32_in, i64_in, e, e3, h4, -Int.natCast_pow]
  refine ⟨by omega, ?_⟩
  generalize 2 ^ (bl v.toNat - 1) = m at p1 ⊢
  exact i64_in _ (by omega)
theorem e84c (c m : Int) (h : c < 16) (hc : 0 ≤ c) (h0 : 0 ≤ m) (hm : m < 4294967296) (h1 : bl m.toNat = 0) : F84 [.one (.int .u8 c), .one (.int .u32 m)] [] = some (.tup [.one (.int .i64 c), .one (.bool true)], []) := by
  simp [F84, c84, upd, e83a c h, e42 m h0 hm, h1, h]
  exact i64_in _ (by omega)
theorem e84e (c m : Int) (h : 16 ≤ c) (hc : c ≤ 27) (h0 : 0 ≤ m) (hm : m < 4294967296) (h1 : (bl m.toNat : Int) ≤ c - 12) : F84 [.one (.int .u8 c), .one (.int .u32 m)] [] = some (.tup [.one (.int .i64 ((2 ^ (c - 12).toNat : Nat) + m)), .one (.bool true)], []) := by
  have h2 : ¬ c - 12 < bl m.toNat := by omega
  have h3 : ¬ c < 16 := by omega
  have h4 : ¬ c - 12 < 0 := by omega
  have e := shl1 (k := (c - 12).toNat) (by omega)
  rw [show (((c - 12).toNat : Nat) : Int) = c - 12 by omega] at e
  have hb : 2 ^ (c - 12).toNat ≤ 2 ^ 15 := Nat.pow_le_pow_right (by omega) (by omega)
  simp [F84, c84, upd, e83b c h3 hc, e42 m h0 hm, h2, h3, h4, e, -Int.natCast_pow]
  rw [i64_in m (by omega)]
  generalize 2 ^ (c - 12).toNat = k at hb ⊢
  exact i64_in _ (by omega)
theorem e15 : F15 [] [] = some (.agg [.int .i64 1, .int .i64 2, .int .i64 4], []) := by
  simp [F15, c15]
theorem KK5 : ∃ m, KK = m + 5 := ⟨KK - 5, by rw [KK_eq]⟩
theorem loopN_succ {body : St → Option (Ex × St)} {live : List Nat} {k : Nat} {st : St} : loopN body live (k + 1) st = thenC (loopN body live k) (body (st.head live)) := rfl
theorem f63 (x : Int) : F63 [.one (.int .i64 x)] [] = some (.one (.bool (decide (1 ≤ x ∧ x ≤ 65533))), []) := by
  by_cases h1 : 1 ≤ x
  · by_cases h2 : x ≤ 65533
    · simp -implicitDefEqProofs [F63, c63, upd, h1, h2]
    · simp -implicitDefEqProofs [F63, c63, upd, h1, h2]
  · simp -implicitDefEqProofs [F63, c63, upd, h1]
def idxOf (a b c x : Int) : Int := if x = a then 0 else if x = b then 1 else if x = c then 2 else -1
theorem f64i (t : Nat) (a b c x : Int) : F64 [.one (.ro t (.ints .i64 [a, b, c])), .one (.int .i64 x)] [] = some (.one (.int .i64 (idxOf a b c x)), []) := by
  obtain ⟨m, hm⟩ := KK5
  have w1 : IntKind.i64.wrap 1 = 1 := by decide
  have w2 : IntKind.i64.wrap 2 = 2 := by decide
  have w3 : IntKind.i64.wrap 3 = 3 := by decide
  unfold F64
  rw [hm]
  by_cases h1 : x = a
  · simp -implicitDefEqProofs [c64, b64x0, upd, loopN_succ, h1, idxOf]
  · by_cases h2 : x = b
    · simp -implicitDefEqProofs [c64, b64x0, upd, loopN_succ, h1, h2, idxOf, w1]
      all_goals (first | done | (subst h2; simp -implicitDefEqProofs [h1]))
    · by_cases h3 : x = c
      · simp -implicitDefEqProofs [c64, b64x0, upd, loopN_succ, h1, h2, h3, idxOf, w1, w2]
        all_goals (first | done | (subst h3; simp -implicitDefEqProofs [h1, h2]))
      · simp -implicitDefEqProofs [c64, b64x0, upd, loopN_succ, h1, h2, h3, idxOf, w1, w2, w3]
def fr (a b c x : Int) (i : Int) : List SV := [.int .i64 x, .int .i64 (if i = 0 then b else a), .int .i64 (if i ≤ 1 then c else b)]
theorem f65a (a b c x : Int) : F65 [.agg [.int .i64 a, .int .i64 b, .int .i64 c], .one (.int .i64 0), .one (.int .i64 x)] [] = some (.agg [.int .i64 x, .int .i64 b, .int .i64 c], []) := by
  simp -implicitDefEqProofs [F65, c65, upd]
theorem f65b (a b c x : Int) : F65 [.agg [.int .i64 a, .int .i64 b, .int .i64 c], .one (.int .i64 1), .one (.int .i64 x)] [] = some (.agg [.int .i64 x, .int .i64 a, .int .i64 c], []) := by
  simp -implicitDefEqProofs [F65, c65, upd]
theorem f65c (a b c x : Int) : F65 [.agg [.int .i64 a, .int .i64 b, .int .i64 c], .one (.int .i64 2), .one (.int .i64 x)] [] = some (.agg [.int .i64 x, .int .i64 a, .int .i64 b], []) := by
  simp -implicitDefEqProofs [F65, c65, upd]
theorem f65d (a b c x : Int) : F65 [.agg [.int .i64 a, .int .i64 b, .int .i64 c], .one (.int .i64 3), .one (.int .i64 x)] [] = some (.agg [.int .i64 x, .int .i64 a, .int .i64 b], []) := by
  simp -implicitDefEqProofs [F65, c65, upd]
abbrev R3 (a b c : Int) : AV := .agg [.int .i64 a, .int .i64 b, .int .i64 c]
def num (a b c x : Int) : Int := if x = a then 0 else if x = b then 1 else if x = c then 2 else x + 2
def beh (a b c x : Int) : AV := if x = a then R3 x b c else if x = b then R3 x a c else R3 x a b
theorem f41n (a b c x : Int) (h : ¬ (1 ≤ x ∧ x ≤ 65533)) : F41 [R3 a b c, .one (.int .i64 x)] [] = some (.tup [.one (.int .i64 0), R3 a b c, .one (.bool false)], []) := by
  simp -implicitDefEqProofs [F41, c41, upd, f63, h]
theorem f41 (a b c x : Int) (h : 1 ≤ x ∧ x ≤ 65533) : F41 [R3 a b c, .one (.int .i64 x)] [] = some (.tup [.one (.int .i64 (num a b c x)), beh a b c x, .one (.bool true)], []) := by
  have w0 : IntKind.i64.wrap (x + 3) = x + 3 := IntWalk.i64_in _ (by omega)
  have w1 : IntKind.i64.wrap (x + 3 - 1) = x + 2 := by rw [IntWalk.i64_in _ (by omega)]; omega
  have w2 : IntKind.i64.wrap 3 = 3 := by decide
  by_cases h1 : x = a
  · subst h1
    simp -implicitDefEqProofs [F41, c41, upd, f63, f64i, f65a, h, idxOf, num, beh]
  · by_cases h2 : x = b
    · subst h2
      simp -implicitDefEqProofs [F41, c41, upd, f63, f64i, f65b, h, h1, idxOf, num, beh]
    · by_cases h3 : x = c
      · subst h3
        simp -implicitDefEqProofs [F41, c41, upd, f63, f64i, f65c, h, h1, h2, idxOf, num, beh]
      · simp -implicitDefEqProofs [F41, c41, upd, f63, f64i, f65d, h, h1, h2, h3, idxOf, num, beh, w0, w1, w2]
theorem f51n (a b c x : Int) (h : ¬ (1 ≤ x ∧ x ≤ 65533)) : F51 [R3 a b c, .one (.int .i64 x)] [] = some (.one (.int .i64 (-1)), []) := by
  by_cases h1 : x < 1
  · simp -implicitDefEqProofs [F51, c51, upd, h1]
  · have h2 : 65533 < x := by omega
    simp -implicitDefEqProofs [F51, c51, upd, h1, h2]
theorem f51 (a b c x : Int) (h : 1 ≤ x ∧ x ≤ 65533) : F51 [R3 a b c, .one (.int .i64 x)] [] = some (.one (.int .i64 (num a b c x)), []) := by
  obtain ⟨m, hm⟩ := KK5
  have w1 : IntKind.i64.wrap 1 = 1 := by decide
  have w2 : IntKind.i64.wrap 2 = 2 := by decide
  have w3 : IntKind.i64.wrap 3 = 3 := by decide
  have w4 : IntKind.i64.wrap (x + 2) = x + 2 := IntWalk.i64_in _ (by omega)
  have g1 : ¬ x < 1 := by omega
  have g2 : ¬ 65533 < x := by omega
  unfold F51
  rw [hm]
  by_cases h1 : x = a
  · subst h1
    simp -implicitDefEqProofs [c51, b51x0, upd, loopN_succ, g1, g2, num]
  · have h1' : ¬ a = x := fun e => h1 e.symm
    by_cases h2 : x = b
    · subst h2
      simp -implicitDefEqProofs [c51, b51x0, upd, loopN_succ, g1, g2, h1, h1', num, w1]
    · have h2' : ¬ b = x := fun e => h2 e.symm
      by_cases h3 : x = c
      · subst h3
        simp -implicitDefEqProofs [c51, b51x0, upd, loopN_succ, g1, g2, h1, h1', h2, h2', num, w1, w2]
      · have h3' : ¬ c = x := fun e => h3 e.symm
        simp -implicitDefEqProofs [c51, b51x0, upd, loopN_succ, g1, g2, h1, h1', h2, h2', h3, h3', num, w1, w2, w3, w4]
theorem f31 (a b c x : Int) : F31 [R3 a b c, .one (.int .i64 x)] [] = some (beh a b c x, []) := by
  obtain ⟨m, hm⟩ := KK5
  have w1 : IntKind.i64.wrap 1 = 1 := by decide
  have w2 : IntKind.i64.wrap 2 = 2 := by decide
  have w3 : IntKind.i64.wrap 3 = 3 := by decide
  unfold F31
  rw [hm]
  by_cases h1 : x = a
  · subst h1
    by_cases e1 : b = x <;> by_cases e2 : c = x <;> simp -implicitDefEqProofs [c31, b31x0, upd, loopN_succ, beh, w1, w2, w3, e1, e2]
  · have h1' : ¬ a = x := fun e => h1 e.symm
    by_cases h2 : x = b
    · subst h2
      by_cases e2 : c = x <;> simp -implicitDefEqProofs [c31, b31x0, upd, loopN_succ, h1, h1', beh, w1, w2, w3, e2]
    · have h2' : ¬ b = x := fun e => h2 e.symm
      simp -implicitDefEqProofs [c31, b31x0, upd, loopN_succ, h1, h1', h2, h2', beh, w1, w2, w3]
def offOf (a b c n : Int) : Int := if n = 0 then a else if n = 1 then b else if n = 2 then c else n - 2
theorem f60b (a b c n x : Int) (h : 0 ≤ n ∧ n ≤ 65535) (hx : offOf a b c n = x) (h1 : ¬ (1 ≤ x ∧ x ≤ 65533)) : F60 [R3 a b c, .one (.int .i64 n)] [] = some (.tup [.one (.int .i64 0), R3 a b c, .one (.bool false)], []) := by
  have g1 : ¬ n < 0 := by omega
  have g2 : ¬ 65535 < n := by omega
  by_cases e0 : n = 0
  · subst e0; simp [offOf] at hx; subst hx
    simp -implicitDefEqProofs [F60, c60, upd, f41n _ _ _ _ h1]
  · by_cases e1 : n = 1
    · subst e1; simp [offOf] at hx; subst hx
      simp -implicitDefEqProofs [F60, c60, upd, f41n _ _ _ _ h1]
    · by_cases e2 : n = 2
      · subst e2; simp [offOf] at hx; subst hx
        simp -implicitDefEqProofs [F60, c60, upd, f41n _ _ _ _ h1]
      · simp [offOf, e0, e1, e2] at hx
        have w1 : IntKind.i64.wrap (n - 3) = n - 3 := IntWalk.i64_in _ (by omega)
        have w2 : IntKind.i64.wrap (n - 3 + 1) = x := by rw [IntWalk.i64_in _ (by omega)]; omega
        have w3 : ¬ n < 3 := by omega
        simp -implicitDefEqProofs [F60, c60, upd, f41n _ _ _ _ h1, g1, g2, w1, w2, w3]
theorem f60c (a b c n x : Int) (h : 0 ≤ n ∧ n ≤ 65535) (hx : offOf a b c n = x) (h1 : 1 ≤ x ∧ x ≤ 65533) (hn : ¬ num a b c x = n) : F60 [R3 a b c, .one (.int .i64 n)] [] = some (.tup [.one (.int .i64 0), R3 a b c, .one (.bool false)], []) := by
  have g1 : ¬ n < 0 := by omega
  have g2 : ¬ 65535 < n := by omega
  have key := f41 a b c x h1
  have hb : ∃ l0 l1 l2 : Int, beh a b c x = .agg [.int .i64 l0, .int .i64 l1, .int .i64 l2] := by
    unfold beh; (repeat' split) <;> exact ⟨_, _, _, rfl⟩
  obtain ⟨l0, l1, l2, hl⟩ := hb
  rw [hl] at key
  by_cases e0 : n = 0
  · subst e0; simp [offOf] at hx; subst hx
    simp -implicitDefEqProofs [F60, c60, upd, key, hn]
  · by_cases e1 : n = 1
    · subst e1; simp [offOf] at hx; subst hx
      simp -implicitDefEqProofs [F60, c60, upd, key, hn]
    · by_cases e2 : n = 2
      · subst e2; simp [offOf] at hx; subst hx
        simp -implicitDefEqProofs [F60, c60, upd, key, hn]
      · simp [offOf, e0, e1, e2] at hx
        have w1 : IntKind.i64.wrap (n - 3) = n - 3 := IntWalk.i64_in _ (by omega)
        have w2 : IntKind.i64.wrap (n - 3 + 1) = x := by rw [IntWalk.i64_in _ (by omega)]; omega
        have w3 : ¬ n < 3 := by omega
        simp -implicitDefEqProofs [F60, c60, upd, key, hn, g1, g2, w1, w2, w3]
theorem f60 (a b c n x : Int) (h : 0 ≤ n ∧ n ≤ 65535) (hx : offOf a b c n = x) (h1 : 1 ≤ x ∧ x ≤ 65533) (hn : num a b c x = n) : F60 [R3 a b c, .one (.int .i64 n)] [] = some (.tup [.one (.int .i64 x), beh a b c x, .one (.bool true)], []) := by
  have g1 : ¬ n < 0 := by omega
  have g2 : ¬ 65535 < n := by omega
  have key := f41 a b c x h1
  rw [hn] at key
  have hb : ∃ l0 l1 l2 : Int, beh a b c x = .agg [.int .i64 l0, .int .i64 l1, .int .i64 l2] := by
    unfold beh; (repeat' split) <;> exact ⟨_, _, _, rfl⟩
  obtain ⟨l0, l1, l2, hl⟩ := hb
  rw [hl] at key ⊢
  by_cases e0 : n = 0
  · subst e0; simp [offOf] at hx; subst hx
    simp -implicitDefEqProofs [F60, c60, upd, key]
  · by_cases e1 : n = 1
    · subst e1; simp [offOf] at hx; subst hx
      simp -implicitDefEqProofs [F60, c60, upd, key]
    · by_cases e2 : n = 2
      · subst e2; simp [offOf] at hx; subst hx
        simp -implicitDefEqProofs [F60, c60, upd, key]
      · simp [offOf, e0, e1, e2] at hx
        have w1 : IntKind.i64.wrap (n - 3) = n - 3 := IntWalk.i64_in _ (by omega)
        have w2 : IntKind.i64.wrap (n - 3 + 1) = x := by rw [IntWalk.i64_in _ (by omega)]; omega
        have w3 : ¬ n < 3 := by omega
        simp -implicitDefEqProofs [F60, c60, upd, key, g1, g2, w1, w2, w3]
def dist3 (p q r : Int) : Prop := p ≠ q ∧ q ≠ r ∧ p ≠ r
theorem beh_R3 (a b c x : Int) : ∃ p q r, beh a b c x = R3 p q r := by
  unfold beh; (repeat' split) <;> exact ⟨_, _, _, rfl⟩
inductive One (a b c x : Int) : Prop where
  | no (h1 : F41 [R3 a b c, .one (.int .i64 x)] [] = some (.tup [.one (.int .i64 0), R3 a b c, .one (.bool false)], [])) (h2 : F51 [R3 a b c, .one (.int .i64 x)] [] = some (.one (.int .i64 (-1)), []))
  | yes (m p q r : Int) (h0 : 0 ≤ m) (h1 : F41 [R3 a b c, .one (.int .i64 x)] [] = some (.tup [.one (.int .i64 m), R3 p q r, .one (.bool true)], [])) (h2 : F51 [R3 a b c, .one (.int .i64 x)] [] = some (.one (.int .i64 m), []))
    (h3 : F31 [R3 a b c, .one (.int .i64 x)] [] = some (R3 p q r, [])) (h4 : F60 [R3 a b c, .one (.int .i64 m)] [] = some (.tup [.one (.int .i64 x), R3 p q r, .one (.bool true)], []))
theorem num_le (a b c x : Int) (h : 1 ≤ x ∧ x ≤ 65533) : 0 ≤ num a b c x ∧ num a b c x ≤ 65535 := by
  unfold num; (repeat' split) <;> omega
theorem off_num (a b c x : Int) (h : 1 ≤ x ∧ x ≤ 65533) : offOf a b c (num a b c x) = x := by
  unfold num
  by_cases h1 : x = a
  · rw [if_pos h1]; simp [offOf, h1]
  · rw [if_neg h1]
    by_cases h2 : x = b
    · rw [if_pos h2]; simp [offOf, h2]
    · rw [if_neg h2]
      by_cases h3 : x = c
      · rw [if_pos h3]; simp [offOf, h3]
      · rw [if_neg h3]; unfold offOf
        rw [if_neg (by omega), if_neg (by omega), if_neg (by omega)]; omega
theorem one (a b c x : Int) : One a b c x := by
  by_cases h : 1 ≤ x ∧ x ≤ 65533
  · obtain ⟨p, q, r, e⟩ := beh_R3 a b c x
    have h1 := f41 a b c x h
    have h3 := f31 a b c x
    have h4 := f60 a b c (num a b c x) x (num_le a b c x h) (off_num a b c x h) h rfl
    rw [e] at h1 h3 h4
    exact .yes _ p q r (num_le a b c x h).1 h1 (f51 a b c x h) h3 h4
  · exact .no (f41n a b c x h) (f51n a b c x h)
inductive Two (a b c n : Int) : Prop where
  | out (h : n < 0 ∨ 65535 < n) (h1 : F60 [R3 a b c, .one (.int .i64 n)] [] = some (.tup [.one (.int .i64 0), R3 a b c, .one (.bool false)], []))
  | not (x v : Int) (h : 0 ≤ n ∧ n ≤ 65535) (hx : offOf a b c n = x) (h1 : F60 [R3 a b c, .one (.int .i64 n)] [] = some (.tup [.one (.int .i64 0), R3 a b c, .one (.bool false)], [])) (h2 : F51 [R3 a b c, .one (.int .i64 x)] [] = some (.one (.int .i64 v), [])) (hv : ¬ v = n)
  | yes (x p q r : Int) (h1 : F60 [R3 a b c, .one (.int .i64 n)] [] = some (.tup [.one (.int .i64 x), R3 p q r, .one (.bool true)], [])) (h2 : F51 [R3 a b c, .one (.int .i64 x)] [] = some (.one (.int .i64 n), [])) (h3 : F31 [R3 a b c, .one (.int .i64 x)] [] = some (R3 p q r, []))
def grp (v : Nat) : List Int := if _h : v < 128 then [(v : Int)] else ((v % 128 + 128 : Nat) : Int) :: grp (v / 128)
termination_by v
theorem grp_lt {v : Nat} (h : v < 128) : grp v = [(v : Int)] := by rw [grp, dif_pos h]
theorem grp_ge {v : Nat} (h : ¬ v < 128) : grp v = ((v % 128 + 128 : Nat) : Int) :: grp (v / 128) := by rw [grp, dif_neg h]
theorem grp_isB (v : Nat) : isB (grp v) := by
  induction v using Nat.strongRecOn with
  | ind v ih =>
  by_cases h : v < 128
  · rw [grp_lt h]; exact isB_one (by omega)
  · rw [grp_ge h]
    intro x hx
    rcases List.mem_cons.1 hx with rfl | hx
    · omega
    · exact ih (v / 128) (by omega) x hx
theorem grp_len : ∀ (n v : Nat), v < 128 ^ (n + 1) → (grp v).length ≤ n + 1
  | 0, v, h => by rw [grp_lt (by omega)]; simp
  | n + 1, v, h => by
    by_cases hv : v < 128
    · rw [grp_lt hv]; simp
    · rw [grp_ge hv, List.length_cons]
      have := grp_len n (v / 128) (by
        rw [Nat.div_lt_iff_lt_mul (by omega)]
        rw [Nat.pow_succ] at h
        exact h)
      omega
theorem grp_ten {v : Nat} (h : v < 2 ^ 64) : (grp v).length ≤ 10 := grp_len 9 v (by omega)
def wHp (g : Option Nat) (bs : List Int) : List Ob := [.cells g [.row 1], .rows none (.ints .u8 bs)]
theorem or128 : ∀ x : Fin 256, bitsI .or .u8 (x.val : Int) 128 = ((x.val % 128 + 128 : Nat) : Int) := by decide +kernel
def canon13 (v0 v : Int) (bs : List Int) : St := ⟨[(0, .one (.ptr 0 0)), (1, .one (.int .u64 v))], [.ptr 0 0, .int .u64 v0], wHp (some 0) bs⟩
theorem body13 (v0 v c b v' : Int) (bs : List Int) (hv : 127 < v) (ec : IntKind.u8.wrap v = c) (eb : bitsI .or .u8 c 128 = b) (es : shrI .u64 v 7 = v') (hm : bs.length + 1 ≤ 140737488355328) :
    ∃ st1, evC T13 KK b13x0 (canon13 v0 v bs) = some (.norm, st1) ∧ St.head [0, 1] st1 = canon13 v0 v' (bs ++ [b]) := by
  simp -implicitDefEqProofs [b13x0, canon13, wHp, upd, hv, ec, eb, es, hm, RC.len, RC.size, RC.app, RC.ofElems]
theorem end13 (v0 v : Int) (bs : List Int) (hv : ¬ 127 < v) :
    ∃ env, evC T13 KK b13x0 (canon13 v0 v bs) = some (.exit 0, ⟨env, [.ptr 0 0, .int .u64 v0], wHp (some 0) bs⟩) ∧ getT 0 env = .one (.ptr 0 0) ∧ getT 1 env = .one (.int .u64 v) := by
  simp -implicitDefEqProofs [b13x0, canon13, upd, hv]
theorem loop13 (v0 : Int) (v : Nat) : ∀ (bs : List Int) (K : Nat), v < 2 ^ 64 → bs.length + (grp v).length ≤ 100000 → (grp v).length < K →
    ∃ env bs' u, loopH (evC T13 KK b13x0) [0, 1] K (canon13 v0 v bs) = some (.exit 0, ⟨env, [.ptr 0 0, .int .u64 v0], wHp (some 0) bs'⟩) ∧ getT 0 env = .one (.ptr 0 0) ∧ getT 1 env = .one (.int .u64 (u : Nat)) ∧ u < 128 ∧ bs' ++ [(u : Int)] = bs ++ grp v := by
  induction v using Nat.strongRecOn with
  | ind v ih =>
  intro bs K hv hl hK
  by_cases h : v < 128
  · obtain ⟨env, e, g0, g1⟩ := end13 v0 v bs (by omega)
    exact ⟨env, bs, v, loopH_exit e, g0, g1, h, by rw [grp_lt h]⟩
  · rw [grp_ge h] at hl hK ⊢
    simp only [List.length_cons] at hl hK
    have eb : bitsI .or .u8 ((v % 256 : Nat) : Int) 128 = ((v % 128 + 128 : Nat) : Int) := by
      have := or128 ⟨v % 256, by omega⟩
      simp only at this
      rw [this]; congr 1; omega
    obtain ⟨st1, e1, e2⟩ := body13 v0 v (v % 256 : Nat) (v % 128 + 128 : Nat) (v / 128 : Nat) bs (by omega) (by rw [IntKind.wrap_u8]; omega) eb (shr_in (n := 7) (by simp only [IntKind.bits]; omega)) (by omega)
    obtain ⟨env, bs', u, e, g0, g1, hu, hb⟩ := ih (v / 128) (by omega) (bs ++ [((v % 128 + 128 : Nat) : Int)]) (K - 1) (by omega) (by rw [List.length_append, List.length_cons, List.length_nil]; omega) (by omega)
    exact ⟨env, bs', u, by rw [loopH_norm e1 (by omega), e2]; exact e, g0, g1, hu, by rw [hb]; simp⟩
theorem f13 (v : Nat) (bs : List Int) (hv : v < 2 ^ 64) (hl : bs.length ≤ 90000) : F13 [.one (.ptr 0 0), .one (.int .u64 v)] (wHp (some 0) bs) = some (.one (.ptr 0 0), wHp (some 0) (bs ++ grp v)) := by
  have h10 := grp_ten hv
  obtain ⟨env, bs', u, e, g0, g1, hu, hb⟩ := loop13 v v bs KK hv (by omega) (by rw [KK_eq]; omega)
  have hbl := congrArg List.length hb
  simp only [List.length_append, List.length_cons, List.length_nil] at hbl
  have w : IntKind.u8.wrap (u : Int) = u := u8_in _ (by omega)
  have hm : bs'.length + 1 ≤ 140737488355328 := by omega
  simp only [canon13, wHp] at e
  rw [← hb]
  clear hb hbl
  simp -implicitDefEqProofs [F13, c13, upd, wHp, e, g0, g1, w, hm, RC.len, RC.size, RC.app, RC.ofElems]
theorem f14 (bs : List Int) : F14 [.one (.ptr 0 0)] (wHp (some 0) bs) = some (.one (.str (ofBytes bs)), wHp (some 0) bs) := by
  simp -implicitDefEqProofs [F14, c14, upd, wHp]
def rHp (g : Option Nat) (l : List Int) (bad : Bool) : List Ob := [.cells g [.str (ofBytes l), .bool bad]]
theorem f9 (s : ByteArray) : F9 [.one (.str s)] [] = some (.one (.ptr 0 0), rHp none (toBytes s) false) := by
  simp -implicitDefEqProofs [F9, c9, upd, rHp, ofBytes_toBytes]
theorem f34 (l : List Int) (bad : Bool) : F34 [.one (.ptr 0 0)] (rHp (some 0) l bad) = some (.one (.bool bad), rHp (some 0) l bad) := by
  simp -implicitDefEqProofs [F34, c34, upd, rHp]
theorem f53 (l : List Int) (bad : Bool) : F53 [.one (.ptr 0 0)] (rHp (some 0) l bad) = some (.tup [], rHp (some 0) [] true) := by
  simp -implicitDefEqProofs [F53, c53, upd, rHp, ofBytes_nil]
theorem f40b (l : List Int) (n : Int) : F40 [.one (.ptr 0 0), .one (.int .i64 n)] (rHp (some 0) l true) = some (.one (.str (ofBytes [])), rHp (some 0) [] true) := by
  have e34 := f34 l true
  have e53 := f53 l true
  simp only [rHp, ofBytes_nil] at e34 e53 ⊢
  by_cases h : n < 0
  · simp -implicitDefEqProofs [F40, c40, upd, e34, e53, h]
  · simp -implicitDefEqProofs [F40, c40, upd, e34, e53, h]
theorem f40s (l : List Int) (n : Int) (h : (l.length : Int) < n) : F40 [.one (.ptr 0 0), .one (.int .i64 n)] (rHp (some 0) l false) = some (.one (.str (ofBytes [])), rHp (some 0) [] true) := by
  have e34 := f34 l false
  have e53 := f53 l false
  have h0 : ¬ n < 0 := by omega
  simp only [rHp, ofBytes_nil] at e34 e53 ⊢
  simp -implicitDefEqProofs [F40, c40, upd, e34, e53, h0, size_ofBytes, h]
theorem f40 (l : List Int) (n : Int) (m : Nat) (h : m = if n < 0 then 0 else n.toNat) (hm : m ≤ l.length) (hl : l.length ≤ 9223372036854775807) : F40 [.one (.ptr 0 0), .one (.int .i64 n)] (rHp (some 0) l false) = some (.one (.str (ofBytes (l.take m))), rHp (some 0) (l.drop m) false) := by
  have e34 := f34 l false
  have hmi : ¬ ((l.length : Int) < (m : Int)) := by omega
  have hmn : ¬ (l.length < m) := by omega
  have htk : List.take (l.length - m) (List.drop m l) = List.drop m l := List.take_of_length_le (by rw [List.length_drop]; omega)
  simp only [rHp] at e34 ⊢
  by_cases h0 : n < 0
  · rw [if_pos h0] at h
    subst h
    have hl0 : ¬ ((l.length : Int) < 0) := by omega
    simp -implicitDefEqProofs [F40, c40, upd, e34, size_ofBytes, h0, hl0, ofBytes_extract, htk, empty_ofBytes]
  · rw [if_neg h0] at h
    obtain ⟨k, rfl⟩ : ∃ k : Nat, n = k := ⟨n.toNat, by omega⟩
    rw [Int.toNat_natCast] at h
    subst h
    simp -implicitDefEqProofs [F40, c40, upd, e34, size_ofBytes, h0, hmi, hmn, hm, ofBytes_extract, htk]
def canon52 (v i : Int) (l : List Int) : St := ⟨[(0, .one (.ptr 0 0)), (3, .one (.int .u64 v)), (7, .one (.int .i64 i))], [.ptr 0 0], rHp (some 0) l false⟩
theorem body52a (v i : Int) (hi : i < 10) :
    ∃ env, evC T52 KK b52x0 (canon52 v i []) = some (.ret, ⟨env, [.ptr 0 0], rHp (some 0) [] true⟩) ∧ getT 2 env = .one (.int .u64 0) := by
  have e40 := f40s [] 1 (by simp)
  simp only [rHp, ofBytes_nil] at e40
  simp -implicitDefEqProofs [b52x0, canon52, rHp, upd, hi, e40, ofBytes_nil]
section
variable (v i b c : Int) (l : List Int) (e40 : F40 [.one (.ptr 0 0), .one (.int .i64 1)] (rHp (some 0) (b :: l) false) = some (.one (.str (ofBytes [b])), rHp (some 0) l false)) (ht : toBytes (ofBytes [b]) = [b]) (ec : IntKind.u64.wrap b = b)
include e40 ht ec
theorem body52b (hi : i < 10) (hbad : i = 9 ∧ 1 < b ∨ 0 < i ∧ b = 0) :
    ∃ env, evC T52 KK b52x0 (canon52 v i (b :: l)) = some (.exit 0, ⟨env, [.ptr 0 0], rHp (some 0) l false⟩) ∧ getT 0 env = .one (.ptr 0 0) := by
  simp only [rHp] at e40
  have hs := size_ofBytes [b]
  have he := emptyS [b]
  by_cases h9 : i = 9
  · subst h9
    by_cases h1 : 1 < b
    · simp -implicitDefEqProofs [b52x0, canon52, rHp, upd, e40, ht, ec, hs, he, h1]
    · have hb : b = 0 := by omega
      subst hb
      simp -implicitDefEqProofs [b52x0, canon52, rHp, upd, e40, ht, ec, hs, he]
  · have h0 : 0 < i := by omega
    have hb : b = 0 := by omega
    subst hb
    simp -implicitDefEqProofs [b52x0, canon52, rHp, upd, hi, e40, ht, ec, hs, he, h9, h0]
theorem body52c (m s p v' : Int) (hi : i < 10) (hi0 : 0 ≤ i) (hok : ¬ (i = 9 ∧ 1 < b) ∧ ¬ (0 < i ∧ b = 0)) (hlt : b < 128) (em : bitsI .and .u64 b 127 = m) (es : IntKind.i64.wrap (7 * i) = s) (hs0 : ¬ s < 0) (ep : shlI .u64 m s = p) (ev : bitsI .or .u64 v p = v') :
    ∃ env, evC T52 KK b52x0 (canon52 v i (b :: l)) = some (.ret, ⟨env, [.ptr 0 0], rHp (some 0) l false⟩) ∧ getT 2 env = .one (.int .u64 v') := by
  simp only [rHp] at e40
  have hs := size_ofBytes [b]
  have he := emptyS [b]
  by_cases h9 : i = 9
  · subst h9
    have h1 : ¬ 1 < b := by omega
    have hb : ¬ b = 0 := by omega
    simp only [show (7 : Int) * 9 = 63 from rfl] at es
    simp -implicitDefEqProofs [b52x0, canon52, rHp, upd, e40, ht, ec, hs, he, h1, hb, em, es, hs0, ep, ev, hlt]
  · by_cases h0 : 0 < i
    · have hb : ¬ b = 0 := by omega
      simp -implicitDefEqProofs [b52x0, canon52, rHp, upd, hi, e40, ht, ec, hs, he, h9, h0, hb, em, es, hs0, ep, ev, hlt]
    · have hi : i = 0 := by omega
      subst hi
      simp only [Int.mul_zero] at es
      simp -implicitDefEqProofs [b52x0, canon52, rHp, upd, e40, ht, ec, hs, he, em, es, hs0, ep, ev, hlt]
theorem body52d (m s p v' i' : Int) (hi : i < 10) (hi0 : 0 ≤ i) (hok : ¬ (i = 9 ∧ 1 < b)) (hlt : 128 ≤ b) (em : bitsI .and .u64 b 127 = m) (es : IntKind.i64.wrap (7 * i) = s) (hs0 : ¬ s < 0) (ep : shlI .u64 m s = p) (ev : bitsI .or .u64 v p = v') (ei : IntKind.i64.wrap (i + 1) = i') :
    ∃ st1, evC T52 KK b52x0 (canon52 v i (b :: l)) = some (.norm, st1) ∧ St.head [0, 3, 7] st1 = canon52 v' i' l := by
  simp only [rHp] at e40
  have hs := size_ofBytes [b]
  have he := emptyS [b]
  have h9 : ¬ i = 9 := by omega
  have hb : ¬ b = 0 := by omega
  have hlt' : ¬ b < 128 := by omega
  by_cases h0 : 0 < i
  · simp -implicitDefEqProofs [b52x0, canon52, rHp, upd, hi, e40, ht, ec, hs, he, h9, h0, hb, em, es, hs0, ep, ev, ei, hlt', hlt]
  · have hi : i = 0 := by omega
    subst hi
    simp only [Int.mul_zero, Int.zero_add] at es ei
    simp -implicitDefEqProofs [b52x0, canon52, rHp, upd, e40, ht, ec, hs, he, em, es, hs0, ep, ev, ei, hlt', hlt]
end
def gdec : Nat → Nat → List Int → Option (Nat × List Int)
  | _, _, [] => none
  | i, v, b :: l => if i = 9 ∧ 1 < b ∨ 0 < i ∧ b = 0 then none else if b < 128 then some (v + b.toNat % 128 * 2 ^ (7 * i), l) else gdec (i + 1) (v + b.toNat % 128 * 2 ^ (7 * i)) l
theorem gdec_grp (l : List Int) (a : Nat) : ∀ (i v : Nat), i ≤ 9 → a * 2 ^ (7 * i) < 2 ^ 64 → (i = 0 ∨ 0 < a) → gdec i v (grp a ++ l) = some (v + a * 2 ^ (7 * i), l) := by
  induction a using Nat.strongRecOn with
  | ind a ih =>
  intro i v hi ha h0
  by_cases h : a < 128
  · rw [grp_lt h]
    simp only [List.cons_append, List.nil_append, gdec, Int.toNat_natCast]
    rw [if_neg, if_pos (by omega), Nat.mod_eq_of_lt h]
    rintro (⟨rfl, h1⟩ | ⟨h1, h2⟩)
    · omega
    · omega
  · rw [grp_ge h]
    have h9 : i ≠ 9 := by
      rintro rfl
      omega
    have hp : 2 ^ (7 * (i + 1)) = 128 * 2 ^ (7 * i) := by rw [Nat.mul_add, Nat.pow_add]; omega
    have hle : a / 128 * (128 * 2 ^ (7 * i)) ≤ a * 2 ^ (7 * i) := by
      rw [← Nat.mul_assoc]
      exact Nat.mul_le_mul_right _ (by omega)
    simp only [List.cons_append, gdec, Int.toNat_natCast]
    rw [if_neg (by omega), if_neg (by omega), ih (a / 128) (by omega) (i + 1) _ (by omega) (by rw [hp]; omega) (.inr (by omega)), hp]
    congr 2
    have e1 : (a % 128 + 128) % 128 = a % 128 := by omega
    rw [e1, ← Nat.mul_assoc, Nat.add_assoc, ← Nat.add_mul]
    congr 2
    omega
theorem and127 {b : Int} (h : 0 ≤ b ∧ b < 256) : bitsI .and .u64 b 127 = ((b.toNat % 128 : Nat) : Int) := by
  obtain ⟨n, rfl⟩ : ∃ n : Nat, b = n := ⟨b.toNat, by omega⟩
  have := mask_and (k := .u64) (x := n) (n := 7) rfl (by simp only [IntKind.bits]; omega) (by simp only [IntKind.bits]; omega)
  simpa using this
theorem loop52 : ∀ (l : List Int) (i v : Nat) (K : Nat), isB l → l.length ≤ 90000 → i ≤ 9 → v < 2 ^ (7 * i) → 12 ≤ i + K →
    match gdec i v l with
    | some (u, rest) => ∃ env, loopH (evC T52 KK b52x0) [0, 3, 7] K (canon52 v i l) = some (.ret, ⟨env, [.ptr 0 0], rHp (some 0) rest false⟩) ∧ getT 2 env = .one (.int .u64 (u : Nat))
    | none => (∃ env, loopH (evC T52 KK b52x0) [0, 3, 7] K (canon52 v i l) = some (.ret, ⟨env, [.ptr 0 0], rHp (some 0) [] true⟩) ∧ getT 2 env = .one (.int .u64 0)) ∨ (∃ env rest, loopH (evC T52 KK b52x0) [0, 3, 7] K (canon52 v i l) = some (.exit 0, ⟨env, [.ptr 0 0], rHp (some 0) rest false⟩) ∧ getT 0 env = .one (.ptr 0 0))
  | [], i, v, K, _, _, hi, _, hK => by
    simp only [gdec]
    obtain ⟨env, e, g⟩ := body52a v i (by omega)
    exact .inl ⟨env, loopH_ret e, g⟩
  | b :: l, i, v, K, hB, hl, hi, hv, hK => by
    have hb := hB b (by simp)
    have hl' : l.length ≤ 90000 := by simp only [List.length_cons] at hl; omega
    have e40 := f40 (b :: l) 1 1 rfl (by simp) (by simp only [List.length_cons] at hl ⊢; omega)
    simp only [List.take_succ_cons, List.take_zero, List.drop_succ_cons, List.drop_zero] at e40
    have ht := toBytes_ofBytes (isB_one hb)
    have ec : IntKind.u64.wrap b = b := u64_in _ (by omega)
    have es : IntKind.i64.wrap (7 * (i : Int)) = ((7 * i : Nat) : Int) := by rw [i64_in _ (by omega)]; omega
    simp only [gdec]
    by_cases hbad : i = 9 ∧ 1 < b ∨ 0 < i ∧ b = 0
    · rw [if_pos hbad]
      obtain ⟨env, e, g⟩ := body52b v i b l e40 ht ec (by omega) (by omega)
      exact .inr ⟨env, l, loopH_exit e, g⟩
    · rw [if_neg hbad]
      have hfit : v + b.toNat % 128 * 2 ^ (7 * i) < 2 ^ 64 := by
        rcases Nat.lt_or_ge i 9 with h9 | h9
        · have e1 : (b.toNat % 128 + 1) * 2 ^ (7 * i) ≤ 128 * 2 ^ (7 * i) := Nat.mul_le_mul_right _ (by omega)
          have e2 : 128 * 2 ^ (7 * i) = 2 ^ (7 * i + 7) := by rw [Nat.pow_add]; omega
          have e3 : 2 ^ (7 * i + 7) ≤ 2 ^ 64 := Nat.pow_le_pow_right (by omega) (by omega)
          rw [Nat.add_mul, Nat.one_mul] at e1
          omega
        · obtain rfl : i = 9 := by omega
          have : b.toNat ≤ 1 := by omega
          have e1 : b.toNat % 128 * 2 ^ (7 * 9) ≤ 1 * 2 ^ (7 * 9) := Nat.mul_le_mul_right _ (by omega)
          omega
      have ep : shlI .u64 ((b.toNat % 128 : Nat) : Int) ((7 * i : Nat) : Int) = ((b.toNat % 128 * 2 ^ (7 * i) : Nat) : Int) := shl_in rfl (by simp only [IntKind.bits]; omega) (by simp only [IntKind.bits]; omega)
      have ev : bitsI .or .u64 (v : Int) ((b.toNat % 128 * 2 ^ (7 * i) : Nat) : Int) = ((v + b.toNat % 128 * 2 ^ (7 * i) : Nat) : Int) := or_add rfl hv (by simp only [IntKind.bits]; exact hfit)
      by_cases hlt : b < 128
      · rw [if_pos hlt]
        obtain ⟨env, e, g⟩ := body52c v i b l e40 ht ec _ _ _ _ (by omega) (by omega) (by omega) hlt (and127 hb) es (by omega) ep ev
        exact ⟨env, loopH_ret e, g⟩
      · rw [if_neg hlt]
        have hi9 : i ≠ 9 := by omega
        have hv' : v + b.toNat % 128 * 2 ^ (7 * i) < 2 ^ (7 * (i + 1)) := by
          have e1 : (b.toNat % 128 + 1) * 2 ^ (7 * i) ≤ 128 * 2 ^ (7 * i) := Nat.mul_le_mul_right _ (by omega)
          rw [Nat.add_mul, Nat.one_mul] at e1
          rw [Nat.mul_add, Nat.pow_add]
          omega
        obtain ⟨st1, e1, e2⟩ := body52d v i b l e40 ht ec _ _ _ _ ((i + 1 : Nat) : Int) (by omega) (by omega) (by omega) (by omega) (and127 hb) es (by omega) ep ev (by rw [i64_in _ (by omega)]; omega)
        have hK2 : 1 < K := by omega
        have next := loop52 l (i + 1) (v + b.toNat % 128 * 2 ^ (7 * i)) (K - 1) hB.tail hl' (by omega) hv' (by omega)
        cases hg : gdec (i + 1) (v + b.toNat % 128 * 2 ^ (7 * i)) l with
        | none =>
          rw [hg] at next
          simp only at next ⊢
          rcases next with ⟨env, e, g⟩ | ⟨env, rest, e, g⟩
          · exact .inl ⟨env, by rw [loopH_norm e1 hK2, e2]; exact e, g⟩
          · exact .inr ⟨env, rest, by rw [loopH_norm e1 hK2, e2]; exact e, g⟩
        | some p =>
          obtain ⟨u, rest⟩ := p
          rw [hg] at next
          simp only at next ⊢
          obtain ⟨env, e, g⟩ := next
          exact ⟨env, by rw [loopH_norm e1 hK2, e2]; exact e, g⟩
def gAns (l : List Int) : Nat × List Int × Bool := match gdec 0 0 l with
  | some (v, rest) => (v, rest, false)
  | none => (0, [], true)
theorem f52 (l : List Int) (hB : isB l) (hl : l.length ≤ 90000) : F52 [.one (.ptr 0 0)] (rHp (some 0) l false) = some (.one (.int .u64 (gAns l).1), rHp (some 0) (gAns l).2.1 (gAns l).2.2) := by
  have h := loop52 l 0 0 KK hB hl (by omega) (by simp) (by rw [KK_eq]; omega)
  have z : ((0 : Nat) : Int) = 0 := rfl
  unfold gAns
  cases hg : gdec 0 0 l with
  | none =>
    rw [hg] at h
    simp only [canon52, rHp, z] at h ⊢
    rcases h with ⟨env, e, g⟩ | ⟨env, rest, e, g⟩
    · simp -implicitDefEqProofs [F52, c52, upd, e, g, ofBytes_nil]
    · have e53 := f53 rest false
      simp only [rHp] at e53
      simp -implicitDefEqProofs [F52, c52, upd, e, g, e53, ofBytes_nil]
  | some p =>
    obtain ⟨u, rest⟩ := p
    rw [hg] at h
    simp only [canon52, rHp, z] at h ⊢
    obtain ⟨env, e, g⟩ := h
    simp -implicitDefEqProofs [F52, c52, upd, e, g]
theorem f52b (l : List Int) : F52 [.one (.ptr 0 0)] (rHp (some 0) l true) = some (.one (.int .u64 0), rHp (some 0) [] true) := by
  have e40 := f40b l 1
  have body : ∃ env, evC T52 KK b52x0 ⟨[(0, .one (.ptr 0 0)), (3, .one (.int .u64 0)), (7, .one (.int .i64 0))], [.ptr 0 0], rHp (some 0) l true⟩ = some (.ret, ⟨env, [.ptr 0 0], rHp (some 0) [] true⟩) ∧ getT 2 env = .one (.int .u64 0) := by
    simp only [rHp, ofBytes_nil] at e40 ⊢
    simp -implicitDefEqProofs [b52x0, upd, e40]
  obtain ⟨env, e, g⟩ := body
  have e' := loopH_ret (live := [0, 3, 7]) (k := KK) e
  simp only [rHp] at e' ⊢
  simp -implicitDefEqProofs [F52, c52, upd, e', g]
theorem f19 (s : ByteArray) (bs : List Int) (h : bs.length + s.size ≤ 140737488355328) : F19 [.one (.ptr 0 0), .one (.str s)] (wHp (some 0) bs) = some (.one (.ptr 0 0), wHp (some 0) (bs ++ toBytes s)) := by
  have hm : bs.length + (toBytes s).length ≤ 140737488355328 := by rw [size_toBytes]; exact h
  simp -implicitDefEqProofs [F19, c19, upd, wHp, hm, RC.len, RC.size, RC.app]
theorem f21 (s : ByteArray) (bs : List Int) (h : bs.length ≤ 80000) (hs : s.size ≤ 100000) : F21 [.one (.ptr 0 0), .one (.str s)] (wHp (some 0) bs) = some (.one (.ptr 0 0), wHp (some 0) (bs ++ grp s.size ++ toBytes s)) := by
  have w : IntKind.u64.wrap (s.size : Int) = s.size := u64_in _ (by omega)
  have e13 := f13 s.size bs (by omega) (by omega)
  have h10 := grp_ten (v := s.size) (by omega)
  have e19 := f19 s (bs ++ grp s.size) (by rw [List.length_append]; omega)
  simp only [wHp] at e13 e19
  simp -implicitDefEqProofs [F21, c21, upd, wHp, w, e13, e19]
def rAns (l : List Int) (n : Int) : List Int × List Int × Bool := if (l.length : Int) < n then ([], [], true) else (l.take n.toNat, l.drop n.toNat, false)
theorem f40' (l : List Int) (n : Int) (hl : l.length ≤ 90000) : F40 [.one (.ptr 0 0), .one (.int .i64 n)] (rHp (some 0) l false) = some (.one (.str (ofBytes (rAns l n).1)), rHp (some 0) (rAns l n).2.1 (rAns l n).2.2) := by
  unfold rAns
  by_cases h : (l.length : Int) < n
  · rw [if_pos h]; exact f40s l n h
  · rw [if_neg h]
    by_cases h0 : n < 0
    · have e : n.toNat = 0 := by omega
      rw [e]
      exact f40 l n 0 (by rw [if_pos h0]) (by omega) (by omega)
    · exact f40 l n n.toNat (by rw [if_neg h0]) (by omega) (by omega)
def iAns (l : List Int) (most : Int) : Nat × List Int × Bool := if (gAns l).2.2 = true ∨ most < 0 ∨ most < (gAns l).1 then (0, [], true) else gAns l
theorem f33b (l : List Int) (most : Int) : F33 [.one (.ptr 0 0), .one (.int .i64 most)] (rHp (some 0) l true) = some (.one (.int .i64 0), rHp (some 0) [] true) := by
  have e52 := f52b l
  have e34 := f34 [] true
  have e53 := f53 [] true
  simp only [rHp] at e52 e34 e53 ⊢
  simp -implicitDefEqProofs [F33, c33, upd, e52, e34, e53]
theorem gdec_lt : ∀ (l : List Int) (i v u : Nat) (r : List Int), isB l → i ≤ 9 → v < 2 ^ (7 * i) → gdec i v l = some (u, r) → u < 2 ^ 64
  | [], _, _, _, _, _, _, _, h => by simp [gdec] at h
  | b :: l, i, v, u, r, hB, hi, hv, h => by
    have hb := hB b (by simp)
    simp only [gdec] at h
    by_cases hbad : i = 9 ∧ 1 < b ∨ 0 < i ∧ b = 0
    · rw [if_pos hbad] at h; cases h
    · rw [if_neg hbad] at h
      by_cases hlt : b < 128
      · rw [if_pos hlt] at h
        simp only [Option.some.injEq, Prod.mk.injEq] at h
        rw [← h.1]
        rcases Nat.lt_or_ge i 9 with h9 | h9
        · have e1 : (b.toNat % 128 + 1) * 2 ^ (7 * i) ≤ 128 * 2 ^ (7 * i) := Nat.mul_le_mul_right _ (by omega)
          have e2 : 128 * 2 ^ (7 * i) = 2 ^ (7 * i + 7) := by rw [Nat.pow_add]; omega
          have e3 : 2 ^ (7 * i + 7) ≤ 2 ^ 64 := Nat.pow_le_pow_right (by omega) (by omega)
          rw [Nat.add_mul, Nat.one_mul] at e1
          omega
        · obtain rfl : i = 9 := by omega
          have : b.toNat ≤ 1 := by omega
          have e1 : b.toNat % 128 * 2 ^ (7 * 9) ≤ 1 * 2 ^ (7 * 9) := Nat.mul_le_mul_right _ (by omega)
          omega
      · rw [if_neg hlt] at h
        have hv' : v + b.toNat % 128 * 2 ^ (7 * i) < 2 ^ (7 * (i + 1)) := by
          have e1 : (b.toNat % 128 + 1) * 2 ^ (7 * i) ≤ 128 * 2 ^ (7 * i) := Nat.mul_le_mul_right _ (by omega)
          rw [Nat.add_mul, Nat.one_mul] at e1
          rw [Nat.mul_add, Nat.pow_add]
          omega
        exact gdec_lt l (i + 1) _ u r hB.tail (by omega) hv' h
theorem gdec_len : ∀ (l : List Int) (i v u : Nat) (r : List Int), gdec i v l = some (u, r) → r.length < l.length
  | [], _, _, _, _, h => by simp [gdec] at h
  | b :: l, i, v, u, r, h => by
    simp only [gdec] at h
    split at h
    · cases h
    · split at h
      · simp only [Option.some.injEq, Prod.mk.injEq] at h
        rw [← h.2]; simp
      · have := gdec_len l _ _ u r h
        simp only [List.length_cons]; omega
theorem gdec_isB : ∀ (l : List Int) (i v u : Nat) (r : List Int), isB l → gdec i v l = some (u, r) → isB r
  | [], _, _, _, _, _, h => by simp [gdec] at h
  | b :: l, i, v, u, r, hB, h => by
    simp only [gdec] at h
    split at h
    · cases h
    · split at h
      · simp only [Option.some.injEq, Prod.mk.injEq] at h
        rw [← h.2]; exact hB.tail
      · exact gdec_isB l _ _ u r hB.tail h
theorem gAns_ok (l : List Int) (hB : isB l) : (gAns l).1 < 2 ^ 64 ∧ isB (gAns l).2.1 ∧ (gAns l).2.1.length ≤ l.length := by
  unfold gAns
  cases h : gdec 0 0 l with
  | none => simp [isB]
  | some p =>
    obtain ⟨u, r⟩ := p
    have := gdec_len l 0 0 u r h
    exact ⟨gdec_lt l 0 0 u r hB (by omega) (by simp) h, gdec_isB l 0 0 u r hB h, by simp only; omega⟩
theorem f33 (l : List Int) (most : Int) (hm : most ≤ 9223372036854775807) (hB : isB l) (hl : l.length ≤ 90000) : F33 [.one (.ptr 0 0), .one (.int .i64 most)] (rHp (some 0) l false) = some (.one (.int .i64 (iAns l most).1), rHp (some 0) (iAns l most).2.1 (iAns l most).2.2) := by
  have e52 := f52 l hB hl
  have hlt := (gAns_ok l hB).1
  have e34 := f34 (gAns l).2.1 (gAns l).2.2
  have e53 := f53 (gAns l).2.1 (gAns l).2.2
  unfold iAns
  generalize hq : gAns l = q at *
  obtain ⟨v', r, bad⟩ := q
  simp only at e52 e34 e53 hlt ⊢
  simp only [rHp] at e52 e34 e53 ⊢
  cases bad with
  | true => simp -implicitDefEqProofs [F33, c33, upd, e52, e34, e53]
  | false =>
    by_cases h0 : most < 0
    · simp -implicitDefEqProofs [F33, c33, upd, e52, e34, e53, h0]
    · have w : IntKind.u64.wrap most = most := u64_in _ (by omega)
      by_cases h1 : most < (v' : Int)
      · simp -implicitDefEqProofs [F33, c33, upd, e52, e34, e53, h0, w, h1]
      · have w2 : IntKind.i64.wrap (v' : Int) = v' := i64_in _ (by omega)
        simp -implicitDefEqProofs [F33, c33, upd, e52, e34, e53, h0, w, w2, h1]
theorem f37b (l : List Int) (most : Int) : F37 [.one (.ptr 0 0), .one (.int .i64 most)] (rHp (some 0) l true) = some (.one (.str (ofBytes [])), rHp (some 0) [] true) := by
  have e33 := f33b l most
  have e40 := f40b [] 0
  simp only [rHp] at e33 e40 ⊢
  simp -implicitDefEqProofs [F37, c37, upd, e33, e40]
def tAns (l : List Int) (most : Int) : List Int × List Int × Bool := if (iAns l most).2.2 = true then ([], [], true) else rAns (iAns l most).2.1 (iAns l most).1
theorem f37 (l : List Int) (most : Int) (hm : most ≤ 9223372036854775807) (hB : isB l) (hl : l.length ≤ 90000) : F37 [.one (.ptr 0 0), .one (.int .i64 most)] (rHp (some 0) l false) = some (.one (.str (ofBytes (tAns l most).1)), rHp (some 0) (tAns l most).2.1 (tAns l most).2.2) := by
  have e33 := f33 l most hm hB hl
  have hg := (gAns_ok l hB).2.2
  have hi : (iAns l most).2.1.length ≤ 90000 := by
    unfold iAns
    split
    · simp
    · omega
  unfold tAns
  generalize hq : iAns l most = q at *
  obtain ⟨v, r, bad⟩ := q
  simp only at e33 hi ⊢
  cases bad with
  | true =>
    have e40 := f40b r v
    rw [if_pos rfl]
    simp only [rHp] at e33 e40 ⊢
    simp -implicitDefEqProofs [F37, c37, upd, e33, e40]
  | false =>
    have e40 := f40' r v hi
    rw [if_neg (by simp)]
    generalize rAns r v = t at *
    obtain ⟨x, y, z⟩ := t
    simp only [rHp] at e33 e40 ⊢
    simp -implicitDefEqProofs [F37, c37, upd, e33, e40]
theorem f12 (l : List Int) (bad : Bool) (hl : l.length ≤ 90000) : F12 [.one (.ptr 0 0)] (rHp (some 0) l bad) = some (.one (.str (ofBytes (if bad = true then [] else l))), rHp (some 0) (if bad = true then l else []) bad) := by
  have e34 := f34 l bad
  cases bad with
  | true =>
    simp only [rHp, if_true] at e34 ⊢
    simp -implicitDefEqProofs [F12, c12, upd, e34, ofBytes_nil]
  | false =>
    have e40 := f40 l l.length l.length (by rw [if_neg (by omega), Int.toNat_natCast]) (Nat.le_refl _) (by omega)
    simp only [List.take_length, List.drop_length] at e40
    simp only [rHp] at e34 e40 ⊢
    simp -implicitDefEqProofs [F12, c12, upd, e34, size_ofBytes, e40]
theorem grp_mono : ∀ (b a : Nat), a ≤ b → (grp a).length ≤ (grp b).length := by
  intro b
  induction b using Nat.strongRecOn with
  | ind b ih =>
  intro a hab
  by_cases ha : a < 128
  · rw [grp_lt ha]
    by_cases hb : b < 128
    · rw [grp_lt hb]; simp
    · rw [grp_ge hb]; simp
  · rw [grp_ge ha, grp_ge (by omega : ¬ b < 128), List.length_cons, List.length_cons]
    have := ih (b / 128) (by omega) (a / 128) (by omega)
    omega
theorem grp_pos (a : Nat) : 1 ≤ (grp a).length := by
  have := grp_mono a 0 (by omega)
  rw [grp_lt (by omega)] at this
  simpa using this
def sz (n : Int) : Nat := if n < 0 then 0 else if 8 < n then 8 else n.toNat
theorem sz_le (n : Int) : sz n ≤ 8 := by unfold sz; split; omega; split <;> omega
theorem f78 (n : Int) : F78 [.one (.int .i64 n)] [] = some (.one (.int .i64 (sz n)), []) := by
  unfold sz
  by_cases h : n < 0
  · simp -implicitDefEqProofs [F78, c78, upd, h]
  · by_cases h8 : 8 < n
    · simp -implicitDefEqProofs [F78, c78, upd, h, h8]
    · have e : ((n.toNat : Nat) : Int) = n := by omega
      simp -implicitDefEqProofs [F78, c78, upd, h, h8, e]
def fixB : Nat → Nat → List Int
  | _, 0 => []
  | v, n + 1 => ((v % 256 : Nat) : Int) :: fixB (v / 256) n
def canon67 (v0 n0 v m i : Int) (bs : List Int) : St := ⟨[(0, .one (.ptr 0 0)), (1, .one (.int .u64 v)), (10, .one (.int .i64 m)), (11, .one (.int .i64 i))], [.ptr 0 0, .int .u64 v0, .int .i64 n0], wHp (some 0) bs⟩
theorem body67 (v0 n0 v m i b v' i' : Int) (bs : List Int) (hi : i < m) (eb : IntKind.u8.wrap v = b) (es : shrI .u64 v 8 = v') (ei : IntKind.i64.wrap (i + 1) = i') (hm : bs.length + 1 ≤ 140737488355328) :
    ∃ st1, evC T67 KK b67x0 (canon67 v0 n0 v m i bs) = some (.norm, st1) ∧ St.head [0, 1, 10, 11] st1 = canon67 v0 n0 v' m i' (bs ++ [b]) := by
  simp -implicitDefEqProofs [b67x0, canon67, wHp, upd, hi, eb, es, ei, hm, RC.len, RC.size, RC.app, RC.ofElems]
theorem end67 (v0 n0 v m i : Int) (bs : List Int) (hi : ¬ i < m) :
    ∃ env, evC T67 KK b67x0 (canon67 v0 n0 v m i bs) = some (.exit 0, ⟨env, [.ptr 0 0, .int .u64 v0, .int .i64 n0], wHp (some 0) bs⟩) ∧ getT 0 env = .one (.ptr 0 0) := by
  simp -implicitDefEqProofs [b67x0, canon67, upd, hi]
theorem loop67 (v0 n0 : Int) (m : Nat) (hm : m ≤ 8) : ∀ (j i v : Nat) (bs : List Int) (K : Nat), i + j = m → v < 2 ^ 64 → bs.length + j ≤ 100000 → j < K →
    ∃ env, loopH (evC T67 KK b67x0) [0, 1, 10, 11] K (canon67 v0 n0 v m i bs) = some (.exit 0, ⟨env, [.ptr 0 0, .int .u64 v0, .int .i64 n0], wHp (some 0) (bs ++ fixB v j)⟩) ∧ getT 0 env = .one (.ptr 0 0)
  | 0, i, v, bs, K, hi, hv, hl, hK => by
    obtain ⟨env, e, g⟩ := end67 v0 n0 v m i bs (by omega)
    exact ⟨env, by rw [loopH_exit e]; simp [fixB], g⟩
  | j + 1, i, v, bs, K, hi, hv, hl, hK => by
    obtain ⟨st1, e1, e2⟩ := body67 v0 n0 v m i (v % 256 : Nat) (v / 256 : Nat) (i + 1 : Nat) bs (by omega) (by rw [IntKind.wrap_u8]; omega) (shr_in (n := 8) (by simp only [IntKind.bits]; omega)) (by rw [i64_in _ (by omega)]; omega) (by omega)
    obtain ⟨env, e, g⟩ := loop67 v0 n0 m hm j (i + 1) (v / 256) (bs ++ [((v % 256 : Nat) : Int)]) (K - 1) (by omega) (by omega) (by rw [List.length_append, List.length_cons, List.length_nil]; omega) (by omega)
    exact ⟨env, by rw [loopH_norm e1 (by omega), e2, e]; simp [fixB], g⟩
theorem f67 (v : Nat) (n : Int) (bs : List Int) (hv : v < 2 ^ 64) (hl : bs.length ≤ 90000) : F67 [.one (.ptr 0 0), .one (.int .u64 v), .one (.int .i64 n)] (wHp (some 0) bs) = some (.one (.ptr 0 0), wHp (some 0) (bs ++ fixB v (sz n))) := by
  have h8 := sz_le n
  have e78 := f78 n
  obtain ⟨env, e, g⟩ := loop67 v n (sz n) h8 (sz n) 0 v bs KK (by omega) hv (by omega) (by rw [KK_eq]; omega)
  have z : ((0 : Nat) : Int) = 0 := rfl
  simp only [canon67, wHp, z] at e
  simp -implicitDefEqProofs [F67, c67, upd, wHp, e78, e, g]
def canon48 (v0 v : Int) (l : List Int) : St := ⟨[(0, .one (.int .u64 v)), (3, .one (.str (ofBytes l)))], [.int .u64 v0], []⟩
theorem body48 (v0 v r s b v' : Int) (l : List Int) (hv : 128 ≤ v) (er : v.tmod 128 = r) (es : IntKind.u64.wrap (r + 128) = s) (eb : IntKind.u8.wrap s = b) (ev : IntKind.u64.wrap (v.tdiv 128) = v') (hm : l.length + 1 ≤ 9223372036854775807) :
    ∃ st1, evC T48 KK b48x0 (canon48 v0 v l) = some (.norm, st1) ∧ St.head [0, 3] st1 = canon48 v0 v' (l ++ [b]) := by
  have e1 := ofBytes_append l [b]
  have e2 := size_ofBytes [b]
  have e3 := size_ofBytes l
  simp -implicitDefEqProofs [b48x0, canon48, upd, hv, er, es, eb, ev, hm, e1, e2, e3, RC.len, RC.size, RC.app, RC.ofElems]
theorem end48 (v0 v : Int) (l : List Int) (hv : ¬ 128 ≤ v) :
    ∃ env, evC T48 KK b48x0 (canon48 v0 v l) = some (.exit 0, ⟨env, [.int .u64 v0], []⟩) ∧ getT 0 env = .one (.int .u64 v) ∧ getT 3 env = .one (.str (ofBytes l)) := by
  simp -implicitDefEqProofs [b48x0, canon48, upd, hv]
theorem loop48 (v0 : Int) (v : Nat) : ∀ (l : List Int) (K : Nat), v < 2 ^ 64 → l.length ≤ 90000 → (grp v).length < K → (grp v).length + l.length ≤ 90000 →
    ∃ env l' u, loopH (evC T48 KK b48x0) [0, 3] K (canon48 v0 v l) = some (.exit 0, ⟨env, [.int .u64 v0], []⟩) ∧ getT 0 env = .one (.int .u64 (u : Nat)) ∧ getT 3 env = .one (.str (ofBytes l')) ∧ u < 128 ∧ l' ++ [(u : Int)] = l ++ grp v := by
  induction v using Nat.strongRecOn with
  | ind v ih =>
  intro l K hv hl hK hl2
  by_cases h : v < 128
  · obtain ⟨env, e, g0, g3⟩ := end48 v0 v l (by omega)
    exact ⟨env, l, v, loopH_exit e, g0, g3, h, by rw [grp_lt h]⟩
  · rw [grp_ge h] at hK hl2 ⊢
    simp only [List.length_cons] at hK hl2
    obtain ⟨st1, e1, e2⟩ := body48 v0 v (v % 128 : Nat) (v % 128 + 128 : Nat) (v % 128 + 128 : Nat) (v / 128 : Nat) l (by omega) (by rw [Int.tmod_eq_emod_of_nonneg (by omega)]; omega) (by rw [u64_in _ (by omega)]; omega) (u8_in _ (by omega)) (by rw [Int.tdiv_eq_ediv_of_nonneg (by omega), u64_in _ (by omega)]; omega) (by omega)
    obtain ⟨env, l', u, e, g0, g3, hu, hb⟩ := ih (v / 128) (by omega) (l ++ [((v % 128 + 128 : Nat) : Int)]) (K - 1) (by omega) (by rw [List.length_append, List.length_cons, List.length_nil]; omega) (by omega) (by rw [List.length_append, List.length_cons, List.length_nil]; omega)
    exact ⟨env, l', u, by rw [loopH_norm e1 (by omega), e2]; exact e, g0, g3, hu, by rw [hb]; simp⟩
theorem f48 (v : Nat) (hv : v < 2 ^ 64) : F48 [.one (.int .u64 v)] [] = some (.one (.str (ofBytes (grp v))), []) := by
  have h10 := grp_ten hv
  obtain ⟨env, l, u, e, g0, g3, hu, hb⟩ := loop48 v v [] KK hv (by simp) (by rw [KK_eq]; omega) (by simp only [List.length_nil]; omega)
  rw [List.nil_append] at hb
  have hl := congrArg List.length hb
  simp only [List.length_append, List.length_cons, List.length_nil] at hl
  have w : IntKind.u8.wrap (u : Int) = u := u8_in _ (by omega)
  have e1 := ofBytes_append l [(u : Int)]
  have e2 := size_ofBytes [(u : Int)]
  have e3 := size_ofBytes l
  have hm : l.length + 1 ≤ 9223372036854775807 := by omega
  simp only [canon48, ofBytes_nil] at e
  rw [← hb]
  clear hb hl
  simp -implicitDefEqProofs [F48, c48, upd, e, g0, g3, w, e1, e2, e3, hm, RC.ofElems]
def canon54 (n0 : Int) (hp : List Ob) (l : List Int) (v i : Int) : St := ⟨[(5, .one (.int .u64 v)), (12, .one (.row 1)), (13, .one (.int .i64 l.length)), (14, .one (.int .i64 i))], [.ptr 0 0, .int .i64 n0], hp ++ [.rows none (.ints .u8 l)]⟩
theorem body54 (n0 v s p v' i' b : Int) (x : ByteArray) (bad : Bool) (l : List Int) (i : Nat) (hi : i < l.length) (hb : l[i]?.getD 0 = b) (ec : IntKind.u64.wrap b = b) (es : IntKind.i64.wrap (8 * (i : Int)) = s) (hs : ¬ s < 0) (ep : shlI .u64 b s = p) (ev : bitsI .or .u64 v p = v') (ei : IntKind.i64.wrap ((i : Int) + 1) = i') :
    ∃ st1, evC T54 KK b54x0 (canon54 n0 [.cells (some 0) [.str x, .bool bad]] l v i) = some (.norm, st1) ∧ St.head [5, 12, 13, 14] st1 = canon54 n0 [.cells (some 0) [.str x, .bool bad]] l v' i' := by
  have hb' : l[i] = b := by rw [List.getElem?_eq_getElem hi] at hb; exact hb
  have hi2 : (i : Int) < l.length := by omega
  simp -implicitDefEqProofs [b54x0, canon54, upd, hi, hi2, hb, hb', ec, es, hs, ep, ev, ei, RC.len, RC.size, RC.get]
theorem end54 (n0 v i : Int) (x : ByteArray) (bad : Bool) (l : List Int) (hi : ¬ i < l.length) :
    ∃ env, evC T54 KK b54x0 (canon54 n0 [.cells (some 0) [.str x, .bool bad]] l v i) = some (.exit 0, ⟨env, [.ptr 0 0, .int .i64 n0], [.cells (some 0) [.str x, .bool bad], .rows none (.ints .u8 l)]⟩) ∧ getT 5 env = .one (.int .u64 v) := by
  simp -implicitDefEqProofs [b54x0, canon54, upd, hi]
theorem leB_take {l : List Int} {i : Nat} (h : i < l.length) : leB (l.take (i + 1)) = leB (l.take i) + l[i].toNat * 2 ^ (8 * i) := by
  rw [← List.take_append_getElem h, leB_append, List.length_take, Nat.min_eq_left (by omega)]
  simp [leB, Nat.mul_comm]
theorem loop54 (n0 : Int) (x : ByteArray) (bad : Bool) (l : List Int) (hB : isB l) (hl : l.length ≤ 8) : ∀ (j i K : Nat), i + j = l.length → j < K →
    ∃ env, loopH (evC T54 KK b54x0) [5, 12, 13, 14] K (canon54 n0 [.cells (some 0) [.str x, .bool bad]] l (leB (l.take i) : Nat) i) = some (.exit 0, ⟨env, [.ptr 0 0, .int .i64 n0], [.cells (some 0) [.str x, .bool bad], .rows none (.ints .u8 l)]⟩) ∧ getT 5 env = .one (.int .u64 (leB l : Nat))
  | 0, i, K, hi, hK => by
    obtain rfl : i = l.length := by omega
    obtain ⟨env, e, g⟩ := end54 n0 (leB (l.take l.length) : Nat) (l.length : Nat) x bad l (by omega)
    rw [List.take_length] at *
    exact ⟨env, loopH_exit e, g⟩
  | j + 1, i, K, hi, hK => by
    have hlt : i < l.length := by omega
    have hb := hB l[i] (List.getElem_mem hlt)
    have hg : l[i]?.getD 0 = l[i] := by rw [List.getElem?_eq_getElem hlt]; rfl
    obtain ⟨β, hβ⟩ : ∃ β : Nat, l[i] = β := ⟨l[i].toNat, by omega⟩
    rw [hβ] at hg hb
    have hv := leB_lt (isB_take i hB)
    rw [List.length_take, Nat.min_eq_left (by omega)] at hv
    have hstep := leB_take hlt
    rw [hβ, Int.toNat_natCast] at hstep
    have hfit : leB (l.take (i + 1)) < 2 ^ 64 := by
      have h1 := leB_lt (isB_take (i + 1) hB)
      rw [List.length_take, Nat.min_eq_left (by omega)] at h1
      exact Nat.lt_of_lt_of_le h1 (Nat.pow_le_pow_right (by omega) (by omega))
    rw [hstep] at hfit
    have ep : shlI .u64 (β : Int) ((8 * i : Nat) : Int) = ((β * 2 ^ (8 * i) : Nat) : Int) := shl_in rfl (by simp only [IntKind.bits]; omega) (by simp only [IntKind.bits]; omega)
    have ev : bitsI .or .u64 ((leB (l.take i) : Nat) : Int) ((β * 2 ^ (8 * i) : Nat) : Int) = ((leB (l.take i) + β * 2 ^ (8 * i) : Nat) : Int) := or_add rfl hv (by simp only [IntKind.bits]; exact hfit)
    rw [← hstep] at ev
    obtain ⟨st1, e1, e2⟩ := body54 n0 (leB (l.take i) : Nat) (8 * i : Nat) _ _ (i + 1 : Nat) β x bad l i hlt hg (u64_in _ (by omega)) (by rw [i64_in _ (by omega)]; omega) (by omega) ep ev (by rw [i64_in _ (by omega)]; omega)
    obtain ⟨env, e, g⟩ := loop54 n0 x bad l hB hl j (i + 1) (K - 1) (by omega) (by omega)
    exact ⟨env, by rw [loopH_norm e1 (by omega), e2]; exact e, g⟩
theorem f54x (n : Int) (l y r : List Int) (bad bad' : Bool) (hB : isB y) (hy : y.length ≤ 8)
    (e40 : F40 [.one (.ptr 0 0), .one (.int .i64 (sz n))] (rHp (some 0) l bad) = some (.one (.str (ofBytes y)), rHp (some 0) r bad')) :
    F54 [.one (.ptr 0 0), .one (.int .i64 n)] (rHp (some 0) l bad) = some (.one (.int .u64 (leB y : Nat)), rHp (some 0) r bad') := by
  have e78 := f78 n
  obtain ⟨env, e, g⟩ := loop54 n (ofBytes r) bad' y hB hy y.length 0 KK (by omega) (by rw [KK_eq]; omega)
  have z : ((0 : Nat) : Int) = 0 := rfl
  have ht := toBytes_ofBytes hB
  have hsz : (ofBytes y).size ≤ 140737488355328 := by rw [size_ofBytes]; omega
  simp only [canon54, leB, List.take_zero, z, List.cons_append, List.nil_append] at e
  simp only [rHp] at e40 ⊢
  simp -implicitDefEqProofs [F54, c54, upd, e78, e40, ht, hsz, e, g, RC.len]
theorem f54 (l : List Int) (n : Int) (hB : isB l) (hl : l.length ≤ 90000) : F54 [.one (.ptr 0 0), .one (.int .i64 n)] (rHp (some 0) l false) = some (.one (.int .u64 (leB (rAns l (sz n)).1 : Nat)), rHp (some 0) (rAns l (sz n)).2.1 (rAns l (sz n)).2.2) := by
  have h8 := sz_le n
  refine f54x n l _ _ _ _ ?_ ?_ (f40' l (sz n) hl)
  · unfold rAns; split
    · simp [isB]
    · exact isB_take _ hB
  · unfold rAns; split
    · simp
    · rw [List.length_take]; omega
def itemB : List Sc → List Int
  | [.int _ kd, .int _ v, .int _ n, .str s] => if kd.tmod 4 = 0 then fixB v.toNat (sz n) else if kd.tmod 4 = 1 then grp v.toNat else if kd.tmod 4 = 2 then toBytes s else grp s.size ++ toBytes s
  | _ => []
def itemsB : List (List Sc) → List Int
  | [] => []
  | z :: L => itemB z ++ itemsB L
theorem gdec_inv : ∀ (l : List Int) (i v u : Nat) (r : List Int), isB l → i ≤ 9 → gdec i v l = some (u, r) → ∃ a, l = grp a ++ r ∧ u = v + a * 2 ^ (7 * i) ∧ (i = 0 ∨ 0 < a)
  | [], _, _, _, _, _, _, h => by simp [gdec] at h
  | b :: l, i, v, u, r, hB, hi, h => by
    have hb := hB b (by simp)
    simp only [gdec] at h
    by_cases hbad : i = 9 ∧ 1 < b ∨ 0 < i ∧ b = 0
    · rw [if_pos hbad] at h; cases h
    · rw [if_neg hbad] at h
      by_cases hlt : b < 128
      · rw [if_pos hlt] at h
        simp only [Option.some.injEq, Prod.mk.injEq] at h
        refine ⟨b.toNat, ?_, ?_, by omega⟩
        · rw [grp_lt (by omega), ← h.2]
          have : ((b.toNat : Nat) : Int) = b := by omega
          rw [this]; rfl
        · rw [← h.1, Nat.mod_eq_of_lt (by omega)]
      · rw [if_neg hlt] at h
        obtain ⟨a, hl, hu, ha⟩ := gdec_inv l (i + 1) _ u r hB.tail (by omega) h
        have ha' : 0 < a := by omega
        refine ⟨b.toNat % 128 + 128 * a, ?_, ?_, .inr (by omega)⟩
        · rw [grp_ge (by omega), hl]
          have e1 : (b.toNat % 128 + 128 * a) / 128 = a := by omega
          have e2 : (((b.toNat % 128 + 128 * a) % 128 + 128 : Nat) : Int) = b := by omega
          rw [e1, e2]; rfl
        · have hp : 2 ^ (7 * (i + 1)) = 128 * 2 ^ (7 * i) := by rw [Nat.mul_add, Nat.pow_add]; omega
          rw [hu, hp, Nat.add_mul, Nat.mul_comm 128 a, Nat.mul_assoc, Nat.add_assoc]
def lead : List Int → Nat
  | [] => 0
  | b :: l => if 128 ≤ b then lead l + 1 else 0
theorem lead_le : ∀ l : List Int, lead l ≤ l.length
  | [] => Nat.le_refl _
  | b :: l => by
    have := lead_le l
    simp only [lead, List.length_cons]; split <;> omega
theorem lead_ge : ∀ (l : List Int) (i : Nat), i < lead l → ∃ b, l[i]? = some b ∧ 128 ≤ b
  | [], i, h => by simp [lead] at h
  | b :: l, i, h => by
    simp only [lead] at h
    split at h
    · rename_i hb
      cases i with
      | zero => exact ⟨b, rfl, hb⟩
      | succ i => simpa using lead_ge l i (by omega)
    · omega
theorem lead_at : ∀ l : List Int, lead l < l.length → ∃ b, l[lead l]? = some b ∧ b < 128
  | [], h => by simp at h
  | b :: l, h => by
    simp only [lead] at h ⊢
    split
    · rename_i hb
      rw [if_pos hb] at h
      simpa using lead_at l (by simpa using h)
    · exact ⟨b, rfl, by omega⟩
theorem lead_grp (l : List Int) (a : Nat) : lead (grp a ++ l) + 1 = (grp a).length := by
  induction a using Nat.strongRecOn with
  | ind a ih =>
  by_cases h : a < 128
  · rw [grp_lt h]
    simp only [List.cons_append, List.nil_append, lead]
    rw [if_neg (by omega)]; rfl
  · rw [grp_ge h]
    simp only [List.cons_append, lead, List.length_cons]
    rw [if_pos (by omega), ih (a / 128) (by omega)]
theorem grp_at (a : Nat) : ∀ (i : Nat) (b : Int), (grp a)[i]? = some b → b.toNat % 128 = a / 128 ^ i % 128 ∧ a / 128 ^ (grp a).length = 0 := by
  induction a using Nat.strongRecOn with
  | ind a ih =>
  intro i b hb
  by_cases h : a < 128
  · rw [grp_lt h] at hb ⊢
    cases i with
    | zero =>
      simp only [List.getElem?_cons_zero, Option.some.injEq] at hb
      subst hb
      simp only [List.length_cons, List.length_nil]
      omega
    | succ i => simp at hb
  · rw [grp_ge h] at hb ⊢
    have hlast : ∃ b', (grp (a / 128))[0]? = some b' := by
      have := grp_pos (a / 128)
      exact ⟨_, List.getElem?_eq_getElem (by omega)⟩
    obtain ⟨b', hb'⟩ := hlast
    have h0 := (ih (a / 128) (by omega) 0 b' hb').2
    have hlen : a / 128 ^ ((grp (a / 128)).length + 1) = 0 := by
      rw [Nat.pow_succ, Nat.mul_comm, ← Nat.div_div_eq_div_mul]
      exact h0
    cases i with
    | zero =>
      simp only [List.getElem?_cons_zero, Option.some.injEq] at hb
      subst hb
      exact ⟨by simp only [Nat.pow_zero, Nat.div_one]; omega, hlen⟩
    | succ i =>
      simp only [List.getElem?_cons_succ] at hb
      have := (ih (a / 128) (by omega) i b hb).1
      refine ⟨?_, hlen⟩
      rw [this, Nat.pow_succ, Nat.mul_comm, Nat.div_div_eq_div_mul]
def canon23a (l : List Int) (n : Int) : St := ⟨[(0, .one (.str (ofBytes l))), (4, .one (.int .i64 n))], [.str (ofBytes l)], []⟩
theorem body23a (l : List Int) (n : Nat) (b : Int) (hl : l.length ≤ 90000) (ht : toBytes (ofBytes l) = l) (hn : n < l.length) (hb : l[n]?.getD 0 = b) (hge : 128 ≤ b) :
    ∃ st1, evC T23 KK b23x0 (canon23a l n) = some (.norm, st1) ∧ St.head [0, 4] st1 = canon23a l (n + 1 : Nat) := by
  have hb' : l[n] = b := by rw [List.getElem?_eq_getElem hn] at hb; exact hb
  have hn2 : (n : Int) < l.length := by omega
  have w : IntKind.i64.wrap ((n : Int) + 1) = (n : Int) + 1 := i64_in _ (by omega)
  have e3 := size_ofBytes l
  simp -implicitDefEqProofs [b23x0, canon23a, upd, ht, hn, hn2, hb, hb', hge, w, e3]
theorem end23a (l : List Int) (n : Nat) (b : Int) (ht : toBytes (ofBytes l) = l) (h : l.length ≤ n ∨ n < l.length ∧ l[n]?.getD 0 = b ∧ b < 128) :
    ∃ env, evC T23 KK b23x0 (canon23a l n) = some (.exit 0, ⟨env, [.str (ofBytes l)], []⟩) ∧ getT 0 env = .one (.str (ofBytes l)) ∧ getT 4 env = .one (.int .i64 n) := by
  have e3 := size_ofBytes l
  rcases h with h | ⟨hn, hb, hlt⟩
  · have hn2 : ¬ (n : Int) < l.length := by omega
    simp -implicitDefEqProofs [b23x0, canon23a, upd, hn2, e3]
  · have hb' : l[n] = b := by rw [List.getElem?_eq_getElem hn] at hb; exact hb
    have hn2 : (n : Int) < l.length := by omega
    have hge : ¬ 128 ≤ b := by omega
    simp -implicitDefEqProofs [b23x0, canon23a, upd, ht, hn, hn2, hb, hb', hge, e3]
theorem loop23a (l : List Int) (hB : isB l) (hl : l.length ≤ 90000) : ∀ (j n K : Nat), n + j = lead l → j < K →
    ∃ env, loopH (evC T23 KK b23x0) [0, 4] K (canon23a l n) = some (.exit 0, ⟨env, [.str (ofBytes l)], []⟩) ∧ getT 0 env = .one (.str (ofBytes l)) ∧ getT 4 env = .one (.int .i64 (lead l : Nat))
  | 0, n, K, hn, hK => by
    obtain rfl : n = lead l := by omega
    have hle := lead_le l
    by_cases hlt : lead l < l.length
    · obtain ⟨b, hb, hb2⟩ := lead_at l hlt
      obtain ⟨env, e, g⟩ := end23a l (lead l) b (toBytes_ofBytes hB) (.inr ⟨hlt, by rw [hb]; rfl, hb2⟩)
      exact ⟨env, loopH_exit e, g⟩
    · obtain ⟨env, e, g⟩ := end23a l (lead l) 0 (toBytes_ofBytes hB) (.inl (by omega))
      exact ⟨env, loopH_exit e, g⟩
  | j + 1, n, K, hn, hK => by
    have hle := lead_le l
    obtain ⟨b, hb, hb2⟩ := lead_ge l n (by omega)
    obtain ⟨st1, e1, e2⟩ := body23a l n b hl (toBytes_ofBytes hB) (by omega) (by rw [hb]; rfl) hb2
    obtain ⟨env, e, g⟩ := loop23a l hB hl j (n + 1) (K - 1) (by omega) (by omega)
    exact ⟨env, by rw [loopH_norm e1 (by omega), e2]; exact e, g⟩
def canon23b (l : List Int) (n v i : Int) : St := ⟨[(0, .one (.str (ofBytes l))), (4, .one (.int .i64 n)), (5, .one (.int .u64 v)), (6, .one (.int .i64 i))], [.str (ofBytes l)], []⟩
theorem body23b (l : List Int) (n v v' i' b r p : Int) (i : Nat) (ht : toBytes (ofBytes l) = l) (hi : i < l.length) (hb : l[i]?.getD 0 = b) (hv : ¬ 144115188075855871 < v) (em : IntKind.u64.wrap (v * 128) = p) (er : b.tmod 128 = r) (ew : IntKind.u64.wrap r = r) (ev : IntKind.u64.wrap (p + r) = v') (ei : IntKind.i64.wrap ((i : Int) - 1) = i') :
    ∃ st1, evC T23 KK b23x1 (canon23b l n v i) = some (.norm, st1) ∧ St.head [0, 4, 5, 6] st1 = canon23b l n v' i' := by
  have hb' : l[i] = b := by rw [List.getElem?_eq_getElem hi] at hb; exact hb
  have hi2 : (i : Int) < l.length := by omega
  have hi0 : (0 : Int) ≤ i := by omega
  have e3 := size_ofBytes l
  simp -implicitDefEqProofs [b23x1, canon23b, upd, ht, hi, hi2, hi0, hb, hb', hv, em, er, ew, ev, ei, e3]
theorem over40b (l : List Int) (n v : Int) (i : Nat) (hv : 144115188075855871 < v) :
    ∃ env, evC T23 KK b23x1 (canon23b l n v i) = some (.ret, ⟨env, [.str (ofBytes l)], []⟩) ∧ getT 2 env = .one (.int .u64 0) ∧ getT 3 env = .one (.int .i64 0) := by
  have hi0 : (0 : Int) ≤ i := by omega
  simp -implicitDefEqProofs [b23x1, canon23b, upd, hi0, hv]
theorem end23b (l : List Int) (n v i : Int) (hi : i < 0) :
    ∃ env, evC T23 KK b23x1 (canon23b l n v i) = some (.exit 2, ⟨env, [.str (ofBytes l)], []⟩) ∧ getT 0 env = .one (.str (ofBytes l)) ∧ getT 4 env = .one (.int .i64 n) ∧ getT 5 env = .one (.int .u64 v) := by
  have h : ¬ 0 ≤ i := by omega
  simp -implicitDefEqProofs [b23x1, canon23b, upd, h]
theorem loop23b (l : List Int) (n : Int) (hB : isB l) (hl : l.length ≤ 90000) : ∀ (j v K : Nat), j ≤ l.length → v < 2 ^ 64 → j < K →
    (∃ env u, loopH (evC T23 KK b23x1) [0, 4, 5, 6] K (canon23b l n v ((j : Int) - 1)) = some (.exit 2, ⟨env, [.str (ofBytes l)], []⟩) ∧ getT 0 env = .one (.str (ofBytes l)) ∧ getT 4 env = .one (.int .i64 n) ∧ getT 5 env = .one (.int .u64 (u : Nat)) ∧ u < 2 ^ 64 ∧ (∀ a, a / 128 ^ j = v → (∀ i b, i < j → l[i]? = some b → b.toNat % 128 = a / 128 ^ i % 128) → u = a)) ∨
    (∃ env, loopH (evC T23 KK b23x1) [0, 4, 5, 6] K (canon23b l n v ((j : Int) - 1)) = some (.ret, ⟨env, [.str (ofBytes l)], []⟩) ∧ getT 2 env = .one (.int .u64 0) ∧ getT 3 env = .one (.int .i64 0) ∧ (∀ a, a < 2 ^ 64 → a / 128 ^ j = v → ¬ (∀ i b, i < j → l[i]? = some b → b.toNat % 128 = a / 128 ^ i % 128)))
  | 0, v, K, hj, hv, hK => by
    obtain ⟨env, e, g0, g4, g5⟩ := end23b l n v (((0 : Nat) : Int) - 1) (by omega)
    refine .inl ⟨env, v, loopH_exit e, g0, g4, g5, hv, fun a ha _ => ?_⟩
    rw [← ha, Nat.pow_zero, Nat.div_one]
  | j + 1, v, K, hj, hv, hK => by
    have hc : ((j + 1 : Nat) : Int) - 1 = (j : Int) := by omega
    rw [hc]
    have hlt : j < l.length := by omega
    have hb := hB l[j] (List.getElem_mem hlt)
    have hg : l[j]?.getD 0 = l[j] := by rw [List.getElem?_eq_getElem hlt]; rfl
    have hsome : l[j]? = some l[j] := List.getElem?_eq_getElem hlt
    by_cases ho : 144115188075855871 < v
    · obtain ⟨env, e, g2, g3⟩ := over40b l n v j (by omega)
      refine .inr ⟨env, loopH_ret e, g2, g3, fun a ha hav _ => ?_⟩
      have h1 : a / 128 ^ (j + 1) ≤ a / 128 := Nat.div_le_div_left (by rw [Nat.pow_succ]; have := Nat.pow_le_pow_right (n := 128) (by omega) (Nat.zero_le j); omega) (by omega)
      omega
    · obtain ⟨st1, e1, e2⟩ := body23b l n v (v * 128 + l[j].toNat % 128 : Nat) ((j : Int) - 1) l[j] (l[j].toNat % 128 : Nat) (v * 128 : Nat) j (toBytes_ofBytes hB) hlt hg (by omega) (by rw [u64_in _ (by omega)]; omega) (by rw [Int.tmod_eq_emod_of_nonneg hb.1]; omega) (u64_in _ (by omega)) (by rw [u64_in _ (by omega)]; omega) (by rw [i64_in _ (by omega)])
      have hstep : ∀ a, a / 128 ^ (j + 1) = v → (∀ i b, i < j + 1 → l[i]? = some b → b.toNat % 128 = a / 128 ^ i % 128) → a / 128 ^ j = v * 128 + l[j].toNat % 128 := fun a ha hbs => by
        have h1 := hbs j l[j] (by omega) hsome
        rw [Nat.pow_succ, ← Nat.div_div_eq_div_mul] at ha
        omega
      rcases loop23b l n hB hl j (v * 128 + l[j].toNat % 128) (K - 1) (by omega) (by omega) (by omega) with ⟨env, u, e, g0, g4, g5, hu, hspec⟩ | ⟨env, e, g2, g3, hspec⟩
      · exact .inl ⟨env, u, by rw [loopH_norm e1 (by omega), e2]; exact e, g0, g4, g5, hu, fun a ha hbs => hspec a (hstep a ha hbs) fun i b hi hib => hbs i b (by omega) hib⟩
      · exact .inr ⟨env, by rw [loopH_norm e1 (by omega), e2]; exact e, g2, g3, fun a ha hav hbs => hspec a ha (hstep a hav hbs) fun i b hi hib => hbs i b (by omega) hib⟩
def tupF (v n : Int) : AV := .tup [.one (.int .u64 v), .one (.int .i64 n)]
theorem f40_some (l : List Int) (u : Nat) (r : List Int) (hB : isB l) (hl : l.length ≤ 80000) (h : l = grp u ++ r) (hu : u < 2 ^ 64) : F23 [.one (.str (ofBytes l))] [] = some (tupF u (grp u).length, []) := by
  have h10 := grp_ten hu
  have hpos := grp_pos u
  have hlead : lead l + 1 = (grp u).length := by rw [h]; exact lead_grp r u
  have hlen : l.length = (grp u).length + r.length := by rw [h, List.length_append]
  obtain ⟨env, e, g0, g4⟩ := loop23a l hB (by omega) (lead l) 0 KK (by omega) (by rw [KK_eq]; omega)
  have hbytes : ∀ i b, i < lead l + 1 → l[i]? = some b → b.toNat % 128 = u / 128 ^ i % 128 := fun i b hi hb => by
    rw [h, List.getElem?_append_left (by omega)] at hb
    exact (grp_at u i b hb).1
  have hzero : u / 128 ^ (lead l + 1) = 0 := by
    obtain ⟨b, hb⟩ : ∃ b, (grp u)[0]? = some b := ⟨_, List.getElem?_eq_getElem (by omega)⟩
    rw [hlead]
    exact (grp_at u 0 b hb).2
  rcases loop23b l (lead l : Nat) hB (by omega) (lead l + 1) 0 KK (by omega) (by omega) (by rw [KK_eq]; omega) with ⟨env2, u', e2, k0, k4, k5, hu', hspec⟩ | ⟨env2, e2, k2, k3, hspec⟩
  · have huu := hspec u hzero hbytes
    subst huu
    have e48 := f48 u' hu
    have z : ((0 : Nat) : Int) = 0 := rfl
    have hc : ((lead l + 1 : Nat) : Int) - 1 = (lead l : Int) := by omega
    have e3 := size_ofBytes l
    have n1 : ¬ ((lead l : Int) = (l.length : Int)) := by omega
    have n2 : ¬ ((9 : Int) < (lead l : Int)) := by omega
    have n2' : ¬ (9 < lead l) := by omega
    have n1' : ¬ (lead l = l.length) := by omega
    have w : IntKind.i64.wrap ((lead l : Int) + 1) = ((grp u').length : Int) := by rw [i64_in _ (by omega)]; omega
    have hle : ((grp u').length : Int) ≤ (l.length : Int) := by omega
    have hle' : (grp u').length ≤ l.length := by omega
    have ex := ofBytes_extract l 0 (grp u').length
    have htake : (l.drop 0).take ((grp u').length - 0) = grp u' := by rw [List.drop_zero, Nat.sub_zero, h, List.take_left' rfl]
    rw [htake] at ex
    rw [hc, z] at e2
    simp only [canon23a, z] at e
    simp only [canon23b] at e2
    generalize (lead l : Int) = q at *
    generalize grp u' = G at *
    simp -implicitDefEqProofs [F23, c23, upd, e, g0, g4, e3, n1, n1', n2, n2', e2, k0, k4, k5, e48, w, hle, hle', ex, tupF]
  · exact absurd hbytes (hspec u hu hzero)
theorem f40_none (l : List Int) (hB : isB l) (hl : l.length ≤ 80000) (h : ∀ u r, u < 2 ^ 64 → l ≠ grp u ++ r) : F23 [.one (.str (ofBytes l))] [] = some (tupF 0 0, []) := by
  obtain ⟨env, e, g0, g4⟩ := loop23a l hB (by omega) (lead l) 0 KK (by omega) (by have := lead_le l; rw [KK_eq]; omega)
  have hle := lead_le l
  have z : ((0 : Nat) : Int) = 0 := rfl
  have e3 := size_ofBytes l
  simp only [canon23a, z] at e
  by_cases n1 : lead l = l.length
  · have n1i : (lead l : Int) = (l.length : Int) := by omega
    rw [n1i] at g4
    simp -implicitDefEqProofs [F23, c23, upd, e, g0, g4, e3, tupF]
  · have n1i : ¬ ((lead l : Int) = (l.length : Int)) := by omega
    by_cases n2 : 9 < lead l
    · have n2i : (9 : Int) < (lead l : Int) := by omega
      simp -implicitDefEqProofs [F23, c23, upd, e, g0, g4, e3, n1, n1i, n2, n2i, tupF]
    · have n2i : ¬ ((9 : Int) < (lead l : Int)) := by omega
      have hc : ((lead l + 1 : Nat) : Int) - 1 = (lead l : Int) := by omega
      rcases loop23b l (lead l : Nat) hB (by omega) (lead l + 1) 0 KK (by omega) (by omega) (by rw [KK_eq]; omega) with ⟨env2, u, e2, k0, k4, k5, hu, _⟩ | ⟨env2, e2, k2, k3, _⟩
      · have e48 := f48 u hu
        have w : IntKind.i64.wrap ((lead l : Int) + 1) = ((lead l + 1 : Nat) : Int) := by rw [i64_in _ (by omega)]; omega
        have hle1 : ((lead l + 1 : Nat) : Int) ≤ (l.length : Int) := by omega
        have hle1' : lead l + 1 ≤ l.length := by omega
        have ex := ofBytes_extract l 0 (lead l + 1)
        rw [List.drop_zero, Nat.sub_zero] at ex
        have hne : ((ofBytes (grp u)).toList == (ofBytes (l.take (lead l + 1))).toList) = false := by
          rw [eqS (grp_isB u) (isB_take _ hB)]
          refine decide_eq_false fun c => h u (l.drop (lead l + 1)) hu ?_
          rw [c, List.take_append_drop]
        have hne2 : ¬ ((ofBytes (grp u)).toList = (ofBytes (l.take (lead l + 1))).toList) := fun c => by rw [c] at hne; simp at hne
        rw [hc, z] at e2
        simp only [canon23b] at e2
        generalize hq : lead l + 1 = q at *
        generalize (lead l : Int) = q0 at *
        simp -implicitDefEqProofs [F23, c23, upd, e, g0, g4, e3, n1, n1i, n2, n2i, e2, k0, k4, k5, e48, w, hle1, hle1', ex, hne, hne2, tupF]
      · rw [hc, z] at e2
        simp only [canon23b] at e2
        simp -implicitDefEqProofs [F23, c23, upd, e, g0, g4, e3, n1, n1i, n2, n2i, e2, k2, k3, tupF]
theorem loopUp {body : St → Option (Ex × St)} {live : List Nat} {canon : Nat → St} {n x : Nat} {fin : St} (hn : ∀ i, i < n → ∃ st1, body (canon i) = some (.norm, st1) ∧ St.head live st1 = canon (i + 1)) (he : body (canon n) = some (.exit x, fin)) (hK : n + 1 < KK) : loopH body live KK (canon 0) = some (.exit x, fin) := by
  have key : ∀ (m i K : Nat), i + m = n → m + 1 < K → loopH body live K (canon i) = some (.exit x, fin) := by
    intro m
    induction m with
    | zero => intro i K h1 h2; obtain rfl : i = n := by omega
              exact loopH_exit he
    | succ m ih =>
      intro i K h1 h2
      obtain ⟨st1, h3, h4⟩ := hn i (by omega)
      rw [loopH_norm h3 (by omega), h4]
      exact ih (i + 1) (K - 1) (by omega) (by omega)
  exact key n 0 KK (by omega) hK
theorem loopFirst {body : St → Option (Ex × St)} {live : List Nat} {canon : Nat → St} {n x : Nat} {fin : St} {rs : List (Nat × Option (Option Nat))} {R : Nat → Res} (p : Nat → Bool)
    (hn : ∀ i, i < n → p i = false → ∃ st1, body (canon i) = some (.norm, st1) ∧ St.head live st1 = canon (i + 1)) (hr : ∀ i, i < n → p i = true → ∃ st1, body (canon i) = some (.ret, st1) ∧ resC rs (some (.ret, st1)) = R i)
    (he : body (canon n) = some (.exit x, fin)) (hK : n + 1 < KK) :
    ((∀ i, i < n → p i = false) ∧ loopH body live KK (canon 0) = some (.exit x, fin)) ∨ ∃ i st1, i < n ∧ p i = true ∧ (∀ j, j < i → p j = false) ∧ loopH body live KK (canon 0) = some (.ret, st1) ∧ resC rs (some (.ret, st1)) = R i := by
  have key : ∀ (m i K : Nat), i + m = n → m + 1 < K → (∀ j, j < i → p j = false) → ((∀ i, i < n → p i = false) ∧ loopH body live K (canon i) = some (.exit x, fin)) ∨ ∃ k st1, k < n ∧ p k = true ∧ (∀ j, j < k → p j = false) ∧ loopH body live K (canon i) = some (.ret, st1) ∧ resC rs (some (.ret, st1)) = R k := by
    intro m
    induction m with
    | zero =>
      intro i K h1 h2 hp
      obtain rfl : i = n := by omega
      exact .inl ⟨hp, loopH_exit he⟩
    | succ m ih =>
      intro i K h1 h2 hp
      cases hpi : p i with
      | true =>
        obtain ⟨st1, h3, h4⟩ := hr i (by omega) hpi
        exact .inr ⟨i, st1, by omega, hpi, hp, loopH_ret h3, h4⟩
      | false =>
        obtain ⟨st1, h3, h4⟩ := hn i (by omega) hpi
        rw [loopH_norm h3 (by omega), h4]
        refine ih (i + 1) (K - 1) (by omega) (by omega) fun j hj => ?_
        by_cases e : j = i
        · rw [e]; exact hpi
        · exact hp j (by omega)
  exact key n 0 KK (by omega) hK (fun j hj => by omega)
theorem f102 (n : Nat) (hn : n ≤ 1000) : F102 [.one (.int .u64 1), .one (.int .u64 n)] [] = some (.tup [.one (.int .u64 0), .one (.int .u64 n)], []) := by
  have a0 : bitsI .and .u64 1 4294967295 = 1 := by decide
  have a1 : bitsI .and .u64 (n : Int) 4294967295 = n := by
    have : ∀ m : Fin 1001, bitsI .and .u64 (m.val : Int) 4294967295 = m.val := by decide +kernel
    exact this ⟨n, by omega⟩
  have a2 : shrI .u64 1 32 = 0 := by decide
  have a3 : shrI .u64 (n : Int) 32 = 0 := by
    rw [shrI_eq]
    have : Nat.min (32 : Int).toNat IntKind.u64.bits = 32 := by decide
    rw [this]; omega
  have w1 : IntKind.u64.wrap (n : Int) = n := u64_in _ (by omega)
  have w0 : IntKind.u64.wrap 0 = 0 := by decide
  have a4 : shrI .u64 0 32 = 0 := by decide
  have a5 : bitsI .and .u64 0 4294967295 = 0 := by decide
  simp -implicitDefEqProofs [F102, c102, upd, a0, a1, a2, a3, a4, a5, w1, w0]
theorem f79 (n : Nat) (hn : n ≤ 1000) : F79 [.one (.int .u64 1), .one (.int .u64 n)] [] = some (.tup [.one (.int .u64 0), .one (.int .u64 n)], []) := by
  have e := f102 n hn
  simp -implicitDefEqProofs [F79, c79, upd, e]
def rep (c : Int) (n k : Nat) : List Int := List.replicate k c ++ List.replicate (n - k) 0
def canon55 (t : Nat) (c : Int) (n k : Nat) : St := ⟨[(7, .one (.row 0)), (8, .one (.int .i64 k))], [.ro t (.ints .u8 [c]), .int .i64 n], [.rows none (.ints .u8 (rep c n k))]⟩
theorem rep_len (c : Int) {n k : Nat} (h : k ≤ n) : (rep c n k).length = n := by simp [rep]; omega
theorem rep_blit (c : Int) {n k m : Nat} (h : k ≤ n) (hm : m = Nat.min k (n - k)) : RC.blit (.ints .u8 (rep c n k)) k ((RC.cut (.ints .u8 (rep c n k)) 0 k).cut 0 m) = some (.ints .u8 (rep c n (k + m))) := by
  have hmk : m ≤ k := by rw [hm]; exact Nat.min_le_left _ _
  have hmn : m ≤ n - k := by rw [hm]; exact Nat.min_le_right _ _
  have e1 : ((((rep c n k).drop 0).take k).drop 0).take m = List.replicate m c := by
    simp only [List.drop_zero, rep]
    rw [List.take_take, List.take_append_of_le_length (by simp; omega), List.take_replicate]
    congr 1; omega
  simp only [RC.cut, RC.blit, e1]
  have hl := rep_len c h
  rw [if_pos ⟨trivial, by rw [hl]; simp; omega⟩]
  congr 2
  simp only [rep, List.length_replicate]
  rw [List.take_left' (by simp), List.drop_append, List.drop_replicate, List.drop_replicate]
  simp only [List.length_replicate]
  rw [show k - (k + m) = 0 by omega, List.replicate_zero, List.nil_append, ← List.append_assoc, List.replicate_append_replicate]
  congr 2; omega
theorem body55 (t : Nat) (c : Int) (n k : Nat) (hk : 0 < k) (hkn : k < n) (hn : n ≤ 1000) : ∃ st1, evC T55 KK b55x0 (canon55 t c n k) = some (.norm, st1) ∧ St.head [7, 8] st1 = canon55 t c n (k + Nat.min k (n - k)) := by
  have hii : (k : Int) < n := by omega
  have hl := rep_len c (Nat.le_of_lt hkn)
  have hb := rep_blit c (Nat.le_of_lt hkn) (rfl : Nat.min k (n - k) = Nat.min k (n - k))
  have hc : (RC.cut (.ints .u8 (rep c n k)) 0 k).len = k := by simp [RC.cut, RC.len, hl]; omega
  have hmn : Nat.min k (n - k) ≤ n := Nat.le_trans (Nat.min_le_left _ _) (by omega)
  generalize hm : Nat.min k (n - k) = m at *
  have w : IntKind.i64.wrap ((k : Int) + m) = (k : Int) + m := i64_in _ (by omega)
  have hle : k ≤ n := by omega
  simp only [RC.cut, List.drop_zero] at hb
  simp -implicitDefEqProofs [b55x0, canon55, upd, hii, hl, hb, hc, hm, w, RC.len, RC.size, hle]
theorem end55 (t : Nat) (c : Int) (n : Nat) : ∃ env, evC T55 KK b55x0 (canon55 t c n n) = some (.exit 0, ⟨env, [.ro t (.ints .u8 [c]), .int .i64 n], [.rows none (.ints .u8 (rep c n n))]⟩) ∧ getT 7 env = .one (.row 0) := by
  have hl := rep_len c (Nat.le_refl n)
  refine ⟨?w, ?a, ?b⟩
  case a =>
    simp -implicitDefEqProofs [b55x0, canon55, upd, RC.len, RC.size, hl]
    rfl
  case b => simp
theorem loop55 (t : Nat) (c : Int) (n : Nat) (hn : n ≤ 1000) : ∀ (j k K : Nat), k + j = n → 0 < k → j + 1 < K → ∃ env, loopH (evC T55 KK b55x0) [7, 8] K (canon55 t c n k) = some (.exit 0, ⟨env, [.ro t (.ints .u8 [c]), .int .i64 n], [.rows none (.ints .u8 (rep c n n))]⟩) ∧ getT 7 env = .one (.row 0) := by
  intro j
  induction j using Nat.strongRecOn with
  | _ j ih =>
    intro k K hj hk hK
    rcases Nat.eq_zero_or_pos j with h | h
    · subst h
      obtain rfl : k = n := by omega
      obtain ⟨env, e, g⟩ := end55 t c k
      exact ⟨env, loopH_exit e, g⟩
    · obtain ⟨st1, h1, h2⟩ := body55 t c n k hk (by omega) hn
      have hm : 0 < Nat.min k (n - k) := Nat.lt_min.2 ⟨hk, by omega⟩
      have hm2 : Nat.min k (n - k) ≤ n - k := Nat.min_le_right _ _
      rw [loopH_norm h1 (by omega), h2]
      exact ih (j - Nat.min k (n - k)) (by omega) _ (K - 1) (by omega) (by omega) (by omega)
theorem f55 (t : Nat) (c : Int) (n : Nat) (hn : n ≤ 1000) : F55 [.one (.ro t (.ints .u8 [c])), .one (.int .i64 n)] [] = some (.one (.row 0), [.rows none (.ints .u8 (List.replicate n c))]) := by
  have hK := KK_eq
  have e79 := f79 n hn
  have wn : IntKind.u64.wrap (n : Int) = n := u64_in _ (by omega)
  have wi : IntKind.i64.wrap (n : Int) = n := i64_in _ (by omega)
  have hn0 : ¬ (n : Int) < 0 := by omega
  have hn1 : ¬ (9223372036854775807 : Int) < n := by omega
  have hn2 : (n : Int) ≤ 140737488355328 := by omega
  have w1 : IntKind.u64.wrap 1 = 1 := by decide
  have mk1 : ∀ m, (RC.ints .u8 []).ofElems (List.replicate m [Sc.int .u8 0]) = some (.ints .u8 (List.replicate m 0)) := fun m => mks_ints .u8 m
  rcases Nat.eq_zero_or_pos n with h | h
  · subst h
    have hb : RC.blit (.ints .u8 []) 0 (.ints .u8 []) = some (.ints .u8 []) := rfl
    obtain ⟨env, e, g⟩ := end55 t c 0
    have el := loopH_exit (live := [7, 8]) (k := KK) e
    simp only [canon55, rep, Int.natCast_zero, List.replicate_zero, List.append_nil, Nat.sub_self] at el
    have e79 : F79 [.one (.int .u64 1), .one (.int .u64 0)] [] = some (.tup [.one (.int .u64 0), .one (.int .u64 0)], []) := e79
    have w0 : IntKind.u64.wrap 0 = 0 := by decide
    have w00 : IntKind.i64.wrap 0 = 0 := by decide
    have mk0 : (RC.ints .u8 []).ofElems [] = some (.ints .u8 []) := rfl
    have hmin : Nat.min 1 0 = 0 := rfl
    simp -implicitDefEqProofs [F55, c55, upd, e79, w1, w0, w00, RC.len, RC.size, mk1, mk0, hb, hmin, el, g]
  · have hb : RC.blit (.ints .u8 (List.replicate n 0)) 0 (.ints .u8 [c]) = some (.ints .u8 (rep c n 1)) := by
      simp only [RC.blit]
      rw [if_pos ⟨trivial, by simp; omega⟩]
      simp [rep, List.drop_replicate]
    have hmin : Nat.min 1 n = 1 := Nat.min_eq_left h
    obtain ⟨env, el, g⟩ := loop55 t c n hn (n - 1) 1 KK (by omega) (by omega) (by omega)
    have e1 : ((1 : Nat) : Int) = 1 := rfl
    simp only [canon55, e1] at el
    have er : rep c n n = List.replicate n c := by simp [rep]
    rw [er] at el
    simp -implicitDefEqProofs [F55, c55, upd, e79, w1, wn, wi, hn0, hn1, hn2, RC.len, RC.size, mk1, hb, hmin, el, g]
theorem f58 (c : Int) : F58 [.one (.int .u8 c)] [] = some (.one (.bool (decide (28 ≤ c))), []) := by
  simp -implicitDefEqProofs [F58, c58, upd]
def canon82 (t : Nat) (l : List Int) (i : Nat) : St := ⟨[(0, .one (.ro t (.ints .u8 l))), (1, .one (.fn 58 [])), (7, .one (.int .i64 l.length)), (8, .one (.int .i64 i))], [.ro t (.ints .u8 l), .fn 58 []], []⟩
theorem f82 (t : Nat) (l : List Int) (hl : l.length ≤ 10000) : ∃ r : Int, F82 [.one (.ro t (.ints .u8 l)), .one (.fn 58 [])] [] = some (.one (.int .i64 r), []) ∧ (0 ≤ r ↔ ∃ c ∈ l, 28 ≤ c) := by
  have hK := KK_eq
  have hn : ∀ i, i < l.length → decide (28 ≤ l.getD i 0) = false → ∃ st1, evC T82 KK b82x0 (canon82 t l i) = some (.norm, st1) ∧ St.head [0, 1, 7, 8] st1 = canon82 t l (i + 1) := by
    intro i hi hp
    have hii : (i : Int) < l.length := by omega
    have w : IntKind.i64.wrap ((i : Int) + 1) = i + 1 := i64_in _ (by omega)
    have hp' : ¬ 28 ≤ l.getD i 0 := by simpa using hp
    have e := f58 (l.getD i 0)
    rw [hp] at e
    generalize hx : l.getD i 0 = x at *
    have hx' : (RC.ints .u8 l).get i 0 = some (.int .u8 x) := by simp only [RC.get]; rw [hx]; rfl
    simp -implicitDefEqProofs [b82x0, canon82, upd, hii, hi, w, RC.len, RC.size, hx', e]
  have hr : ∀ i, i < l.length → decide (28 ≤ l.getD i 0) = true → ∃ st1, evC T82 KK b82x0 (canon82 t l i) = some (.ret, st1) ∧ resC [(4, none)] (some (.ret, st1)) = some (.one (.int .i64 i), []) := by
    intro i hi hp
    have hii : (i : Int) < l.length := by omega
    have e := f58 (l.getD i 0)
    rw [hp] at e
    generalize hx : l.getD i 0 = x at *
    have hx' : (RC.ints .u8 l).get i 0 = some (.int .u8 x) := by simp only [RC.get]; rw [hx]; rfl
    refine ⟨?w, ?a, ?b⟩
    case a =>
      simp -implicitDefEqProofs [b82x0, canon82, upd, hii, hi, RC.len, RC.size, hx', e]
      rfl
    case b => simp -implicitDefEqProofs []
  obtain ⟨env, he⟩ : ∃ env, evC T82 KK b82x0 (canon82 t l l.length) = some (.exit 0, ⟨env, [.ro t (.ints .u8 l), .fn 58 []], []⟩) := by
    refine ⟨?w2, ?a2⟩
    case a2 =>
      simp -implicitDefEqProofs [b82x0, canon82, upd, RC.len, RC.size]
      rfl
  rcases loopFirst (fun i => decide (28 ≤ l.getD i 0)) hn hr he (by omega) with ⟨h1, el⟩ | ⟨i, st1, h1, h2, h3, el, er⟩
  · refine ⟨-1, ?_, ?_⟩
    · simp only [canon82, Int.natCast_zero] at el
      simp -implicitDefEqProofs [F82, c82, upd, RC.len, el]
    · constructor
      · intro h; omega
      · rintro ⟨c, hc, hc2⟩
        obtain ⟨i, hi, rfl⟩ := List.mem_iff_getElem.1 hc
        have := h1 i hi
        simp [List.getD, hi] at this
        omega
  · refine ⟨i, ?_, ?_⟩
    · simp only [canon82, Int.natCast_zero] at el
      rw [← er]
      simp -implicitDefEqProofs [F82, c82, upd, RC.len, el]
    · constructor
      · intro _
        refine ⟨l[i], List.getElem_mem h1, ?_⟩
        simpa [List.getD, h1] using h2
      · intro _; omega
theorem f57 (t : Nat) (l : List Int) (hl : l.length ≤ 10000) : F57 [.one (.ro t (.ints .u8 l)), .one (.fn 58 [])] [] = some (.one (.bool (l.any fun c => decide (28 ≤ c))), []) := by
  obtain ⟨r, e, h⟩ := f82 0 l hl
  have hb : (decide (0 ≤ r)) = l.any fun c => decide (28 ≤ c) := by
    rw [Bool.eq_iff_iff]
    simp [h]
  rw [← hb]
  simp -implicitDefEqProofs [F57, c57, upd, e]
def mxL : List Int → Int → Int
  | [], m => m
  | x :: l, m => mxL l (if m < x then x else m)
def mnL : List Int → Int → Int
  | [], m => m
  | x :: l, m => mnL l (if x < m then x else m)
theorem mx_key : ∀ (l : List Int) (m n : Int), n ≤ m → mnL l n ≤ n ∧ m ≤ mxL l m ∧ (mxL l m = mnL l n → m = n ∧ ∀ x ∈ l, x = m)
  | [], m, n, h => by simp [mxL, mnL]
  | x :: l, m, n, h => by
    simp only [mxL, mnL]
    by_cases h1 : m < x
    · have h2 : ¬ x < n := by omega
      rw [if_pos h1, if_neg h2]
      obtain ⟨g1, g2, g3⟩ := mx_key l x n (by omega)
      refine ⟨g1, by omega, fun e => ?_⟩
      have := (g3 e).1
      omega
    · rw [if_neg h1]
      by_cases h2 : x < n
      · rw [if_pos h2]
        obtain ⟨g1, g2, g3⟩ := mx_key l m x (by omega)
        refine ⟨by omega, g2, fun e => ?_⟩
        have := (g3 e).1
        omega
      · rw [if_neg h2]
        obtain ⟨g1, g2, g3⟩ := mx_key l m n h
        refine ⟨g1, g2, fun e => ?_⟩
        obtain ⟨e1, e2⟩ := g3 e
        refine ⟨e1, fun y hy => ?_⟩
        rcases List.mem_cons.1 hy with rfl | hy
        · omega
        · exact e2 y hy
theorem alike_of {x : Int} {l : List Int} (h : mxL l x = mnL l x) : x :: l = List.replicate (l.length + 1) x := by
  rw [List.replicate_succ]
  congr 1
  exact List.eq_replicate_iff.2 ⟨rfl, ((mx_key l x x (Int.le_refl x)).2.2 h).2⟩
theorem mxL_take {x : Int} : ∀ (l : List Int) (i : Nat) (m : Int), l[i]? = some x → mxL (l.take (i + 1)) m = (if mxL (l.take i) m < x then x else mxL (l.take i) m)
  | [], i, m, h => by simp at h
  | y :: l, 0, m, h => by simp at h; subst h; simp [mxL]
  | y :: l, i + 1, m, h => by simp only [List.take_succ_cons, mxL]; exact mxL_take l i _ (by simpa using h)
theorem mnL_take {x : Int} : ∀ (l : List Int) (i : Nat) (m : Int), l[i]? = some x → mnL (l.take (i + 1)) m = (if x < mnL (l.take i) m then x else mnL (l.take i) m)
  | [], i, m, h => by simp at h
  | y :: l, 0, m, h => by simp at h; subst h; simp [mnL]
  | y :: l, i + 1, m, h => by simp only [List.take_succ_cons, mnL]; exact mnL_take l i _ (by simpa using h)
def canon45 (t : Nat) (x : Int) (l : List Int) (i : Nat) : St := ⟨[(0, .one (.ro t (.ints .u8 (x :: l)))), (3, .one (.int .u8 (mxL (l.take i) x))), (4, .one (.int .i64 ((i : Int) + 1)))], [.ro t (.ints .u8 (x :: l))], []⟩
def canon46 (t : Nat) (x : Int) (l : List Int) (i : Nat) : St := ⟨[(0, .one (.ro t (.ints .u8 (x :: l)))), (3, .one (.int .u8 (mnL (l.take i) x))), (4, .one (.int .i64 ((i : Int) + 1)))], [.ro t (.ints .u8 (x :: l))], []⟩
theorem f45 (t : Nat) (x : Int) (l : List Int) (hl : l.length ≤ 10000) : F45 [.one (.ro t (.ints .u8 (x :: l)))] [] = some (.one (.int .u8 (mxL l x)), []) := by
  have hK := KK_eq
  have hn : ∀ i, i < l.length → ∃ st1, evC T45 KK b45x0 (canon45 t x l i) = some (.norm, st1) ∧ St.head [0, 3, 4] st1 = canon45 t x l (i + 1) := by
    intro i hi
    have hii : (i : Int) < l.length := by omega
    have h0 : (0 : Int) ≤ (i : Int) + 1 := by omega
    have w : IntKind.i64.wrap ((i : Int) + 1 + 1) = i + 1 + 1 := i64_in _ (by omega)
    have ht : ((i : Int) + 1).toNat = i + 1 := by omega
    have hx : (RC.ints .u8 (x :: l)).get (i + 1) 0 = some (.int .u8 l[i]) := by simp [RC.get, List.getD, hi]
    have hm := mxL_take l i x (List.getElem?_eq_getElem hi)
    by_cases hlt : mxL (l.take i) x < l[i]
    · simp -implicitDefEqProofs [b45x0, canon45, upd, hii, hi, w, h0, ht, RC.len, RC.size, hx, hm, hlt]
    · simp -implicitDefEqProofs [b45x0, canon45, upd, hii, hi, w, h0, ht, RC.len, RC.size, hx, hm, hlt]
  obtain ⟨env, he, g⟩ : ∃ env, evC T45 KK b45x0 (canon45 t x l l.length) = some (.exit 0, ⟨env, [.ro t (.ints .u8 (x :: l))], []⟩) ∧ getT 3 env = .one (.int .u8 (mxL l x)) := by
    refine ⟨?w, ?a, ?b⟩
    case a =>
      simp -implicitDefEqProofs [b45x0, canon45, upd, RC.len, RC.size]
      rfl
    case b => simp
  have el := loopUp hn he (by omega)
  simp only [canon45, Int.natCast_zero, List.take_zero, mxL, Int.zero_add] at el
  have h1 : ¬ ((l.length : Int) + 1 < 1) := by omega
  simp -implicitDefEqProofs [F45, c45, upd, RC.len, RC.size, RC.get, el, g, h1]
theorem f46 (t : Nat) (x : Int) (l : List Int) (hl : l.length ≤ 10000) : F46 [.one (.ro t (.ints .u8 (x :: l)))] [] = some (.one (.int .u8 (mnL l x)), []) := by
  have hK := KK_eq
  have hn : ∀ i, i < l.length → ∃ st1, evC T46 KK b46x0 (canon46 t x l i) = some (.norm, st1) ∧ St.head [0, 3, 4] st1 = canon46 t x l (i + 1) := by
    intro i hi
    have hii : (i : Int) < l.length := by omega
    have h0 : (0 : Int) ≤ (i : Int) + 1 := by omega
    have w : IntKind.i64.wrap ((i : Int) + 1 + 1) = i + 1 + 1 := i64_in _ (by omega)
    have ht : ((i : Int) + 1).toNat = i + 1 := by omega
    have hx : (RC.ints .u8 (x :: l)).get (i + 1) 0 = some (.int .u8 l[i]) := by simp [RC.get, List.getD, hi]
    have hm := mnL_take l i x (List.getElem?_eq_getElem hi)
    by_cases hlt : l[i] < mnL (l.take i) x
    · simp -implicitDefEqProofs [b46x0, canon46, upd, hii, hi, w, h0, ht, RC.len, RC.size, hx, hm, hlt]
    · simp -implicitDefEqProofs [b46x0, canon46, upd, hii, hi, w, h0, ht, RC.len, RC.size, hx, hm, hlt]
  obtain ⟨env, he, g⟩ : ∃ env, evC T46 KK b46x0 (canon46 t x l l.length) = some (.exit 0, ⟨env, [.ro t (.ints .u8 (x :: l))], []⟩) ∧ getT 3 env = .one (.int .u8 (mnL l x)) := by
    refine ⟨?w, ?a, ?b⟩
    case a =>
      simp -implicitDefEqProofs [b46x0, canon46, upd, RC.len, RC.size]
      rfl
    case b => simp
  have el := loopUp hn he (by omega)
  simp only [canon46, Int.natCast_zero, List.take_zero, mnL, Int.zero_add] at el
  have h1 : ¬ ((l.length : Int) + 1 < 1) := by omega
  simp -implicitDefEqProofs [F46, c46, upd, RC.len, RC.size, RC.get, el, g, h1]
theorem f44 (v : Nat) (hv : v < 256) : F44 [.one (.int .i64 v)] [] = some (.one (.ptr 0 0), wHp none [(v : Int)]) := by
  have e := f67 v 1 [] (by omega) (by simp)
  have hs : fixB v (sz 1) = [(v : Int)] := by
    have : sz 1 = 1 := by decide
    rw [this]; simp [fixB]; omega
  rw [hs, List.nil_append] at e
  have w : IntKind.u64.wrap (v : Int) = v := u64_in _ (by omega)
  simp only [wHp] at e
  simp -implicitDefEqProofs [F44, c44, upd, wHp, w, e]
def endB (N T pos : Nat) : Bool := decide (T - pos < 8 ∧ N / 2 ^ pos = 0)
theorem div_lt_of {N T pos : Nat} (hN : N < 2 ^ T) (h : pos ≤ T) : N / 2 ^ pos < 2 ^ (T - pos) := by
  rw [Nat.div_lt_iff_lt_mul (Nat.two_pow_pos _), ← Nat.pow_add]
  rwa [show T - pos + pos = T by omega]
theorem f39 (bs : List Int) (pos : Nat) (hB : isB bs) (hl : bs.length ≤ 90000) (hp : pos ≤ 8 * bs.length) : ∃ pos' : Nat, F39 [.one (.ptr 0 0)] (bufHp (some 0) bs pos) = some (.one (.bool (endB (leB bs) (8 * bs.length) pos)), bufHp (some 0) bs pos') := by
  have e61 := f61 bs pos (by omega) hp
  have hlt := div_lt_of (leB_lt hB) hp
  generalize hL : 8 * bs.length - pos = left at *
  by_cases h8 : left < 8
  · have e62 := f62 bs pos left hB (by omega) (by omega) (by omega)
    rw [Nat.mod_eq_of_lt hlt] at e62
    have hm : ¬ (8 : Int) < (left : Int) := by omega
    have h8i : (left : Int) < 8 := by omega
    refine ⟨pos + left, ?_⟩
    generalize hq : leB bs / 2 ^ pos = q at *
    simp only [bufHp, tup2] at e61 e62 ⊢
    by_cases h0 : q = 0
    · subst h0
      have e62 : F62 [AV.one (SV.ptr 0 0), AV.one (SV.int IntKind.i64 left)] [Ob.cells (some 0) [SV.row 1, SV.int IntKind.i64 pos], Ob.rows none (RC.ints IntKind.u8 bs)] = some (AV.tup [AV.one (SV.int IntKind.u32 0), AV.one (SV.bool true)], [Ob.cells (some 0) [SV.row 1, SV.int IntKind.i64 ((pos + left : Nat) : Int)], Ob.rows none (RC.ints IntKind.u8 bs)]) := e62
      have hb : endB (leB bs) (8 * bs.length) pos = true := by simp only [endB, hL, hq]; simp [h8]
      rw [hb]
      generalize ((pos + left : Nat) : Int) = z at *
      simp -implicitDefEqProofs [F39, c39, upd, e61, e62, hm, h8i]
    · have hb : endB (leB bs) (8 * bs.length) pos = false := by simp only [endB, hL, hq]; simp [h0]
      rw [hb]
      have hqi : ¬ (q : Int) = 0 := by omega
      generalize ((pos + left : Nat) : Int) = z at *
      simp -implicitDefEqProofs [F39, c39, upd, e61, e62, hm, h8i, h0, hqi]
  · have hb : endB (leB bs) (8 * bs.length) pos = false := by simp only [endB, hL]; simp [h8]
    rw [hb]
    have h8i : ¬ (left : Int) < 8 := by omega
    have e62 := f62 bs pos 8 hB (by omega) (by omega) (by omega)
    have c8 : ((8 : Nat) : Int) = 8 := rfl
    rw [c8] at e62
    refine ⟨pos + 8, ?_⟩
    simp only [bufHp, tup2] at e61 e62 ⊢
    generalize ((pos + 8 : Nat) : Int) = z at *
    by_cases hm : (8 : Int) < (left : Int)
    · simp -implicitDefEqProofs [F39, c39, upd, e61, e62, hm, h8i]
    · obtain rfl : left = 8 := by omega
      have c8' : ((8 : Nat) : Int) = 8 := rfl
      rw [c8'] at e61
      simp -implicitDefEqProofs [F39, c39, upd, e61, e62]
def valB (c N T pos : Nat) : Option (Nat × Nat) := if c < 16 then some (c, pos) else if T < pos + (c - 12) then none else some (2 ^ (c - 12) + N / 2 ^ pos % 2 ^ (c - 12), pos + (c - 12))
theorem valB_pos {c N T pos x p : Nat} (h : valB c N T pos = some (x, p)) (hp : pos ≤ T) : p ≤ T := by
  unfold valB at h
  split at h
  · simp at h; omega
  · split at h
    · simp at h
    · simp at h; omega
theorem valB_lt {c N T pos x p : Nat} (hc : c < 28) (h : valB c N T pos = some (x, p)) : x < 65536 := by
  unfold valB at h
  split at h
  · simp at h; omega
  · split at h
    · simp at h
    · simp at h
      have h1 : N / 2 ^ pos % 2 ^ (c - 12) < 2 ^ (c - 12) := Nat.mod_lt _ (Nat.two_pow_pos _)
      have h2 : 2 ^ (c - 12) ≤ 2 ^ 15 := Nat.pow_le_pow_right (by omega) (by omega)
      have : (2 : Nat) ^ 15 = 32768 := rfl
      omega
theorem f59 (c : Nat) (hc : c < 28) (bs : List Int) (pos : Nat) (hB : isB bs) (hl : bs.length ≤ 90000) (hp : pos ≤ 8 * bs.length) :
    match valB c (leB bs) (8 * bs.length) pos with
    | some (x, p) => F59 [.one (.int .u8 c), .one (.ptr 0 0)] (bufHp (some 0) bs pos) = some (.tup [.one (.int .i64 x), .one (.bool true)], bufHp (some 0) bs p)
    | none => F59 [.one (.int .u8 c), .one (.ptr 0 0)] (bufHp (some 0) bs pos) = some (.tup [.one (.int .i64 0), .one (.bool false)], bufHp (some 0) bs pos) := by
  unfold valB
  by_cases h16 : c < 16
  · rw [if_pos h16]
    have e83 := e83a (c : Int) (by omega)
    have e62 := f62 bs pos 0 hB (by omega) (by omega) (by omega)
    have e84 := e84c (c : Int) 0 (by omega) (by omega) (by omega) (by omega) (by decide)
    have z0 : ((leB bs / 2 ^ pos % 2 ^ 0 : Nat) : Int) = 0 := by rw [Nat.pow_zero, Nat.mod_one]; rfl
    have c0 : ((0 : Nat) : Int) = 0 := rfl
    rw [z0, Nat.add_zero, c0] at e62
    simp only [bufHp, tup2] at e62 ⊢
    simp -implicitDefEqProofs [F59, c59, upd, e83, e62, e84]
  · rw [if_neg h16]
    have e83 := e83b (c : Int) (by omega) (by omega)
    have hn : (c : Int) - 12 = ((c - 12 : Nat) : Int) := by omega
    rw [hn] at e83
    by_cases hT : 8 * bs.length < pos + (c - 12)
    · rw [if_pos hT]
      have e62 := f62b bs pos ((c - 12 : Nat) : Int) (by omega) (by omega) hp (by omega)
      generalize ((c - 12 : Nat) : Int) = n at *
      simp only [bufHp, tup2] at e62 ⊢
      simp -implicitDefEqProofs [F59, c59, upd, e83, e62]
    · rw [if_neg hT]
      have e62 := f62 bs pos (c - 12) hB (by omega) (by omega) (by omega)
      have h1 : leB bs / 2 ^ pos % 2 ^ (c - 12) < 2 ^ (c - 12) := Nat.mod_lt _ (Nat.two_pow_pos _)
      have h2 : 2 ^ (c - 12) ≤ 2 ^ 15 := Nat.pow_le_pow_right (by omega) (by omega)
      have h15 : (2 : Nat) ^ 15 = 32768 := rfl
      generalize hv : leB bs / 2 ^ pos % 2 ^ (c - 12) = v at *
      have hbl : bl v ≤ c - 12 := bl_le h1
      have e84 := e84e (c : Int) (v : Int) (by omega) (by omega) (by omega) (by omega) (by rw [Int.toNat_natCast]; omega)
      have ht : ((c : Int) - 12).toNat = c - 12 := by omega
      rw [ht, ← Int.natCast_add] at e84
      simp only [bufHp, tup2] at e62 ⊢
      generalize ((2 ^ (c - 12) + v : Nat) : Int) = x at *
      generalize ((pos + (c - 12) : Nat) : Int) = p at *
      generalize ((c - 12 : Nat) : Int) = n at *
      simp -implicitDefEqProofs [F59, c59, upd, e83, e62, e84]
def be (r : Int × Int × Int) (x : Int) : Int × Int × Int := if x = r.1 then (x, r.2.1, r.2.2) else if x = r.2.1 then (x, r.1, r.2.2) else (x, r.1, r.2.1)
abbrev RR (r : Int × Int × Int) : AV := R3 r.1 r.2.1 r.2.2
theorem beh_be (r : Int × Int × Int) (x : Int) : beh r.1 r.2.1 r.2.2 x = RR (be r x) := by
  unfold beh be
  split
  · rfl
  · split <;> rfl
def offN (r : Int × Int × Int) (n : Int) : Int := if (1 ≤ offOf r.1 r.2.1 r.2.2 n ∧ offOf r.1 r.2.1 r.2.2 n ≤ 65533) ∧ num r.1 r.2.1 r.2.2 (offOf r.1 r.2.1 r.2.2 n) = n then offOf r.1 r.2.1 r.2.2 n else 0
theorem f60' (r : Int × Int × Int) (n : Int) (h : 0 ≤ n ∧ n ≤ 65535) : F60 [RR r, .one (.int .i64 n)] [] = some (.tup [.one (.int .i64 (offN r n)), RR (if offN r n = 0 then r else be r (offN r n)), .one (.bool (decide (offN r n ≠ 0)))], []) := by
  unfold offN
  by_cases h1 : 1 ≤ offOf r.1 r.2.1 r.2.2 n ∧ offOf r.1 r.2.1 r.2.2 n ≤ 65533
  · by_cases h2 : num r.1 r.2.1 r.2.2 (offOf r.1 r.2.1 r.2.2 n) = n
    · rw [if_pos ⟨h1, h2⟩, f60 _ _ _ n _ h rfl h1 h2, beh_be, if_neg (by omega)]
      have : decide (offOf r.1 r.2.1 r.2.2 n ≠ 0) = true := by rw [decide_eq_true_eq]; omega
      rw [this]
    · rw [if_neg (fun hh => h2 hh.2), f60c _ _ _ n _ h rfl h1 h2]
      simp
  · rw [if_neg (fun hh => h1 hh.1), f60b _ _ _ n _ h rfl h1]
    simp
def stepB (c0 c1 c2 N T pos : Nat) (r : Int × Int × Int) : Option ((Nat × Nat × Int) × (Int × Int × Int) × Nat) :=
  match valB c0 N T pos with
  | none => none
  | some (x0, p0) => match valB c1 N T p0 with
    | none => none
    | some (x1, p1) => match valB c2 N T p1 with
      | none => none
      | some (x2, p2) => if offN r x2 = 0 then none else some ((x0, x1, offN r x2), be r (offN r x2), p2)
theorem s38a (c0 c1 c2 : Int) (bs : List Int) (p q : Int) (r : Int × Int × Int) (e0 : F59 [.one (.int .u8 c0), .one (.ptr 0 0)] (bufHp (some 0) bs p) = some (.tup [.one (.int .i64 0), .one (.bool false)], bufHp (some 0) bs q)) :
    F38 [.agg [.int .u8 c0, .int .u8 c1, .int .u8 c2], .one (.ptr 0 0), RR r] (bufHp (some 0) bs p) = some (.tup [.agg [.int .i64 0, .int .i64 0, .int .i64 0], RR r, .one (.bool false)], bufHp (some 0) bs q) := by
  simp only [bufHp] at e0 ⊢
  simp -implicitDefEqProofs [F38, c38, b38x0, upd, loop_go0, loop_go1, e0]
theorem s38b (c0 c1 c2 x0 : Int) (bs : List Int) (p p0 q : Int) (r : Int × Int × Int) (e0 : F59 [.one (.int .u8 c0), .one (.ptr 0 0)] (bufHp (some 0) bs p) = some (.tup [.one (.int .i64 x0), .one (.bool true)], bufHp (some 0) bs p0))
    (e1 : F59 [.one (.int .u8 c1), .one (.ptr 0 0)] (bufHp (some 0) bs p0) = some (.tup [.one (.int .i64 0), .one (.bool false)], bufHp (some 0) bs q)) :
    F38 [.agg [.int .u8 c0, .int .u8 c1, .int .u8 c2], .one (.ptr 0 0), RR r] (bufHp (some 0) bs p) = some (.tup [.agg [.int .i64 0, .int .i64 0, .int .i64 0], RR r, .one (.bool false)], bufHp (some 0) bs q) := by
  have w1 : IntKind.i64.wrap 1 = 1 := by decide
  simp only [bufHp] at e0 e1 ⊢
  simp -implicitDefEqProofs [F38, c38, b38x0, upd, loop_go0, loop_go1, e0, e1, w1]
theorem s38c (c0 c1 c2 x0 x1 : Int) (bs : List Int) (p p0 p1 q : Int) (r : Int × Int × Int) (e0 : F59 [.one (.int .u8 c0), .one (.ptr 0 0)] (bufHp (some 0) bs p) = some (.tup [.one (.int .i64 x0), .one (.bool true)], bufHp (some 0) bs p0))
    (e1 : F59 [.one (.int .u8 c1), .one (.ptr 0 0)] (bufHp (some 0) bs p0) = some (.tup [.one (.int .i64 x1), .one (.bool true)], bufHp (some 0) bs p1))
    (e2 : F59 [.one (.int .u8 c2), .one (.ptr 0 0)] (bufHp (some 0) bs p1) = some (.tup [.one (.int .i64 0), .one (.bool false)], bufHp (some 0) bs q)) :
    F38 [.agg [.int .u8 c0, .int .u8 c1, .int .u8 c2], .one (.ptr 0 0), RR r] (bufHp (some 0) bs p) = some (.tup [.agg [.int .i64 0, .int .i64 0, .int .i64 0], RR r, .one (.bool false)], bufHp (some 0) bs q) := by
  have w1 : IntKind.i64.wrap 1 = 1 := by decide
  have w2 : IntKind.i64.wrap 2 = 2 := by decide
  simp only [bufHp] at e0 e1 e2 ⊢
  simp -implicitDefEqProofs [F38, c38, b38x0, upd, loop_go0, loop_go1, e0, e1, e2, w1, w2]
theorem s38d (c0 c1 c2 x0 x1 x2 o : Int) (bs : List Int) (p p0 p1 p2 : Int) (r r' : Int × Int × Int) (b : Bool) (hx : 0 ≤ x1 ∧ x1 ≤ 65535) (e0 : F59 [.one (.int .u8 c0), .one (.ptr 0 0)] (bufHp (some 0) bs p) = some (.tup [.one (.int .i64 x0), .one (.bool true)], bufHp (some 0) bs p0))
    (e1 : F59 [.one (.int .u8 c1), .one (.ptr 0 0)] (bufHp (some 0) bs p0) = some (.tup [.one (.int .i64 x1), .one (.bool true)], bufHp (some 0) bs p1))
    (e2 : F59 [.one (.int .u8 c2), .one (.ptr 0 0)] (bufHp (some 0) bs p1) = some (.tup [.one (.int .i64 x2), .one (.bool true)], bufHp (some 0) bs p2))
    (e3 : F60 [RR r, .one (.int .i64 x2)] [] = some (.tup [.one (.int .i64 o), RR r', .one (.bool b)], [])) :
    F38 [.agg [.int .u8 c0, .int .u8 c1, .int .u8 c2], .one (.ptr 0 0), RR r] (bufHp (some 0) bs p) = some (.tup [.agg [.int .i64 x0, .int .i64 (x1 + 3), .int .i64 o], RR r', .one (.bool b)], bufHp (some 0) bs p2) := by
  have w1 : IntKind.i64.wrap 1 = 1 := by decide
  have w2 : IntKind.i64.wrap 2 = 2 := by decide
  have w3 : IntKind.i64.wrap 3 = 3 := by decide
  have wx : IntKind.i64.wrap (x1 + 3) = x1 + 3 := i64_in _ (by omega)
  simp only [bufHp] at e0 e1 e2 ⊢
  simp -implicitDefEqProofs [F38, c38, b38x0, upd, loop_go0, loop_go1, e0, e1, e2, e3, w1, w2, w3, wx]
theorem f38 (c0 c1 c2 : Nat) (h0 : c0 < 28) (h1 : c1 < 28) (h2 : c2 < 28) (bs : List Int) (pos : Nat) (r : Int × Int × Int) (hB : isB bs) (hl : bs.length ≤ 90000) (hp : pos ≤ 8 * bs.length) :
    match stepB c0 c1 c2 (leB bs) (8 * bs.length) pos r with
    | some ((x, y, o), r', p) => F38 [.agg [.int .u8 c0, .int .u8 c1, .int .u8 c2], .one (.ptr 0 0), RR r] (bufHp (some 0) bs pos) = some (.tup [.agg [.int .i64 x, .int .i64 (y + 3 : Nat), .int .i64 o], RR r', .one (.bool true)], bufHp (some 0) bs p)
    | none => ∃ (a b c : Int) (r' : Int × Int × Int) (p : Nat), F38 [.agg [.int .u8 c0, .int .u8 c1, .int .u8 c2], .one (.ptr 0 0), RR r] (bufHp (some 0) bs pos) = some (.tup [.agg [.int .i64 a, .int .i64 b, .int .i64 c], RR r', .one (.bool false)], bufHp (some 0) bs p) := by
  unfold stepB
  have e0 := f59 c0 h0 bs pos hB hl hp
  cases hv0 : valB c0 (leB bs) (8 * bs.length) pos with
  | none => rw [hv0] at e0; exact ⟨_, _, _, _, _, s38a _ _ _ bs _ _ r e0⟩
  | some q0 =>
    obtain ⟨x0, p0⟩ := q0
    rw [hv0] at e0
    have hp0 := valB_pos hv0 hp
    have e1 := f59 c1 h1 bs p0 hB hl hp0
    dsimp only
    cases hv1 : valB c1 (leB bs) (8 * bs.length) p0 with
    | none => rw [hv1] at e1; exact ⟨_, _, _, _, _, s38b _ _ _ _ bs _ _ _ r e0 e1⟩
    | some q1 =>
      obtain ⟨x1, p1⟩ := q1
      rw [hv1] at e1
      have hp1 := valB_pos hv1 hp0
      have e2 := f59 c2 h2 bs p1 hB hl hp1
      dsimp only
      cases hv2 : valB c2 (leB bs) (8 * bs.length) p1 with
      | none => rw [hv2] at e2; exact ⟨_, _, _, _, _, s38c _ _ _ _ _ bs _ _ _ _ r e0 e1 e2⟩
      | some q2 =>
        obtain ⟨x2, p2⟩ := q2
        rw [hv2] at e2
        dsimp only
        have hx1 := valB_lt h1 hv1
        have hx2 := valB_lt h2 hv2
        have e3 := f60' r (x2 : Int) (by omega)
        have e := s38d _ _ _ _ _ _ _ bs _ _ _ _ r _ _ (by omega) e0 e1 e2 e3
        by_cases ho : offN r x2 = 0
        · rw [if_pos ho]
          rw [ho] at e
          exact ⟨_, _, _, _, _, e⟩
        · rw [if_neg ho]
          rw [if_neg ho] at e
          have : decide (offN r x2 ≠ 0) = true := by simpa using ho
          rw [this] at e
          exact e
theorem f30g (a b c n m : Int) (h : 0 ≤ n ∧ n ≤ 65535) (e51 : F51 [R3 a b c, .one (.int .i64 (offOf a b c n))] [] = some (.one (.int .i64 m), [])) : F30 [R3 a b c, .one (.int .i64 n)] [] = some (.one (.int .i64 (if m = n then offOf a b c n else 0)), []) := by
  have hw : IntKind.i64.wrap (n - 2) = n - 2 := i64_in _ (by omega)
  have h01 : ¬ (1 : Int) = 0 := by omega
  have h02 : ¬ (2 : Int) = 0 := by omega
  have h12 : ¬ (2 : Int) = 1 := by omega
  have w0 : IntKind.i64.wrap (0 - 2) = -2 := by decide
  have w1 : IntKind.i64.wrap (1 - 2) = -1 := by decide
  have w2 : IntKind.i64.wrap (2 - 2) = 0 := by decide
  have cases3 : n = 0 ∨ n = 1 ∨ n = 2 ∨ ¬ n < 3 := by omega
  rcases cases3 with rfl | rfl | rfl | h3
  · simp only [offOf, if_true] at e51 ⊢
    by_cases hm : m = 0 <;> simp -implicitDefEqProofs [F30, c30, upd, w0, e51, hm]
  · simp only [offOf, if_true, if_neg h01] at e51 ⊢
    by_cases hm : m = 1 <;> simp -implicitDefEqProofs [F30, c30, upd, w1, e51, hm]
  · simp only [offOf, if_true, if_neg h02, if_neg h12] at e51 ⊢
    by_cases hm : m = 2 <;> simp -implicitDefEqProofs [F30, c30, upd, w2, e51, hm]
  · have n0 : ¬ n = 0 := by omega
    have n1 : ¬ n = 1 := by omega
    have n2 : ¬ n = 2 := by omega
    simp only [offOf, if_neg n0, if_neg n1, if_neg n2] at e51 ⊢
    by_cases hm : m = n
    · subst hm
      simp -implicitDefEqProofs [F30, c30, upd, hw, e51, h3]
    · simp -implicitDefEqProofs [F30, c30, upd, hw, e51, h3, hm]
theorem f30 (r : Int × Int × Int) (n : Int) (h : 0 ≤ n ∧ n ≤ 65535) : F30 [RR r, .one (.int .i64 n)] [] = some (.one (.int .i64 (offN r n)), []) := by
  obtain ⟨a, b, c⟩ := r
  unfold offN
  simp only
  by_cases h1 : 1 ≤ offOf a b c n ∧ offOf a b c n ≤ 65533
  · rw [f30g a b c n _ h (f51 a b c _ h1)]
    by_cases h2 : num a b c (offOf a b c n) = n
    · rw [if_pos h2, if_pos ⟨h1, h2⟩]
    · rw [if_neg h2, if_neg (fun hh => h2 hh.2)]
  · rw [f30g a b c n _ h (f51n a b c _ h1), if_neg (by omega), if_neg (fun hh => h1 hh.1)]
def canon32 (t : Nat) (l : List Int) (i : Nat) : St := ⟨[(0, .one (.ro t (.ints .i64 l))), (3, .one (.int .i64 i))], [.ro t (.ints .i64 l)], []⟩
theorem leN_zero : ∀ {l : List Int}, isN l → (leN l = 0 ↔ ∀ i, i < l.length → l.getD i 0 = 0)
  | [], _ => by simp [leN]
  | b :: l, h => by
    have hb := h b (by simp)
    have ih := leN_zero h.tail
    simp only [leN]
    constructor
    · intro e i hi
      cases i with
      | zero => simp; omega
      | succ i => simp only [List.getD_cons_succ]; exact ih.1 (by omega) i (by simpa using hi)
    · intro e
      have h0 := e 0 (by simp)
      simp at h0
      have := ih.2 fun i hi => by simpa using e (i + 1) (by simpa using hi)
      rw [this, h0]; rfl
theorem f32 (t : Nat) (l : List Int) (hN : isN l) (hl : l.length ≤ 90000) : F32 [.one (.ro t (.ints .i64 l))] [] = some (.one (.bool (decide (l.length < 8 ∧ leN l = 0))), []) := by
  have hK := KK_eq
  have hn : ∀ i, i < l.length → decide (l.getD i 0 ≠ 0) = false → ∃ st1, evC T32 KK b32x0 (canon32 t l i) = some (.norm, st1) ∧ St.head [0, 3] st1 = canon32 t l (i + 1) := by
    intro i hi hp
    have hii : (i : Int) < l.length := by omega
    have w : IntKind.i64.wrap ((i : Int) + 1) = i + 1 := i64_in _ (by omega)
    have hp' : l.getD i 0 = 0 := by simpa using hp
    have hx' : (RC.ints .i64 l).get i 0 = some (.int .i64 0) := by simp only [RC.get]; rw [hp']; rfl
    simp -implicitDefEqProofs [b32x0, canon32, upd, hii, hi, w, RC.len, RC.size, hx']
  have hr : ∀ i, i < l.length → decide (l.getD i 0 ≠ 0) = true → ∃ st1, evC T32 KK b32x0 (canon32 t l i) = some (.ret, st1) ∧ resC [(2, none)] (some (.ret, st1)) = some (.one (.bool false), []) := by
    intro i hi hp
    have hii : (i : Int) < l.length := by omega
    have hp' : ¬ l.getD i 0 = 0 := by simpa using hp
    generalize hx : l.getD i 0 = x at *
    have hx' : (RC.ints .i64 l).get i 0 = some (.int .i64 x) := by simp only [RC.get]; rw [hx]; rfl
    refine ⟨?w, ?a, ?b⟩
    case a =>
      simp -implicitDefEqProofs [b32x0, canon32, upd, hii, hi, RC.len, RC.size, hx', hp']
      rfl
    case b => simp -implicitDefEqProofs []
  obtain ⟨env, he, g⟩ : ∃ env, evC T32 KK b32x0 (canon32 t l l.length) = some (.exit 0, ⟨env, [.ro t (.ints .i64 l)], []⟩) ∧ getT 0 env = .one (.ro t (.ints .i64 l)) := by
    refine ⟨?w2, ?a2, ?b2⟩
    case a2 =>
      simp -implicitDefEqProofs [b32x0, canon32, upd, RC.len, RC.size]
      rfl
    case b2 => simp
  have hz := leN_zero hN
  rcases loopFirst (fun i => decide (l.getD i 0 ≠ 0)) hn hr he (by omega) with ⟨h1, el⟩ | ⟨i, st1, h1, h2, h3, el, er⟩
  · have h0 : leN l = 0 := hz.2 fun i hi => by simpa using h1 i hi
    have hb : decide (l.length < 8 ∧ leN l = 0) = decide ((l.length : Int) < 8) := decide_eq_decide.2 ⟨fun h => by omega, fun h => ⟨by omega, h0⟩⟩
    rw [hb]
    simp only [canon32, Int.natCast_zero] at el
    simp -implicitDefEqProofs [F32, c32, upd, RC.len, el, g]
  · have hb : decide (l.length < 8 ∧ leN l = 0) = false := by
      rw [decide_eq_false_iff_not]
      rintro ⟨_, h⟩
      have := hz.1 h i h1
      simp only [decide_eq_true_eq] at h2
      exact h2 this
    rw [hb, ← er]
    simp only [canon32, Int.natCast_zero] at el
    simp -implicitDefEqProofs [F32, c32, upd, RC.len, el]
def txt (l : List Int) : Option (List Int × List Int) := match gdec 0 0 l with
  | none => none
  | some (u, r) => if 4096 < u ∨ r.length < u then none else some (r.take u, r.drop u)
theorem tAns_txt (l : List Int) : tAns l 4096 = match txt l with | some (t, r) => (t, r, false) | none => ([], [], true) := by
  unfold tAns iAns gAns txt
  cases h : gdec 0 0 l with
  | none => simp
  | some p =>
    obtain ⟨u, r⟩ := p
    by_cases h1 : 4096 < u
    · have : (4096 : Int) < (u : Int) := by omega
      simp [h1, this]
    · have h1i : ¬ (4096 : Int) < (u : Int) := by omega
      unfold rAns
      by_cases h2 : r.length < u
      · have h2i : (r.length : Int) < (u : Int) := by omega
        simp [h1, h1i, h2, h2i]
      · have h2i : ¬ (r.length : Int) < (u : Int) := by omega
        simp [h1, h1i, h2, h2i]
theorem txt_inv {l t r : List Int} (hB : isB l) (h : txt l = some (t, r)) : l = grp t.length ++ t ++ r ∧ t.length ≤ 4096 ∧ isB t ∧ isB r ∧ r.length < l.length := by
  unfold txt at h
  cases hg : gdec 0 0 l with
  | none => rw [hg] at h; cases h
  | some p =>
    obtain ⟨u, q⟩ := p
    rw [hg] at h
    simp only at h
    split at h
    · cases h
    · rename_i hc
      simp only [Option.some.injEq, Prod.mk.injEq] at h
      obtain ⟨rfl, rfl⟩ := h
      obtain ⟨a, h1, h2, _⟩ := gdec_inv l 0 0 u q hB (by omega) hg
      obtain rfl : u = a := by simpa using h2
      have hq : isB q := fun b hb => hB b (by rw [h1]; simp [hb])
      have hlen : (q.take u).length = u := by rw [List.length_take]; omega
      have hpos := grp_pos u
      refine ⟨?_, by omega, fun b hb => hq b (List.mem_of_mem_take hb), fun b hb => hq b (List.mem_of_mem_drop hb), ?_⟩
      · rw [hlen, List.append_assoc, List.take_append_drop]; exact h1
      · rw [h1]; simp; omega
theorem txt_put (t r : List Int) (h : t.length ≤ 4096) : txt (grp t.length ++ t ++ r) = some (t, r) := by
  unfold txt
  have h64 : t.length * 2 ^ (7 * 0) < 2 ^ 64 := by
    have : (2 : Nat) ^ 64 = 18446744073709551616 := rfl
    simp; omega
  rw [List.append_assoc, gdec_grp (t ++ r) t.length 0 0 (by omega) h64 (.inl rfl)]
  simp only [Nat.mul_zero, Nat.pow_zero, Nat.mul_one, Nat.zero_add]
  rw [if_neg (by simp; omega), List.take_left' rfl, List.drop_left' rfl]
theorem f37t (l : List Int) (hB : isB l) (hl : l.length ≤ 90000) : match txt l with
    | some (t, r) => F37 [.one (.ptr 0 0), .one (.int .i64 4096)] (rHp (some 0) l false) = some (.one (.str (ofBytes t)), rHp (some 0) r false)
    | none => F37 [.one (.ptr 0 0), .one (.int .i64 4096)] (rHp (some 0) l false) = some (.one (.str (ofBytes [])), rHp (some 0) [] true) := by
  have e := f37 l 4096 (by omega) hB hl
  rw [tAns_txt] at e
  cases h : txt l with
  | none => rw [h] at e; exact e
  | some p => rw [h] at e; exact e
def txtN (l : List Int) : List Int × Nat := match txt l with
  | some (t, r) => (t, l.length - r.length)
  | none => ([], 0)
theorem f25 (l : List Int) (hB : isB l) (hl : l.length ≤ 80000) : F25 [.one (.str (ofBytes l))] [] = some (.tup [.one (.str (ofBytes (txtN l).1)), .one (.int .i64 (txtN l).2)], []) := by
  have hs : (ofBytes l).size = l.length := size_ofBytes l
  unfold txtN txt
  cases hg : gdec 0 0 l with
  | none =>
    have e23 := f40_none l hB hl (fun u r hu e => by
      have h64 : u * 2 ^ (7 * 0) < 2 ^ 64 := by simpa using hu
      rw [e, gdec_grp r u 0 0 (by omega) h64 (.inl rfl)] at hg
      cases hg)
    simp only [tupF] at e23
    simp -implicitDefEqProofs [F25, c25, upd, e23, ofBytes_nil]
  | some p =>
    obtain ⟨u, r⟩ := p
    obtain ⟨a, h1, h2, _⟩ := gdec_inv l 0 0 u r hB (by omega) hg
    obtain rfl : u = a := by simpa using h2
    have hu : u < 2 ^ 64 := by
      exact gdec_lt l 0 0 u r hB (by omega) (by simp) hg
    have e23 := f40_some l u r hB hl h1 hu
    have hpos := grp_pos u
    have hlen : l.length = (grp u).length + r.length := by rw [h1]; simp
    generalize hk : (grp u).length = k at *
    have hk0 : ¬ (k : Int) = 0 := by omega
    have hkn : ¬ k = 0 := by omega
    have w1 : IntKind.i64.wrap ((l.length : Int) - k) = r.length := by rw [i64_in _ (by omega)]; omega
    have w2 : IntKind.u64.wrap (r.length : Int) = r.length := u64_in _ (by omega)
    simp only [tupF] at e23
    by_cases h3 : 4096 < u
    · have h3i : (4096 : Int) < (u : Int) := by omega
      simp -implicitDefEqProofs [F25, c25, upd, e23, ofBytes_nil, hk0, hkn, h3, h3i]
    · have h3i : ¬ (4096 : Int) < (u : Int) := by omega
      by_cases h4 : r.length < u
      · have h4i : (r.length : Int) < (u : Int) := by omega
        simp -implicitDefEqProofs [F25, c25, upd, e23, ofBytes_nil, hk0, hkn, h3, h3i, hs, w1, w2, h4, h4i]
      · have h4i : ¬ (r.length : Int) < (u : Int) := by omega
        have w3 : IntKind.i64.wrap (u : Int) = u := i64_in _ (by omega)
        have w4 : IntKind.i64.wrap ((k : Int) + u) = ((k + u : Nat) : Int) := by rw [i64_in _ (by omega)]; omega
        have hex : (ofBytes l).extract k (k + u) = ofBytes (r.take u) := by
          rw [ofBytes_extract, h1, List.drop_left' hk, show k + u - k = u by omega]
        have hsz : l.length - (r.drop u).length = k + u := by simp; omega
        have hb1 : (k : Int) ≤ ((k + u : Nat) : Int) := by omega
        have hb2 : ((k + u : Nat) : Int) ≤ (l.length : Int) := by omega
        have hcond : ¬ (4096 < u ∨ r.length < u) := by omega
        simp only [if_neg hcond, hsz]
        simp -implicitDefEqProofs [F25, c25, upd, e23, hk0, hkn, h3i, hs, w1, w2, w3, w4, h4i, hex, hb1, hb2]
        exact ⟨⟨by omega, by omega⟩, by rw [show ((k : Int) + u).toNat = k + u by omega]; exact hex⟩
def shS (r : List Int) (n : Nat) : Option (List Int × List Int) := match txt r with
  | none => none
  | some (h, r1) => match txt r1 with
    | none => none
    | some (b, r2) => match hdT (leB h) (8 * h.length) 0 with
      | none => none
      | some (share, log, pos) => if endB (leB h) (8 * h.length) pos = true then (decO log (natsOf share) b n).map fun o => (o, r2) else none
theorem decO_ok {L : Nat} {sh : List Nat} {l bs o : List Int} {n : Nat} (S : Shr l L sh) (hB : isB bs) (h : decO L sh bs n = some o) : o.length = n ∧ isB o := by
  obtain ⟨h1, h2, _⟩ := enc_dec S hB h
  exact ⟨by omega, h2⟩
theorem s2bB (t : List Int) (hB : isB t) : toBytes (ofBytes t) = t := toBytes_ofBytes hB
theorem run56a (l : List Int) (n : Nat) (hB : isB l) (hl : l.length ≤ 80000) (h : txt l = none) :
    F56 [.one (.ptr 0 0), .one (.int .i64 n)] (rHp (some 0) l false) = some (.tup [.one (.row 1), .one (.bool false)], rHp (some 0) [] true ++ [.rows none (.ints .u8 [])]) := by
  have e37 := f37t l hB (by omega)
  rw [h] at e37
  have e37b := f37b [] 4096
  have e34 := f34 [] true
  simp only [rHp] at e37 e37b e34 ⊢
  simp -implicitDefEqProofs [F56, c56, upd, e37, e37b, e34]
theorem run56b (l h r : List Int) (n : Nat) (hB : isB l) (hl : l.length ≤ 80000) (h1 : txt l = some (h, r)) (h2 : txt r = none) :
    F56 [.one (.ptr 0 0), .one (.int .i64 n)] (rHp (some 0) l false) = some (.tup [.one (.row 1), .one (.bool false)], rHp (some 0) [] true ++ [.rows none (.ints .u8 [])]) := by
  obtain ⟨_, _, _, hB2, hlt⟩ := txt_inv hB h1
  have e37 := f37t l hB (by omega)
  rw [h1] at e37
  have e37' := f37t r hB2 (by omega)
  rw [h2] at e37'
  have e34 := f34 [] true
  simp only [rHp] at e37 e37' e34 ⊢
  simp -implicitDefEqProofs [F56, c56, upd, e37, e37', e34]
theorem run56c (l h r b r2 : List Int) (n : Nat) (hB : isB l) (hl : l.length ≤ 80000) (h1 : txt l = some (h, r)) (h2 : txt r = some (b, r2)) (h3 : hdT (leB h) (8 * h.length) 0 = none) :
    F56 [.one (.ptr 0 0), .one (.int .i64 n)] (rHp (some 0) l false) = some (.tup [.one (.row 1), .one (.bool false)], rHp (some 0) r2 false ++ [.rows none (.ints .u8 [])]) := by
  obtain ⟨_, hl4, hBh, hB2, hlt⟩ := txt_inv hB h1
  have e37 := f37t l hB (by omega)
  rw [h1] at e37
  have e37' := f37t r hB2 (by omega)
  rw [h2] at e37'
  have e34 := f34 r2 false
  have e36 := fun t => f36 t h (by omega)
  have e80 := f80 h 0 hBh (by omega) (by omega)
  rw [h3] at e80
  obtain ⟨pos', e80⟩ := e80
  have hs := size_ofBytes h
  have hsz : h.length ≤ 140737488355328 := by omega
  have ht := s2bB h hBh
  simp only [rHp, bufHp, hHp, tup3, Int.natCast_zero] at e37 e37' e34 e36 e80 ⊢
  simp -implicitDefEqProofs [F56, c56, upd, e37, e37', e34, e36, e80, hs, hsz, ht]
theorem run56d (l h r b r2 share : List Int) (log pos n : Nat) (hB : isB l) (hl : l.length ≤ 80000) (h1 : txt l = some (h, r)) (h2 : txt r = some (b, r2)) (h3 : hdT (leB h) (8 * h.length) 0 = some (share, log, pos)) (h4 : endB (leB h) (8 * h.length) pos = false) :
    F56 [.one (.ptr 0 0), .one (.int .i64 n)] (rHp (some 0) l false) = some (.tup [.one (.row 1), .one (.bool false)], rHp (some 0) r2 false ++ [.rows none (.ints .u8 [])]) := by
  obtain ⟨_, hl4, hBh, hB2, hlt⟩ := txt_inv hB h1
  obtain ⟨hf, hsl, _, hpos, _⟩ := hdT_ok h3
  have e37 := f37t l hB (by omega)
  rw [h1] at e37
  have e37' := f37t r hB2 (by omega)
  rw [h2] at e37'
  have e34 := f34 r2 false
  have e36 := fun t => f36 t h (by omega)
  have e80 := f80 h 0 hBh (by omega) (by omega)
  rw [h3] at e80
  obtain ⟨pos', e39⟩ := f39 h pos hBh (by omega) hpos
  rw [h4] at e39
  have hs := size_ofBytes h
  have hsz : h.length ≤ 140737488355328 := by omega
  have ht := s2bB h hBh
  simp only [rHp, bufHp, hHp, tup3, Int.natCast_zero] at e37 e37' e34 e36 e80 e39 ⊢
  generalize ((pos' : Nat) : Int) = q at *
  generalize ((pos : Nat) : Int) = q0 at *
  simp -implicitDefEqProofs [F56, c56, upd, e37, e37', e34, e36, e80, e39, hs, hsz, ht]
theorem run56e (l h r b r2 share : List Int) (log pos n : Nat) (hn : n ≤ 1000) (hB : isB l) (hl : l.length ≤ 80000) (h1 : txt l = some (h, r)) (h2 : txt r = some (b, r2)) (h3 : hdT (leB h) (8 * h.length) 0 = some (share, log, pos)) (h4 : endB (leB h) (8 * h.length) pos = true) :
    F56 [.one (.ptr 0 0), .one (.int .i64 n)] (rHp (some 0) l false) = some (.tup [.one (.row 1), .one (.bool (decO log (natsOf share) b n).isSome)], rHp (some 0) r2 false ++ [.rows none (.ints .u8 (decB (decO log (natsOf share) b n)))]) := by
  obtain ⟨_, hl4, hBh, hB2, hlt⟩ := txt_inv hB h1
  obtain ⟨_, hl4', hBb, hB3, hlt'⟩ := txt_inv hB2 h2
  obtain ⟨hf, hsl, _, hpos, _⟩ := hdT_ok h3
  obtain ⟨L, hL, S⟩ := shr_of hf
  obtain rfl : log = L := by omega
  have e37 := f37t l hB (by omega)
  rw [h1] at e37
  have e37' := f37t r hB2 (by omega)
  rw [h2] at e37'
  have e34 := f34 r2 false
  have e36 := fun t => f36 t h (by omega)
  have e80 := f80 h 0 hBh (by omega) (by omega)
  rw [h3] at e80
  obtain ⟨pos', e39⟩ := f39 h pos hBh (by omega) hpos
  rw [h4] at e39
  obtain ⟨al, e72, ha1, ha2⟩ := f72 0 share (natsOf share) S hf
  have e81 := f81 1 S (al := al) b hBb (by omega) n (by omega)
  have hs := size_ofBytes h
  have hsz : h.length ≤ 140737488355328 := by omega
  have ht := s2bB h hBh
  have hs' := size_ofBytes b
  have hsz' : b.length ≤ 140737488355328 := by omega
  have ht' := s2bB b hBb
  have hd : decR (decO log (natsOf share) b n) = .tup [.one (.row 5), .one (.bool (decO log (natsOf share) b n).isSome)] := by cases decO log (natsOf share) b n <;> rfl
  rw [hd] at e81
  generalize decO log (natsOf share) b n = d at *
  generalize d.isSome = ok at *
  generalize decB d = out at *
  simp only [rHp, bufHp, hHp, tup3, Int.natCast_zero, tabOf, tabHp, List.cons_append, List.nil_append] at e37 e37' e34 e36 e80 e39 e72 e81 ⊢
  generalize ((pos' : Nat) : Int) = q at *
  generalize ((pos : Nat) : Int) = q0 at *
  generalize cellsTo log (natsOf share) (2 ^ log) = cs at *
  generalize fiTo (natsOf share) (natsOf share).length = fi at *
  simp -implicitDefEqProofs [F56, c56, upd, e37, e37', e34, e36, e80, e39, e72, e81, hs, hsz, ht, hs', hsz', ht']
end Go.X.Tryz
