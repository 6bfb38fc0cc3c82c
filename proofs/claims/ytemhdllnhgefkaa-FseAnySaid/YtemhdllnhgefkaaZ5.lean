import Derived.Test.YtemhdllnhgefkaaZ4
set_option linter.unusedVariables false
set_option linter.unusedSimpArgs false
set_option maxRecDepth 100000
set_option linter.unusedSimpArgs false
set_option linter.unusedVariables false
namespace Go.X.Try
open Go.IntWalk
/-! ### Decode -/
def canon18 (t : Nat) (L : Int) (cs : List (List Sc)) (l fi al : List Int) (b0 : List Int) (bs out : List Int) (m st n i : Int) : St :=
  ⟨[(0, .one (.ptr 0 0)), (8, .one (.ptr 5 0)), (11, .one (.int .i64 st)), (12, .one (.row 7)), (47, .one (.int .i64 n)), (48, .one (.int .i64 i))], [.ptr 0 0, .ro t (.ints .u8 b0), .int .i64 n],
   tabHp (some 0) L cs l fi al ++ [.cells none [.row 6, .int .i64 m], .rows (.ints .u8 bs), .rows (.ints .u8 out)]⟩
theorem body18 (t : Nat) (L : Int) (cs : List (List Sc)) (l fi al : List Int) (b0 : List Int) (bs out : List Int) (m m' st st' n i i' s k base v : Int) (hi : i < n) (ho : out.length ≤ 140737488355327)
    (e47 : F47 [.one (.ptr 0 0), .one (.int .i64 st)] (tabHp (some 0) L cs l fi al) = some (cel [.int .u8 s, .int .i64 k, .int .i64 base] true, tabHp (some 0) L cs l fi al))
    (e45 : F45 [.one (.ptr 0 0), .one (.int .i64 k)] (bufHp (some 0) bs m) = some (tup2 v true, bufHp (some 0) bs m')) (wv : IntKind.i64.wrap v = v)
    (e48 : F48 [.one (.ptr 0 0), .one (.int .i64 st), .one (.int .i64 v)] (tabHp (some 0) L cs l fi al) = some (.tup [.one (.int .i64 st'), .one (.bool true)], tabHp (some 0) L cs l fi al)) (wi : IntKind.i64.wrap (i + 1) = i') :
    ∃ st1, evC T18 KK b18x0 (canon18 t L cs l fi al b0 bs out m st n i) = some (.norm, st1) ∧ St.head [0, 8, 11, 12, 47, 48] st1 = canon18 t L cs l fi al b0 bs (out ++ [s]) m' st' n i' := by
  simp only [tabHp, bufHp, cel, tup2, List.map_cons, List.map_nil, Sc.sv] at e47 e45 e48
  simp -implicitDefEqProofs [b18x0, canon18, tabHp, upd, hi, ho, e47, e45, e48, wv, wi, RC.len, RC.size, RC.app, RC.ofElems]
theorem bad18 (t : Nat) (L : Int) (cs : List (List Sc)) (l fi al : List Int) (b0 : List Int) (bs out : List Int) (m m' st n i s k base v : Int) (hi : i < n)
    (e47 : F47 [.one (.ptr 0 0), .one (.int .i64 st)] (tabHp (some 0) L cs l fi al) = some (cel [.int .u8 s, .int .i64 k, .int .i64 base] true, tabHp (some 0) L cs l fi al))
    (e45 : F45 [.one (.ptr 0 0), .one (.int .i64 k)] (bufHp (some 0) bs m) = some (tup2 v false, bufHp (some 0) bs m')) :
    ∃ st1, evC T18 KK b18x0 (canon18 t L cs l fi al b0 bs out m st n i) = some (.ret, st1) ∧ resC [(6, none), (7, none)] (some (.ret, st1)) = some (.tup [.one (.row 5), .one (.bool false)], tabHp (some 0) L cs l fi al ++ [.rows (.ints .u8 [])]) := by
  simp only [tabHp, bufHp, cel, tup2, List.map_cons, List.map_nil, Sc.sv] at e47 e45
  refine ⟨?w, ?a, ?b⟩
  case a =>
    simp -implicitDefEqProofs [b18x0, canon18, tabHp, upd, hi, e47, e45, RC.len, RC.size, RC.app, RC.ofElems]
    rfl
  case b => simp -implicitDefEqProofs [tabHp]
theorem end18 (t : Nat) (L : Int) (cs : List (List Sc)) (l fi al : List Int) (b0 : List Int) (bs out : List Int) (m st n i : Int) (hi : ¬ i < n) :
    ∃ env, evC T18 KK b18x0 (canon18 t L cs l fi al b0 bs out m st n i) = some (.exit 0, ⟨env, [.ptr 0 0, .ro t (.ints .u8 b0), .int .i64 n], tabHp (some 0) L cs l fi al ++ [.cells none [.row 6, .int .i64 m], .rows (.ints .u8 bs), .rows (.ints .u8 out)]⟩) ∧ getT 8 env = .one (.ptr 5 0) ∧ getT 11 env = .one (.int .i64 st) ∧ getT 12 env = .one (.row 7) := by
  simp -implicitDefEqProofs [b18x0, canon18, tabHp, upd, hi]

def dk (L : Nat) (sh : List Nat) (M : Nat) : Nat → Nat → Nat → Option (List Int × Nat × Nat)
  | 0, st, m => some ([], st, m)
  | n + 1, st, m => if m < bOf L sh st then none else (dk L sh M n (baseOf L sh st + M / 2 ^ (m - bOf L sh st) % 2 ^ bOf L sh st) (m - bOf L sh st)).map fun r => ((((symOf sh).getD st 0 : Nat) : Int) :: r.1, r.2)
theorem cell_all {l : List Int} {sh : List Nat} {L : Nat} (S : Shr l L sh) {i : Nat} (hi : i < 2 ^ L) : (cellsTo L sh (2 ^ L))[i]? = some [.int .u8 (((symOf sh).getD i 0 : Nat) : Int), .int .i64 (bOf L sh i : Nat), .int .i64 (baseOf L sh i : Nat)] ∧ bOf L sh i ≤ L ∧ baseOf L sh i + 2 ^ bOf L sh i ≤ 2 ^ L := by
  obtain ⟨s, m, h1, h2, h3, h4, h5, h6, h7, h8, h9, h10⟩ := cellSc_ok S hi
  refine ⟨by rw [cellsTo_get hi]; rfl, h8, ?_⟩
  rw [Nat.add_mul, Nat.one_mul, Nat.pow_succ] at h10
  omega
/-- The loop of Decode: out of symbols, or bits. -/
theorem loop18 (t : Nat) {l : List Int} {sh : List Nat} {L : Nat} (S : Shr l L sh) {al : List Int} (b0 bs : List Int) (hB : isB bs) (hl : bs.length ≤ 100000) (n : Nat) (hn : n ≤ 1000) : ∀ (j i st m : Nat) (out : List Int) (K : Nat), i + j = n → st < 2 ^ L → m ≤ 8 * bs.length → out.length ≤ i → j < K →
    ∃ r, loopH (evC T18 KK b18x0) [0, 8, 11, 12, 47, 48] K (canon18 t L (cellsTo L sh (2 ^ L)) l (fiTo sh sh.length) al b0 bs out m st n i) = some r ∧
      (match dk L sh (leB bs) j st m with
      | none => ∃ st1, r = (.ret, st1) ∧ resC [(6, none), (7, none)] (some (.ret, st1)) = some (.tup [.one (.row 5), .one (.bool false)], tabOf (some 0) L sh l al ++ [.rows (.ints .u8 [])])
      | some (o, st', m') => m' ≤ m ∧ ∃ env, r = (.exit 0, ⟨env, [.ptr 0 0, .ro t (.ints .u8 b0), .int .i64 n], tabOf (some 0) L sh l al ++ [.cells none [.row 6, .int .i64 m'], .rows (.ints .u8 bs), .rows (.ints .u8 (out ++ o))]⟩) ∧ getT 8 env = .one (.ptr 5 0) ∧ getT 11 env = .one (.int .i64 st') ∧ getT 12 env = .one (.row 7))
  | 0, i, st, m, out, K, hj, hst, hm, ho, hK => by
    obtain ⟨env, e, g1, g2, g3⟩ := end18 t L (cellsTo L sh (2 ^ L)) l (fiTo sh sh.length) al b0 bs out m st n i (by omega)
    refine ⟨_, loopH_exit e, ?_⟩
    simp only [dk]
    exact ⟨Nat.le_refl _, env, by rw [List.append_nil]; rfl, g1, g2, g3⟩
  | j + 1, i, st, m, out, K, hj, hst, hm, ho, hK => by
    obtain ⟨hc, hb, hbb⟩ := cell_all S hst
    have h9 := S.hi
    have hpw : 2 ^ L ≤ 2 ^ 9 := Nat.pow_le_pow_right (by omega) (by omega)
    have hpb : 2 ^ bOf L sh st ≤ 2 ^ 9 := Nat.pow_le_pow_right (by omega) (by omega)
    have e47 := f47 L _ _ _ st (cellsTo L sh (2 ^ L)) l (fiTo sh sh.length) al hc
    simp only [dk]
    by_cases hmb : m < bOf L sh st
    · rw [if_pos hmb]
      have e45 := f45a bs m (bOf L sh st : Nat) (.inr (.inr (by omega)))
      obtain ⟨st1, e, hr⟩ := bad18 t L (cellsTo L sh (2 ^ L)) l (fiTo sh sh.length) al b0 bs out m m st n i _ _ _ _ (by omega) e47 e45
      exact ⟨_, loopH_ret e, st1, rfl, hr⟩
    · rw [if_neg hmb]
      have e45 := f45 bs m (bOf L sh st) hB hl hm (by omega) (by omega)
      generalize hv : leB bs / 2 ^ (m - bOf L sh st) % 2 ^ bOf L sh st = v at *
      have hvl : v < 2 ^ bOf L sh st := by rw [← hv]; exact Nat.mod_lt _ (Nat.two_pow_pos _)
      have e48 := f48 L v _ (bOf L sh st : Nat) (baseOf L sh st : Nat) ((2 ^ bOf L sh st : Nat) : Int) ((baseOf L sh st + v : Nat) : Int) st (cellsTo L sh (2 ^ L)) l (fiTo sh sh.length) al hc (by omega) (shl1 (by omega)) (fun _ _ => by rw [i64_in _ (by omega)]; omega)
      rw [if_pos ⟨by omega, by omega⟩] at e48
      obtain ⟨st1, e1, e2⟩ := body18 t L (cellsTo L sh (2 ^ L)) l (fiTo sh sh.length) al b0 bs out m _ st _ n i ((i + 1 : Nat) : Int) _ _ _ _ (by omega) (by omega) e47 e45 (i64_in _ (by omega)) e48 (by rw [i64_in _ (by omega)]; omega)
      obtain ⟨r, h1, h2⟩ := loop18 t S b0 bs hB hl n hn j (i + 1) (baseOf L sh st + v) (m - bOf L sh st) (out ++ [(((symOf sh).getD st 0 : Nat) : Int)]) (K - 1) (by omega) (by omega) (by omega) (by simp; omega) (by omega)
      refine ⟨r, by rw [loopH_norm e1 (by omega), e2]; exact h1, ?_⟩
      cases hd : dk L sh (leB bs) j (baseOf L sh st + v) (m - bOf L sh st) with
      | none => rw [hd] at h2; exact h2
      | some p =>
        obtain ⟨o, st', m'⟩ := p
        rw [hd] at h2
        simp only [Option.map_some]
        obtain ⟨q, env, q1, q2⟩ := h2
        rw [List.append_assoc] at q1
        exact ⟨by omega, env, q1, q2⟩
end Go.X.Try
set_option maxRecDepth 100000
set_option linter.unusedSimpArgs false
set_option linter.unusedVariables false
namespace Go.X.Try
open Go.IntWalk
/-! ### Decode, whole -/
def decO (L : Nat) (sh : List Nat) (bs : List Int) (n : Int) : Option (List Int) :=
  if bs = [] ∨ bs.getLast? = some 0 ∨ n < 0 ∨ 1048576 < n ∨ bl (leB bs) - 1 < L then none
  else match dk L sh (leB bs) n.toNat (leB bs / 2 ^ (bl (leB bs) - 1 - L) % 2 ^ L) (bl (leB bs) - 1 - L) with
    | some (o, st, m) => if st = 0 ∧ m = 0 then some o else none
    | none => none
def decR : Option (List Int) → AV
  | some _ => .tup [.one (.row 5), .one (.bool true)]
  | none => .tup [.one (.row 5), .one (.bool false)]
def decB : Option (List Int) → List Int
  | some o => o
  | none => []
section
variable (t : Nat) (L : Int) (cs : List (List Sc)) (l fi al : List Int) (bs : List Int) (n : Int)
theorem run18a (e44 : ∀ t, F44 [.one (.ro t (.ints .u8 bs))] [] = some (.tup [.one .nilp, .one (.bool false)], [])) :
    F18 [.one (.ptr 0 0), .one (.ro t (.ints .u8 bs)), .one (.int .i64 n)] (tabHp (some 0) L cs l fi al) = some (.tup [.one (.row 5), .one (.bool false)], tabHp (some 0) L cs l fi al ++ [.rows (.ints .u8 [])]) := by
  simp -implicitDefEqProofs [F18, c18, upd, tabHp, e44]
theorem run18b (m : Int) (e44 : ∀ t, F44 [.one (.ro t (.ints .u8 bs))] [] = some (.tup [.one (.ptr 0 0), .one (.bool true)], bufHp none bs m)) (hn : n < 0 ∨ 1048576 < n) :
    F18 [.one (.ptr 0 0), .one (.ro t (.ints .u8 bs)), .one (.int .i64 n)] (tabHp (some 0) L cs l fi al) = some (.tup [.one (.row 5), .one (.bool false)], tabHp (some 0) L cs l fi al ++ [.rows (.ints .u8 [])]) := by
  simp only [bufHp] at e44
  by_cases h : n < 0
  · simp -implicitDefEqProofs [F18, c18, upd, tabHp, e44, h]
  · have h2 : 1048576 < n := by omega
    simp -implicitDefEqProofs [F18, c18, upd, tabHp, e44, h, h2]
theorem run18c (m m' v : Int) (e44 : ∀ t, F44 [.one (.ro t (.ints .u8 bs))] [] = some (.tup [.one (.ptr 0 0), .one (.bool true)], bufHp none bs m)) (h1 : ¬ n < 0) (h2 : ¬ 1048576 < n)
    (e45 : F45 [.one (.ptr 0 0), .one (.int .i64 L)] (bufHp (some 0) bs m) = some (tup2 v false, bufHp (some 0) bs m')) :
    F18 [.one (.ptr 0 0), .one (.ro t (.ints .u8 bs)), .one (.int .i64 n)] (tabHp (some 0) L cs l fi al) = some (.tup [.one (.row 5), .one (.bool false)], tabHp (some 0) L cs l fi al ++ [.rows (.ints .u8 [])]) := by
  have e46 := f46 L cs l fi al
  simp only [bufHp, tabHp, tup2] at e44 e45 e46
  simp -implicitDefEqProofs [F18, c18, upd, tabHp, e44, e45, e46, h1, h2]
theorem run18d (m m' v : Int) (st1 : St) (e44 : ∀ t, F44 [.one (.ro t (.ints .u8 bs))] [] = some (.tup [.one (.ptr 0 0), .one (.bool true)], bufHp none bs m)) (h1 : ¬ n < 0) (h2 : ¬ 1048576 < n)
    (e45 : F45 [.one (.ptr 0 0), .one (.int .i64 L)] (bufHp (some 0) bs m) = some (tup2 v true, bufHp (some 0) bs m')) (wv : IntKind.i64.wrap v = v)
    (el : loopH (evC T18 KK b18x0) [0, 8, 11, 12, 47, 48] KK (canon18 t L cs l fi al bs bs [] m' v n 0) = some (.ret, st1)) (er : resC [(6, none), (7, none)] (some (.ret, st1)) = some (.tup [.one (.row 5), .one (.bool false)], tabHp (some 0) L cs l fi al ++ [.rows (.ints .u8 [])])) :
    F18 [.one (.ptr 0 0), .one (.ro t (.ints .u8 bs)), .one (.int .i64 n)] (tabHp (some 0) L cs l fi al) = some (.tup [.one (.row 5), .one (.bool false)], tabHp (some 0) L cs l fi al ++ [.rows (.ints .u8 [])]) := by
  have e46 := f46 L cs l fi al
  simp only [bufHp, tabHp, tup2, canon18, List.cons_append, List.nil_append] at e44 e45 e46 el
  rw [← er]
  simp -implicitDefEqProofs [F18, c18, upd, tabHp, e44, e45, e46, wv, h1, h2, el]
theorem run18e (m m' v st : Int) (o : List Int) (mm : Nat) (env : Env) (e44 : ∀ t, F44 [.one (.ro t (.ints .u8 bs))] [] = some (.tup [.one (.ptr 0 0), .one (.bool true)], bufHp none bs m)) (h1 : ¬ n < 0) (h2 : ¬ 1048576 < n)
    (e45 : F45 [.one (.ptr 0 0), .one (.int .i64 L)] (bufHp (some 0) bs m) = some (tup2 v true, bufHp (some 0) bs m')) (wv : IntKind.i64.wrap v = v)
    (el : loopH (evC T18 KK b18x0) [0, 8, 11, 12, 47, 48] KK (canon18 t L cs l fi al bs bs [] m' v n 0) = some (.exit 0, ⟨env, [.ptr 0 0, .ro t (.ints .u8 bs), .int .i64 n], tabHp (some 0) L cs l fi al ++ [.cells none [.row 6, .int .i64 mm], .rows (.ints .u8 bs), .rows (.ints .u8 o)]⟩))
    (g8 : getT 8 env = .one (.ptr 5 0)) (g11 : getT 11 env = .one (.int .i64 st)) (g12 : getT 12 env = .one (.row 7)) :
    F18 [.one (.ptr 0 0), .one (.ro t (.ints .u8 bs)), .one (.int .i64 n)] (tabHp (some 0) L cs l fi al) = some (.tup [.one (.row 5), .one (.bool (decide (st = 0 ∧ mm = 0)))], tabHp (some 0) L cs l fi al ++ [.rows (.ints .u8 (if st = 0 ∧ mm = 0 then o else []))]) := by
  have e46 := f46 L cs l fi al
  have e49 := f49 bs (mm : Int)
  simp only [bufHp, tabHp, tup2, canon18, List.cons_append, List.nil_append] at e44 e45 e46 el e49
  by_cases hs : st = 0
  · subst hs
    by_cases hm : mm = 0
    · subst hm
      have z : ((0 : Nat) : Int) = 0 := rfl
      rw [z] at el e49
      simp -implicitDefEqProofs [F18, c18, upd, tabHp, e44, e45, e46, e49, wv, h1, h2, el, g8, g11, g12]
    · have hm2 : 0 < mm := by omega
      have hm3 : (0 : Int) < mm := by omega
      simp -implicitDefEqProofs [F18, c18, upd, tabHp, e44, e45, e46, e49, wv, h1, h2, el, g8, g11, g12, hm, hm2, hm3]
  · simp -implicitDefEqProofs [F18, c18, upd, tabHp, e44, e45, e46, e49, wv, h1, h2, el, g8, g11, g12, hs]
end
theorem f18 (t : Nat) {l : List Int} {sh : List Nat} {L : Nat} (S : Shr l L sh) {al : List Int} (bs : List Int) (hB : isB bs) (hl : bs.length ≤ 10000) (n : Int) (hn : n ≤ 1000 ∨ 1048576 < n) :
    F18 [.one (.ptr 0 0), .one (.ro t (.ints .u8 bs)), .one (.int .i64 n)] (tabOf (some 0) L sh l al) = some (decR (decO L sh bs n), tabOf (some 0) L sh l al ++ [.rows (.ints .u8 (decB (decO L sh bs n)))]) := by
  have h9 := S.hi
  have hpw : 2 ^ L ≤ 2 ^ 9 := Nat.pow_le_pow_right (by omega) (by omega)
  unfold tabOf
  by_cases h0 : bs = [] ∨ bs.getLast? = some 0
  · have e44 := fun t => f44z t bs h0 (by omega)
    have : decO L sh bs n = none := by unfold decO; rw [if_pos (by rcases h0 with h | h <;> simp [h])]
    rw [this]
    exact run18a t L _ l _ al bs n e44
  · obtain ⟨h1, h2⟩ := not_or.1 h0
    obtain ⟨b, hb⟩ : ∃ b, bs.getLast? = some b := by
      cases e : bs.getLast? with
      | none => rw [List.getLast?_eq_none_iff] at e; exact absurd e h1
      | some b => exact ⟨b, rfl⟩
    have hb0 : b ≠ 0 := by rintro rfl; exact h2 hb
    have hbB := hB b (List.mem_of_getLast? hb)
    have hbl := bl_leB hB hb hb0
    have hb1 := (bl_pos (n := b.toNat) (by omega)).2.2
    have hb8 : bl b.toNat ≤ 8 := bl_le (by omega)
    have hlen : 0 < bs.length := List.length_pos_iff.2 h1
    have e44 := fun t => f44 t bs b hB hb hb0 (by omega)
    have hm : 8 * (bs.length - 1) + (bl b.toNat - 1) = bl (leB bs) - 1 := by omega
    rw [hm] at e44
    unfold decO
    by_cases h3 : n < 0 ∨ 1048576 < n
    · rw [if_pos (.inr (.inr (by omega)))]
      exact run18b t L _ l _ al bs n _ e44 h3
    obtain ⟨h4, h5⟩ := not_or.1 h3
    by_cases h6 : bl (leB bs) - 1 < L
    · rw [if_pos (.inr (.inr (.inr (.inr h6))))]
      exact run18c t L _ l _ al bs n _ _ _ e44 h4 h5 (f45a bs _ L (.inr (.inr (by omega))))
    rw [if_neg (by simp only [not_or]; exact ⟨h1, h2, h4, h5, h6⟩)]
    have e45 := f45 bs (bl (leB bs) - 1) L hB (by omega) (by omega) (by omega) (by omega)
    have hv : leB bs / 2 ^ (bl (leB bs) - 1 - L) % 2 ^ L < 2 ^ L := Nat.mod_lt _ (Nat.two_pow_pos _)
    obtain ⟨N, rfl⟩ : ∃ N : Nat, n = N := ⟨n.toNat, by omega⟩
    generalize leB bs / 2 ^ (bl (leB bs) - 1 - L) % 2 ^ L = v at *
    have hlp := fun t => loop18 t S (al := al) bs bs hB (by omega) N (by omega) N 0 v (bl (leB bs) - 1 - L) [] KK (by omega) hv (by omega) (by simp) (by rw [KK_eq]; omega)
    rw [Int.toNat_natCast]
    have z : ((0 : Nat) : Int) = 0 := rfl
    cases hd : dk L sh (leB bs) N v (bl (leB bs) - 1 - L) with
    | none =>
      rw [hd] at hlp
      obtain ⟨r, e1, st1, rfl, hr⟩ := hlp t
      rw [z] at e1
      exact run18d t L _ l _ al bs N _ _ v st1 e44 h4 h5 e45 (i64_in _ (by omega)) e1 hr
    | some p =>
      obtain ⟨o, st', m'⟩ := p
      rw [hd] at hlp
      obtain ⟨r, e1, hle, env, rfl, g8, g11, g12⟩ := hlp t
      rw [z] at e1
      have := run18e t L _ l _ al bs N _ _ v st' o m' env e44 h4 h5 e45 (i64_in _ (by omega)) e1 g8 g11 g12
      rw [this]
      by_cases hz : st' = 0 ∧ m' = 0
      · obtain ⟨rfl, rfl⟩ := hz
        simp [decR, decB]
      · have hz2 : ¬ ((st' : Int) = 0 ∧ m' = 0) := by omega
        simp only [if_neg hz, if_neg hz2, decide_eq_false hz2, decR, decB]
end Go.X.Try
set_option maxRecDepth 100000
set_option linter.unusedSimpArgs false
set_option linter.unusedVariables false
namespace Go.X.Try
open Go.IntWalk
/-! ### the document's Encode -/
def canon28 (t t2 : Nat) (L : Int) (cs : List (List Sc)) (xs out : List Int) (st i : Int) : St :=
  ⟨[(0, .one (.ro t (.recs 3 cs))), (1, .one (.int .i64 L)), (2, .one (.ro t2 (.ints .u8 xs))), (8, .one (.row 0)), (9, .one (.int .i64 st)), (10, .one (.int .i64 i))], [.ro t (.recs 3 cs), .int .i64 L, .ro t2 (.ints .u8 xs)], [.rows (.ints .i64 out)]⟩
theorem body28 (t t2 : Nat) (L : Int) (cs : List (List Sc)) (xs out bits : List Int) (st v k x s base i' : Int) (i a : Nat) (hx : xs[i]? = some x)
    (e68 : ∀ t, F68 [.one (.ro t (.recs 3 cs)), .one (.int .i64 st), .one (.int .u8 x)] [] = some (.tup [.one (.int .i64 a), .one (.int .i64 v), .one (.bool true)], []))
    (wv : IntKind.u32.wrap v = v) (hc : cs[a]? = some [.int .u8 s, .int .i64 k, .int .i64 base]) (e69 : F69 [.one (.int .u32 v), .one (.int .i64 k)] [] = some (.one (.row 0), [.rows (.ints .i64 bits)]))
    (ho : (out.length : Int) * 8 + bits.length * 8 ≤ 140737488355328) (ho2 : (out.length + bits.length) * 8 ≤ 140737488355328) (wi : IntKind.i64.wrap ((i : Int) - 1) = i') :
    ∃ st1, evC T28 KK b28x0 (canon28 t t2 L cs xs out st i) = some (.norm, st1) ∧ St.head [0, 1, 2, 8, 9, 10] st1 = canon28 t t2 L cs xs (out ++ bits) a i' := by
  have l1 := (List.getElem?_eq_some_iff.1 hx).1
  have l1i : (i : Int) < xs.length := by omega
  have l2 := (List.getElem?_eq_some_iff.1 hc).1
  have l2i : (a : Int) < cs.length := by omega
  have hx' : ∀ hh, xs[i]'hh = x := fun hh => by rw [List.getElem?_eq_getElem hh] at hx; simpa using hx
  have hc' : ∀ hh, cs[a]'hh = [Sc.int .u8 s, .int .i64 k, .int .i64 base] := fun hh => by rw [List.getElem?_eq_getElem hh] at hc; simpa using hc
  simp -implicitDefEqProofs [b28x0, canon28, upd, l1, l1i, l2, l2i, hx, hx', hc, hc', e68, wv, e69, ho, ho2, wi, takeE, RC.len, RC.size, RC.get, RC.elem, RC.app, RC.ofElems]
theorem bad28 (t t2 : Nat) (L : Int) (cs : List (List Sc)) (xs out : List Int) (st x : Int) (i : Nat) (hx : xs[i]? = some x)
    (e68 : ∀ t, F68 [.one (.ro t (.recs 3 cs)), .one (.int .i64 st), .one (.int .u8 x)] [] = some (.tup [.one (.int .i64 0), .one (.int .i64 0), .one (.bool false)], [])) :
    ∃ st1, evC T28 KK b28x0 (canon28 t t2 L cs xs out st i) = some (.ret, st1) ∧ resC [(6, none), (7, none)] (some (.ret, st1)) = some (.tup [.one (.row 0), .one (.bool false)], [.rows (.ints .i64 [])]) := by
  have l1 := (List.getElem?_eq_some_iff.1 hx).1
  have l1i : (i : Int) < xs.length := by omega
  have hx' : ∀ hh, xs[i]'hh = x := fun hh => by rw [List.getElem?_eq_getElem hh] at hx; simpa using hx
  refine ⟨?w, ?a, ?b⟩
  case a =>
    simp -implicitDefEqProofs [b28x0, canon28, upd, l1, l1i, hx, hx', e68, RC.len, RC.size, RC.get, RC.elem, RC.app, RC.ofElems]
    rfl
  case b => simp -implicitDefEqProofs []
theorem end28 (t t2 : Nat) (L : Int) (cs : List (List Sc)) (xs out : List Int) (st i : Int) (h : ¬ 0 ≤ i) :
    ∃ env, evC T28 KK b28x0 (canon28 t t2 L cs xs out st i) = some (.exit 0, ⟨env, [.ro t (.recs 3 cs), .int .i64 L, .ro t2 (.ints .u8 xs)], [.rows (.ints .i64 out)]⟩) ∧ getT 1 env = .one (.int .i64 L) ∧ getT 8 env = .one (.row 0) ∧ getT 9 env = .one (.int .i64 st) := by
  simp -implicitDefEqProofs [b28x0, canon28, upd, h]
theorem isN_app {a b : List Int} (ha : isN a) (hb : isN b) : isN (a ++ b) := fun x hx => by
  rcases List.mem_append.1 hx with h | h
  · exact ha x h
  · exact hb x h
theorem take_rev {xs : List Int} {j : Nat} {x : Int} (h : xs[j]? = some x) : (xs.take (j + 1)).reverse = x :: (xs.take j).reverse := by
  rw [List.take_add_one, h]; simp
theorem loop28 (t t2 : Nat) {l : List Int} {sh : List Nat} {L : Nat} (S : Shr l L sh) (xs : List Int) (hB : isB xs) (hl : xs.length ≤ 1000) : ∀ (j st c N : Nat) (out : List Int) (K : Nat), j ≤ xs.length → st < 2 ^ L → isN out → out.length = c → leN out = N → c + 9 * j ≤ 100000 → j < K →
    ∃ r, loopH (evC T28 KK b28x0) [0, 1, 2, 8, 9, 10] K (canon28 t t2 L (cellsTo L sh (2 ^ L)) xs out st ((j : Int) - 1)) = some r ∧
      (match wk L sh (xs.take j).reverse st c N with
      | none => ∃ st1, r = (.ret, st1) ∧ resC [(6, none), (7, none)] (some (.ret, st1)) = some (.tup [.one (.row 0), .one (.bool false)], [.rows (.ints .i64 [])])
      | some (st', c', N') => ∃ env o, r = (.exit 0, ⟨env, [.ro t (.recs 3 (cellsTo L sh (2 ^ L))), .int .i64 L, .ro t2 (.ints .u8 xs)], [.rows (.ints .i64 o)]⟩) ∧ getT 1 env = .one (.int .i64 L) ∧ getT 8 env = .one (.row 0) ∧ getT 9 env = .one (.int .i64 st') ∧ isN o ∧ o.length = c' ∧ leN o = N' ∧ st' < 2 ^ L ∧ c' ≤ c + 9 * j)
  | 0, st, c, N, out, K, hj, hst, hN, hc, hv, hcl, hK => by
    obtain ⟨env, e, g1, g2, g3⟩ := end28 t t2 L (cellsTo L sh (2 ^ L)) xs out st (((0 : Nat) : Int) - 1) (by omega)
    refine ⟨_, loopH_exit e, ?_⟩
    simp only [List.take_zero, List.reverse_nil, wk]
    exact ⟨env, out, rfl, g1, g2, g3, hN, hc, hv, hst, by omega⟩
  | j + 1, st, c, N, out, K, hj, hst, hN, hc, hv, hcl, hK => by
    obtain ⟨x, hx⟩ : ∃ x, xs[j]? = some x := ⟨_, List.getElem?_eq_getElem (by omega)⟩
    have hxB := hB x (List.mem_of_getElem? hx)
    obtain ⟨sb, rfl⟩ : ∃ sb : Nat, x = sb := ⟨x.toNat, by omega⟩
    have e68 := fun t => bk68 t S hst (sb := sb)
    rw [take_rev hx]
    simp only [wk, Int.toNat_natCast]
    have hj1 : ((j + 1 : Nat) : Int) - 1 = (j : Int) := by omega
    rw [hj1]
    cases e : bk L sh st sb with
    | none =>
      rw [e] at e68
      obtain ⟨st1, e1, hr⟩ := bad28 t t2 L (cellsTo L sh (2 ^ L)) xs out st sb j hx e68
      exact ⟨_, loopH_ret e1, st1, rfl, hr⟩
    | some i =>
      rw [e] at e68
      obtain ⟨h1, h2, h3, h4⟩ := bk_some S e
      obtain ⟨hci, hb, hbb⟩ := cell_all S h1
      have h9 := S.hi
      have hpw : 2 ^ bOf L sh i ≤ 2 ^ 9 := Nat.pow_le_pow_right (by omega) (by omega)
      have e69 := f69 (st - baseOf L sh i) (bOf L sh i) (by omega) (by omega)
      have hol := ofN_length (bOf L sh i) (st - baseOf L sh i)
      obtain ⟨st1, e1, e2⟩ := body28 t t2 L (cellsTo L sh (2 ^ L)) xs out _ st _ _ sb _ _ ((j : Int) - 1) j i hx e68 (u32_in _ (by omega)) hci e69 (by omega) (by omega) (i64_in _ (by omega))
      obtain ⟨r, q1, q2⟩ := loop28 t t2 S xs hB hl j i (c + bOf L sh i) (N + (st - baseOf L sh i) * 2 ^ c) (out ++ ofN (st - baseOf L sh i) (bOf L sh i)) (K - 1) (by omega) h1 (isN_app hN (ofN_isN _ _)) (by rw [List.length_append, hol, hc]) (by rw [leN_append, leN_ofN, hv, hc, mod_small (by omega), Nat.mul_comm]) (by omega) (by omega)
      refine ⟨r, by rw [loopH_norm e1 (by omega), e2]; exact q1, ?_⟩
      dsimp only
      cases hd : wk L sh (xs.take j).reverse i (c + bOf L sh i) (N + (st - baseOf L sh i) * 2 ^ c) with
      | none => rw [hd] at q2; exact q2
      | some p =>
        obtain ⟨st', c', N'⟩ := p
        rw [hd] at q2
        obtain ⟨env, o, p1, p2, p3, p4, p5, p6, p7, p8, p9⟩ := q2
        exact ⟨env, o, p1, p2, p3, p4, p5, p6, p7, p8, by omega⟩
theorem run28a (t t2 : Nat) (L : Int) (cs : List (List Sc)) (xs : List Int) (st1 : St) (i : Int) (wi : IntKind.i64.wrap ((xs.length : Int) - 1) = i)
    (el : loopH (evC T28 KK b28x0) [0, 1, 2, 8, 9, 10] KK (canon28 t t2 L cs xs [] 0 i) = some (.ret, st1)) (er : resC [(6, none), (7, none)] (some (.ret, st1)) = some (.tup [.one (.row 0), .one (.bool false)], [.rows (.ints .i64 [])])) :
    F28 [.one (.ro t (.recs 3 cs)), .one (.int .i64 L), .one (.ro t2 (.ints .u8 xs))] [] = some (.tup [.one (.row 0), .one (.bool false)], [.rows (.ints .i64 [])]) := by
  simp only [canon28] at el
  rw [← er]
  simp -implicitDefEqProofs [F28, c28, upd, wi, el, RC.len, RC.size]
theorem run28b (t t2 : Nat) (L : Int) (cs : List (List Sc)) (xs o bits : List Int) (env : Env) (st i : Int) (wi : IntKind.i64.wrap ((xs.length : Int) - 1) = i)
    (el : loopH (evC T28 KK b28x0) [0, 1, 2, 8, 9, 10] KK (canon28 t t2 L cs xs [] 0 i) = some (.exit 0, ⟨env, [.ro t (.recs 3 cs), .int .i64 L, .ro t2 (.ints .u8 xs)], [.rows (.ints .i64 o)]⟩)) (g1 : getT 1 env = .one (.int .i64 L)) (g8 : getT 8 env = .one (.row 0)) (g9 : getT 9 env = .one (.int .i64 st))
    (ws : IntKind.u32.wrap st = st) (e69 : F69 [.one (.int .u32 st), .one (.int .i64 L)] [] = some (.one (.row 0), [.rows (.ints .i64 bits)])) 
    (ho : (o.length : Int) * 8 + bits.length * 8 ≤ 140737488355328) (ho2 : (o.length + bits.length) * 8 ≤ 140737488355328) :
    F28 [.one (.ro t (.recs 3 cs)), .one (.int .i64 L), .one (.ro t2 (.ints .u8 xs))] [] = some (.tup [.one (.row 0), .one (.bool true)], [.rows (.ints .i64 (o ++ bits))]) := by
  simp only [canon28] at el
  simp -implicitDefEqProofs [F28, c28, upd, wi, el, g1, g8, g9, ws, e69, ho, ho2, RC.len, RC.size, RC.app]
theorem f28n (t t2 : Nat) {l : List Int} {sh : List Nat} {L : Nat} (S : Shr l L sh) (xs : List Int) (hB : isB xs) (hl : xs.length ≤ 1000) (h : wk L sh xs.reverse 0 0 0 = none) :
    F28 [.one (.ro t (.recs 3 (cellsTo L sh (2 ^ L)))), .one (.int .i64 L), .one (.ro t2 (.ints .u8 xs))] [] = some (.tup [.one (.row 0), .one (.bool false)], [.rows (.ints .i64 [])]) := by
  obtain ⟨r, e, hr⟩ := loop28 t t2 S xs hB hl xs.length 0 0 0 [] KK (Nat.le_refl _) (Nat.two_pow_pos L) (by simp [isN]) rfl rfl (by omega) (by rw [KK_eq]; omega)
  rw [List.take_length, h] at hr
  obtain ⟨st1, rfl, er⟩ := hr
  exact run28a t t2 L _ xs st1 _ (i64_in _ (by omega)) e er
theorem f28 (t t2 : Nat) {l : List Int} {sh : List Nat} {L : Nat} (S : Shr l L sh) (xs : List Int) (hB : isB xs) (hl : xs.length ≤ 1000) {st c N : Nat} (h : wk L sh xs.reverse 0 0 0 = some (st, c, N)) :
    ∃ o, F28 [.one (.ro t (.recs 3 (cellsTo L sh (2 ^ L)))), .one (.int .i64 L), .one (.ro t2 (.ints .u8 xs))] [] = some (.tup [.one (.row 0), .one (.bool true)], [.rows (.ints .i64 o)]) ∧ isN o ∧ o.length = c + L ∧ leN o = N + st * 2 ^ c := by
  have h9 := S.hi
  have hpw : 2 ^ L ≤ 2 ^ 9 := Nat.pow_le_pow_right (by omega) (by omega)
  obtain ⟨r, e, hr⟩ := loop28 t t2 S xs hB hl xs.length 0 0 0 [] KK (Nat.le_refl _) (Nat.two_pow_pos L) (by simp [isN]) rfl rfl (by omega) (by rw [KK_eq]; omega)
  rw [List.take_length, h] at hr
  obtain ⟨env, o, rfl, g1, g8, g9, p4, p5, p6, p7, p8⟩ := hr
  have hol := ofN_length L st
  exact ⟨o ++ ofN st L, run28b t t2 L _ xs o _ env st _ (i64_in _ (by omega)) e g1 g8 g9 (u32_in _ (by omega)) (f69 st L (by omega) (by omega)) (by omega) (by omega), isN_app p4 (ofN_isN _ _), by rw [List.length_append, hol, p5], by rw [leN_append, leN_ofN, p5, p6, mod_small p7, Nat.mul_comm]⟩
/-! ### the document's Decode -/
def canon19 (t t2 : Nat) (L : Int) (cs : List (List Sc)) (bs A out : List Int) (m : Nat) (st n i : Int) : St :=
  ⟨[(0, .one (.ro t (.recs 3 cs))), (3, .one (.int .i64 n)), (10, .one (.view 0 0 m)), (12, .one (.int .i64 st)), (13, .one (.row 1)), (14, .one (.int .i64 i))], [.ro t (.recs 3 cs), .int .i64 L, .ro t2 (.ints .u8 bs), .int .i64 n], [.rows (.ints .i64 A), .rows (.ints .u8 out)]⟩
theorem body19 (t t2 : Nat) (L : Int) (cs : List (List Sc)) (bs A out : List Int) (m k st : Nat) (st' n i i' s base v : Int) (hi : i < n) (hm : m ≤ A.length) (hk : k ≤ m) (hc : cs[st]? = some [.int .u8 s, .int .i64 k, .int .i64 base]) (ho : out.length ≤ 140737488355327)
    (wk : IntKind.i64.wrap ((m : Int) - k) = ((m - k : Nat) : Int))
    (e51 : ∀ t, F51 [.one (.ro t (.ints .i64 ((A.drop (m - k)).take k)))] [] = some (.one (.int .u32 v), [])) (wv : IntKind.i64.wrap v = v) (ws : IntKind.i64.wrap (base + v) = st') (wi : IntKind.i64.wrap (i + 1) = i') :
    ∃ st1, evC T19 KK b19x0 (canon19 t t2 L cs bs A out m st n i) = some (.norm, st1) ∧ St.head [0, 3, 10, 12, 13, 14] st1 = canon19 t t2 L cs bs A (out ++ [s]) (m - k) st' n i' := by
  have l2 := (List.getElem?_eq_some_iff.1 hc).1
  have l2i : (st : Int) < cs.length := by omega
  have hc' : ∀ hh, cs[st]'hh = [Sc.int .u8 s, .int .i64 k, .int .i64 base] := fun hh => by rw [List.getElem?_eq_getElem hh] at hc; simpa using hc
  have hk1 : ¬ (m : Int) < k := by omega
  have hk2 : ¬ m < k := by omega
  have h3 : m - k ≤ m := by omega
  have h3i : ((m - k : Nat) : Int) ≤ m := by omega
  have h4 : m - k ≤ A.length := by omega
  have h5 : m - (m - k) = k := by omega
  simp -implicitDefEqProofs [b19x0, canon19, upd, hi, hm, l2, l2i, hc, hc', hk1, hk2, ho, wk, e51, wv, ws, wi, h3, h3i, h4, h5, takeE, RC.len, RC.size, RC.get, RC.elem, RC.app, RC.ofElems]
end Go.X.Try
set_option maxRecDepth 100000
set_option linter.unusedSimpArgs false
set_option linter.unusedVariables false
namespace Go.X.Try
open Go.IntWalk
theorem bad19 (t t2 : Nat) (L : Int) (cs : List (List Sc)) (bs A out : List Int) (m k st : Nat) (n i s base : Int) (hi : i < n) (hm : m ≤ A.length) (hk : m < k) (hc : cs[st]? = some [.int .u8 s, .int .i64 k, .int .i64 base]) :
    ∃ st1, evC T19 KK b19x0 (canon19 t t2 L cs bs A out m st n i) = some (.ret, st1) ∧ resC [(8, none), (9, none)] (some (.ret, st1)) = some (.tup [.one (.row 0), .one (.bool false)], [.rows (.ints .u8 [])]) := by
  have l2 := (List.getElem?_eq_some_iff.1 hc).1
  have l2i : (st : Int) < cs.length := by omega
  have hc' : ∀ hh, cs[st]'hh = [Sc.int .u8 s, .int .i64 k, .int .i64 base] := fun hh => by rw [List.getElem?_eq_getElem hh] at hc; simpa using hc
  have hk1 : (m : Int) < k := by omega
  refine ⟨?w, ?a, ?b⟩
  case a =>
    simp -implicitDefEqProofs [b19x0, canon19, upd, hi, hm, l2, l2i, hc, hc', hk, hk1, takeE, RC.len, RC.size, RC.get, RC.elem, RC.app, RC.ofElems]
    rfl
  case b => simp -implicitDefEqProofs []
theorem end19 (t t2 : Nat) (L : Int) (cs : List (List Sc)) (bs A out : List Int) (m : Nat) (st n i : Int) (hi : ¬ i < n) :
    ∃ env, evC T19 KK b19x0 (canon19 t t2 L cs bs A out m st n i) = some (.exit 0, ⟨env, [.ro t (.recs 3 cs), .int .i64 L, .ro t2 (.ints .u8 bs), .int .i64 n], [.rows (.ints .i64 A), .rows (.ints .u8 out)]⟩) ∧ getT 10 env = .one (.view 0 0 m) ∧ getT 12 env = .one (.int .i64 st) ∧ getT 13 env = .one (.row 1) := by
  simp -implicitDefEqProofs [b19x0, canon19, upd, hi]
theorem isN_cut {A : List Int} (h : isN A) (a b : Nat) : isN ((A.drop a).take b) := fun x hx => h x (List.mem_of_mem_drop (List.mem_of_mem_take hx))
theorem leN_cut {A : List Int} (h : isN A) (a b : Nat) : leN ((A.drop a).take b) = leN A / 2 ^ a % 2 ^ b := by
  rw [leN_take b (fun x hx => h x (List.mem_of_mem_drop hx)), leN_drop a h]
theorem loop19 (t t2 : Nat) {l : List Int} {sh : List Nat} {L : Nat} (S : Shr l L sh) (bs A : List Int) (hN : isN A) (n : Nat) (hn : n ≤ 1000) (hA : A.length ≤ 100000) : ∀ (j i st m : Nat) (out : List Int) (K : Nat), i + j = n → st < 2 ^ L → m ≤ A.length → out.length ≤ i → j < K →
    ∃ r, loopH (evC T19 KK b19x0) [0, 3, 10, 12, 13, 14] K (canon19 t t2 L (cellsTo L sh (2 ^ L)) bs A out m st n i) = some r ∧
      (match dk L sh (leN A) j st m with
      | none => ∃ st1, r = (.ret, st1) ∧ resC [(8, none), (9, none)] (some (.ret, st1)) = some (.tup [.one (.row 0), .one (.bool false)], [.rows (.ints .u8 [])])
      | some (o, st', m') => ∃ env, r = (.exit 0, ⟨env, [.ro t (.recs 3 (cellsTo L sh (2 ^ L))), .int .i64 L, .ro t2 (.ints .u8 bs), .int .i64 n], [.rows (.ints .i64 A), .rows (.ints .u8 (out ++ o))]⟩) ∧ m' ≤ A.length ∧ getT 10 env = .one (.view 0 0 m') ∧ getT 12 env = .one (.int .i64 st') ∧ getT 13 env = .one (.row 1))
  | 0, i, st, m, out, K, hj, hst, hm, ho, hK => by
    obtain ⟨env, e, g1, g2, g3⟩ := end19 t t2 L (cellsTo L sh (2 ^ L)) bs A out m st n i (by omega)
    refine ⟨_, loopH_exit e, ?_⟩
    simp only [dk]
    exact ⟨env, by rw [List.append_nil], hm, g1, g2, g3⟩
  | j + 1, i, st, m, out, K, hj, hst, hm, ho, hK => by
    obtain ⟨hc, hb, hbb⟩ := cell_all S hst
    have h9 := S.hi
    have hpw : 2 ^ L ≤ 2 ^ 9 := Nat.pow_le_pow_right (by omega) (by omega)
    have hpb : 2 ^ bOf L sh st ≤ 2 ^ 9 := Nat.pow_le_pow_right (by omega) (by omega)
    simp only [dk]
    by_cases hmb : m < bOf L sh st
    · rw [if_pos hmb]
      obtain ⟨st1, e, hr⟩ := bad19 t t2 L (cellsTo L sh (2 ^ L)) bs A out m _ st n i _ _ (by omega) hm hmb hc
      exact ⟨_, loopH_ret e, st1, rfl, hr⟩
    · rw [if_neg hmb]
      have e51 := fun t => f51 t ((A.drop (m - bOf L sh st)).take (bOf L sh st)) (isN_cut hN _ _) (by rw [List.length_take]; omega)
      rw [leN_cut hN] at e51
      generalize hv : leN A / 2 ^ (m - bOf L sh st) % 2 ^ bOf L sh st = v at *
      have hvl : v < 2 ^ bOf L sh st := by rw [← hv]; exact Nat.mod_lt _ (Nat.two_pow_pos _)
      obtain ⟨st1, e1, e2⟩ := body19 t t2 L (cellsTo L sh (2 ^ L)) bs A out m _ st ((baseOf L sh st + v : Nat) : Int) n i ((i + 1 : Nat) : Int) _ _ v (by omega) hm (by omega) hc (by omega) (by rw [i64_in _ (by omega)]; omega) e51 (i64_in _ (by omega)) (by rw [i64_in _ (by omega)]; omega) (by rw [i64_in _ (by omega)]; omega)
      obtain ⟨r, h1, h2⟩ := loop19 t t2 S bs A hN n hn hA j (i + 1) (baseOf L sh st + v) (m - bOf L sh st) (out ++ [(((symOf sh).getD st 0 : Nat) : Int)]) (K - 1) (by omega) (by omega) (by omega) (by simp; omega) (by omega)
      refine ⟨r, by rw [loopH_norm e1 (by omega), e2]; exact h1, ?_⟩
      cases hd : dk L sh (leN A) j (baseOf L sh st + v) (m - bOf L sh st) with
      | none => rw [hd] at h2; exact h2
      | some p =>
        obtain ⟨o, st', m'⟩ := p
        rw [hd] at h2
        simp only [Option.map_some]
        obtain ⟨env, q1, q2⟩ := h2
        rw [List.append_assoc] at q1
        exact ⟨env, q1, q2⟩
section
variable (t t2 : Nat) (L : Int) (cs : List (List Sc)) (bs A : List Int) (n : Int)
theorem run19a (e50 : ∀ t, F50 [.one (.ro t (.ints .u8 bs))] [] = some (.tup [.one (.row 0), .one (.bool false)], [.rows (.ints .i64 [])])) :
    F19 [.one (.ro t (.recs 3 cs)), .one (.int .i64 L), .one (.ro t2 (.ints .u8 bs)), .one (.int .i64 n)] [] = some (.tup [.one (.row 0), .one (.bool false)], [.rows (.ints .u8 [])]) := by
  simp -implicitDefEqProofs [F19, c19, upd, e50]
theorem run19b (m : Nat) (hm : m ≤ A.length) (e50 : ∀ t, F50 [.one (.ro t (.ints .u8 bs))] [] = some (.tup [.one (.view 0 0 m), .one (.bool true)], [.rows (.ints .i64 A)])) (hn : n < 0 ∨ 1048576 < n ∨ (m : Int) < L) :
    F19 [.one (.ro t (.recs 3 cs)), .one (.int .i64 L), .one (.ro t2 (.ints .u8 bs)), .one (.int .i64 n)] [] = some (.tup [.one (.row 0), .one (.bool false)], [.rows (.ints .u8 [])]) := by
  by_cases h : n < 0
  · simp -implicitDefEqProofs [F19, c19, upd, e50, h]
  · by_cases h2 : 1048576 < n
    · simp -implicitDefEqProofs [F19, c19, upd, e50, h, h2]
    · have h3 : (m : Int) < L := by omega
      simp -implicitDefEqProofs [F19, c19, upd, e50, h, h2, h3, hm, RC.len, RC.size]
theorem run19d (m k : Nat) (v : Int) (st1 : St) (hm : m ≤ A.length) (hL : L = k) (hk : k ≤ m) (e50 : ∀ t, F50 [.one (.ro t (.ints .u8 bs))] [] = some (.tup [.one (.view 0 0 m), .one (.bool true)], [.rows (.ints .i64 A)])) (h1 : ¬ n < 0) (h2 : ¬ 1048576 < n)
    (wk : IntKind.i64.wrap ((m : Int) - k) = ((m - k : Nat) : Int)) (e51 : ∀ t, F51 [.one (.ro t (.ints .i64 ((A.drop (m - k)).take k)))] [] = some (.one (.int .u32 v), [])) (wv : IntKind.i64.wrap v = v)
    (el : loopH (evC T19 KK b19x0) [0, 3, 10, 12, 13, 14] KK (canon19 t t2 L cs bs A [] (m - k) v n 0) = some (.ret, st1)) (er : resC [(8, none), (9, none)] (some (.ret, st1)) = some (.tup [.one (.row 0), .one (.bool false)], [.rows (.ints .u8 [])])) :
    F19 [.one (.ro t (.recs 3 cs)), .one (.int .i64 L), .one (.ro t2 (.ints .u8 bs)), .one (.int .i64 n)] [] = some (.tup [.one (.row 0), .one (.bool false)], [.rows (.ints .u8 [])]) := by
  subst hL
  have hk1 : ¬ (m : Int) < k := by omega
  have hk2 : ¬ m < k := by omega
  have h3 : m - k ≤ m := by omega
  have h3i : ((m - k : Nat) : Int) ≤ m := by omega
  have h4 : m - k ≤ A.length := by omega
  have h5 : m - (m - k) = k := by omega
  simp only [canon19] at el
  rw [← er]
  simp -implicitDefEqProofs [F19, c19, upd, e50, h1, h2, hm, hk1, hk2, h3, h3i, h4, h5, wk, e51, wv, el, takeE, RC.len, RC.size]
theorem run19e (m k : Nat) (v st : Int) (o : List Int) (mm : Nat) (env : Env) (hm : m ≤ A.length) (hmm : mm ≤ A.length) (hL : L = k) (hk : k ≤ m) (e50 : ∀ t, F50 [.one (.ro t (.ints .u8 bs))] [] = some (.tup [.one (.view 0 0 m), .one (.bool true)], [.rows (.ints .i64 A)])) (h1 : ¬ n < 0) (h2 : ¬ 1048576 < n)
    (wk : IntKind.i64.wrap ((m : Int) - k) = ((m - k : Nat) : Int)) (e51 : ∀ t, F51 [.one (.ro t (.ints .i64 ((A.drop (m - k)).take k)))] [] = some (.one (.int .u32 v), [])) (wv : IntKind.i64.wrap v = v)
    (el : loopH (evC T19 KK b19x0) [0, 3, 10, 12, 13, 14] KK (canon19 t t2 L cs bs A [] (m - k) v n 0) = some (.exit 0, ⟨env, [.ro t (.recs 3 cs), .int .i64 L, .ro t2 (.ints .u8 bs), .int .i64 n], [.rows (.ints .i64 A), .rows (.ints .u8 o)]⟩))
    (g10 : getT 10 env = .one (.view 0 0 mm)) (g12 : getT 12 env = .one (.int .i64 st)) (g13 : getT 13 env = .one (.row 1)) :
    F19 [.one (.ro t (.recs 3 cs)), .one (.int .i64 L), .one (.ro t2 (.ints .u8 bs)), .one (.int .i64 n)] [] = some (.tup [.one (.row 0), .one (.bool (decide (st = 0 ∧ mm = 0)))], [.rows (.ints .u8 (if st = 0 ∧ mm = 0 then o else []))]) := by
  subst hL
  have hk1 : ¬ (m : Int) < k := by omega
  have hk2 : ¬ m < k := by omega
  have h3 : m - k ≤ m := by omega
  have h3i : ((m - k : Nat) : Int) ≤ m := by omega
  have h4 : m - k ≤ A.length := by omega
  have h5 : m - (m - k) = k := by omega
  simp only [canon19] at el
  by_cases hs : st = 0
  · subst hs
    by_cases hm0 : mm = 0
    · subst hm0
      simp -implicitDefEqProofs [F19, c19, upd, e50, h1, h2, hm, hmm, hk1, hk2, h3, h3i, h4, h5, wk, e51, wv, el, g10, g12, g13, takeE, RC.len, RC.size]
    · have hm2 : 0 < mm := by omega
      have hm3 : (0 : Int) < mm := by omega
      simp -implicitDefEqProofs [F19, c19, upd, e50, h1, h2, hm, hmm, hk1, hk2, h3, h3i, h4, h5, wk, e51, wv, el, g10, g12, g13, hm0, hm2, hm3, takeE, RC.len, RC.size]
  · simp -implicitDefEqProofs [F19, c19, upd, e50, h1, h2, hm, hmm, hk1, hk2, h3, h3i, h4, h5, wk, e51, wv, el, g10, g12, g13, hs, takeE, RC.len, RC.size]
end
def decS : Option (List Int) → AV
  | some _ => .tup [.one (.row 0), .one (.bool true)]
  | none => .tup [.one (.row 0), .one (.bool false)]
theorem f19 (t t2 : Nat) {l : List Int} {sh : List Nat} {L : Nat} (S : Shr l L sh) (bs : List Int) (hB : isB bs) (hl : bs.length ≤ 10000) (n : Int) (hn : n ≤ 1000 ∨ 1048576 < n) :
    F19 [.one (.ro t (.recs 3 (cellsTo L sh (2 ^ L)))), .one (.int .i64 L), .one (.ro t2 (.ints .u8 bs)), .one (.int .i64 n)] [] = some (decS (decO L sh bs n), [.rows (.ints .u8 (decB (decO L sh bs n)))]) := by
  have h9 := S.hi
  have hpw : 2 ^ L ≤ 2 ^ 9 := Nat.pow_le_pow_right (by omega) (by omega)
  by_cases h0 : bs = [] ∨ bs.getLast? = some 0
  · have e50 := fun t => f50z t bs h0 (by omega)
    have : decO L sh bs n = none := by unfold decO; rw [if_pos (by rcases h0 with h | h <;> simp [h])]
    rw [this]
    exact run19a t t2 L _ bs n e50
  · obtain ⟨h1, h2⟩ := not_or.1 h0
    obtain ⟨b, hb⟩ : ∃ b, bs.getLast? = some b := by
      cases e : bs.getLast? with
      | none => rw [List.getLast?_eq_none_iff] at e; exact absurd e h1
      | some b => exact ⟨b, rfl⟩
    have hb0 : b ≠ 0 := by rintro rfl; exact h2 hb
    have e50' := fun t => f50 t bs b hB hb hb0 (by omega)
    obtain ⟨A, e50, hN, hA, hml, hAl⟩ := e50' 0
    have e50 : ∀ t, F50 [.one (.ro t (.ints .u8 bs))] [] = some (.tup [.one (.view 0 0 (bl (leB bs) - 1)), .one (.bool true)], [.rows (.ints .i64 A)]) := fun t => by
      obtain ⟨A', e, hN', hA', _, hAl'⟩ := e50' t
      rw [leN_inj hN hN' (by omega) (by omega)]
      exact e
    unfold decO
    by_cases h3 : n < 0 ∨ 1048576 < n ∨ bl (leB bs) - 1 < L
    · rw [if_pos (.inr (.inr h3))]
      exact run19b t t2 L _ bs A n _ (by omega) e50 (by omega)
    rw [if_neg (by simp only [not_or] at h3 ⊢; exact ⟨h1, h2, h3⟩)]
    simp only [not_or] at h3
    obtain ⟨h4, h5, h6⟩ := h3
    have e51 := fun t => f51 t ((A.drop (bl (leB bs) - 1 - L)).take L) (isN_cut hN _ _) (by rw [List.length_take]; omega)
    rw [leN_cut hN, hA] at e51
    have hv : leB bs / 2 ^ (bl (leB bs) - 1 - L) % 2 ^ L < 2 ^ L := Nat.mod_lt _ (Nat.two_pow_pos _)
    obtain ⟨N, rfl⟩ : ∃ N : Nat, n = N := ⟨n.toNat, by omega⟩
    generalize leB bs / 2 ^ (bl (leB bs) - 1 - L) % 2 ^ L = v at *
    obtain ⟨r, e1, hlp⟩ := loop19 t t2 S bs A hN N (by omega) (by omega) N 0 v (bl (leB bs) - 1 - L) [] KK (by omega) hv (by omega) (by simp) (by rw [KK_eq]; omega)
    rw [Int.toNat_natCast]
    have z : ((0 : Nat) : Int) = 0 := rfl
    rw [z] at e1
    rw [hA] at hlp
    have wk : IntKind.i64.wrap (((bl (leB bs) - 1 : Nat) : Int) - (L : Int)) = ((bl (leB bs) - 1 - L : Nat) : Int) := by rw [i64_in _ (by omega)]; omega
    cases hd : dk L sh (leB bs) N v (bl (leB bs) - 1 - L) with
    | none =>
      rw [hd] at hlp
      obtain ⟨st1, rfl, hr⟩ := hlp
      exact run19d t t2 L _ bs A N _ L v st1 (by omega) rfl (by omega) e50 h4 h5 wk e51 (i64_in _ (by omega)) e1 hr
    | some p =>
      obtain ⟨o, st', m'⟩ := p
      rw [hd] at hlp
      obtain ⟨env, rfl, hmm, g10, g12, g13⟩ := hlp
      have := run19e t t2 L _ bs A N _ L v st' o m' env (by omega) hmm rfl (by omega) e50 h4 h5 wk e51 (i64_in _ (by omega)) e1 g10 g12 g13
      rw [this]
      by_cases hz : st' = 0 ∧ m' = 0
      · obtain ⟨rfl, rfl⟩ := hz
        simp [decS, decB]
      · have hz2 : ¬ ((st' : Int) = 0 ∧ m' = 0) := by omega
        simp only [if_neg hz, if_neg hz2, decide_eq_false hz2, decS, decB]
end Go.X.Try
set_option maxRecDepth 100000
set_option linter.unusedSimpArgs false
set_option linter.unusedVariables false
namespace Go.X.Try
open Go.IntWalk
/-! ### there and back -/
theorem mod_lo {M N c0 c : Nat} (h : c0 ≤ c) (e : M % 2 ^ c = N) : M % 2 ^ c0 = N % 2 ^ c0 := by
  rw [← e, Nat.mod_mod_of_dvd _ (Nat.pow_dvd_pow 2 h)]
theorem wk_dk {l : List Int} {sh : List Nat} {L : Nat} (S : Shr l L sh) : ∀ (ys : List Int) (st0 c0 N0 st c N : Nat), isB ys → st0 < 2 ^ L → N0 < 2 ^ c0 → wk L sh ys st0 c0 N0 = some (st, c, N) →
    N < 2 ^ c ∧ c0 ≤ c ∧ c ≤ c0 + L * ys.length ∧ N % 2 ^ c0 = N0 ∧ st < 2 ^ L ∧ ∀ M n, M % 2 ^ c = N → dk L sh M (n + ys.length) st c = (dk L sh M n st0 c0).map fun r => (ys.reverse ++ r.1, r.2)
  | [], st0, c0, N0, st, c, N, _, hst, hN, h => by
    simp only [wk, Option.some.injEq, Prod.mk.injEq] at h
    obtain ⟨rfl, rfl, rfl⟩ := h
    refine ⟨hN, Nat.le_refl _, by simp, Nat.mod_eq_of_lt hN, hst, fun M n _ => ?_⟩
    cases h : dk L sh M n st0 c0 <;> simp [h]
  | y :: ys, st0, c0, N0, st, c, N, hB, hst, hN, h => by
    have hy := hB y (by simp)
    simp only [wk] at h
    cases e : bk L sh st0 y.toNat with
    | none => rw [e] at h; simp at h
    | some i =>
      rw [e] at h
      obtain ⟨h1, h2, h3, h4⟩ := bk_some S e
      have hv : st0 - baseOf L sh i < 2 ^ bOf L sh i := by omega
      have hb := bOf_le S h1
      have hN1 : N0 + (st0 - baseOf L sh i) * 2 ^ c0 < 2 ^ (c0 + bOf L sh i) := by
        rw [Nat.pow_add, Nat.mul_comm (2 ^ c0)]
        have := Nat.mul_le_mul_right (2 ^ c0) (Nat.succ_le_of_lt hv)
        rw [Nat.succ_mul] at this
        omega
      obtain ⟨q1, q2, q5, q3, q4, q⟩ := wk_dk S ys i (c0 + bOf L sh i) _ st c N (fun b hb => hB b (by simp [hb])) h1 hN1 h
      have hlow : N % 2 ^ c0 = N0 := by
        have := mod_lo (M := N) (Nat.le_add_right c0 (bOf L sh i)) q3
        rw [this, Nat.add_mul_mod_self_right, Nat.mod_eq_of_lt hN]
      refine ⟨q1, by omega, by rw [List.length_cons, Nat.mul_add]; omega, hlow, q4, fun M n hM => ?_⟩
      have hM1 : M % 2 ^ (c0 + bOf L sh i) = N0 + (st0 - baseOf L sh i) * 2 ^ c0 := by rw [mod_lo q2 hM, q3]
      have hM0 : M % 2 ^ c0 = N0 := by rw [mod_lo (by omega) hM, hlow]
      have hvM : M / 2 ^ c0 % 2 ^ bOf L sh i = st0 - baseOf L sh i := by
        rw [mod_more, hM0] at hM1
        exact Nat.eq_of_mul_eq_mul_right (Nat.two_pow_pos c0) (by omega)
      have hsy : (((symOf sh).getD i 0 : Nat) : Int) = y := by rw [getD_some h2]; omega
      rw [List.length_cons, show n + (ys.length + 1) = (n + 1) + ys.length by omega, q M (n + 1) hM]
      simp only [dk]
      rw [if_neg (by omega), show c0 + bOf L sh i - bOf L sh i = c0 by omega, hvM, show baseOf L sh i + (st0 - baseOf L sh i) = st0 by omega, hsy]
      cases dk L sh M n st0 c0 <;> simp
theorem dk_wk {l : List Int} {sh : List Nat} {L : Nat} (S : Shr l L sh) (M : Nat) : ∀ (n st m : Nat) (out : List Int) (st' m' : Nat), st < 2 ^ L → dk L sh M n st m = some (out, st', m') →
    out.length = n ∧ isB out ∧ ∀ ys, wk L sh (out.reverse ++ ys) st' m' (M % 2 ^ m') = wk L sh ys st m (M % 2 ^ m)
  | 0, st, m, out, st', m', hst, h => by
    simp only [dk, Option.some.injEq, Prod.mk.injEq] at h
    obtain ⟨rfl, rfl, rfl⟩ := h
    exact ⟨rfl, by simp [isB], fun ys => rfl⟩
  | n + 1, st, m, out, st', m', hst, h => by
    obtain ⟨s, k, h1, h2, h3, h4, h5, h6, h7, h8, h9, h10⟩ := cellSc_ok S hst
    obtain ⟨_, hb, hbb⟩ := cell_all S hst
    simp only [dk] at h
    split at h
    · simp at h
    · rename_i hm
      have hv : M / 2 ^ (m - bOf L sh st) % 2 ^ bOf L sh st < 2 ^ bOf L sh st := Nat.mod_lt _ (Nat.two_pow_pos _)
      have hmm := mod_more M (m - bOf L sh st) (bOf L sh st)
      rw [show m - bOf L sh st + bOf L sh st = m by omega] at hmm
      generalize M / 2 ^ (m - bOf L sh st) % 2 ^ bOf L sh st = v at h hv hmm
      cases hd : dk L sh M n (baseOf L sh st + v) (m - bOf L sh st) with
      | none => rw [hd] at h; simp at h
      | some p =>
        obtain ⟨o, st1, m1⟩ := p
        rw [hd] at h
        simp only [Option.map_some, Option.some.injEq, Prod.mk.injEq] at h
        obtain ⟨rfl, rfl, rfl⟩ := h
        obtain ⟨q1, q2, q3⟩ := dk_wk S M n _ _ o st1 m1 (by omega) hd
        have hs : (symOf sh).getD st 0 = s := getD_some h1
        have hs256 : s < 256 := h6
        refine ⟨by simp [q1], ?_, fun ys => ?_⟩
        · intro b hb
          rcases List.mem_cons.1 hb with rfl | hb
          · rw [hs]; omega
          · exact q2 b hb
        · rw [List.reverse_cons, List.append_assoc, q3]
          simp only [List.singleton_append, wk, Int.toNat_natCast, hs]
          rw [bk_of S (i := st) (by omega) hst h1 (by omega) (by omega)]
          simp only
          rw [show m - bOf L sh st + bOf L sh st = m by omega, show baseOf L sh st + v - baseOf L sh st = v by omega, ← hmm]
/-- What was coded is decoded. -/
theorem dec_enc {l : List Int} {sh : List Nat} {L : Nat} (S : Shr l L sh) {xs out : List Int} (hB : isB xs) (hl : xs.length ≤ 1000) {st c N : Nat} (h : wk L sh xs.reverse 0 0 0 = some (st, c, N)) (hO : Holds out (c + L + 1) (N + st * 2 ^ c + 2 ^ (c + L))) : decO L sh out xs.length = some xs := by
  obtain ⟨q1, q2, _, q3, q4, q⟩ := wk_dk S xs.reverse 0 0 0 st c N (isB_rev hB) (Nat.two_pow_pos L) (by omega) h
  have hlt : N + st * 2 ^ c < 2 ^ (c + L) := by
    rw [Nat.pow_add, Nat.mul_comm (2 ^ c)]
    have := Nat.mul_le_mul_right (2 ^ c) (Nat.succ_le_of_lt q4)
    rw [Nat.succ_mul] at this
    omega
  obtain ⟨b, hb, hb0, hbl⟩ := sealed_last hO hlt
  have h0 : out ≠ [] := by rintro rfl; simp at hb
  unfold decO
  rw [if_neg (by
    rintro (h | h | h | h | h)
    · exact h0 h
    · rw [hb] at h; simp at h; exact hb0 h
    · omega
    · omega
    · omega), hbl, hO.val, Int.toNat_natCast, show c + L + 1 - 1 - L = c by omega]
  have hp : 2 ^ (c + L) = 2 ^ L * 2 ^ c := by rw [Nat.pow_add, Nat.mul_comm]
  have hd : (N + st * 2 ^ c + 2 ^ (c + L)) / 2 ^ c = st + 2 ^ L := by
    rw [hp, Nat.add_assoc, ← Nat.add_mul, Nat.add_mul_div_right _ _ (Nat.two_pow_pos c), Nat.div_eq_of_lt q1, Nat.zero_add]
  have hm : (N + st * 2 ^ c + 2 ^ (c + L)) % 2 ^ c = N := by
    rw [hp, Nat.add_assoc, ← Nat.add_mul, Nat.add_mul_mod_self_right, Nat.mod_eq_of_lt q1]
  rw [hd, Nat.add_mod_right, Nat.mod_eq_of_lt q4]
  have := q _ 0 hm
  rw [Nat.zero_add, List.length_reverse] at this
  rw [this]
  simp [dk]
/-- What is decoded has just these bytes. -/
theorem enc_dec {l : List Int} {sh : List Nat} {L : Nat} (S : Shr l L sh) {bs o : List Int} (hB : isB bs) {n : Int} (h : decO L sh bs n = some o) :
    (o.length : Int) = n ∧ isB o ∧ ∃ st c N, wk L sh o.reverse 0 0 0 = some (st, c, N) ∧ ∀ out, Holds out (c + L + 1) (N + st * 2 ^ c + 2 ^ (c + L)) → out = bs := by
  unfold decO at h
  split at h
  · simp at h
  · rename_i h0
    simp only [not_or] at h0
    obtain ⟨h1, h2, h3, h4, h5⟩ := h0
    obtain ⟨b, hb⟩ : ∃ b, bs.getLast? = some b := by
      cases e : bs.getLast? with
      | none => rw [List.getLast?_eq_none_iff] at e; exact absurd e h1
      | some b => exact ⟨b, rfl⟩
    have hb0 : b ≠ 0 := by rintro rfl; exact h2 hb
    have hbB := hB b (List.mem_of_getLast? hb)
    obtain ⟨hbl, hpos⟩ := bl_leB hB hb hb0
    have hb1 := (bl_pos (n := b.toNat) (by omega)).2.2
    have hb8 : bl b.toNat ≤ 8 := bl_le (by omega)
    have hlen : 0 < bs.length := List.length_pos_iff.2 h1
    have hv : leB bs / 2 ^ (bl (leB bs) - 1 - L) % 2 ^ L < 2 ^ L := Nat.mod_lt _ (Nat.two_pow_pos _)
    split at h
    · rename_i o' st m hd
      split at h
      · rename_i hz
        obtain ⟨rfl, rfl⟩ := hz
        simp only [Option.some.injEq] at h
        subst h
        obtain ⟨q1, q2, q3⟩ := dk_wk S _ _ _ _ _ _ _ hv hd
        have q := q3 []
        rw [List.append_nil, Nat.pow_zero, Nat.mod_one] at q
        simp only [wk] at q
        refine ⟨by omega, q2, _, _, _, q, fun out hO => ?_⟩
        have hp := bl_pos hpos
        generalize hc : bl (leB bs) - 1 - L = c at *
        have hcL : bl (leB bs) - 1 = c + L := by omega
        rw [hcL] at hp
        have hbl2 : bl (leB bs) = c + L + 1 := by omega
        rw [hbl2] at hp
        have htot : leB bs % 2 ^ c + leB bs / 2 ^ c % 2 ^ L * 2 ^ c + 2 ^ (c + L) = leB bs := by
          rw [← mod_more]
          have h7 : leB bs / 2 ^ (c + L) = 1 := by
            apply Nat.div_eq_of_lt_le
            · omega
            · rw [Nat.pow_succ] at hp; omega
          have h8 := Nat.div_add_mod (leB bs) (2 ^ (c + L))
          rw [h7] at h8
          omega
        rw [htot] at hO
        refine leB_inj hO.isB hB ?_ hO.val
        rw [hO.len]
        omega
      · simp at h
    · simp at h
theorem wk_some {l : List Int} {sh : List Nat} {L : Nat} (S : Shr l L sh) : ∀ (ys : List Int) (st c N : Nat), st < 2 ^ L → (∀ y ∈ ys, ∃ n, sh[y.toNat]? = some n ∧ 0 < n) → ∃ r, wk L sh ys st c N = some r
  | [], st, c, N, _, _ => ⟨_, rfl⟩
  | y :: ys, st, c, N, hst, h => by
    simp only [wk]
    cases e : bk L sh st y.toNat with
    | none => exact absurd (h y (by simp)) ((bk_none S hst).1 e)
    | some i => exact wk_some S ys _ _ _ (bk_some S e).1 (fun z hz => h z (by simp [hz]))
/-! ### awake -/
theorem awk_f : fairB [24, 8] 5 = true := by decide
theorem awk_s : Shr [24, 8] 5 [24, 8] := ⟨by decide, by decide, by decide, rfl, by decide⟩
theorem h15 : F15 [] [] = some (.one (.bool true), []) := by
  obtain ⟨al, e17, _, hok⟩ := f17 0 [24, 8] [24, 8] awk_s awk_f
  obtain ⟨r, hw⟩ := wk_some awk_s [0, 1, 0] 0 0 0 (by decide) (by simp)
  obtain ⟨st, c, N⟩ := r
  obtain ⟨out, e21, hO, _⟩ := f21 1 awk_s hok [0, 1, 0] (by simp [isB]) (by decide) (st := st) (c := c) (N := N) hw
  have e18 := f18 1 awk_s (al := al) out hO.isB (by rw [hO.len]; have := (wk_dk awk_s _ 0 0 0 _ _ _ (by simp [isB]) (by decide) (by decide) hw).2.2.1; simp at this; omega) 3 (.inl (by decide))
  have hd := dec_enc awk_s (xs := [0, 1, 0]) (by simp [isB]) (by decide) hw hO
  have h3 : (([0, 1, 0] : List Int).length : Int) = 3 := rfl
  rw [h3] at hd
  rw [hd] at e18
  have hn : natsOf [24, 8] = [24, 8] := rfl
  have hL : ((5 : Nat) : Int) = 5 := rfl
  simp only [decR, decB, tabOf, tabHp, hL] at e17 e18 e21
  generalize cellsTo 5 [24, 8] (2 ^ 5) = cs at *
  generalize fiTo [24, 8] ([24, 8] : List Nat).length = fi at *
  simp -implicitDefEqProofs [F15, c15, upd, e17, e21, e18, RC.ofElems, RC.len, RC.size]
  decide +kernel
end Go.X.Try
set_option maxRecDepth 100000
set_option linter.unusedSimpArgs false
set_option linter.unusedVariables false
namespace Go.X.Try
open Go.IntWalk
theorem run6n (a0 a2 : List Int) (L : Int) (cs : List (List Sc)) (fi al : List Int) (h3 : ¬ 300 < a0.length) (h3i : ¬ (300 : Int) < a0.length) (h2 : ¬ 100 < a2.length) (h2i : ¬ (100 : Int) < a2.length)
    (e16 : F16 [.one (.ro 0 (.ints .i64 a0)), .one (.int .i64 L)] [] = some (.one (.bool true), []))
    (e17 : F17 [.one (.ro 0 (.ints .i64 a0)), .one (.int .i64 L)] [] = some (.tup [.one (.ptr 0 0), .one (.bool true)], tabHp none L cs a0 fi al))
    (e20 : F20 [.one (.ro 0 (.ints .i64 a0)), .one (.int .i64 L)] [] = some (.one (.row 0), [.rows (.recs 3 cs)]))
    (e28 : F28 [.one (.ro 0 (.recs 3 cs)), .one (.int .i64 L), .one (.ro 2 (.ints .u8 a2))] [] = some (.tup [.one (.row 0), .one (.bool false)], [.rows (.ints .i64 [])]))
    (e21 : F21 [.one (.ptr 0 0), .one (.ro 1 (.ints .u8 a2))] (tabHp (some 0) L cs a0 fi al) = some (.tup [.one (.row 5), .one (.bool false)], tabHp (some 0) L cs a0 fi al ++ [.rows (.ints .u8 [])]))
    (e29 : F29 [.one (.ptr 0 0), .one (.ro 1 (.ints .u8 a2))] (tabHp (some 0) L cs a0 fi al) = some (.tup [.one (.int .i64 0), .one (.bool false)], tabHp (some 0) L cs a0 fi al)) :
    F6 [.one (.ro 0 (.ints .i64 a0)), .one (.int .i64 L), .one (.ro 2 (.ints .u8 a2))] [] = some (.one (.bool true), []) := by
  simp only [tabHp, List.cons_append, List.nil_append] at e17 e21 e29
  simp -implicitDefEqProofs [F6, c6, upd, h15, RC.len, RC.size, h3, h3i, h2, h2i, e16, e17, e20, e28, e21, e29]
theorem run6 (a0 a2 o out : List Int) (L n : Int) (cs : List (List Sc)) (fi al : List Int) (h3 : ¬ 300 < a0.length) (h3i : ¬ (300 : Int) < a0.length) (h2 : ¬ 100 < a2.length) (h2i : ¬ (100 : Int) < a2.length)
    (e16 : F16 [.one (.ro 0 (.ints .i64 a0)), .one (.int .i64 L)] [] = some (.one (.bool true), []))
    (e17 : F17 [.one (.ro 0 (.ints .i64 a0)), .one (.int .i64 L)] [] = some (.tup [.one (.ptr 0 0), .one (.bool true)], tabHp none L cs a0 fi al))
    (e20 : F20 [.one (.ro 0 (.ints .i64 a0)), .one (.int .i64 L)] [] = some (.one (.row 0), [.rows (.recs 3 cs)]))
    (e28 : F28 [.one (.ro 0 (.recs 3 cs)), .one (.int .i64 L), .one (.ro 2 (.ints .u8 a2))] [] = some (.tup [.one (.row 0), .one (.bool true)], [.rows (.ints .i64 o)]))
    (e21 : F21 [.one (.ptr 0 0), .one (.ro 1 (.ints .u8 a2))] (tabHp (some 0) L cs a0 fi al) = some (.tup [.one (.row 5), .one (.bool true)], tabHp (some 0) L cs a0 fi al ++ [.rows (.ints .u8 out)]))
    (e29 : F29 [.one (.ptr 0 0), .one (.ro 1 (.ints .u8 a2))] (tabHp (some 0) L cs a0 fi al) = some (.tup [.one (.int .i64 n), .one (.bool true)], tabHp (some 0) L cs a0 fi al))
    (e18 : F18 [.one (.ptr 0 0), .one (.ro 1 (.ints .u8 out)), .one (.int .i64 a2.length)] (tabHp (some 0) L cs a0 fi al) = some (.tup [.one (.row 5), .one (.bool true)], tabHp (some 0) L cs a0 fi al ++ [.rows (.ints .u8 a2)]))
    (e30 : F30 [.one (.ro 0 (.ints .i64 o))] [] = some (.one (.row 0), [.rows (.ints .u8 out)])) (hn : n = o.length) :
    F6 [.one (.ro 0 (.ints .i64 a0)), .one (.int .i64 L), .one (.ro 2 (.ints .u8 a2))] [] = some (.one (.bool true), []) := by
  subst hn
  simp only [tabHp, List.cons_append, List.nil_append] at e17 e21 e29 e18
  simp -implicitDefEqProofs [F6, c6, upd, h15, RC.len, RC.size, h3, h3i, h2, h2i, e16, e17, e20, e28, e21, e29, e18, e30]
theorem law6 (a0 : List Int) (a1 : Int) (a2 : List Int) (_ : a0.length ≤ maxLen) (w0 : ∀ z ∈ a0, (Lit.int .i64 z).wf = true) (_ : (Lit.int .i64 a1).wf = true) (_ : a2.length ≤ maxLen) (w2 : ∀ z ∈ a2, (Lit.int .u8 z).wf = true) :
    F6 [.one (.ro 0 (.ints .i64 a0)), .one (.int .i64 a1), .one (.ro 2 (.ints .u8 a2))] [] = some (.one (.bool true), []) := by
  by_cases h3 : 300 < a0.length
  · have h3i : (300 : Int) < a0.length := by omega
    simp -implicitDefEqProofs [F6, c6, upd, h15, RC.len, RC.size, h3, h3i]
  have h3i : ¬ (300 : Int) < a0.length := by omega
  by_cases h2 : 100 < a2.length
  · have h2i : (100 : Int) < a2.length := by omega
    simp -implicitDefEqProofs [F6, c6, upd, h15, RC.len, RC.size, h3, h3i, h2, h2i]
  have h2i : ¬ (100 : Int) < a2.length := by omega
  have e16 := f16 0 a0 a1 (by omega)
  cases hf : fairB a0 a1 with
  | false =>
    rw [hf] at e16
    simp -implicitDefEqProofs [F6, c6, upd, h15, RC.len, RC.size, h3, h3i, h2, h2i, e16]
  | true =>
    rw [hf] at e16
    obtain ⟨L, rfl, S⟩ := shr_of hf
    have hB := isB_of w2
    obtain ⟨al, e17, hal, hok⟩ := f17 0 a0 (natsOf a0) S hf
    have e20 := f20 0 a0 (natsOf a0) S
    have h9 := S.hi
    cases hw : wk L (natsOf a0) a2.reverse 0 0 0 with
    | none => exact run6n a0 a2 L _ _ al h3 h3i h2 h2i e16 e17 e20 (f28n 0 2 S a2 hB (by omega) hw) (f21n 1 S hok a2 hB (by omega) hw) (f29n 1 S hok a2 hB (by omega) hw)
    | some p =>
      obtain ⟨st, c, N⟩ := p
      obtain ⟨o, e28, hN, hol, hov⟩ := f28 0 2 S a2 hB (by omega) hw
      obtain ⟨out, e21, hO, hst, hc⟩ := f21 1 S hok a2 hB (by omega) hw
      have e29 := f29 1 S hok a2 hB (by omega) hw
      obtain ⟨out', e30, hO'⟩ := f30 0 o hN (by omega)
      have hoo : out' = out := leB_inj hO'.isB hO.isB (by rw [hO'.len, hO.len, hol]) (by rw [hO'.val, hO.val, hov, hol])
      subst hoo
      have hd := dec_enc S hB (by omega) hw hO
      have e18 := f18 1 S (al := al) out' hO.isB (by rw [hO.len]; omega) a2.length (.inl (by omega))
      rw [hd] at e18
      exact run6 a0 a2 o out' L _ _ _ al h3 h3i h2 h2i e16 e17 e20 e28 e21 e29 e18 e30 (by omega)
theorem run4a (a0 a1 : List Int) (L n : Int) (cs : List (List Sc)) (fi al : List Int) (h3 : ¬ 300 < a0.length) (h3i : ¬ (300 : Int) < a0.length) (h2 : ¬ 60 < a1.length) (h2i : ¬ (60 : Int) < a1.length) (hn : ¬ (500 < n ∧ n ≤ 1048576))
    (e16 : F16 [.one (.ro 0 (.ints .i64 a0)), .one (.int .i64 L)] [] = some (.one (.bool true), []))
    (e17 : F17 [.one (.ro 0 (.ints .i64 a0)), .one (.int .i64 L)] [] = some (.tup [.one (.ptr 0 0), .one (.bool true)], tabHp none L cs a0 fi al))
    (e20 : F20 [.one (.ro 0 (.ints .i64 a0)), .one (.int .i64 L)] [] = some (.one (.row 0), [.rows (.recs 3 cs)]))
    (e18 : F18 [.one (.ptr 0 0), .one (.ro 1 (.ints .u8 a1)), .one (.int .i64 n)] (tabHp (some 0) L cs a0 fi al) = some (.tup [.one (.row 5), .one (.bool false)], tabHp (some 0) L cs a0 fi al ++ [.rows (.ints .u8 [])]))
    (e19 : F19 [.one (.ro 0 (.recs 3 cs)), .one (.int .i64 L), .one (.ro 2 (.ints .u8 a1)), .one (.int .i64 n)] [] = some (.tup [.one (.row 0), .one (.bool false)], [.rows (.ints .u8 [])])) :
    F4 [.one (.ro 0 (.ints .i64 a0)), .one (.ro 1 (.ints .u8 a1)), .agg [.int .i64 L, .int .i64 n]] [] = some (.one (.bool true), []) := by
  simp only [tabHp, List.cons_append, List.nil_append] at e17 e18
  by_cases m1 : 500 < n
  · have m2 : ¬ n ≤ 1048576 := fun h => hn ⟨m1, h⟩
    simp -implicitDefEqProofs [F4, c4, upd, h15, RC.len, RC.size, h3, h3i, h2, h2i, m1, m2, e16, e17, e20, e18, e19]
  · simp -implicitDefEqProofs [F4, c4, upd, h15, RC.len, RC.size, h3, h3i, h2, h2i, m1, e16, e17, e20, e18, e19]
theorem run4b (a0 a1 o : List Int) (L n : Int) (cs : List (List Sc)) (fi al : List Int) (h3 : ¬ 300 < a0.length) (h3i : ¬ (300 : Int) < a0.length) (h2 : ¬ 60 < a1.length) (h2i : ¬ (60 : Int) < a1.length) (hn : ¬ (500 < n ∧ n ≤ 1048576))
    (e16 : F16 [.one (.ro 0 (.ints .i64 a0)), .one (.int .i64 L)] [] = some (.one (.bool true), []))
    (e17 : F17 [.one (.ro 0 (.ints .i64 a0)), .one (.int .i64 L)] [] = some (.tup [.one (.ptr 0 0), .one (.bool true)], tabHp none L cs a0 fi al))
    (e20 : F20 [.one (.ro 0 (.ints .i64 a0)), .one (.int .i64 L)] [] = some (.one (.row 0), [.rows (.recs 3 cs)]))
    (e18 : F18 [.one (.ptr 0 0), .one (.ro 1 (.ints .u8 a1)), .one (.int .i64 n)] (tabHp (some 0) L cs a0 fi al) = some (.tup [.one (.row 5), .one (.bool true)], tabHp (some 0) L cs a0 fi al ++ [.rows (.ints .u8 o)]))
    (e19 : F19 [.one (.ro 0 (.recs 3 cs)), .one (.int .i64 L), .one (.ro 2 (.ints .u8 a1)), .one (.int .i64 n)] [] = some (.tup [.one (.row 0), .one (.bool true)], [.rows (.ints .u8 o)]))
    (e21 : F21 [.one (.ptr 0 0), .one (.ro 1 (.ints .u8 o))] (tabHp (some 0) L cs a0 fi al) = some (.tup [.one (.row 5), .one (.bool true)], tabHp (some 0) L cs a0 fi al ++ [.rows (.ints .u8 a1)])) :
    F4 [.one (.ro 0 (.ints .i64 a0)), .one (.ro 1 (.ints .u8 a1)), .agg [.int .i64 L, .int .i64 n]] [] = some (.one (.bool true), []) := by
  simp only [tabHp, List.cons_append, List.nil_append] at e17 e18 e21
  by_cases m1 : 500 < n
  · have m2 : ¬ n ≤ 1048576 := fun h => hn ⟨m1, h⟩
    simp -implicitDefEqProofs [F4, c4, upd, h15, RC.len, RC.size, h3, h3i, h2, h2i, m1, m2, e16, e17, e20, e18, e19, e21]
  · simp -implicitDefEqProofs [F4, c4, upd, h15, RC.len, RC.size, h3, h3i, h2, h2i, m1, e16, e17, e20, e18, e19, e21]
theorem law4 (a0 a1 : List Int) (a2 : List Int) (_ : a0.length ≤ maxLen) (w0 : ∀ z ∈ a0, (Lit.int .i64 z).wf = true) (_ : a1.length ≤ maxLen) (w1 : ∀ z ∈ a1, (Lit.int .u8 z).wf = true) (hl2 : a2.length = 2) (w2 : ∀ z ∈ a2, (Lit.int .i64 z).wf = true) :
    F4 [.one (.ro 0 (.ints .i64 a0)), .one (.ro 1 (.ints .u8 a1)), .agg (a2.map (SV.int .i64))] [] = some (.one (.bool true), []) := by
  obtain ⟨L, n, rfl⟩ : ∃ n0 n1, a2 = [n0, n1] := by
    match a2, hl2 with
    | [x, y], _ => exact ⟨x, y, rfl⟩
  simp only [List.map_cons, List.map_nil]
  by_cases h3 : 300 < a0.length
  · have h3i : (300 : Int) < a0.length := by omega
    simp -implicitDefEqProofs [F4, c4, upd, h15, RC.len, RC.size, h3, h3i]
  have h3i : ¬ (300 : Int) < a0.length := by omega
  by_cases h2 : 60 < a1.length
  · have h2i : (60 : Int) < a1.length := by omega
    simp -implicitDefEqProofs [F4, c4, upd, h15, RC.len, RC.size, h3, h3i, h2, h2i]
  have h2i : ¬ (60 : Int) < a1.length := by omega
  by_cases hn : 500 < n ∧ n ≤ 1048576
  · obtain ⟨m1, m2⟩ := hn
    simp -implicitDefEqProofs [F4, c4, upd, h15, RC.len, RC.size, h3, h3i, h2, h2i, m1, m2]
  have e16 := f16 0 a0 L (by omega)
  cases hf : fairB a0 L with
  | false =>
    rw [hf] at e16
    by_cases m1 : 500 < n
    · have m2 : ¬ n ≤ 1048576 := fun h => hn ⟨m1, h⟩
      simp -implicitDefEqProofs [F4, c4, upd, h15, RC.len, RC.size, h3, h3i, h2, h2i, e16, m1, m2]
    · simp -implicitDefEqProofs [F4, c4, upd, h15, RC.len, RC.size, h3, h3i, h2, h2i, e16, m1]
  | true =>
    rw [hf] at e16
    obtain ⟨L, rfl, S⟩ := shr_of hf
    have hB := isB_of w1
    obtain ⟨al, e17, hal, hok⟩ := f17 0 a0 (natsOf a0) S hf
    have e20 := f20 0 a0 (natsOf a0) S
    have h9 := S.hi
    have e18 := f18 1 S (al := al) a1 hB (by omega) n (by omega)
    have e19 := f19 0 2 S a1 hB (by omega) n (by omega)
    cases hd : decO L (natsOf a0) a1 n with
    | none =>
      rw [hd] at e18 e19
      exact run4a a0 a1 L n _ _ al h3 h3i h2 h2i hn e16 e17 e20 e18 e19
    | some o =>
      rw [hd] at e18 e19
      obtain ⟨q1, q2, st, c, N, hw, hq⟩ := enc_dec S hB hd
      have hol : o.length ≤ 1000 := by
        have : ¬ 1048576 < n := by
          intro h
          unfold decO at hd
          rw [if_pos (.inr (.inr (.inr (.inl h))))] at hd
          simp at hd
        omega
      obtain ⟨out, e21, hO, hst, hc⟩ := f21 1 S hok o q2 hol hw
      have := hq out hO
      subst this
      exact run4b a0 out o L n _ _ al h3 h3i h2 h2i hn e16 e17 e20 e18 e19 e21
end Go.X.Try
