import Derived.Test.YthcbhmgjkecppaaEd
import Derived.Test.YthcbhmgjkecppaaEg
import Derived.Test.YthcbhmgjkecppaaJb
import Derived.Test.YthcbhmgjkecppaaW5
set_option maxRecDepth 100000
set_option linter.unusedSimpArgs false
set_option linter.unusedVariables false
namespace Go.X.Try
open Go.IntWalk
/-- A share's numbers, as they lie in bits: how many may come, what is left, where. -/
def hlp (N T : Nat) : Nat → Nat → Nat → Option (List Int × Nat)
  | 0, rest, pos => if rest = 0 then some ([], pos) else none
  | j + 1, rest, pos => if rest = 0 then some ([], pos) else if T < pos + bl rest then none else if rest < N / 2 ^ pos % 2 ^ bl rest then none
      else (hlp N T j (rest - N / 2 ^ pos % 2 ^ bl rest) (pos + bl rest)).map fun p => (((N / 2 ^ pos % 2 ^ bl rest : Nat) : Int) :: p.1, p.2)
/-- A share in bits. -/
def hdT (N T pos : Nat) : Option (List Int × Nat × Nat) :=
  if T < pos + 3 then none else if 9 < 5 + N / 2 ^ pos % 8 then none else (hlp N T 256 (2 ^ (5 + N / 2 ^ pos % 8)) (pos + 3)).map fun p => (p.1, 5 + N / 2 ^ pos % 8, p.2)
def hHp (bs : List Int) (pos : Int) (out : List Int) : List Ob := [.cells (some 0) [.row 1, .int .i64 pos], .rows (.ints .u8 bs), .rows (.ints .i64 out)]
def canon49 (log : Int) (bs : List Int) (pos : Int) (rest : Int) (out : List Int) : St := ⟨[(0, .one (.ptr 0 0)), (7, .one (.int .i64 log)), (8, .one (.row 2)), (9, .one (.int .i64 rest))], [.ptr 0 0], hHp bs pos out⟩
def res49 : List (Nat × Option (Option Nat)) := [(2, none), (3, none), (4, none)]
def tup3 (v : SV) (n : Int) (b : Bool) : AV := .tup [.one v, .one (.int .i64 n), .one (.bool b)]
def bad49 (r : Option (Ex × St)) (bs : List Int) : Prop := ∃ st1 pos', r = some (.ret, st1) ∧ give st1.rts st1.hp (resL st1.env st1.hp res49) = some (tup3 (.row 2) 0 false, hHp bs pos' [])
theorem end49 (log : Int) (bs : List Int) (pos : Int) (out : List Int) : ∃ env, evC T49 KK b49x0 (canon49 log bs pos 0 out) = some (.exit 0, ⟨env, [.ptr 0 0], hHp bs pos out⟩) ∧ getT 7 env = .one (.int .i64 log) ∧ getT 8 env = .one (.row 2) := by
  simp -implicitDefEqProofs [b49x0, canon49, hHp]
/-- What the reader answers, and where it is behind it. -/
theorem short49 (log : Int) (bs : List Int) (pos pos' rest w v : Int) (out : List Int) (ok : Bool) (hr : 0 < rest) (wr : IntKind.u32.wrap rest = rest) (e90 : F90 [.one (.int .u32 rest)] [] = some (.one (.int .i64 w), []))
    (e75 : F75 [.one (.ptr 0 0), .one (.int .i64 w)] (bufHp (some 0) bs pos) = some (tup2 v ok, bufHp (some 0) bs pos')) (wv : IntKind.i64.wrap v = v) (h : ok = false ∨ (ok = true ∧ (rest < v ∨ out.length = 256))) : bad49 (evC T49 KK b49x0 (canon49 log bs pos rest out)) bs := by
  unfold bad49
  simp only [bufHp, tup2] at e75
  rcases h with rfl | ⟨rfl, h⟩
  · simp -implicitDefEqProofs [b49x0, canon49, hHp, res49, tup3, upd, hr, wr, e90, e75]
  · by_cases h1 : rest < v
    · simp -implicitDefEqProofs [b49x0, canon49, hHp, res49, tup3, upd, hr, wr, e90, e75, wv, h1]
    · have h2 : out.length = 256 := by
        rcases h with h | h
        · exact absurd h h1
        · exact h
      have h2i : (out.length : Int) = 256 := by omega
      simp -implicitDefEqProofs [b49x0, canon49, hHp, res49, tup3, upd, hr, wr, e90, e75, wv, h1, h2, h2i, RC.len]
theorem body49 (log : Int) (bs : List Int) (pos pos' rest w v rest' : Int) (out : List Int) (hr : 0 < rest) (wr : IntKind.u32.wrap rest = rest) (e90 : F90 [.one (.int .u32 rest)] [] = some (.one (.int .i64 w), []))
    (e75 : F75 [.one (.ptr 0 0), .one (.int .i64 w)] (bufHp (some 0) bs pos) = some (tup2 v true, bufHp (some 0) bs pos')) (wv : IntKind.i64.wrap v = v) (h1 : ¬ rest < v) (h2 : out.length < 256) (ws : IntKind.i64.wrap (rest - v) = rest') :
    ∃ st1, evC T49 KK b49x0 (canon49 log bs pos rest out) = some (.norm, st1) ∧ St.head [0, 7, 8, 9] st1 = canon49 log bs pos' rest' (out ++ [v]) := by
  have h3 : ¬ out.length = 256 := by omega
  have h3i : ¬ (out.length : Int) = 256 := by omega
  have hm : (out.length + 1) * 8 ≤ 140737488355328 := by omega
  simp only [bufHp, tup2] at e75
  simp -implicitDefEqProofs [b49x0, canon49, hHp, upd, hr, wr, e90, e75, wv, h1, h3, h3i, ws, hm, RC.ofElems, RC.app, RC.len, RC.size]
theorem bl9 {r : Nat} (h : r ≤ 512) : bl r ≤ 10 := bl_le (n := r) (k := 10) (by omega)
theorem loop49 (log : Int) (bs : List Int) (hB : isB bs) (hl : bs.length ≤ 90000) : ∀ (j rest pos K : Nat) (out : List Int), out.length + j = 256 → rest ≤ 512 → pos ≤ 8 * bs.length → j + 1 < K →
    match hlp (leB bs) (8 * bs.length) j rest pos with
    | some p => ∃ env, loopH (evC T49 KK b49x0) [0, 7, 8, 9] K (canon49 log bs pos rest out) = some (.exit 0, ⟨env, [.ptr 0 0], hHp bs (p.2 : Nat) (out ++ p.1)⟩) ∧ getT 7 env = .one (.int .i64 log) ∧ getT 8 env = .one (.row 2)
    | none => bad49 (loopH (evC T49 KK b49x0) [0, 7, 8, 9] K (canon49 log bs pos rest out)) bs
  | j, 0, pos, K, out, ho, hr, hp, hK => by
    have e : hlp (leB bs) (8 * bs.length) j 0 pos = some ([], pos) := by cases j <;> rfl
    rw [e]
    obtain ⟨env, e1, g⟩ := end49 log bs pos out
    have z : ((0 : Nat) : Int) = 0 := rfl
    simp only [List.append_nil]
    rw [z]
    exact ⟨env, loopH_exit e1, g⟩
  | 0, rest + 1, pos, K, out, ho, hr, hp, hK => by
    have e : hlp (leB bs) (8 * bs.length) 0 (rest + 1) pos = none := rfl
    rw [e]
    have hb := bl9 hr
    have e90 := e90 ((rest + 1 : Nat) : Int) (by omega) (by omega)
    rw [Int.toNat_natCast] at e90
    have wr : IntKind.u32.wrap ((rest + 1 : Nat) : Int) = ((rest + 1 : Nat) : Int) := u32_in _ (by omega)
    have key : ∃ v pos' ok, F75 [.one (.ptr 0 0), .one (.int .i64 (bl (rest + 1) : Nat))] (bufHp (some 0) bs pos) = some (tup2 v ok, bufHp (some 0) bs pos') ∧ IntKind.i64.wrap v = v := by
      by_cases hn : pos + bl (rest + 1) ≤ 8 * bs.length
      · have e75 := f75 bs pos (bl (rest + 1)) hB (by omega) (by omega) hn
        have hm := Nat.mod_lt (leB bs / 2 ^ pos) (Nat.two_pow_pos (bl (rest + 1)))
        have hp2 : 2 ^ bl (rest + 1) ≤ 2 ^ 10 := Nat.pow_le_pow_right (by omega) hb
        exact ⟨_, _, _, e75, i64_in _ (by omega)⟩
      · exact ⟨_, _, _, f75b bs pos _ (by omega) (by omega) hp (by omega), by decide⟩
    obtain ⟨v, pos', ok, e75, wv⟩ := key
    have hb2 := short49 log bs pos pos' ((rest + 1 : Nat) : Int) _ v out ok (by omega) wr e90 e75 wv (by
      cases ok
      · exact .inl rfl
      · exact .inr ⟨rfl, .inr (by omega)⟩)
    obtain ⟨st1, q, e1, e2⟩ := hb2
    exact ⟨st1, q, loopH_ret e1, e2⟩
  | j + 1, rest + 1, pos, K, out, ho, hr, hp, hK => by
    have hb := bl9 hr
    have hb0 : 0 < bl (rest + 1) := (bl_pos (n := rest + 1) (by omega)).2.2
    have e90 := e90 ((rest + 1 : Nat) : Int) (by omega) (by omega)
    rw [Int.toNat_natCast] at e90
    have wr : IntKind.u32.wrap ((rest + 1 : Nat) : Int) = ((rest + 1 : Nat) : Int) := u32_in _ (by omega)
    rw [hlp, if_neg (by omega)]
    by_cases hn : 8 * bs.length < pos + bl (rest + 1)
    · rw [if_pos hn]
      obtain ⟨st1, q, e1, e2⟩ := short49 log bs pos pos ((rest + 1 : Nat) : Int) _ 0 out false (by omega) wr e90 (f75b bs pos _ (by omega) (by omega) hp (by omega)) (by decide) (.inl rfl)
      exact ⟨st1, q, loopH_ret e1, e2⟩
    · rw [if_neg hn]
      have e75 := f75 bs pos (bl (rest + 1)) hB (by omega) (by omega) (by omega)
      have hm := Nat.mod_lt (leB bs / 2 ^ pos) (Nat.two_pow_pos (bl (rest + 1)))
      have hp2 : 2 ^ bl (rest + 1) ≤ 2 ^ 10 := Nat.pow_le_pow_right (by omega) hb
      generalize leB bs / 2 ^ pos % 2 ^ bl (rest + 1) = v at *
      have wv : IntKind.i64.wrap (v : Int) = v := i64_in _ (by omega)
      by_cases hv : rest + 1 < v
      · rw [if_pos hv]
        obtain ⟨st1, q, e1, e2⟩ := short49 log bs pos _ ((rest + 1 : Nat) : Int) _ v out true (by omega) wr e90 e75 wv (.inr ⟨rfl, .inl (by omega)⟩)
        exact ⟨st1, q, loopH_ret e1, e2⟩
      · rw [if_neg hv]
        obtain ⟨st1, e1, e2⟩ := body49 log bs pos _ ((rest + 1 : Nat) : Int) _ v ((rest + 1 - v : Nat) : Int) out (by omega) wr e90 e75 wv (by omega) (by omega) (by rw [i64_in _ (by omega)]; omega)
        have ih := loop49 log bs hB hl j (rest + 1 - v) (pos + bl (rest + 1)) (K - 1) (out ++ [(v : Int)]) (by rw [List.length_append]; simp only [List.length_cons, List.length_nil]; omega) (by omega) (by omega) (by omega)
        rw [loopH_norm e1 (by omega), e2]
        cases hh : hlp (leB bs) (8 * bs.length) j (rest + 1 - v) (pos + bl (rest + 1)) with
        | none => rw [hh] at ih; exact ih
        | some p =>
          rw [hh] at ih
          simp only [Option.map_some]
          simp only at ih
          rw [List.append_assoc, List.singleton_append] at ih
          exact ih
theorem f49 (bs : List Int) (pos : Nat) (hB : isB bs) (hl : bs.length ≤ 90000) (hp : pos ≤ 8 * bs.length) :
    match hdT (leB bs) (8 * bs.length) pos with
    | some p => F49 [.one (.ptr 0 0)] (bufHp (some 0) bs pos) = some (tup3 (.row 2) (p.2.1 : Nat) true, hHp bs (p.2.2 : Nat) p.1)
    | none => ∃ pos', F49 [.one (.ptr 0 0)] (bufHp (some 0) bs pos) = some (tup3 (.row 2) 0 false, hHp bs pos' []) := by
  unfold hdT
  by_cases h3 : 8 * bs.length < pos + 3
  · rw [if_pos h3]
    have e75 := f75b bs pos 3 (by omega) (by omega) hp (by omega)
    refine ⟨(pos : Nat), ?_⟩
    have w0 : IntKind.i64.wrap (0 : Int) = 0 := by decide
    simp only [bufHp, tup2] at e75 ⊢
    simp -implicitDefEqProofs [F49, c49, upd, e75, hHp, tup3]
  · rw [if_neg h3]
    have e75 := f75 bs pos 3 hB (by omega) (by omega) (by omega)
    have hm := Nat.mod_lt (leB bs / 2 ^ pos) (show 0 < 8 by decide)
    have h8 : (2 : Nat) ^ 3 = 8 := rfl
    have c3 : ((3 : Nat) : Int) = 3 := rfl
    rw [h8, c3] at e75
    generalize hg : leB bs / 2 ^ pos % 8 = g at *
    have wg : IntKind.i64.wrap (g : Int) = g := i64_in _ (by omega)
    have wg5 : IntKind.i64.wrap (5 + (g : Int)) = ((5 + g : Nat) : Int) := by rw [i64_in _ (by omega)]; omega
    by_cases h9 : 9 < 5 + g
    · rw [if_pos h9]
      have h9i : (9 : Int) < ((5 + g : Nat) : Int) := by omega
      refine ⟨((pos + 3 : Nat) : Int), ?_⟩
      simp only [bufHp, tup2] at e75 ⊢
      generalize ((pos + 3 : Nat) : Int) = q at *
      generalize ((5 + g : Nat) : Int) = lg at *
      simp -implicitDefEqProofs [F49, c49, upd, e75, wg, wg5, h9i, hHp, tup3]
    · rw [if_neg h9]
      have h9i : ¬ (9 : Int) < ((5 + g : Nat) : Int) := by omega
      have h0i : ¬ ((5 + g : Nat) : Int) < 0 := by omega
      have hp2 := pow9 (log := ((5 + g : Nat) : Int)) (by omega)
      rw [Int.toNat_natCast] at hp2
      have es : shlI .i64 1 ((5 + g : Nat) : Int) = ((2 ^ (5 + g) : Nat) : Int) := by
        have hmin : Nat.min (5 + g) 64 = 5 + g := Nat.min_eq_left (by omega)
        have : shlI .i64 1 ((5 + g : Nat) : Int) = IntKind.i64.wrap (1 * 2 ^ Nat.min (5 + g) 64) := rfl
        rw [this, hmin, Int.one_mul]
        have e2 : (2 : Int) ^ (5 + g) = ((2 ^ (5 + g) : Nat) : Int) := by push_cast; rfl
        rw [e2]
        exact i64_in _ (by omega)
      have hlp' := loop49 ((5 + g : Nat) : Int) bs hB hl 256 (2 ^ (5 + g)) (pos + 3) KK [] rfl hp2.2 (by omega) (by rw [KK_eq]; omega)
      cases hh : hlp (leB bs) (8 * bs.length) 256 (2 ^ (5 + g)) (pos + 3) with
      | some p =>
        rw [hh] at hlp'
        simp only [Option.map_some]
        simp only [List.nil_append] at hlp'
        obtain ⟨env, e, g7, g8⟩ := hlp'
        simp only [canon49, hHp] at e
        simp only [bufHp, tup2] at e75 ⊢
        generalize ((pos + 3 : Nat) : Int) = q at *
        generalize ((5 + g : Nat) : Int) = lg at *
        generalize ((2 ^ (5 + g) : Nat) : Int) = sz at *
        simp -implicitDefEqProofs [F49, c49, upd, e75, wg, wg5, h9i, h0i, es, hHp, tup3, e, g7, g8]
      | none =>
        rw [hh] at hlp'
        simp only [Option.map_none]
        obtain ⟨st1, pos', e, e2⟩ := hlp'
        refine ⟨pos', ?_⟩
        rw [← e2]
        obtain ⟨env1, rts1, hp1⟩ := st1
        simp only [canon49, hHp] at e
        have e1' : evF T49 KK c49 [.one (.ptr 0 0)] (bufHp (some 0) bs pos) = resC res49 (some (.ret, ⟨env1, rts1, hp1⟩)) := by
          unfold evF
          have hr2 : c49.results = res49 := rfl
          rw [hr2]
          refine congrArg _ ?_
          simp only [bufHp, tup2] at e75 ⊢
          generalize ((pos + 3 : Nat) : Int) = q at *
          generalize ((5 + g : Nat) : Int) = lg at *
          generalize ((2 ^ (5 + g) : Nat) : Int) = sz at *
          simp -implicitDefEqProofs [c49, upd, e75, wg, wg5, h9i, h0i, es, e]
        exact e1'
end Go.X.Try
