import Derived.Test.YthcbhmgjkecppaaHa
set_option maxRecDepth 100000
set_option linter.unusedSimpArgs false
set_option linter.unusedVariables false
namespace Go.X.Try
open Go.IntWalk
/-! ### the document's reading -/
def canon50 (l : List Int) (log pos rest : Int) (out : List Int) : St := ⟨[(0, .one (.ro 0 (.ints .i64 l))), (5, .one (.int .i64 log)), (6, .one (.row 0)), (7, .one (.int .i64 pos)), (8, .one (.int .i64 rest))], [.ro 0 (.ints .i64 l)], [.rows (.ints .i64 out)]⟩
def tup3i (v : SV) (n m : Int) : AV := .tup [.one v, .one (.int .i64 n), .one (.int .i64 m)]
def bad50 (r : Option (Ex × St)) : Prop := ∃ st1, r = some (.ret, st1) ∧ give st1.rts st1.hp (resL st1.env st1.hp res49) = some (tup3i (.row 0) 0 0, [.rows (.ints .i64 [])])
theorem end50 (l : List Int) (log pos : Int) (out : List Int) : ∃ env, evC T50 KK b50x0 (canon50 l log pos 0 out) = some (.exit 0, ⟨env, [.ro 0 (.ints .i64 l)], [.rows (.ints .i64 out)]⟩) ∧ getT 5 env = .one (.int .i64 log) ∧ getT 6 env = .one (.row 0) ∧ getT 7 env = .one (.int .i64 pos) := by
  simp -implicitDefEqProofs [b50x0, canon50]
theorem short50 (l : List Int) (log : Int) (pos pos' : Nat) (rest w : Int) (out : List Int) (hr : 0 < rest) (wr : IntKind.u32.wrap rest = rest) (e92 : F92 [.one (.int .u32 rest)] [] = some (.one (.int .i64 w), [])) (wp : IntKind.i64.wrap ((pos : Int) + w) = pos')
    (h : l.length < pos' ∨ out.length = 256) : bad50 (evC T50 KK b50x0 (canon50 l log pos rest out)) := by
  unfold bad50
  by_cases h1 : l.length < pos'
  · have h1i : (l.length : Int) < pos' := by omega
    simp -implicitDefEqProofs [b50x0, canon50, res49, tup3i, upd, hr, wr, e92, wp, h1, h1i, RC.len]
  · have h1i : ¬ (l.length : Int) < pos' := by omega
    have h2 : out.length = 256 := by
      rcases h with h | h
      · exact absurd h h1
      · exact h
    have h2i : (out.length : Int) = 256 := by omega
    simp -implicitDefEqProofs [b50x0, canon50, res49, tup3i, upd, hr, wr, e92, wp, h1, h1i, h2, h2i, RC.len]
theorem over50 (l : List Int) (log : Int) (pos pos' : Nat) (rest w v : Int) (out : List Int) (hr : 0 < rest) (wr : IntKind.u32.wrap rest = rest) (e92 : F92 [.one (.int .u32 rest)] [] = some (.one (.int .i64 w), [])) (wp : IntKind.i64.wrap ((pos : Int) + w) = pos')
    (h1 : pos' ≤ l.length) (h0 : pos ≤ pos') (h2 : out.length < 256) (e91 : F91 [.one (.ro 0 (.ints .i64 ((l.drop pos).take (pos' - pos))))] [] = some (.one (.int .u32 v), [])) (wv : IntKind.i64.wrap v = v) (h3 : rest < v) : bad50 (evC T50 KK b50x0 (canon50 l log pos rest out)) := by
  unfold bad50
  have h1n : ¬ l.length < pos' := by omega
  have h1i : ¬ (l.length : Int) < pos' := by omega
  have h1j : (pos' : Int) ≤ l.length := by omega
  have h0i : (pos : Int) ≤ pos' := by omega
  have h2n : ¬ out.length = 256 := by omega
  have h2i : ¬ (out.length : Int) = 256 := by omega
  simp -implicitDefEqProofs [b50x0, canon50, res49, tup3i, upd, hr, wr, e92, wp, h1, h1n, h1i, h1j, h0, h0i, h2n, h2i, e91, wv, h3, RC.len, RC.size, RC.cut]
theorem body50 (l : List Int) (log : Int) (pos pos' : Nat) (rest w v rest' : Int) (out : List Int) (hr : 0 < rest) (wr : IntKind.u32.wrap rest = rest) (e92 : F92 [.one (.int .u32 rest)] [] = some (.one (.int .i64 w), [])) (wp : IntKind.i64.wrap ((pos : Int) + w) = pos')
    (h1 : pos' ≤ l.length) (h0 : pos ≤ pos') (h2 : out.length < 256) (e91 : F91 [.one (.ro 0 (.ints .i64 ((l.drop pos).take (pos' - pos))))] [] = some (.one (.int .u32 v), [])) (wv : IntKind.i64.wrap v = v) (h3 : ¬ rest < v) (ws : IntKind.i64.wrap (rest - v) = rest') :
    ∃ st1, evC T50 KK b50x0 (canon50 l log pos rest out) = some (.norm, st1) ∧ St.head [0, 5, 6, 7, 8] st1 = canon50 l log pos' rest' (out ++ [v]) := by
  have h1n : ¬ l.length < pos' := by omega
  have h1i : ¬ (l.length : Int) < pos' := by omega
  have h1j : (pos' : Int) ≤ l.length := by omega
  have h0i : (pos : Int) ≤ pos' := by omega
  have h2n : ¬ out.length = 256 := by omega
  have h2i : ¬ (out.length : Int) = 256 := by omega
  have hm : (out.length + 1) * 8 ≤ 140737488355328 := by omega
  simp -implicitDefEqProofs [b50x0, canon50, upd, hr, wr, e92, wp, h1, h1n, h1i, h1j, h0, h0i, h2n, h2i, e91, wv, h3, ws, hm, RC.len, RC.size, RC.cut, RC.ofElems, RC.app]
theorem cutN {l : List Int} (hN : isN l) (pos w : Nat) : leN ((l.drop pos).take w) = leN l / 2 ^ pos % 2 ^ w := by
  rw [leN_take _ (fun b hb => hN b (List.mem_of_mem_drop hb)), leN_drop _ hN]
theorem loop50 (log : Int) (l : List Int) (hN : isN l) (hl : l.length ≤ 90000) : ∀ (j rest pos K : Nat) (out : List Int), out.length + j = 256 → rest ≤ 512 → pos ≤ l.length → j + 1 < K →
    match hlp (leN l) l.length j rest pos with
    | some p => ∃ env, loopH (evC T50 KK b50x0) [0, 5, 6, 7, 8] K (canon50 l log pos rest out) = some (.exit 0, ⟨env, [.ro 0 (.ints .i64 l)], [.rows (.ints .i64 (out ++ p.1))]⟩) ∧ getT 5 env = .one (.int .i64 log) ∧ getT 6 env = .one (.row 0) ∧ getT 7 env = .one (.int .i64 (p.2 : Nat))
    | none => bad50 (loopH (evC T50 KK b50x0) [0, 5, 6, 7, 8] K (canon50 l log pos rest out))
  | j, 0, pos, K, out, ho, hr, hp, hK => by
    have e : hlp (leN l) l.length j 0 pos = some ([], pos) := by cases j <;> rfl
    rw [e]
    obtain ⟨env, e1, g⟩ := end50 l log pos out
    have z : ((0 : Nat) : Int) = 0 := rfl
    simp only [List.append_nil]
    rw [z]
    exact ⟨env, loopH_exit e1, g⟩
  | 0, rest + 1, pos, K, out, ho, hr, hp, hK => by
    have e : hlp (leN l) l.length 0 (rest + 1) pos = none := rfl
    rw [e]
    have hb := bl9 hr
    have e92 := e92 ((rest + 1 : Nat) : Int) (by omega) (by omega)
    rw [Int.toNat_natCast] at e92
    have wr : IntKind.u32.wrap ((rest + 1 : Nat) : Int) = ((rest + 1 : Nat) : Int) := u32_in _ (by omega)
    obtain ⟨st1, e1, e2⟩ := short50 l log pos (pos + bl (rest + 1)) ((rest + 1 : Nat) : Int) _ out (by omega) wr e92 (by rw [i64_in _ (by omega)]; omega) (.inr (by omega))
    exact ⟨st1, loopH_ret e1, e2⟩
  | j + 1, rest + 1, pos, K, out, ho, hr, hp, hK => by
    have hb := bl9 hr
    have hb0 : 0 < bl (rest + 1) := (bl_pos (n := rest + 1) (by omega)).2.2
    have e92 := e92 ((rest + 1 : Nat) : Int) (by omega) (by omega)
    rw [Int.toNat_natCast] at e92
    have wr : IntKind.u32.wrap ((rest + 1 : Nat) : Int) = ((rest + 1 : Nat) : Int) := u32_in _ (by omega)
    have wp : IntKind.i64.wrap ((pos : Int) + (bl (rest + 1) : Nat)) = ((pos + bl (rest + 1) : Nat) : Int) := by rw [i64_in _ (by omega)]; omega
    rw [hlp, if_neg (by omega)]
    by_cases hn : l.length < pos + bl (rest + 1)
    · rw [if_pos hn]
      obtain ⟨st1, e1, e2⟩ := short50 l log pos (pos + bl (rest + 1)) ((rest + 1 : Nat) : Int) _ out (by omega) wr e92 wp (.inl hn)
      exact ⟨st1, loopH_ret e1, e2⟩
    · rw [if_neg hn]
      have e91 := f91 0 ((l.drop pos).take (bl (rest + 1))) (fun b hb => hN b (List.mem_of_mem_drop (List.mem_of_mem_take hb))) (by rw [List.length_take]; omega)
      rw [cutN hN, show bl (rest + 1) = pos + bl (rest + 1) - pos by omega] at e91
      rw [show pos + bl (rest + 1) - pos = bl (rest + 1) by omega] at e91
      have hm := Nat.mod_lt (leN l / 2 ^ pos) (Nat.two_pow_pos (bl (rest + 1)))
      have hp2 : 2 ^ bl (rest + 1) ≤ 2 ^ 10 := Nat.pow_le_pow_right (by omega) hb
      generalize leN l / 2 ^ pos % 2 ^ bl (rest + 1) = v at *
      have wv : IntKind.i64.wrap (v : Int) = v := i64_in _ (by omega)
      have e91' : F91 [.one (.ro 0 (.ints .i64 ((l.drop pos).take (pos + bl (rest + 1) - pos))))] [] = some (.one (.int .u32 v), []) := by rw [show pos + bl (rest + 1) - pos = bl (rest + 1) by omega]; exact e91
      by_cases hv : rest + 1 < v
      · rw [if_pos hv]
        obtain ⟨st1, e1, e2⟩ := over50 l log pos (pos + bl (rest + 1)) ((rest + 1 : Nat) : Int) _ v out (by omega) wr e92 wp (by omega) (by omega) (by omega) e91' wv (by omega)
        exact ⟨st1, loopH_ret e1, e2⟩
      · rw [if_neg hv]
        obtain ⟨st1, e1, e2⟩ := body50 l log pos (pos + bl (rest + 1)) ((rest + 1 : Nat) : Int) _ v ((rest + 1 - v : Nat) : Int) out (by omega) wr e92 wp (by omega) (by omega) (by omega) e91' wv (by omega) (by rw [i64_in _ (by omega)]; omega)
        have ih := loop50 log l hN hl j (rest + 1 - v) (pos + bl (rest + 1)) (K - 1) (out ++ [(v : Int)]) (by rw [List.length_append]; simp only [List.length_cons, List.length_nil]; omega) (by omega) (by omega) (by omega)
        rw [loopH_norm e1 (by omega), e2]
        cases hh : hlp (leN l) l.length j (rest + 1 - v) (pos + bl (rest + 1)) with
        | none => rw [hh] at ih; exact ih
        | some p =>
          rw [hh] at ih
          simp only [Option.map_some]
          simp only at ih
          rw [List.append_assoc, List.singleton_append] at ih
          exact ih
theorem f50 (l : List Int) (hN : isN l) (hl : l.length ≤ 90000) : F50 [.one (.ro 0 (.ints .i64 l))] [] = some (match hdT (leN l) l.length 0 with
    | some p => (tup3i (.row 0) (p.2.1 : Nat) (p.2.2 : Nat), [.rows (.ints .i64 p.1)])
    | none => (tup3i (.row 0) 0 0, [.rows (.ints .i64 [])])) := by
  unfold hdT
  rw [Nat.pow_zero, Nat.div_one, Nat.zero_add]
  by_cases h3 : l.length < 3
  · rw [if_pos h3]
    have h3i : (l.length : Int) < 3 := by omega
    simp -implicitDefEqProofs [F50, c50, upd, h3, h3i, tup3i, RC.len]
  · rw [if_neg h3]
    have h3i : ¬ (l.length : Int) < 3 := by omega
    have h3j : (3 : Int) ≤ l.length := by omega
    have h3k : 3 ≤ l.length := by omega
    have e91 := f91 0 ((l.drop 0).take 3) (fun b hb => hN b (List.mem_of_mem_drop (List.mem_of_mem_take hb))) (by rw [List.length_take]; omega)
    rw [cutN hN, Nat.pow_zero, Nat.div_one, List.drop_zero] at e91
    have h8 : (2 : Nat) ^ 3 = 8 := rfl
    rw [h8] at e91
    have hm := Nat.mod_lt (leN l) (show 0 < 8 by decide)
    generalize hg : leN l % 8 = g at *
    have wg : IntKind.i64.wrap (g : Int) = g := i64_in _ (by omega)
    have wg5 : IntKind.i64.wrap (5 + (g : Int)) = ((5 + g : Nat) : Int) := by rw [i64_in _ (by omega)]; omega
    by_cases h9 : 9 < 5 + g
    · rw [if_pos h9]
      have h9i : (9 : Int) < ((5 + g : Nat) : Int) := by omega
      generalize ((5 + g : Nat) : Int) = lg at *
      simp -implicitDefEqProofs [F50, c50, upd, h3, h3i, h3j, h3k, e91, wg, wg5, h9i, tup3i, RC.len, RC.size, RC.cut]
    · rw [if_neg h9]
      have h9i : ¬ (9 : Int) < ((5 + g : Nat) : Int) := by omega
      have hp2 := pow9 (log := ((5 + g : Nat) : Int)) (by omega)
      have e78 := e78 ((5 + g : Nat) : Int) (by omega) (by omega)
      rw [Int.toNat_natCast] at hp2 e78
      have hlp' := loop50 ((5 + g : Nat) : Int) l hN hl 256 (2 ^ (5 + g)) 3 KK [] rfl hp2.2 h3k (by rw [KK_eq]; omega)
      have c3 : ((3 : Nat) : Int) = 3 := rfl
      cases hh : hlp (leN l) l.length 256 (2 ^ (5 + g)) 3 with
      | some p =>
        rw [hh] at hlp'
        simp only [Option.map_some]
        simp only [List.nil_append] at hlp'
        obtain ⟨env, e, g5, g6, g7⟩ := hlp'
        simp only [canon50, c3] at e
        generalize ((5 + g : Nat) : Int) = lg at *
        generalize ((2 ^ (5 + g) : Nat) : Int) = sz at *
        simp -implicitDefEqProofs [F50, c50, upd, h3, h3i, h3j, h3k, e91, wg, wg5, h9i, e78, tup3i, RC.len, RC.size, RC.cut, e, g5, g6, g7]
      | none =>
        rw [hh] at hlp'
        simp only [Option.map_none]
        obtain ⟨st1, e, e2⟩ := hlp'
        rw [← e2]
        obtain ⟨env1, rts1, hp1⟩ := st1
        simp only [canon50, c3] at e
        have e1' : evF T50 KK c50 [.one (.ro 0 (.ints .i64 l))] [] = resC res49 (some (.ret, ⟨env1, rts1, hp1⟩)) := by
          unfold evF
          have hr2 : c50.results = res49 := rfl
          rw [hr2]
          refine congrArg _ ?_
          generalize ((5 + g : Nat) : Int) = lg at *
          generalize ((2 ^ (5 + g) : Nat) : Int) = sz at *
          simp -implicitDefEqProofs [c50, upd, h3, h3i, h3j, h3k, e91, wg, wg5, h9i, e78, RC.len, RC.size, RC.cut, e]
        exact e1'
/-! ### the same numbers -/
def canon52 (A : List Int) (i : Int) : St := ⟨[(0, .one (.ro 0 (.ints .i64 A))), (1, .one (.ro 1 (.ints .i64 A))), (12, .one (.int .i64 A.length)), (13, .one (.int .i64 i))], [.ro 0 (.ints .i64 A), .ro 1 (.ints .i64 A)], []⟩
theorem body52 (A : List Int) (i : Nat) (hi : i < A.length) (i' : Int) (wi : IntKind.i64.wrap ((i : Int) + 1) = i') :
    ∃ st1, evC T52 KK b52x0 (canon52 A i) = some (.norm, st1) ∧ St.head [0, 1, 12, 13] st1 = canon52 A i' := by
  have hii : (i : Int) < A.length := by omega
  have hg : A[i]?.getD 0 = A[i] := by rw [List.getElem?_eq_getElem hi]; rfl
  simp -implicitDefEqProofs [b52x0, canon52, upd, hi, hii, hg, RC.len, RC.size, RC.get, wi]
theorem end52 (A : List Int) : ∃ env, evC T52 KK b52x0 (canon52 A A.length) = some (.exit 0, ⟨env, [.ro 0 (.ints .i64 A), .ro 1 (.ints .i64 A)], []⟩) := by
  simp -implicitDefEqProofs [b52x0, canon52, upd]
theorem loop52 (A : List Int) (hA : A.length ≤ 90000) : ∀ (j i K : Nat), i + j = A.length → j < K →
    ∃ env, loopH (evC T52 KK b52x0) [0, 1, 12, 13] K (canon52 A i) = some (.exit 0, ⟨env, [.ro 0 (.ints .i64 A), .ro 1 (.ints .i64 A)], []⟩)
  | 0, i, K, hi, hK => by
    obtain rfl : i = A.length := by omega
    obtain ⟨env, e⟩ := end52 A
    exact ⟨env, loopH_exit e⟩
  | j + 1, i, K, hi, hK => by
    obtain ⟨st1, e1, e2⟩ := body52 A i (by omega) ((i + 1 : Nat) : Int) (by rw [i64_in _ (by omega)]; omega)
    obtain ⟨env, e⟩ := loop52 A hA j (i + 1) (K - 1) (by omega) (by omega)
    exact ⟨env, by rw [loopH_norm e1 (by omega), e2]; exact e⟩
theorem f52 (A : List Int) (hA : A.length ≤ 90000) : F52 [.one (.ro 0 (.ints .i64 A)), .one (.ro 1 (.ints .i64 A))] [] = some (.one (.bool true), []) := by
  obtain ⟨env, e⟩ := loop52 A hA A.length 0 KK (by omega) (by rw [KK_eq]; omega)
  have z : ((0 : Nat) : Int) = 0 := rfl
  simp only [canon52, z] at e
  simp -implicitDefEqProofs [F52, c52, upd, RC.len, e]
theorem hlp_ok {N T : Nat} : ∀ {j rest pos : Nat} {o : List Int} {pos' : Nat}, hlp N T j rest pos = some (o, pos') → rest ≤ 512 → pos ≤ T → okN o = true ∧ sumL o = (rest : Int) ∧ o.length ≤ j ∧ pos ≤ pos' ∧ pos' ≤ T
  | 0, rest, pos, o, pos', h, hr, hp => by
    simp only [hlp] at h
    split at h
    · simp only [Option.some.injEq, Prod.mk.injEq] at h
      obtain ⟨rfl, rfl⟩ := h
      rename_i h0
      subst h0
      exact ⟨rfl, rfl, Nat.le_refl _, Nat.le_refl _, hp⟩
    · cases h
  | j + 1, rest, pos, o, pos', h, hr, hp => by
    rw [hlp] at h
    split at h
    · simp only [Option.some.injEq, Prod.mk.injEq] at h
      obtain ⟨rfl, rfl⟩ := h
      rename_i h0
      subst h0
      exact ⟨rfl, rfl, Nat.zero_le _, Nat.le_refl _, hp⟩
    · split at h
      · cases h
      · split at h
        · cases h
        · obtain ⟨q, h1, h2⟩ := Option.map_eq_some_iff.1 h
          simp only [Prod.mk.injEq] at h2
          obtain ⟨rfl, rfl⟩ := h2
          obtain ⟨p1, p2, p3, p4, p5⟩ := hlp_ok h1 (by omega) (by omega)
          generalize N / 2 ^ pos % 2 ^ bl rest = v at *
          refine ⟨?_, ?_, ?_, by omega, p5⟩
          · simp only [okN, Bool.and_eq_true, decide_eq_true_eq]; exact ⟨by omega, p1⟩
          · simp only [sumL]; rw [p2]; omega
          · simp only [List.length_cons]; omega
theorem hdT_ok {N T pos : Nat} {o : List Int} {lg pos' : Nat} (h : hdT N T pos = some (o, lg, pos')) : fairB o (lg : Nat) = true ∧ o.length ≤ 256 ∧ pos + 3 ≤ pos' ∧ pos' ≤ T ∧ 5 ≤ lg ∧ lg ≤ 9 := by
  unfold hdT at h
  split at h
  · cases h
  · split at h
    · cases h
    · obtain ⟨q, h1, h2⟩ := Option.map_eq_some_iff.1 h
      simp only [Prod.mk.injEq] at h2
      obtain ⟨rfl, rfl, rfl⟩ := h2
      have hp2 := pow9 (log := ((5 + N / 2 ^ pos % 8 : Nat) : Int)) (by omega)
      rw [Int.toNat_natCast] at hp2
      obtain ⟨p1, p2, p3, p4, p5⟩ := hlp_ok h1 hp2.2 (by omega)
      refine ⟨?_, p3, p4, p5, by omega, by omega⟩
      unfold fairB
      rw [p1, p2, Int.toNat_natCast, decide_eq_true (show (5 : Int) ≤ ((5 + N / 2 ^ pos % 8 : Nat) : Int) ∧ ((5 + N / 2 ^ pos % 8 : Nat) : Int) ≤ 9 ∧ q.1.length ≤ 256 by omega)]
      simp
end Go.X.Try
