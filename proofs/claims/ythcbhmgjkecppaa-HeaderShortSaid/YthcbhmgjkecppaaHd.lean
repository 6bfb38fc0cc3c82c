import Derived.Test.YthcbhmgjkecppaaHc
set_option maxRecDepth 100000
set_option linter.unusedSimpArgs false
set_option linter.unusedVariables false
namespace Go.X.Try
open Go.IntWalk
/-! ### how many bits -/
def cnt100 (a : Int) : List Ob := [.cells (some 0) [.int .i64 a]]
def fn100 : SV := .fn 100 [.ptr 0 0]
theorem f100 (v n a b : Int) (w : IntKind.i64.wrap (a + n) = b) : F100 [.one (.int .i64 v), .one (.int .i64 n), .one (.ptr 0 0)] (cnt100 a) = some (.tup [], cnt100 b) := by
  simp -implicitDefEqProofs [F100, c100, upd, cnt100, w]
def canon98s (log : Int) (l : List Int) (rest i a : Int) : St :=
  ⟨[(2, .one fn100), (6, .one (.int .i64 rest)), (15, .one (.ro 0 (.ints .i64 l))), (16, .one (.int .i64 l.length)), (17, .one (.int .i64 i))], [.ro 0 (.ints .i64 l), .int .i64 log, fn100], cnt100 a⟩
theorem end98s (log : Int) (l : List Int) (rest i a : Int) (hi : ¬ i < l.length) : ∃ env, evC T98 KK b98x0 (canon98s log l rest i a) = some (.exit 0, ⟨env, [.ro 0 (.ints .i64 l), .int .i64 log, fn100], cnt100 a⟩) := by
  simp -implicitDefEqProofs [b98x0, canon98s, upd, hi]
theorem ret98s (log : Int) (l : List Int) (i : Nat) (a : Int) (hi : i < l.length) : ∃ env, evC T98 KK b98x0 (canon98s log l 0 i a) = some (.ret, ⟨env, [.ro 0 (.ints .i64 l), .int .i64 log, fn100], cnt100 a⟩) := by
  have hii : (i : Int) < l.length := by omega
  simp -implicitDefEqProofs [b98x0, canon98s, cnt100, fn100, upd, hi, hii, RC.len, RC.size, RC.get]
theorem body98s (log : Int) (l : List Int) (rest w n rest' i' : Int) (i : Nat) (a b : Int) (hi : i < l.length) (hn : l[i]?.getD 0 = n) (hr : ¬ rest = 0) (wr : IntKind.u32.wrap rest = rest) (e90 : F90 [.one (.int .u32 rest)] [] = some (.one (.int .i64 w), []))
    (wa : IntKind.i64.wrap (a + w) = b) (ws : IntKind.i64.wrap (rest - n) = rest') (wi : IntKind.i64.wrap ((i : Int) + 1) = i') :
    ∃ st1, evC T98 KK b98x0 (canon98s log l rest i a) = some (.norm, st1) ∧ St.head [2, 6, 15, 16, 17] st1 = canon98s log l rest' i' b := by
  have hii : (i : Int) < l.length := by omega
  have hn' : ∀ hh, l[i]'hh = n := fun hh => by rw [List.getElem?_eq_getElem hh] at hn; exact hn
  have e100 := f100 n w a b wa
  simp only [cnt100] at e100
  simp -implicitDefEqProofs [b98x0, canon98s, cnt100, fn100, upd, hi, hii, hn, hn', hr, wr, e90, e100, ws, wi, RC.len, RC.size, RC.get]
theorem loop98s (log : Int) (l : List Int) (hl : l.length ≤ 300) : ∀ (j i rest K c : Nat), i + j = l.length → rest ≤ 512 → okN (l.drop i) = true → sumL (l.drop i) = (rest : Int) → c ≤ 13 + 10 * i → j + 1 < K →
    ∃ x env, loopH (evC T98 KK b98x0) [2, 6, 15, 16, 17] K (canon98s log l rest i c) = some (x, ⟨env, [.ro 0 (.ints .i64 l), .int .i64 log, fn100], cnt100 (c + prL (hpr rest (l.drop i)) : Nat)⟩) ∧ (x = .ret ∨ x = .exit 0)
  | 0, i, rest, K, c, hi, hr, ho, hs, hc, hK => by
    have hd : l.drop i = [] := List.drop_eq_nil_of_le (by omega)
    obtain ⟨env, e⟩ := end98s log l rest i c (by omega)
    rw [hd]
    simp only [hpr, prL, Nat.add_zero]
    exact ⟨_, env, loopH_exit e, .inr rfl⟩
  | j + 1, i, rest, K, c, hi, hr, ho, hs, hc, hK => by
    have hlt : i < l.length := by omega
    have hd : l.drop i = l[i] :: l.drop (i + 1) := List.drop_eq_getElem_cons hlt
    have hg : l[i]?.getD 0 = l[i] := by rw [List.getElem?_eq_getElem hlt]; rfl
    have wi : IntKind.i64.wrap ((i : Int) + 1) = ((i + 1 : Nat) : Int) := by rw [i64_in _ (by omega)]; omega
    by_cases h0 : rest = 0
    · subst h0
      obtain ⟨env, e⟩ := ret98s log l i c hlt
      have e0 : hpr 0 (l.drop i) = [] := by rw [hd]; rfl
      rw [e0]
      simp only [prL, Nat.add_zero]
      exact ⟨_, env, loopH_ret e, .inl rfl⟩
    · rw [hd] at ho hs
      obtain ⟨p1, p2, p3⟩ := sumL_ge ho
      rw [hs] at p2
      have e1 : hpr rest (l.drop i) = ((l[i]).toNat, bl rest) :: hpr (rest - (l[i]).toNat) (l.drop (i + 1)) := by rw [hd, hpr, if_neg h0]
      have hb := bl9 hr
      have e90 := e90 (rest : Int) (by omega) (by omega)
      rw [Int.toNat_natCast] at e90
      have wr : IntKind.u32.wrap (rest : Int) = rest := u32_in _ (by omega)
      obtain ⟨st1, q1, q2⟩ := body98s log l rest (bl rest : Nat) l[i] ((rest - (l[i]).toNat : Nat) : Int) ((i + 1 : Nat) : Int) i c ((c + bl rest : Nat) : Int) hlt hg (by omega) wr e90 (by rw [i64_in _ (by omega)]; omega) (by rw [i64_in _ (by omega)]; omega) wi
      obtain ⟨x, env, q3, q4⟩ := loop98s log l hl j (i + 1) (rest - (l[i]).toNat) (K - 1) (c + bl rest) (by omega) (by omega) p3 (by simp only [sumL] at hs; omega) (by omega) (by omega)
      refine ⟨x, env, ?_, q4⟩
      rw [loopH_norm q1 (by omega), q2, q3, e1]
      simp only [prL, Nat.add_assoc]
theorem f98s (log : Int) (l : List Int) (hf : fairB l log = true) : F98 [.one (.ro 0 (.ints .i64 l)), .one (.int .i64 log), .one fn100] (cnt100 0) = some (.tup [], cnt100 (prL (allP log l) : Nat)) := by
  obtain ⟨h5, hl, ho, hs⟩ := fair_parts hf
  have hp2 := pow9 h5
  have es := shl9 h5
  have w5 : IntKind.i64.wrap (log - 5) = log - 5 := i64_in _ (by omega)
  have hn0 : ¬ log < 0 := by omega
  have e100 := f100 (log - 5) 3 0 3 (by decide)
  obtain ⟨x, env, e, hx⟩ := loop98s log l (by omega) l.length 0 (2 ^ log.toNat) KK 3 (by omega) hp2.2 (by rw [List.drop_zero]; exact ho) (by rw [List.drop_zero]; exact hs) (by omega) (by rw [KK_eq]; omega)
  rw [List.drop_zero] at e
  have eL : 3 + prL (hpr (2 ^ log.toNat) l) = prL (allP log l) := by unfold allP; simp only [prL]
  rw [eL] at e
  have z : ((0 : Nat) : Int) = 0 := rfl
  have c3 : ((3 : Nat) : Int) = 3 := rfl
  simp only [canon98s, cnt100, fn100, z, c3] at e
  simp only [cnt100] at e100
  generalize ((prL (allP log l) : Nat) : Int) = cc at *
  generalize ((2 ^ log.toNat : Nat) : Int) = sz at *
  rcases hx with rfl | rfl <;> simp -implicitDefEqProofs [F98, c98, upd, w5, e100, es, hn0, RC.len, e, cnt100, fn100]
theorem f70 (t : Nat) (l : List Int) (log : Int) (hl : l.length ≤ 300) (hf : fairB l log = true) : F70 [.one (.ro t (.ints .i64 l)), .one (.int .i64 log)] [] = some (.one (.int .i64 (prL (allP log l) : Nat)), []) := by
  have e15 := f15 0 l log hl
  rw [hf] at e15
  have e98 := f98s log l hf
  simp only [cnt100, fn100] at e98
  generalize ((prL (allP log l) : Nat) : Int) = cc at *
  simp -implicitDefEqProofs [F70, c70, upd, e15, e98]
theorem f70n (t : Nat) (l : List Int) (log : Int) (hl : l.length ≤ 300) (hf : fairB l log = false) : F70 [.one (.ro t (.ints .i64 l)), .one (.int .i64 log)] [] = some (.one (.int .i64 0), []) := by
  have e15 := f15 0 l log hl
  rw [hf] at e15
  simp -implicitDefEqProofs [F70, c70, upd, e15]
/-! ### the document's bits -/
def prB : List (Nat × Nat) → List Int
  | [] => []
  | p :: l => ofN p.1 p.2 ++ prB l
theorem prB_isN : ∀ l, isN (prB l)
  | [] => by simp [prB, isN]
  | p :: l => fun b hb => by
    simp only [prB] at hb
    rcases List.mem_append.1 hb with h | h
    · exact ofN_isN _ _ b h
    · exact prB_isN l b h
theorem prB_length : ∀ l, (prB l).length = prL l
  | [] => rfl
  | p :: l => by simp only [prB, prL, List.length_append, ofN_length, prB_length l]
theorem prB_leN : ∀ l, leN (prB l) = prN l
  | [] => rfl
  | p :: l => by simp only [prB, prN, leN_append, leN_ofN, ofN_length, prB_leN l]
def canon71 (log : Int) (l : List Int) (rest i : Int) (out : List Int) : St :=
  ⟨[(0, .one (.ro 0 (.ints .i64 l))), (5, .one (.row 0)), (6, .one (.int .i64 rest)), (7, .one (.int .i64 i))], [.ro 0 (.ints .i64 l), .int .i64 log], [.rows (.ints .i64 out)]⟩
theorem end71 (log : Int) (l : List Int) (rest : Int) (i : Nat) (out : List Int) (h : ¬ i < l.length ∨ rest = 0) : ∃ env, evC T71 KK b71x0 (canon71 log l rest i out) = some (.exit 0, ⟨env, [.ro 0 (.ints .i64 l), .int .i64 log], [.rows (.ints .i64 out)]⟩) ∧ getT 5 env = .one (.row 0) := by
  by_cases hi : i < l.length
  · have hii : (i : Int) < l.length := by omega
    have h0 : rest = 0 := by
      rcases h with h | h
      · exact absurd hi h
      · exact h
    subst h0
    simp -implicitDefEqProofs [b71x0, canon71, upd, hi, hii, RC.len]
  · have hii : ¬ (i : Int) < l.length := by omega
    simp -implicitDefEqProofs [b71x0, canon71, upd, hi, hii, RC.len]
theorem body71 (log : Int) (l : List Int) (rest w n rest' i' : Int) (i : Nat) (out add : List Int) (hi : i < l.length) (hn : l[i]?.getD 0 = n) (hr : 0 < rest) (wr : IntKind.u32.wrap rest = rest) (wn : IntKind.u32.wrap n = n) (e92 : F92 [.one (.int .u32 rest)] [] = some (.one (.int .i64 w), []))
    (e74 : F74 [.one (.int .u32 n), .one (.int .i64 w)] [] = some (.one (.row 0), [.rows (.ints .i64 add)])) (hm : (out.length + add.length) * 8 ≤ 140737488355328) (ws : IntKind.i64.wrap (rest - n) = rest') (wi : IntKind.i64.wrap ((i : Int) + 1) = i') :
    ∃ st1, evC T71 KK b71x0 (canon71 log l rest i out) = some (.norm, st1) ∧ St.head [0, 5, 6, 7] st1 = canon71 log l rest' i' (out ++ add) := by
  have hii : (i : Int) < l.length := by omega
  have hn' : ∀ hh, l[i]'hh = n := fun hh => by rw [List.getElem?_eq_getElem hh] at hn; exact hn
  simp -implicitDefEqProofs [b71x0, canon71, upd, hi, hii, hn, hn', hr, wr, wn, e92, e74, hm, ws, wi, RC.len, RC.size, RC.get, RC.app]
theorem loop71 (log : Int) (l : List Int) (hl : l.length ≤ 300) : ∀ (j i rest K : Nat) (out : List Int), i + j = l.length → rest ≤ 512 → okN (l.drop i) = true → sumL (l.drop i) = (rest : Int) → out.length ≤ 13 + 10 * i → j + 1 < K →
    ∃ env, loopH (evC T71 KK b71x0) [0, 5, 6, 7] K (canon71 log l rest i out) = some (.exit 0, ⟨env, [.ro 0 (.ints .i64 l), .int .i64 log], [.rows (.ints .i64 (out ++ prB (hpr rest (l.drop i))))]⟩) ∧ getT 5 env = .one (.row 0)
  | 0, i, rest, K, out, hi, hr, ho, hs, hc, hK => by
    have hd : l.drop i = [] := List.drop_eq_nil_of_le (by omega)
    obtain ⟨env, e, g⟩ := end71 log l rest i out (.inl (by omega))
    rw [hd]
    simp only [hpr, prB, List.append_nil]
    exact ⟨env, loopH_exit e, g⟩
  | j + 1, i, rest, K, out, hi, hr, ho, hs, hc, hK => by
    have hlt : i < l.length := by omega
    have hd : l.drop i = l[i] :: l.drop (i + 1) := List.drop_eq_getElem_cons hlt
    have hg : l[i]?.getD 0 = l[i] := by rw [List.getElem?_eq_getElem hlt]; rfl
    have wi : IntKind.i64.wrap ((i : Int) + 1) = ((i + 1 : Nat) : Int) := by rw [i64_in _ (by omega)]; omega
    by_cases h0 : rest = 0
    · subst h0
      obtain ⟨env, e, g⟩ := end71 log l 0 i out (.inr rfl)
      have e0 : hpr 0 (l.drop i) = [] := by rw [hd]; rfl
      rw [e0]
      simp only [prB, List.append_nil]
      have z : ((0 : Nat) : Int) = 0 := rfl
      rw [z]
      exact ⟨env, loopH_exit e, g⟩
    · rw [hd] at ho hs
      obtain ⟨p1, p2, p3⟩ := sumL_ge ho
      rw [hs] at p2
      have e1 : hpr rest (l.drop i) = ((l[i]).toNat, bl rest) :: hpr (rest - (l[i]).toNat) (l.drop (i + 1)) := by rw [hd, hpr, if_neg h0]
      have hb := bl9 hr
      have e92 := e92 (rest : Int) (by omega) (by omega)
      rw [Int.toNat_natCast] at e92
      have wr : IntKind.u32.wrap (rest : Int) = rest := u32_in _ (by omega)
      have e74 := f74 (l[i]).toNat (bl rest) (by omega) (by omega)
      rw [show (((l[i]).toNat : Nat) : Int) = l[i] by omega] at e74
      have hol := ofN_length (bl rest) (l[i]).toNat
      obtain ⟨st1, q1, q2⟩ := body71 log l rest (bl rest : Nat) l[i] ((rest - (l[i]).toNat : Nat) : Int) ((i + 1 : Nat) : Int) i out _ hlt hg (by omega) wr (u32_in _ (by omega)) e92 e74 (by omega) (by rw [i64_in _ (by omega)]; omega) wi
      obtain ⟨env, q3, q4⟩ := loop71 log l hl j (i + 1) (rest - (l[i]).toNat) (K - 1) (out ++ ofN (l[i]).toNat (bl rest)) (by omega) (by omega) p3 (by simp only [sumL] at hs; omega) (by rw [List.length_append, hol]; omega) (by omega)
      refine ⟨env, ?_, q4⟩
      rw [loopH_norm q1 (by omega), q2, q3, e1]
      simp only [prB, List.append_assoc]
theorem f71 (l : List Int) (log : Int) (hf : fairB l log = true) : F71 [.one (.ro 0 (.ints .i64 l)), .one (.int .i64 log)] [] = some (.one (.row 0), [.rows (.ints .i64 (prB (allP log l)))]) := by
  obtain ⟨h5, hl, ho, hs⟩ := fair_parts hf
  have hp2 := pow9 h5
  have w5 : IntKind.i64.wrap (log - 5) = log - 5 := i64_in _ (by omega)
  have wu : IntKind.u32.wrap (log - 5) = log - 5 := u32_in _ (by omega)
  have e78 := e78 log (by omega) (by omega)
  have e74 := f74 (log - 5).toNat 3 (by omega) (by omega)
  have c3 : ((3 : Nat) : Int) = 3 := rfl
  rw [show (((log - 5).toNat : Nat) : Int) = log - 5 by omega, c3] at e74
  have hol := ofN_length 3 (log - 5).toNat
  obtain ⟨env, e, g⟩ := loop71 log l (by omega) l.length 0 (2 ^ log.toNat) KK (ofN (log - 5).toNat 3) (by omega) hp2.2 (by rw [List.drop_zero]; exact ho) (by rw [List.drop_zero]; exact hs) (by omega) (by rw [KK_eq]; omega)
  rw [List.drop_zero] at e
  have eB : ofN (log - 5).toNat 3 ++ prB (hpr (2 ^ log.toNat) l) = prB (allP log l) := rfl
  rw [eB] at e
  have z : ((0 : Nat) : Int) = 0 := rfl
  simp only [canon71, z] at e
  generalize prB (allP log l) = bb at *
  generalize ofN (log - 5).toNat 3 = b3 at *
  generalize ((2 ^ log.toNat : Nat) : Int) = sz at *
  simp -implicitDefEqProofs [F71, c71, upd, w5, wu, e78, e74, e, g]
end Go.X.Try
