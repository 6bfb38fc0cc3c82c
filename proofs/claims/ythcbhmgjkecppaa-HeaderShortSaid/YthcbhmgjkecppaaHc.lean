import Derived.Test.YthcbhmgjkecppaaHb
set_option maxRecDepth 100000
set_option linter.unusedSimpArgs false
set_option linter.unusedVariables false
namespace Go.X.Try
open Go.IntWalk
/-! ### a share's numbers, and in how many bits -/
def hpr : Nat → List Int → List (Nat × Nat)
  | _, [] => []
  | rest, n :: l => if rest = 0 then [] else (n.toNat, bl rest) :: hpr (rest - n.toNat) l
def allP (log : Int) (l : List Int) : List (Nat × Nat) := ((log - 5).toNat, 3) :: hpr (2 ^ log.toNat) l
def prN : List (Nat × Nat) → Nat
  | [] => 0
  | p :: l => p.1 % 2 ^ p.2 + 2 ^ p.2 * prN l
def prL : List (Nat × Nat) → Nat
  | [] => 0
  | p :: l => p.2 + prL l
/-! ### putting -/
def put99 (bs : List Int) (c : Int) : List Ob := [.cells (some 0) [.ptr 1 0], .cells (some 1) [.row 2, .int .i64 c], .rows (.ints .u8 bs)]
theorem f99 (v n : Int) (v' n' c N : Nat) (bs : List Int) (h : Holds bs c N) (hn : n = n') (hn2 : n' ≤ 32) (hv : v = v') (hv2 : v' < 2 ^ 32) (hc : c + n' ≤ 700000) :
    ∃ bs', F99 [.one (.int .i64 v), .one (.int .i64 n), .one (.ptr 0 0)] (put99 bs c) = some (.tup [], put99 bs' (c + n' : Nat)) ∧ Holds bs' (c + n') (N + v' % 2 ^ n' * 2 ^ c) := by
  subst hn hv
  obtain ⟨bs', e67, h'⟩ := f67 v' n' c N bs h hn2 hv2 hc
  refine ⟨bs', ?_, h'⟩
  have wv : IntKind.u32.wrap (v' : Int) = v' := u32_in _ (by omega)
  simp only [bufHp] at e67
  generalize ((c + n' : Nat) : Int) = c' at *
  simp -implicitDefEqProofs [F99, c99, upd, put99, wv, e67]
def fn99 : SV := .fn 99 [.ptr 0 0]
def canon98 (log : Int) (l : List Int) (rest i : Int) (bs : List Int) (c : Int) : St :=
  ⟨[(2, .one fn99), (6, .one (.int .i64 rest)), (15, .one (.ro 0 (.ints .i64 l))), (16, .one (.int .i64 l.length)), (17, .one (.int .i64 i))], [.ro 0 (.ints .i64 l), .int .i64 log, fn99], put99 bs c⟩
theorem end98 (log : Int) (l : List Int) (rest i : Int) (bs : List Int) (c : Int) (hi : ¬ i < l.length) : ∃ env, evC T98 KK b98x0 (canon98 log l rest i bs c) = some (.exit 0, ⟨env, [.ro 0 (.ints .i64 l), .int .i64 log, fn99], put99 bs c⟩) := by
  simp -implicitDefEqProofs [b98x0, canon98, upd, hi]
theorem ret98 (log : Int) (l : List Int) (i : Nat) (bs : List Int) (c : Int) (hi : i < l.length) : ∃ env, evC T98 KK b98x0 (canon98 log l 0 i bs c) = some (.ret, ⟨env, [.ro 0 (.ints .i64 l), .int .i64 log, fn99], put99 bs c⟩) := by
  have hii : (i : Int) < l.length := by omega
  simp -implicitDefEqProofs [b98x0, canon98, put99, fn99, upd, hi, hii, RC.len, RC.size, RC.get]
theorem body98 (log : Int) (l : List Int) (rest w n rest' i' : Int) (i : Nat) (bs bs' : List Int) (c c' : Int) (hi : i < l.length) (hn : l[i]?.getD 0 = n) (hr : ¬ rest = 0) (wr : IntKind.u32.wrap rest = rest) (e90 : F90 [.one (.int .u32 rest)] [] = some (.one (.int .i64 w), []))
    (e99 : F99 [.one (.int .i64 n), .one (.int .i64 w), .one (.ptr 0 0)] (put99 bs c) = some (.tup [], put99 bs' c')) (ws : IntKind.i64.wrap (rest - n) = rest') (wi : IntKind.i64.wrap ((i : Int) + 1) = i') :
    ∃ st1, evC T98 KK b98x0 (canon98 log l rest i bs c) = some (.norm, st1) ∧ St.head [2, 6, 15, 16, 17] st1 = canon98 log l rest' i' bs' c' := by
  have hii : (i : Int) < l.length := by omega
  have hn' : ∀ hh, l[i]'hh = n := fun hh => by rw [List.getElem?_eq_getElem hh] at hn; exact hn
  simp only [put99] at e99
  simp -implicitDefEqProofs [b98x0, canon98, put99, fn99, upd, hi, hii, hn, hn', hr, wr, e90, e99, ws, wi, RC.len, RC.size, RC.get]
theorem sumL_ge {x : Int} {l : List Int} (h : okN (x :: l) = true) : 0 ≤ x ∧ x ≤ sumL (x :: l) ∧ okN l = true := by
  simp only [okN, Bool.and_eq_true, decide_eq_true_eq] at h
  have := sumL_nonneg h.2
  exact ⟨h.1.1, by simp only [sumL]; omega, h.2⟩
theorem loop98 (log : Int) (l : List Int) (hl : l.length ≤ 300) : ∀ (j i rest K c N : Nat) (bs : List Int), i + j = l.length → rest ≤ 512 → okN (l.drop i) = true → sumL (l.drop i) = (rest : Int) → c ≤ 13 + 10 * i → Holds bs c N → j + 1 < K →
    ∃ x env bs', loopH (evC T98 KK b98x0) [2, 6, 15, 16, 17] K (canon98 log l rest i bs c) = some (x, ⟨env, [.ro 0 (.ints .i64 l), .int .i64 log, fn99], put99 bs' (c + prL (hpr rest (l.drop i)) : Nat)⟩) ∧ (x = .ret ∨ x = .exit 0) ∧ Holds bs' (c + prL (hpr rest (l.drop i))) (N + prN (hpr rest (l.drop i)) * 2 ^ c)
  | 0, i, rest, K, c, N, bs, hi, hr, ho, hs, hc, hh, hK => by
    have hd : l.drop i = [] := List.drop_eq_nil_of_le (by omega)
    obtain ⟨env, e⟩ := end98 log l rest i bs c (by omega)
    rw [hd]
    simp only [hpr, prL, prN, Nat.add_zero, Nat.zero_mul]
    exact ⟨_, env, bs, loopH_exit e, .inr rfl, hh⟩
  | j + 1, i, rest, K, c, N, bs, hi, hr, ho, hs, hc, hh, hK => by
    have hlt : i < l.length := by omega
    have hd : l.drop i = l[i] :: l.drop (i + 1) := List.drop_eq_getElem_cons hlt
    have hg : l[i]?.getD 0 = l[i] := by rw [List.getElem?_eq_getElem hlt]; rfl
    have wi : IntKind.i64.wrap ((i : Int) + 1) = ((i + 1 : Nat) : Int) := by rw [i64_in _ (by omega)]; omega
    by_cases h0 : rest = 0
    · subst h0
      obtain ⟨env, e⟩ := ret98 log l i bs c hlt
      have e0 : hpr 0 (l.drop i) = [] := by rw [hd]; rfl
      rw [e0]
      simp only [prL, prN, Nat.add_zero, Nat.zero_mul]
      exact ⟨_, env, bs, loopH_ret e, .inl rfl, hh⟩
    · rw [hd] at ho hs
      obtain ⟨p1, p2, p3⟩ := sumL_ge ho
      rw [hs] at p2
      have e1 : hpr rest (l.drop i) = ((l[i]).toNat, bl rest) :: hpr (rest - (l[i]).toNat) (l.drop (i + 1)) := by rw [hd, hpr, if_neg h0]
      have hb := bl9 hr
      have e90 := e90 (rest : Int) (by omega) (by omega)
      rw [Int.toNat_natCast] at e90
      have wr : IntKind.u32.wrap (rest : Int) = rest := u32_in _ (by omega)
      obtain ⟨bs1, e99, hh1⟩ := f99 l[i] (bl rest : Nat) (l[i]).toNat (bl rest) c N bs hh rfl (by omega) (by omega) (by omega) (by omega)
      obtain ⟨st1, q1, q2⟩ := body98 log l rest (bl rest : Nat) l[i] ((rest - (l[i]).toNat : Nat) : Int) ((i + 1 : Nat) : Int) i bs bs1 c _ hlt hg (by omega) wr e90 e99 (by rw [i64_in _ (by omega)]; omega) wi
      obtain ⟨x, env, bs2, q3, q4, q5⟩ := loop98 log l hl j (i + 1) (rest - (l[i]).toNat) (K - 1) (c + bl rest) _ bs1 (by omega) (by omega) p3 (by simp only [sumL] at hs; omega) (by omega) hh1 (by omega)
      refine ⟨x, env, bs2, ?_, q4, ?_⟩
      · rw [loopH_norm q1 (by omega), q2, q3, e1]
        simp only [prL, Nat.add_assoc]
      · rw [e1]
        simp only [prL, prN]
        rw [Nat.add_assoc] at q5
        have : N + (l[i]).toNat % 2 ^ bl rest * 2 ^ c + prN (hpr (rest - (l[i]).toNat) (l.drop (i + 1))) * 2 ^ (c + bl rest) = N + ((l[i]).toNat % 2 ^ bl rest + 2 ^ bl rest * prN (hpr (rest - (l[i]).toNat) (l.drop (i + 1)))) * 2 ^ c := by
          rw [Nat.add_mul, Nat.pow_add, Nat.add_assoc, Nat.mul_comm (2 ^ bl rest) (prN _), Nat.mul_assoc, Nat.mul_comm (2 ^ c) (2 ^ bl rest)]
        rw [this] at q5
        exact q5
theorem shl9 {log : Int} (h : 5 ≤ log ∧ log ≤ 9) : shlI .i64 1 log = ((2 ^ log.toNat : Nat) : Int) := by
  have hp2 := pow9 h
  have hmin : Nat.min log.toNat 64 = log.toNat := Nat.min_eq_left (by omega)
  have : shlI .i64 1 log = IntKind.i64.wrap (1 * 2 ^ Nat.min log.toNat 64) := rfl
  rw [this, hmin, Int.one_mul]
  have e2 : (2 : Int) ^ log.toNat = ((2 ^ log.toNat : Nat) : Int) := by push_cast; rfl
  rw [e2]
  exact i64_in _ (by omega)
theorem fair_parts {l : List Int} {log : Int} (h : fairB l log = true) : (5 ≤ log ∧ log ≤ 9) ∧ l.length ≤ 256 ∧ okN l = true ∧ sumL l = ((2 ^ log.toNat : Nat) : Int) := by
  unfold fairB at h
  simp only [Bool.and_eq_true, decide_eq_true_eq] at h
  exact ⟨⟨h.1.1, h.1.2.1⟩, h.1.2.2, h.2.1, h.2.2⟩
theorem f98p (log : Int) (l : List Int) (hf : fairB l log = true) (c N : Nat) (bs : List Int) (hh : Holds bs c N) (hc : c ≤ 10) :
    ∃ bs', F98 [.one (.ro 0 (.ints .i64 l)), .one (.int .i64 log), .one fn99] (put99 bs c) = some (.tup [], put99 bs' (c + prL (allP log l) : Nat)) ∧ Holds bs' (c + prL (allP log l)) (N + prN (allP log l) * 2 ^ c) := by
  obtain ⟨h5, hl, ho, hs⟩ := fair_parts hf
  have hp2 := pow9 h5
  have es := shl9 h5
  have w5 : IntKind.i64.wrap (log - 5) = log - 5 := i64_in _ (by omega)
  have hn0 : ¬ log < 0 := by omega
  obtain ⟨bs1, e99, hh1⟩ := f99 (log - 5) 3 (log - 5).toNat 3 c N bs hh rfl (by omega) (by omega) (by omega) (by omega)
  obtain ⟨x, env, bs2, e, hx, hh2⟩ := loop98 log l (by omega) l.length 0 (2 ^ log.toNat) KK (c + 3) _ bs1 (by omega) hp2.2 (by rw [List.drop_zero]; exact ho) (by rw [List.drop_zero]; exact hs) (by omega) hh1 (by rw [KK_eq]; omega)
  rw [List.drop_zero] at e hh2
  have eL : c + 3 + prL (hpr (2 ^ log.toNat) l) = c + prL (allP log l) := by unfold allP; simp only [prL]; omega
  have eN : N + (log - 5).toNat % 2 ^ 3 * 2 ^ c + prN (hpr (2 ^ log.toNat) l) * 2 ^ (c + 3) = N + prN (allP log l) * 2 ^ c := by
    unfold allP
    simp only [prN]
    rw [Nat.add_mul, Nat.pow_add, Nat.add_assoc, Nat.mul_comm (2 ^ 3) (prN _), Nat.mul_assoc, Nat.mul_comm (2 ^ c) (2 ^ 3)]
  rw [eL] at e hh2
  rw [eN] at hh2
  refine ⟨bs2, ?_, hh2⟩
  have z : ((0 : Nat) : Int) = 0 := rfl
  simp only [canon98, put99, fn99, z] at e
  simp only [put99] at e99
  generalize ((c + prL (allP log l) : Nat) : Int) = cc at *
  generalize ((c + 3 : Nat) : Int) = c3 at *
  generalize ((2 ^ log.toNat : Nat) : Int) = sz at *
  rcases hx with rfl | rfl <;> simp -implicitDefEqProofs [F98, c98, upd, w5, e99, es, hn0, RC.len, e, put99, fn99]
/-! ### a share's bits -/
def tupB (b : Bool) : AV := .one (.bool b)
theorem f68 (l : List Int) (log : Int) (hl : l.length ≤ 300) (hf : fairB l log = true) (c N : Nat) (bs : List Int) (hh : Holds bs c N) (hc : c ≤ 10) :
    ∃ bs', F68 [.one (.ptr 0 0), .one (.ro 1 (.ints .i64 l)), .one (.int .i64 log)] (bufHp (some 0) bs c) = some (tupB true, bufHp (some 0) bs' (c + prL (allP log l) : Nat)) ∧ Holds bs' (c + prL (allP log l)) (N + prN (allP log l) * 2 ^ c) := by
  have e15 := f15 0 l log hl
  rw [hf] at e15
  obtain ⟨bs', e98, hh'⟩ := f98p log l hf c N bs hh hc
  refine ⟨bs', ?_, hh'⟩
  simp only [put99, fn99] at e98
  generalize ((c + prL (allP log l) : Nat) : Int) = cc at *
  simp -implicitDefEqProofs [F68, c68, upd, bufHp, tupB, e15, e98]
theorem f68n (l : List Int) (log : Int) (hl : l.length ≤ 300) (hf : fairB l log = false) (c : Int) (bs : List Int) :
    F68 [.one (.ptr 0 0), .one (.ro 1 (.ints .i64 l)), .one (.int .i64 log)] (bufHp (some 0) bs c) = some (tupB false, bufHp (some 0) bs c) := by
  have e15 := f15 0 l log hl
  rw [hf] at e15
  simp -implicitDefEqProofs [F68, c68, upd, bufHp, tupB, e15]
theorem f68z (l : List Int) (log : Int) : F68 [.one .nilp, .one (.ro 1 (.ints .i64 l)), .one (.int .i64 log)] [] = some (tupB false, []) := by
  simp -implicitDefEqProofs [F68, c68, upd, tupB]
end Go.X.Try
