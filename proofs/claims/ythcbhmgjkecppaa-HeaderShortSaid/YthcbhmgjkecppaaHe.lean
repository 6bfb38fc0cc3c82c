import Derived.Test.YthcbhmgjkecppaaHd
set_option maxRecDepth 100000
set_option linter.unusedSimpArgs false
set_option linter.unusedVariables false
namespace Go.X.Try
open Go.IntWalk
/-! ### without noughts at the end -/
def canon76 (l : List Int) (i : Int) : St := ⟨[(0, .one (.ro 0 (.ints .i64 l))), (3, .one (.int .i64 i))], [.ro 0 (.ints .i64 l)], []⟩
theorem body76 (l : List Int) (i : Nat) (hi : i < l.length) (hl : l.length ≤ 100000) (h0 : l[i]?.getD 0 = 0) : ∃ st1, evC T76 KK b76x0 (canon76 l ((i + 1 : Nat) : Int)) = some (.norm, st1) ∧ St.head [0, 3] st1 = canon76 l i := by
  have hii : (i : Int) < l.length := by omega
  have hn' : ∀ hh, l[i]'hh = 0 := fun hh => by rw [List.getElem?_eq_getElem hh] at h0; exact h0
  have hp : (0 : Int) < ((i + 1 : Nat) : Int) := by omega
  have w : IntKind.i64.wrap (((i + 1 : Nat) : Int) - 1) = i := by rw [i64_in _ (by omega)]; omega
  generalize ((i + 1 : Nat) : Int) = i1 at *
  simp -implicitDefEqProofs [b76x0, canon76, hi, hii, h0, hn', hp, w, RC.len, RC.size, RC.get]
theorem end76z (l : List Int) : ∃ env, evC T76 KK b76x0 (canon76 l 0) = some (.exit 0, ⟨env, [.ro 0 (.ints .i64 l)], []⟩) ∧ getT 0 env = .one (.ro 0 (.ints .i64 l)) ∧ getT 3 env = .one (.int .i64 0) := by
  simp -implicitDefEqProofs [b76x0, canon76]
theorem end76 (l : List Int) (i : Nat) (hi : i < l.length) (hl : l.length ≤ 100000) (x : Int) (h0 : l[i]?.getD 0 = x) (hx : x ≠ 0) : ∃ env, evC T76 KK b76x0 (canon76 l ((i + 1 : Nat) : Int)) = some (.exit 0, ⟨env, [.ro 0 (.ints .i64 l)], []⟩) ∧ getT 0 env = .one (.ro 0 (.ints .i64 l)) ∧ getT 3 env = .one (.int .i64 ((i + 1 : Nat) : Int)) := by
  have hii : (i : Int) < l.length := by omega
  have hn' : ∀ hh, l[i]'hh = x := fun hh => by rw [List.getElem?_eq_getElem hh] at h0; exact h0
  have hp : (0 : Int) < ((i + 1 : Nat) : Int) := by omega
  have w : IntKind.i64.wrap (((i + 1 : Nat) : Int) - 1) = i := by rw [i64_in _ (by omega)]; omega
  generalize ((i + 1 : Nat) : Int) = i1 at *
  simp -implicitDefEqProofs [b76x0, canon76, hi, hii, h0, hn', hx, hp, w, RC.len, RC.size, RC.get]
theorem loop76 (l : List Int) (hl : l.length ≤ 90000) (m : Nat) (hz : ∀ i, m ≤ i → i < l.length → l[i]? = some 0) (hm : m = 0 ∨ ∃ x, l[m - 1]? = some x ∧ x ≠ 0) : ∀ (j K : Nat), m + j ≤ l.length → j < K →
    ∃ env, loopH (evC T76 KK b76x0) [0, 3] K (canon76 l ((m + j : Nat) : Int)) = some (.exit 0, ⟨env, [.ro 0 (.ints .i64 l)], []⟩) ∧ getT 0 env = .one (.ro 0 (.ints .i64 l)) ∧ getT 3 env = .one (.int .i64 (m : Nat))
  | 0, K, hj, hK => by
    rcases Nat.eq_zero_or_pos m with rfl | hp
    · obtain ⟨env, e, g⟩ := end76z l
      exact ⟨env, loopH_exit e, g⟩
    · obtain ⟨i, rfl⟩ : ∃ i, m = i + 1 := ⟨m - 1, by omega⟩
      rcases hm with h | ⟨x, h1, h2⟩
      · omega
      · obtain ⟨env, e, g⟩ := end76 l i (by omega) (by omega) x (by rw [Nat.add_sub_cancel] at h1; rw [h1]; rfl) h2
        exact ⟨env, loopH_exit e, g⟩
  | j + 1, K, hj, hK => by
    obtain ⟨st1, e1, e2⟩ := body76 l (m + j) (by omega) (by omega) (by rw [hz (m + j) (by omega) (by omega)]; rfl)
    obtain ⟨env, e, g⟩ := loop76 l hl m hz hm j (K - 1) (by omega) (by omega)
    refine ⟨env, ?_, g⟩
    rw [show m + (j + 1) = m + j + 1 by omega, loopH_norm e1 (by omega), e2]
    exact e
theorem f76 (l : List Int) (hl : l.length ≤ 90000) (m : Nat) (hml : m ≤ l.length) (hz : ∀ i, m ≤ i → i < l.length → l[i]? = some 0) (hm : m = 0 ∨ ∃ x, l[m - 1]? = some x ∧ x ≠ 0) : F76 [.one (.ro 0 (.ints .i64 l))] [] = some (.one (.ro 0 (.ints .i64 (l.take m))), []) := by
  obtain ⟨env, e, g0, g3⟩ := loop76 l hl m hz hm (l.length - m) KK (by omega) (by rw [KK_eq]; omega)
  rw [show m + (l.length - m) = l.length by omega] at e
  have hmi : (m : Int) ≤ l.length := by omega
  simp only [canon76] at e
  simp -implicitDefEqProofs [F76, c76, e, g0, g3, hmi, hml, RC.len, RC.size, RC.cut]
/-! ### what is put is taken -/
theorem zeros : ∀ {l : List Int}, okN l = true → sumL l = 0 → ∀ i, i < l.length → l[i]? = some 0
  | [], _, _, i, hi => by simp at hi
  | x :: l, ho, hs, i, hi => by
    obtain ⟨p1, p2, p3⟩ := sumL_ge ho
    have := sumL_nonneg p3
    simp only [sumL] at hs p2
    cases i with
    | zero => simp only [List.getElem?_cons_zero, Option.some.injEq]; omega
    | succ i =>
      simp only [List.getElem?_cons_succ]
      exact zeros p3 (by omega) i (by simpa using hi)
theorem hpr_zero (l : List Int) : hpr 0 l = [] := by cases l <;> rfl
def fsts (q : List (Nat × Nat)) : List Int := q.map fun p => (p.1 : Int)
theorem hpr_take : ∀ (l : List Int) (rest : Nat), okN l = true → sumL l = (rest : Int) → 0 < rest → 1 ≤ (hpr rest l).length ∧ (hpr rest l).length ≤ l.length ∧ fsts (hpr rest l) = l.take (hpr rest l).length ∧ (∃ x, l[(hpr rest l).length - 1]? = some x ∧ x ≠ 0) ∧ ∀ i, (hpr rest l).length ≤ i → i < l.length → l[i]? = some 0
  | [], rest, _, hs, h => by simp [sumL] at hs; omega
  | n :: l, rest, ho, hs, h => by
    obtain ⟨p1, p2, p3⟩ := sumL_ge ho
    rw [hs] at p2
    have e : hpr rest (n :: l) = (n.toNat, bl rest) :: hpr (rest - n.toNat) l := by rw [hpr, if_neg (by omega)]
    have hs' : sumL l = ((rest - n.toNat : Nat) : Int) := by simp only [sumL] at hs; omega
    rw [e]
    by_cases h0 : rest - n.toNat = 0
    · rw [h0, hpr_zero]
      rw [h0] at hs'
      refine ⟨by simp, by simp, ?_, ⟨n, rfl, by omega⟩, fun i h1 h2 => ?_⟩
      · simp only [fsts, List.map_cons, List.map_nil, List.length_cons, List.length_nil]
        rw [show ((n.toNat : Nat) : Int) = n by omega]
        rfl
      · cases i with
        | zero => simp at h1
        | succ i => simp only [List.getElem?_cons_succ]; exact zeros p3 hs' i (by simpa using h2)
    · obtain ⟨q1, q2, q3, ⟨x, q4, q5⟩, q6⟩ := hpr_take l (rest - n.toNat) p3 hs' (by omega)
      refine ⟨by simp, by simp only [List.length_cons]; omega, ?_, ⟨x, ?_, q5⟩, fun i h1 h2 => ?_⟩
      · simp only [fsts, List.map_cons, List.length_cons, List.take_succ_cons] at q3 ⊢
        rw [q3, show ((n.toNat : Nat) : Int) = n by omega]
      · simp only [List.length_cons, Nat.add_sub_cancel]
        obtain ⟨k, hk⟩ : ∃ k, (hpr (rest - n.toNat) l).length = k + 1 := ⟨_, (Nat.sub_add_cancel q1).symm⟩
        rw [hk] at q4 ⊢
        simpa using q4
      · cases i with
        | zero => simp at h1
        | succ i =>
          simp only [List.getElem?_cons_succ]
          exact q6 i (by simpa using h1) (by simpa using h2)
theorem hlp_put : ∀ (l : List Int) (rest j pos N M T : Nat), okN l = true → sumL l = (rest : Int) → rest ≤ 512 → (hpr rest l).length ≤ j → N / 2 ^ pos = prN (hpr rest l) + 2 ^ prL (hpr rest l) * M → pos + prL (hpr rest l) ≤ T →
    hlp N T j rest pos = some (fsts (hpr rest l), pos + prL (hpr rest l))
  | l, 0, j, pos, N, M, T, _, _, _, _, _, _ => by
    rw [hpr_zero]
    cases j <;> rfl
  | [], rest + 1, j, pos, N, M, T, _, hs, _, _, _, _ => by simp [sumL] at hs; omega
  | n :: l, rest + 1, j, pos, N, M, T, ho, hs, hr, hj, hN, hT => by
    obtain ⟨p1, p2, p3⟩ := sumL_ge ho
    rw [hs] at p2
    have e : hpr (rest + 1) (n :: l) = (n.toNat, bl (rest + 1)) :: hpr (rest + 1 - n.toNat) l := by rw [hpr, if_neg (by omega)]
    have hs' : sumL l = ((rest + 1 - n.toNat : Nat) : Int) := by simp only [sumL] at hs; omega
    rw [e] at hj hN hT ⊢
    simp only [List.length_cons] at hj
    simp only [prN, prL] at hN hT
    have hb := (bl_pos (n := rest + 1) (by omega)).2.1
    have hmod : n.toNat % 2 ^ bl (rest + 1) = n.toNat := Nat.mod_eq_of_lt (by omega)
    rw [hmod, Nat.pow_add, Nat.mul_assoc, Nat.add_assoc, ← Nat.mul_add] at hN
    obtain ⟨j', rfl⟩ : ∃ j', j = j' + 1 := ⟨j - 1, by omega⟩
    have hpw := Nat.two_pow_pos (bl (rest + 1))
    have hv : N / 2 ^ pos % 2 ^ bl (rest + 1) = n.toNat := by rw [hN, Nat.add_mul_mod_self_left, hmod]
    have hN' : N / 2 ^ (pos + bl (rest + 1)) = prN (hpr (rest + 1 - n.toNat) l) + 2 ^ prL (hpr (rest + 1 - n.toNat) l) * M := by
      rw [Nat.pow_add, ← Nat.div_div_eq_div_mul, hN, Nat.add_mul_div_left _ _ hpw, Nat.div_eq_of_lt (by omega), Nat.zero_add]
    rw [hlp, if_neg (by omega), if_neg (by omega), hv, if_neg (by omega)]
    rw [hlp_put l (rest + 1 - n.toNat) j' (pos + bl (rest + 1)) N M T p3 hs' (by omega) (by omega) hN' (by omega)]
    simp only [Option.map_some, fsts, List.map_cons, prL, Nat.add_assoc]
theorem hdT_put {l : List Int} {log : Int} (hf : fairB l log = true) {N T pos M : Nat} (hN : N / 2 ^ pos = prN (allP log l) + 2 ^ prL (allP log l) * M) (hT : pos + prL (allP log l) ≤ T) :
    hdT N T pos = some (l.take (hpr (2 ^ log.toNat) l).length, log.toNat, pos + prL (allP log l)) := by
  obtain ⟨h5, hl, ho, hs⟩ := fair_parts hf
  have hp2 := pow9 h5
  obtain ⟨q1, q2, q3, _, _⟩ := hpr_take l (2 ^ log.toNat) ho hs (by omega)
  unfold allP at hN hT ⊢
  simp only [prN, prL] at hN hT ⊢
  have h8 : (log - 5).toNat % 2 ^ 3 = (log - 5).toNat := Nat.mod_eq_of_lt (by omega)
  rw [h8, Nat.pow_add, Nat.mul_assoc, Nat.add_assoc, ← Nat.mul_add] at hN
  have hv : N / 2 ^ pos % 8 = (log - 5).toNat := by
    rw [hN]
    have := Nat.add_mul_mod_self_left (log - 5).toNat (2 ^ 3) (prN (hpr (2 ^ log.toNat) l) + 2 ^ prL (hpr (2 ^ log.toNat) l) * M)
    rw [show (2 : Nat) ^ 3 = 8 from rfl] at this ⊢
    rw [this]; omega
  have hN' : N / 2 ^ (pos + 3) = prN (hpr (2 ^ log.toNat) l) + 2 ^ prL (hpr (2 ^ log.toNat) l) * M := by
    rw [Nat.pow_add, ← Nat.div_div_eq_div_mul, hN, Nat.add_mul_div_left _ _ (by decide), Nat.div_eq_of_lt (by omega), Nat.zero_add]
  unfold hdT
  have e5 : 5 + (log - 5).toNat = log.toNat := by omega
  rw [if_neg (by omega), hv, e5, if_neg (by omega), hlp_put l (2 ^ log.toNat) 256 (pos + 3) N M T ho hs hp2.2 (by omega) hN' (by omega)]
  simp only [Option.map_some, q3, Nat.add_assoc]
theorem holds_inj {a b : List Int} {c N : Nat} (h1 : Holds a c N) (h2 : Holds b c N) : a = b := leB_inj h1.isB h2.isB (by rw [h1.len, h2.len]) (by rw [h1.val, h2.val])
end Go.X.Try
