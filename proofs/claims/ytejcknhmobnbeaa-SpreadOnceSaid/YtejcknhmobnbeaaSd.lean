import Derived.Test.YtejcknhmobnbeaaSc
import Derived.Test.YtejcknhmobnbeaaSb
set_option maxRecDepth 100000
set_option linter.unusedSimpArgs false
namespace Go.X.Try
open Go.IntWalk
def chk15 : Int → List Int → Bool
  | left, [] => decide (left = 0)
  | left, n :: l => if n < 0 ∨ left < n then false else chk15 (left - n) l
def sumL : List Int → Int
  | [] => 0
  | x :: l => x + sumL l
def okN : List Int → Bool
  | [] => true
  | x :: l => decide (0 ≤ x ∧ x ≤ 1000) && okN l
theorem sumL_nonneg : ∀ {l : List Int}, okN l = true → 0 ≤ sumL l
  | [], _ => Int.le_refl _
  | x :: l, h => by
    simp only [okN, Bool.and_eq_true, decide_eq_true_eq] at h
    have := sumL_nonneg h.2
    simp only [sumL]; omega
theorem chk15_eq : ∀ (l : List Int) (left : Int), 0 ≤ left → left ≤ 1000 → chk15 left l = (okN l && decide (sumL l = left))
  | [], left, _, _ => by
    simp only [chk15, okN, sumL, Bool.true_and]
    exact decide_eq_decide.2 ⟨fun h => h.symm, fun h => h.symm⟩
  | n :: l, left, h0, h1 => by
    show (if n < 0 ∨ left < n then false else chk15 (left - n) l) = (decide (0 ≤ n ∧ n ≤ 1000) && okN l && decide (n + sumL l = left))
    by_cases h : n < 0 ∨ left < n
    · rw [if_pos h]
      rcases h with h | h
      · rw [decide_eq_false (by omega : ¬ (0 ≤ n ∧ n ≤ 1000))]; rfl
      · cases ho : okN l with
        | false => simp
        | true =>
          have := sumL_nonneg ho
          rw [decide_eq_false (by omega : ¬ (n + sumL l = left))]; simp
    · rw [if_neg h, chk15_eq l (left - n) (by omega) (by omega), decide_eq_true (by omega : 0 ≤ n ∧ n ≤ 1000), Bool.true_and]
      congr 1
      exact decide_eq_decide.2 (by omega)
def canon58 (t : Nat) (l : List Int) (log left i : Int) : St := ⟨[(5, .one (.int .i64 left)), (18, .one (.ro t (.ints .i64 l))), (19, .one (.int .i64 l.length)), (20, .one (.int .i64 i))], [.ro t (.ints .i64 l), .int .i64 log], []⟩
theorem body58 (t : Nat) (l : List Int) (log left n left' i' : Int) (i : Nat) (hi : i < l.length) (hn : l[i]?.getD 0 = n) (h1 : ¬ n < 0) (h2 : ¬ left < n) (el : IntKind.i64.wrap (left - n) = left') (ei : IntKind.i64.wrap ((i : Int) + 1) = i') :
    ∃ st1, evC T58 KK b58x0 (canon58 t l log left i) = some (.norm, st1) ∧ St.head [5, 18, 19, 20] st1 = canon58 t l log left' i' := by
  have hn' : l[i] = n := by rw [List.getElem?_eq_getElem hi] at hn; exact hn
  have hi2 : (i : Int) < l.length := by omega
  simp -implicitDefEqProofs [b58x0, canon58, upd, hi, hi2, hn, hn', h1, h2, el, ei, RC.len, RC.size, RC.get]
theorem bad15 (t : Nat) (l : List Int) (log left n : Int) (i : Nat) (hi : i < l.length) (hn : l[i]?.getD 0 = n) (h : n < 0 ∨ left < n) :
    ∃ env, evC T58 KK b58x0 (canon58 t l log left i) = some (.ret, ⟨env, [.ro t (.ints .i64 l), .int .i64 log], []⟩) ∧ getT 4 env = .one (.bool false) := by
  have hn' : l[i] = n := by rw [List.getElem?_eq_getElem hi] at hn; exact hn
  have hi2 : (i : Int) < l.length := by omega
  by_cases h1 : n < 0
  · simp -implicitDefEqProofs [b58x0, canon58, upd, hi, hi2, hn, hn', h1, RC.len, RC.size, RC.get]
  · have h2 : left < n := by omega
    simp -implicitDefEqProofs [b58x0, canon58, upd, hi, hi2, hn, hn', h1, h2, RC.len, RC.size, RC.get]
theorem end58 (t : Nat) (l : List Int) (log left i : Int) (hi : ¬ i < l.length) :
    ∃ env, evC T58 KK b58x0 (canon58 t l log left i) = some (.exit 0, ⟨env, [.ro t (.ints .i64 l), .int .i64 log], []⟩) ∧ getT 5 env = .one (.int .i64 left) := by
  simp -implicitDefEqProofs [b58x0, canon58, upd, hi]
theorem loop58 (t : Nat) (l : List Int) (log : Int) (hl : l.length ≤ 300) : ∀ (j i : Nat) (left : Int) (K : Nat), i + j = l.length → 0 ≤ left → left ≤ 1000 → j < K →
    (∃ env left', loopH (evC T58 KK b58x0) [5, 18, 19, 20] K (canon58 t l log left i) = some (.exit 0, ⟨env, [.ro t (.ints .i64 l), .int .i64 log], []⟩) ∧ getT 5 env = .one (.int .i64 left') ∧ chk15 left (l.drop i) = decide (left' = 0)) ∨
    (∃ env, loopH (evC T58 KK b58x0) [5, 18, 19, 20] K (canon58 t l log left i) = some (.ret, ⟨env, [.ro t (.ints .i64 l), .int .i64 log], []⟩) ∧ getT 4 env = .one (.bool false) ∧ chk15 left (l.drop i) = false)
  | 0, i, left, K, hi, h0, h1, hK => by
    obtain ⟨env, e, g⟩ := end58 t l log left i (by omega)
    exact .inl ⟨env, left, loopH_exit e, g, by rw [List.drop_eq_nil_of_le (by omega)]; rfl⟩
  | j + 1, i, left, K, hi, h0, h1, hK => by
    have hlt : i < l.length := by omega
    have hg : l[i]?.getD 0 = l[i] := by rw [List.getElem?_eq_getElem hlt]; rfl
    rw [List.drop_eq_getElem_cons hlt]
    generalize l[i] = n at hg
    simp only [chk15]
    by_cases h : n < 0 ∨ left < n
    · obtain ⟨env, e, g⟩ := bad15 t l log left n i hlt hg h
      exact .inr ⟨env, loopH_ret e, g, by rw [if_pos h]⟩
    · obtain ⟨st1, e1, e2⟩ := body58 t l log left n (left - n) (i + 1 : Nat) i hlt hg (by omega) (by omega) (i64_in _ (by omega)) (by rw [i64_in _ (by omega)]; omega)
      rw [if_neg h]
      rcases loop58 t l log hl j (i + 1) (left - n) (K - 1) (by omega) (by omega) (by omega) (by omega) with ⟨env, l', e, g, q⟩ | ⟨env, e, g, q⟩
      · exact .inl ⟨env, l', by rw [loopH_norm e1 (by omega), e2]; exact e, g, q⟩
      · exact .inr ⟨env, by rw [loopH_norm e1 (by omega), e2]; exact e, g, q⟩
def fairB (l : List Int) (log : Int) : Bool := decide (5 ≤ log ∧ log ≤ 9 ∧ l.length ≤ 256) && (okN l && decide (sumL l = ((2 ^ log.toNat : Nat) : Int)))
theorem pow9 {log : Int} (h : 5 ≤ log ∧ log ≤ 9) : 32 ≤ 2 ^ log.toNat ∧ 2 ^ log.toNat ≤ 512 :=
  ⟨(Nat.pow_le_pow_right (n := 2) (by omega) (by omega : 5 ≤ log.toNat) : 2 ^ 5 ≤ _), (Nat.pow_le_pow_right (n := 2) (by omega) (by omega : log.toNat ≤ 9) : _ ≤ 2 ^ 9)⟩
theorem f58 (t : Nat) (l : List Int) (log : Int) (hl : l.length ≤ 300) : F58 [.one (.ro t (.ints .i64 l)), .one (.int .i64 log)] [] = some (.one (.bool (fairB l log)), []) := by
  have e70 := e70 log
  unfold fairB
  by_cases h5 : 5 ≤ log ∧ log ≤ 9
  · rw [decide_eq_true h5] at e70
    by_cases h256 : l.length ≤ 256
    · have hp := pow9 h5
      have n1 : ¬ (256 : Int) < l.length := by omega
      have n2 : ¬ 256 < l.length := by omega
      have es : shlI .i64 1 log = ((2 ^ log.toNat : Nat) : Int) := by
        have e1 : (1 : Int) * 2 ^ Nat.min log.toNat 64 = ((2 ^ log.toNat : Nat) : Int) := by
          rw [show Nat.min log.toNat 64 = log.toNat from Nat.min_eq_left (by omega)]; simp
        show IntKind.i64.wrap _ = _
        have e2 : (1 : Int) * 2 ^ Nat.min log.toNat IntKind.i64.bits = ((2 ^ log.toNat : Nat) : Int) := e1
        rw [e2]
        exact i64_in _ (by omega)
      have hlog : ¬ log < 0 := by omega
      have hpI : (32 : Int) ≤ ((2 ^ log.toNat : Nat) : Int) ∧ ((2 ^ log.toNat : Nat) : Int) ≤ 512 := by omega
      rw [decide_eq_true (by omega : 5 ≤ log ∧ log ≤ 9 ∧ l.length ≤ 256), Bool.true_and, ← chk15_eq l _ (by omega) (by omega)]
      generalize ((2 ^ log.toNat : Nat) : Int) = S at *
      have z : ((0 : Nat) : Int) = 0 := rfl
      rcases loop58 t l log hl l.length 0 S KK (by omega) (by omega) (by omega) (by rw [KK_eq]; omega) with ⟨env, l', e, g, q⟩ | ⟨env, e, g, q⟩
      · rw [List.drop_zero] at q
        simp only [canon58, z] at e
        rw [q]
        by_cases hl0 : l' = 0
        · simp -implicitDefEqProofs [F58, c58, upd, e70, n1, n2, h256, es, hlog, e, g, hl0, RC.len]
        · simp -implicitDefEqProofs [F58, c58, upd, e70, n1, n2, h256, es, hlog, e, g, hl0, RC.len]
      · rw [List.drop_zero] at q
        simp only [canon58, z] at e
        rw [q]
        simp -implicitDefEqProofs [F58, c58, upd, e70, n1, n2, h256, es, hlog, e, g, RC.len]
    · have n1 : (256 : Int) < l.length := by omega
      have n2 : 256 < l.length := by omega
      rw [decide_eq_false (by omega : ¬ (5 ≤ log ∧ log ≤ 9 ∧ l.length ≤ 256)), Bool.false_and]
      simp -implicitDefEqProofs [F58, c58, upd, e70, n1, n2, RC.len]
  · rw [decide_eq_false h5] at e70
    rw [decide_eq_false (by omega : ¬ (5 ≤ log ∧ log ≤ 9 ∧ l.length ≤ 256)), Bool.false_and]
    simp -implicitDefEqProofs [F58, c58, upd, e70]
def canon13 (t : Nat) (l : List Int) (log s i : Int) : St := ⟨[(0, .one (.ro t (.ints .i64 l))), (1, .one (.int .i64 log)), (5, .one (.int .i64 s)), (6, .one (.int .i64 i))], [.ro t (.ints .i64 l), .int .i64 log], []⟩
theorem body13 (t : Nat) (l : List Int) (log s n s' i' : Int) (i : Nat) (hi : i < l.length) (hn : l[i]?.getD 0 = n) (h1 : ¬ n < 0) (h2 : ¬ 1000 < n) (el : IntKind.i64.wrap (s + n) = s') (ei : IntKind.i64.wrap ((i : Int) + 1) = i') :
    ∃ st1, evC T13 KK b13x0 (canon13 t l log s i) = some (.norm, st1) ∧ St.head [0, 1, 5, 6] st1 = canon13 t l log s' i' := by
  have hn' : l[i] = n := by rw [List.getElem?_eq_getElem hi] at hn; exact hn
  have hi2 : (i : Int) < l.length := by omega
  simp -implicitDefEqProofs [b13x0, canon13, upd, hi, hi2, hn, hn', h1, h2, el, ei, RC.len, RC.size, RC.get]
theorem bad16 (t : Nat) (l : List Int) (log s n : Int) (i : Nat) (hi : i < l.length) (hn : l[i]?.getD 0 = n) (h : n < 0 ∨ 1000 < n) :
    ∃ env, evC T13 KK b13x0 (canon13 t l log s i) = some (.ret, ⟨env, [.ro t (.ints .i64 l), .int .i64 log], []⟩) ∧ getT 4 env = .one (.bool false) := by
  have hn' : l[i] = n := by rw [List.getElem?_eq_getElem hi] at hn; exact hn
  have hi2 : (i : Int) < l.length := by omega
  by_cases h1 : n < 0
  · simp -implicitDefEqProofs [b13x0, canon13, upd, hi, hi2, hn, hn', h1, RC.len, RC.size, RC.get]
  · have h2 : 1000 < n := by omega
    simp -implicitDefEqProofs [b13x0, canon13, upd, hi, hi2, hn, hn', h1, h2, RC.len, RC.size, RC.get]
theorem end13 (t : Nat) (l : List Int) (log s i : Int) (hi : ¬ i < l.length) :
    ∃ env, evC T13 KK b13x0 (canon13 t l log s i) = some (.exit 0, ⟨env, [.ro t (.ints .i64 l), .int .i64 log], []⟩) ∧ getT 1 env = .one (.int .i64 log) ∧ getT 5 env = .one (.int .i64 s) := by
  simp -implicitDefEqProofs [b13x0, canon13, upd, hi, RC.len]
theorem loop13 (t : Nat) (l : List Int) (log : Int) (hl : l.length ≤ 300) : ∀ (j i : Nat) (s : Int) (K : Nat), i + j = l.length → 0 ≤ s → s ≤ 1000 * i → j < K →
    (∃ env, loopH (evC T13 KK b13x0) [0, 1, 5, 6] K (canon13 t l log s i) = some (.exit 0, ⟨env, [.ro t (.ints .i64 l), .int .i64 log], []⟩) ∧ getT 1 env = .one (.int .i64 log) ∧ getT 5 env = .one (.int .i64 (s + sumL (l.drop i))) ∧ okN (l.drop i) = true) ∨
    (∃ env, loopH (evC T13 KK b13x0) [0, 1, 5, 6] K (canon13 t l log s i) = some (.ret, ⟨env, [.ro t (.ints .i64 l), .int .i64 log], []⟩) ∧ getT 4 env = .one (.bool false) ∧ okN (l.drop i) = false)
  | 0, i, s, K, hi, h0, h1, hK => by
    obtain ⟨env, e, g1, g⟩ := end13 t l log s i (by omega)
    exact .inl ⟨env, loopH_exit e, g1, by rw [List.drop_eq_nil_of_le (by omega), g]; simp [sumL], by rw [List.drop_eq_nil_of_le (by omega)]; rfl⟩
  | j + 1, i, s, K, hi, h0, h1, hK => by
    have hlt : i < l.length := by omega
    have hg : l[i]?.getD 0 = l[i] := by rw [List.getElem?_eq_getElem hlt]; rfl
    rw [List.drop_eq_getElem_cons hlt]
    generalize l[i] = n at hg
    simp only [okN, sumL]
    by_cases h : n < 0 ∨ 1000 < n
    · obtain ⟨env, e, g⟩ := bad16 t l log s n i hlt hg h
      exact .inr ⟨env, loopH_ret e, g, by rw [decide_eq_false (by omega)]; rfl⟩
    · obtain ⟨st1, e1, e2⟩ := body13 t l log s n (s + n) (i + 1 : Nat) i hlt hg (by omega) (by omega) (i64_in _ (by omega)) (by rw [i64_in _ (by omega)]; omega)
      rw [decide_eq_true (by omega), Bool.true_and]
      rcases loop13 t l log hl j (i + 1) (s + n) (K - 1) (by omega) (by omega) (by omega) (by omega) with ⟨env, e, g1, g, q⟩ | ⟨env, e, g, q⟩
      · exact .inl ⟨env, by rw [loopH_norm e1 (by omega), e2]; exact e, g1, by rw [g, Int.add_assoc], q⟩
      · exact .inr ⟨env, by rw [loopH_norm e1 (by omega), e2]; exact e, g, q⟩
theorem f13 (t : Nat) (l : List Int) (log : Int) (hl : l.length ≤ 300) : F13 [.one (.ro t (.ints .i64 l)), .one (.int .i64 log)] [] = some (.one (.bool (fairB l log)), []) := by
  unfold fairB
  by_cases h5 : log < 5
  · rw [decide_eq_false (by omega : ¬ (5 ≤ log ∧ log ≤ 9 ∧ l.length ≤ 256)), Bool.false_and]
    simp -implicitDefEqProofs [F13, c13, upd, h5]
  · by_cases h9 : 9 < log
    · rw [decide_eq_false (by omega : ¬ (5 ≤ log ∧ log ≤ 9 ∧ l.length ≤ 256)), Bool.false_and]
      simp -implicitDefEqProofs [F13, c13, upd, h5, h9]
    · by_cases h256 : l.length ≤ 256
      · have n1 : ¬ (256 : Int) < l.length := by omega
        have n2 : ¬ 256 < l.length := by omega
        have e51 := e51 log (by omega) (by omega)
        rw [decide_eq_true (by omega : 5 ≤ log ∧ log ≤ 9 ∧ l.length ≤ 256), Bool.true_and]
        generalize ((2 ^ log.toNat : Nat) : Int) = S at *
        have z : ((0 : Nat) : Int) = 0 := rfl
        rcases loop13 t l log hl l.length 0 0 KK (by omega) (by omega) (by omega) (by rw [KK_eq]; omega) with ⟨env, e, g1, g, q⟩ | ⟨env, e, g, q⟩
        · rw [List.drop_zero] at q g
          rw [Int.zero_add] at g
          simp only [canon13, z] at e
          rw [q, Bool.true_and]
          by_cases hs : sumL l = S
          · simp -implicitDefEqProofs [F13, c13, upd, h5, h9, n1, n2, h256, e, g1, g, e51, hs, RC.len]
          · simp -implicitDefEqProofs [F13, c13, upd, h5, h9, n1, n2, h256, e, g1, g, e51, hs, RC.len]
        · rw [List.drop_zero] at q
          simp only [canon13, z] at e
          rw [q, Bool.false_and]
          simp -implicitDefEqProofs [F13, c13, upd, h5, h9, n1, n2, h256, e, g, RC.len]
      · have n1 : (256 : Int) < l.length := by omega
        have n2 : 256 < l.length := by omega
        rw [decide_eq_false (by omega : ¬ (5 ≤ log ∧ log ≤ 9 ∧ l.length ≤ 256)), Bool.false_and]
        simp -implicitDefEqProofs [F13, c13, upd, h5, h9, n1, n2, RC.len]
end Go.X.Try
