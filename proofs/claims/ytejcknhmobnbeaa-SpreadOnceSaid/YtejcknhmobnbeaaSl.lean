import Derived.Test.YtejcknhmobnbeaaSk
import Derived.Test.YtejcknhmobnbeaaSb
set_option maxRecDepth 100000
set_option linter.unusedSimpArgs false
set_option linter.unusedVariables false
namespace Go.X.Try
open Go.IntWalk
theorem loop48 (st : Int) (sb L : Int) (n x : Nat) (hn : 1 ≤ n ∧ n ≤ 512) (hx : x < 2 ^ 10) (cs : List (List Sc)) (l fi al : List Int) : ∀ (j k K : Nat), k + j = 10 → (∀ i, i < k → 2 * n ≤ x / 2 ^ i) → j < K →
    ∃ (k' : Nat) (env : Env), loopH (evC T48 KK b48x0) [0, 2, 10, 11, 12] K (canon48 st sb n x k L cs l fi al) = some (.exit 0, ⟨env, [.ptr 0 0, .int .i64 st, .int .u8 sb], tabHp (some 0) L cs l fi al⟩) ∧ x / 2 ^ k' < 2 * n ∧ (∀ i, i < k' → 2 * n ≤ x / 2 ^ i) ∧ k' ≤ 10 ∧
      getT 0 env = .one (.ptr 0 0) ∧ getT 2 env = .one (.int .u8 sb) ∧ getT 10 env = .one (.int .i64 n) ∧ getT 11 env = .one (.int .i64 x) ∧ getT 12 env = .one (.int .i64 k') := by
  intro j
  induction j with
  | zero =>
    intro k K hj hb hK
    obtain rfl : k = 10 := by omega
    have h0 : x / 2 ^ 10 = 0 := Nat.div_eq_of_lt hx
    obtain ⟨env, e, g⟩ := end48 st sb n x (10 : Nat) L ((x / 2 ^ 10 : Nat) : Int) ((2 * n : Nat) : Int) cs l fi al (by omega) (shr_in (k := .i64) (by decide)) (by rw [i64_in _ (by omega)]; omega) (by omega)
    exact ⟨10, env, loopH_exit e, by omega, hb, Nat.le_refl _, g⟩
  | succ j ih =>
    intro k K hj hb hK
    have hsh : shrI .i64 (x : Int) (k : Int) = ((x / 2 ^ k : Nat) : Int) := shr_in (k := .i64) (by show k ≤ 64; omega)
    by_cases h : 2 * n ≤ x / 2 ^ k
    · obtain ⟨st1, e1, e2⟩ := body48 st sb n x k L ((x / 2 ^ k : Nat) : Int) ((2 * n : Nat) : Int) ((k + 1 : Nat) : Int) cs l fi al (by omega) hsh (by rw [i64_in _ (by omega)]; omega) (by omega) (by rw [i64_in _ (by omega)]; omega)
      obtain ⟨k', env, q1, q2⟩ := ih (k + 1) (K - 1) (by omega) (fun i hi => by
        rcases Nat.lt_or_ge i k with h' | h'
        · exact hb i h'
        · rw [show i = k by omega]; exact h) (by omega)
      refine ⟨k', env, ?_, q2⟩
      rw [loopH_norm e1 (by omega), e2, q1]
    · obtain ⟨env, e, g⟩ := end48 st sb n x k L ((x / 2 ^ k : Nat) : Int) ((2 * n : Nat) : Int) cs l fi al (by omega) hsh (by rw [i64_in _ (by omega)]; omega) (by omega)
      exact ⟨k, env, loopH_exit e, by omega, hb, by omega, g⟩
theorem shl1 {k : Nat} (h : k ≤ 20) : shlI .i64 1 (k : Int) = ((2 ^ k : Nat) : Int) := by
  have hp : 2 ^ k ≤ 2 ^ 20 := Nat.pow_le_pow_right (by omega) h
  have hmin : Nat.min ((k : Int)).toNat 64 = k := by rw [Int.toNat_natCast]; exact Nat.min_eq_left (by omega)
  have : shlI .i64 1 (k : Int) = IntKind.i64.wrap (1 * 2 ^ Nat.min ((k : Int)).toNat 64) := rfl
  rw [this, hmin, Int.one_mul]
  have e2 : (2 : Int) ^ k = ((2 ^ k : Nat) : Int) := by push_cast; rfl
  rw [e2]
  generalize (2 ^ k : Nat) = p at *
  exact i64_in _ (by omega)
theorem and_mask10 {x L : Nat} (hx : x < 2 ^ 60) (hL : L ≤ 10) : bitsI .and .i64 (x : Int) ((2 ^ L - 1 : Nat) : Int) = ((x % 2 ^ L : Nat) : Int) := by
  have : 2 ^ L ≤ 2 ^ 10 := Nat.pow_le_pow_right (by omega) hL
  rw [bitsI_and_i64 (by omega) (by omega), Nat.and_two_pow_sub_one_eq_mod]
theorem f48 (L : Int) (st sb n f : Nat) (hsb : sb < 256) (cs : List (List Sc)) (l fi al : List Int) (hst : st < cs.length) (hcs : cs.length ≤ 512) (hl : l[sb]? = some (n : Int)) (hn : 1 ≤ n ∧ n ≤ 512) (hf : fi[sb]? = some (f : Int)) (hf2 : f ≤ 512) :
    ∃ k : Nat, (st + cs.length) / 2 ^ k < 2 * n ∧ (∀ i, i < k → 2 * n ≤ (st + cs.length) / 2 ^ i) ∧ k ≤ 10 ∧ ∀ (q : Nat) (v : Int), f + (st + cs.length) / 2 ^ k = q + n → al[q]? = some v →
      F48 [.one (.ptr 0 0), .one (.int .i64 st), .one (.int .u8 sb)] (tabHp (some 0) L cs l fi al) = some (.tup [.one (.int .i64 v), .one (.int .i64 ((st + cs.length) % 2 ^ k : Nat)), .one (.int .i64 k), .one (.bool true)], tabHp (some 0) L cs l fi al) := by
  have e61 := f61 L st cs l fi al
  rw [decide_eq_true (by omega)] at e61
  have wb : IntKind.i64.wrap (sb : Int) = sb := i64_in _ (by omega)
  have wx : IntKind.i64.wrap ((st : Int) + cs.length) = ((st + cs.length : Nat) : Int) := by rw [i64_in _ (by omega)]; omega
  obtain ⟨k, env, e, h1, h2, h3, g0, g2, g10, g11, g12⟩ := loop48 st sb L n (st + cs.length) hn (by omega) cs l fi al 10 0 KK (by omega) (fun i hi => by omega) (by rw [KK_eq]; omega)
  refine ⟨k, h1, h2, h3, fun q v hq hv => ?_⟩
  have hll := (List.getElem?_eq_some_iff.1 hl).1
  have hlf := (List.getElem?_eq_some_iff.1 hf).1
  have hla := (List.getElem?_eq_some_iff.1 hv).1
  have hl' : ∀ hh, l[sb]'hh = n := fun hh => by rw [List.getElem?_eq_getElem hh] at hl; simpa using hl
  have hf' : ∀ hh, fi[sb]'hh = f := fun hh => by rw [List.getElem?_eq_getElem hh] at hf; simpa using hf
  have hv' : ∀ hh, al[q]'hh = v := fun hh => by rw [List.getElem?_eq_getElem hh] at hv; simpa using hv
  have i1 : (sb : Int) < l.length := by omega
  have i1' : ¬ (l.length : Int) ≤ sb := by omega
  have i1'' : ¬ l.length ≤ sb := by omega
  have i2 : (sb : Int) < fi.length := by omega
  have i3 : (q : Int) < al.length := by omega
  have hn0 : ¬ (n : Int) = 0 := by omega
  have hn0' : ¬ n = 0 := by omega
  have z : ((0 : Nat) : Int) = 0 := rfl
  have hk0 : ¬ (k : Int) < 0 := by omega
  have hsh : shrI .i64 ((st + cs.length : Nat) : Int) (k : Int) = (((st + cs.length) / 2 ^ k : Nat) : Int) := shr_in (k := .i64) (by show k ≤ 64; omega)
  have hs1 := shl1 (k := k) (by omega)
  have hpk : 2 ^ k ≤ 2 ^ 10 := Nat.pow_le_pow_right (by omega) h3
  have hpk0 := Nat.two_pow_pos k
  have hm1 : IntKind.i64.wrap (((2 ^ k : Nat) : Int) - 1) = ((2 ^ k - 1 : Nat) : Int) := by rw [i64_in _ (by omega)]; omega
  have ha := and_mask10 (x := st + cs.length) (L := k) (by omega) h3
  generalize hxx : st + cs.length = x at *
  generalize hyy : x / 2 ^ k = y at *
  have wq1 : IntKind.i64.wrap ((f : Int) + (y : Int)) = ((f + y : Nat) : Int) := by rw [i64_in _ (by omega)]; omega
  have wq2 : IntKind.i64.wrap (((f + y : Nat) : Int) - n) = (q : Int) := by rw [i64_in _ (by omega)]; omega
  generalize ((x % 2 ^ k : Nat) : Int) = r at *
  generalize ((2 ^ k - 1 : Nat) : Int) = mk at *
  generalize ((2 ^ k : Nat) : Int) = pk at *
  generalize ((f + y : Nat) : Int) = fy at *
  simp only [canon48, tabHp, z] at e e61
  simp -implicitDefEqProofs [F48, c48, upd, tabHp, e61, e, g0, g2, g10, g11, g12, wb, wx, hll, hlf, hla, hl, hl', hf, hf', hv, hv', i1, i1', i1'', i2, i3, hn0, hn0', hk0, hsh, hs1, hm1, ha, wq1, wq2, RC.len, RC.size, RC.get]
end Go.X.Try
