import Derived.Test.YtcpgijcdmhehaaaD1
set_option maxRecDepth 100000
set_option linter.unusedSimpArgs false
namespace Go.X.Try
open Go.IntWalk
theorem loop_go {body : St → Option (Ex × St)} {live : List Nat} {k : Nat} (st : St) (h : k ≠ 0) : loopN body live k st = thenC (loopN body live (k - 1)) (body (st.head live)) := by
  cases k with
  | zero => exact absurd rfl h
  | succ k => rfl
theorem u64_range (x : Int) : 0 ≤ IntKind.u64.wrap x ∧ IntKind.u64.wrap x ≤ 18446744073709551615 := by rw [IntKind.wrap_u64]; omega
def sx (h b : Int) : Int := IntKind.u64.wrap (bitsI .xor .u64 h b * 11400714819323198485)
def sstep (h b : Int) : Int := bitsI .xor .u64 (sx h b) (sx h b / 536870912)
def sy (h n : Int) : Int := IntKind.u64.wrap (IntKind.u64.wrap (h + n) * 13787848793156543929)
def sfin (h n : Int) : Int := bitsI .xor .u64 (sy h n) (sy h n / 4294967296)
theorem sx_quo (h b : Int) : IntKind.u64.wrap ((sx h b).tdiv 536870912) = sx h b / 536870912 := by
  have := u64_range (bitsI .xor .u64 h b * 11400714819323198485)
  exact u64_quo _ _ ⟨this.1, this.2, by omega⟩
theorem sy_quo (h b : Int) : IntKind.u64.wrap ((sy h b).tdiv 4294967296) = sy h b / 4294967296 := by
  have := u64_range (IntKind.u64.wrap (h + b) * 13787848793156543929)
  exact u64_quo _ _ ⟨this.1, this.2, by omega⟩
theorem toBytes_length (t : ByteArray) : (toBytes t).length = t.size := by
  unfold toBytes; rw [List.length_map, Array.length_toList]; rfl
theorem toBytes_range (t : ByteArray) (i : Nat) (b : Int) (h : (toBytes t)[i]? = some b) : 0 ≤ b ∧ b < 256 := by
  simp only [toBytes, List.getElem?_map, Option.map_eq_some_iff] at h
  obtain ⟨x, _, rfl⟩ := h
  have := x.toNat_lt
  omega
theorem l18 (t : ByteArray) (ht : t.size < 1000000) : ∀ (k i : Nat) (h : Int) (env : Env), getT 0 env = .one (.str t) → getT 3 env = .one (.int .u64 h) → getT 4 env = .one (.int .i64 i) → i ≤ t.size → t.size - i < k →
    ∃ env', loopN (evC T18 KK b18x0) [0, 3, 4] k ⟨env, [.str t], []⟩ = some (.exit 0, ⟨env', [.str t], []⟩) ∧ getT 0 env' = .one (.str t) ∧ getT 3 env' = .one (.int .u64 (((toBytes t).drop i).foldl sstep h))
  | 0, i, h, env, _, _, _, _, hk => by omega
  | k + 1, i, h, env, e0, e3, e4, hi, hk => by
    by_cases hlt : i < t.size
    · have hb : ∃ b, (toBytes t)[i]? = some b := ⟨_, List.getElem?_eq_getElem (by rw [toBytes_length]; exact hlt)⟩
      obtain ⟨b, hb⟩ := hb
      have hr := toBytes_range t i b hb
      have w1 : IntKind.u64.wrap b = b := u64_in b (by omega)
      have w2 : IntKind.i64.wrap ((i : Int) + 1) = (i : Int) + 1 := i64_in _ (by omega)
      have hd : (toBytes t).drop i = b :: (toBytes t).drop (i + 1) := by
        obtain ⟨hlt', e⟩ := List.getElem?_eq_some_iff.1 hb
        rw [List.drop_eq_getElem_cons hlt', e]
      have q1 := sx_quo h b
      have hc : (i : Int) < t.size := by omega
      rw [hd]
      simp only [List.foldl_cons]
      have body : ∃ env1, evC T18 KK b18x0 (St.head [0, 3, 4] ⟨env, [.str t], []⟩) = some (.norm, ⟨env1, [.str t], []⟩) ∧ getT 0 env1 = .one (.str t) ∧ getT 3 env1 = .one (.int .u64 (sstep h b)) ∧ getT 4 env1 = .one (.int .i64 ((i + 1 : Nat) : Int)) := by
        have hx : IntKind.u64.wrap (bitsI .xor .u64 h b * 11400714819323198485) = sx h b := rfl
        have hg : (toBytes t)[i]?.getD 0 = b := by rw [hb]; rfl
        simp -implicitDefEqProofs [b18x0, e0, e3, e4, hc, hlt, hg, w1, w2, hx, q1, sstep]
      obtain ⟨env1, h1, a0, a3, a4⟩ := body
      obtain ⟨env', p, q⟩ := l18 t ht k (i + 1) (sstep h b) env1 a0 a3 a4 (by omega) (by omega)
      refine ⟨env', ?_, q⟩
      rw [loopN, h1]
      exact p
    · have hc : ¬ (i : Int) < t.size := by omega
      have hd : (toBytes t).drop i = [] := List.drop_eq_nil_of_le (by rw [toBytes_length]; omega)
      rw [hd]
      have body : ∃ env1, evC T18 KK b18x0 (St.head [0, 3, 4] ⟨env, [.str t], []⟩) = some (.exit 0, ⟨env1, [.str t], []⟩) ∧ getT 0 env1 = .one (.str t) ∧ getT 3 env1 = .one (.int .u64 h) := by
        simp -implicitDefEqProofs [b18x0, e0, e3, e4, hc, hlt]
      obtain ⟨env1, h1, q⟩ := body
      exact ⟨env1, by rw [loopN, h1]; rfl, q⟩
theorem e18 (t : ByteArray) (ht : t.size < 10000) : F18 [.one (.str t)] [] = some (.one (.int .u64 (sfin ((toBytes t).foldl sstep 7640891576956012808) t.size)), []) := by
  obtain ⟨env', p, q0, q3⟩ := l18 t (by omega) KK 0 7640891576956012808 [(4, .one (.int .i64 0)), (3, .one (.int .u64 7640891576956012808)), (2, .one (.int .u64 0)), (0, .one (.str t))] rfl rfl rfl (by omega) (by rw [KK_eq]; omega)
  rw [List.drop_zero] at q3
  have w : IntKind.u64.wrap (t.size : Int) = t.size := u64_in _ (by omega)
  generalize List.foldl sstep 7640891576956012808 (toBytes t) = h at *
  have hy : IntKind.u64.wrap (IntKind.u64.wrap (h + t.size) * 13787848793156543929) = sy h t.size := rfl
  have q1 := sy_quo h t.size
  simp -implicitDefEqProofs [F18, c18, p, q0, q3, w, hy, q1, sfin]
end Go.X.Try
