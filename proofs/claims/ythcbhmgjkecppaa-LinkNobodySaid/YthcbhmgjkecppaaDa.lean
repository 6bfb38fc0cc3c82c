import Derived.Test.YthcbhmgjkecppaaD9
set_option maxRecDepth 100000
set_option linter.unusedSimpArgs false
namespace Go.X.Try
open Go.IntWalk
def refHp (g : Option Nat) (most : Int) (S : ByteArray) (at_ : Int) (sc : Option (Nat × Nat)) (Z : List Int) : List Ob := [.cells g [.int .i64 most, .str S, .int .i64 at_, slv 1 sc], .rows (.ints .i64 Z)]
theorem f62 (m : Int) : F62 [.one (.int .i64 m)] [] = some (.one (.ptr 0 0), refHp none (if m < 1 then 1 else if 2048 < m then 2048 else m) ⟨#[]⟩ 0 none []) := by
  by_cases h1 : m < 1
  · simp -implicitDefEqProofs [F62, c62, upd, h1, refHp, slv]
  · by_cases h2 : 2048 < m
    · simp -implicitDefEqProofs [F62, c62, upd, h1, h2, refHp, slv]
    · simp -implicitDefEqProofs [F62, c62, upd, h1, h2, refHp, slv]
theorem f58 (most at_ : Int) (S : ByteArray) (sc : Option (Nat × Nat)) (Z : List Int) (hm : 0 ≤ most ∧ most ≤ 2048) (ha : 0 ≤ at_ ∧ at_ ≤ S.size) (hs : S.size ≤ 10000) (hz : vwn Z sc ≤ 10000) :
    F58 [.one (.ptr 0 0)] (refHp (some 0) most S at_ sc Z) = some (.one (.int .i64 (most - (S.size - at_) - vwn Z sc)), refHp (some 0) most S at_ sc Z) := by
  have w1 : IntKind.i64.wrap ((S.size : Int) - at_) = S.size - at_ := i64_in _ (by omega)
  have w2 : IntKind.i64.wrap (most - ((S.size : Int) - at_)) = most - (S.size - at_) := i64_in _ (by omega)
  have w3 : IntKind.i64.wrap (most - ((S.size : Int) - at_) - vwn Z sc) = most - (S.size - at_) - vwn Z sc := i64_in _ (by omega)
  cases sc <;> simp only [vwn] at w3 <;> simp -implicitDefEqProofs [F58, c58, upd, refHp, slv, RC.len, w1, w2, w3, vwn]
theorem f63 (most at_ : Int) (S s : ByteArray) (sc : Option (Nat × Nat)) (Z : List Int) (hm : 0 ≤ most ∧ most ≤ 2048) (ha : 0 ≤ at_ ∧ at_ ≤ S.size) (hs : S.size ≤ 10000) (hz : vwn Z sc ≤ 10000) (hf : (s.size : Int) ≤ most - (S.size - at_) - vwn Z sc) :
    F63 [.one (.ptr 0 0), .one (.str s)] (refHp (some 0) most S at_ sc Z) = some (.one (.bool true), refHp (some 0) most (S ++ s) at_ sc Z) := by
  have e58 := f58 most at_ S sc Z hm ha hs hz
  have hf' : ¬ (most - ((S.size : Int) - at_) - vwn Z sc < s.size) := by omega
  have hl : S.size + s.size ≤ 9223372036854775807 := by omega
  simp only [refHp] at e58
  generalize vwn Z sc = lz at *
  cases sc <;> simp only [slv] at e58 <;> simp -implicitDefEqProofs [F63, c63, upd, refHp, slv, e58, hf', hl]
theorem f63' (most at_ : Int) (S s : ByteArray) (sc : Option (Nat × Nat)) (Z : List Int) (hm : 0 ≤ most ∧ most ≤ 2048) (ha : 0 ≤ at_ ∧ at_ ≤ S.size) (hs : S.size ≤ 10000) (hz : vwn Z sc ≤ 10000) (hf : most - (S.size - at_) - vwn Z sc < (s.size : Int)) :
    F63 [.one (.ptr 0 0), .one (.str s)] (refHp (some 0) most S at_ sc Z) = some (.one (.bool false), refHp (some 0) most S at_ sc Z) := by
  have e58 := f58 most at_ S sc Z hm ha hs hz
  simp only [refHp] at e58
  generalize vwn Z sc = lz at *
  cases sc <;> simp only [slv] at e58 <;> simp -implicitDefEqProofs [F63, c63, upd, refHp, slv, e58, hf]
theorem f94 (most at_ : Int) (S : ByteArray) (sc : Option (Nat × Nat)) (Z : List Int) :
    F94 [.one (.ptr 0 0)] (refHp (some 0) most S at_ sc Z) = some (.tup [], refHp (some 0) most ⟨#[]⟩ 0 none []) := by
  cases sc <;> simp -implicitDefEqProofs [F94, c94, upd, refHp, slv]
def canon64 (n k most : Int) (S : ByteArray) (at_ : Int) (sc : Option (Nat × Nat)) (Z : List Int) : St :=
  ⟨[(0, .one (.ptr 0 0)), (1, .one (.int .i64 n)), (5, .one (.int .i64 k))], [.ptr 0 0, .int .i64 n], refHp (some 0) most S at_ sc Z⟩
theorem body64 (n most : Int) (k at_ : Nat) (S : ByteArray) (sc : Option (Nat × Nat)) (Z : List Int) (hk : (k : Int) < n) (ha : at_ < S.size) (hs : S.size ≤ 10000) (hk2 : k ≤ 10000) (hz : (vw Z sc).length ≤ 20000) :
    ∃ st1, evC T64 KK b64x0 (canon64 n k most S at_ sc Z) = some (.norm, st1) ∧ St.head [0, 1, 5] st1 = canon64 n (k + 1 : Nat) most S (at_ + 1 : Nat) none (vw Z sc ++ [(at_ : Int)]) := by
  have w1 : IntKind.i64.wrap ((at_ : Int) + 1) = at_ + 1 := i64_in _ (by omega)
  have w2 : IntKind.i64.wrap ((k : Int) + 1) = k + 1 := i64_in _ (by omega)
  have ha' : (at_ : Int) < S.size := by omega
  have hm : ((vw Z sc).length + 1) * 8 ≤ 140737488355328 := by omega
  cases sc with
  | none =>
    simp only [vw] at hm ⊢
    simp -implicitDefEqProofs [b64x0, canon64, refHp, slv, upd, hk, ha, ha', w1, w2, hm, RC.len, RC.size, RC.app, RC.ofElems]
  | some p =>
    obtain ⟨o, m⟩ := p
    simp only [vw, List.length_take, List.length_drop] at hm ⊢
    simp -implicitDefEqProofs [b64x0, canon64, refHp, slv, upd, hk, ha, ha', w1, w2, hm, RC.len, RC.size, RC.app, RC.ofElems, RC.cut]
theorem end64 (n most : Int) (k at_ : Nat) (S : ByteArray) (sc : Option (Nat × Nat)) (Z : List Int) (h : n ≤ k ∨ S.size ≤ at_) :
    ∃ env, evC T64 KK b64x0 (canon64 n k most S at_ sc Z) = some (.exit 0, ⟨env, [.ptr 0 0, .int .i64 n], refHp (some 0) most S at_ sc Z⟩) ∧ getT 5 env = .one (.int .i64 k) := by
  by_cases hk : (k : Int) < n
  · have h1 : ¬ ((at_ : Int) < S.size) := by omega
    have h2 : ¬ (at_ < S.size) := by omega
    simp -implicitDefEqProofs [b64x0, canon64, refHp, hk, h1, h2]
  · simp -implicitDefEqProofs [b64x0, canon64, refHp, hk]
theorem loop64 (n most : Int) (S : ByteArray) (hs : S.size ≤ 10000) : ∀ (j k at_ : Nat) (sc : Option (Nat × Nat)) (Z : List Int) (K : Nat), (j = 0 ∨ (k : Int) + j ≤ n) → at_ + j ≤ S.size → (n ≤ (k : Int) + j ∨ S.size ≤ at_ + j) → k ≤ at_ → (vw Z sc).length + j ≤ 20000 → vok Z sc → j < K →
    ∃ env sc' Z', loopH (evC T64 KK b64x0) [0, 1, 5] K (canon64 n k most S at_ sc Z) = some (.exit 0, ⟨env, [.ptr 0 0, .int .i64 n], refHp (some 0) most S (at_ + j : Nat) sc' Z'⟩) ∧ getT 5 env = .one (.int .i64 (k + j : Nat)) ∧ vw Z' sc' = vw Z sc ++ (List.range' at_ j).map (fun i : Nat => (i : Int)) ∧ vok Z' sc'
  | 0, k, at_, sc, Z, K, h1, h2, h3, h4, hz, hok, hK => by
    obtain ⟨env, e, g⟩ := end64 n most k at_ S sc Z (by omega)
    exact ⟨env, sc, Z, loopH_exit e, g, by simp, hok⟩
  | j + 1, k, at_, sc, Z, K, h1, h2, h3, h4, hz, hok, hK => by
    obtain ⟨st1, e1, e2⟩ := body64 n most k at_ S sc Z (by omega) (by omega) hs (by omega) (by omega)
    obtain ⟨env, sc', Z', p, g, q, r⟩ := loop64 n most S hs j (k + 1) (at_ + 1) none (vw Z sc ++ [(at_ : Int)]) (K - 1) (by omega) (by omega) (by omega) (by omega) (by simp only [vw, List.length_append, List.length_cons, List.length_nil] at hz ⊢; omega) trivial (by omega)
    have ea : at_ + 1 + j = at_ + (j + 1) := by omega
    have ek : k + 1 + j = k + (j + 1) := by omega
    rw [ea] at p
    rw [ek] at g
    refine ⟨env, sc', Z', ?_, g, ?_, r⟩
    · rw [loopH_norm e1 (by omega), e2]; exact p
    · rw [q]; simp [vw, List.range'_succ]
theorem f64 (n most : Int) (S : ByteArray) (at_ : Nat) (sc : Option (Nat × Nat)) (Z : List Int) (hs : S.size ≤ 10000) (ha : at_ ≤ S.size) (hz : vwn Z sc ≤ 4000) (hok : vok Z sc) (j : Nat) (hj : j = if n < 0 then 0 else if n < (S.size : Int) - at_ then n.toNat else S.size - at_) :
    ∃ sc' Z', F64 [.one (.ptr 0 0), .one (.int .i64 n)] (refHp (some 0) most S at_ sc Z) = some (.one (.int .i64 j), refHp (some 0) most S (at_ + j : Nat) sc' Z') ∧ vw Z' sc' = vw Z sc ++ (List.range' at_ j).map (fun i : Nat => (i : Int)) ∧ vok Z' sc' := by
  have hlen := vw_len Z sc hok
  have hjs : (j = 0 ∨ ((0 : Nat) : Int) + j ≤ n) ∧ at_ + j ≤ S.size ∧ (n ≤ ((0 : Nat) : Int) + j ∨ S.size ≤ at_ + j) := by
    subst hj
    split
    · omega
    · split <;> omega
  obtain ⟨env, sc', Z', p, g, q, r⟩ := loop64 n most S hs j 0 at_ sc Z KK hjs.1 hjs.2.1 hjs.2.2 (by omega) (by omega) hok (by rw [KK_eq]; omega)
  have z : ((0 : Nat) : Int) = 0 := rfl
  have hc : ((at_ + j : Nat) : Int) = (at_ : Int) + j := by omega
  simp only [canon64, refHp, z, Nat.zero_add, hc] at p g
  refine ⟨sc', Z', ?_, q, r⟩
  cases sc <;> cases sc' <;> simp only [slv] at p <;> simp -implicitDefEqProofs [F64, c64, upd, refHp, slv, p, g]
end Go.X.Try
