import Derived.Test.YthcbhmgjkecppaaDa
set_option maxRecDepth 100000
set_option linter.unusedSimpArgs false
namespace Go.X.Try
open Go.IntWalk
def canon110 (s : ByteArray) (i most : Int) (S : ByteArray) (at_ : Int) (sc : Option (Nat × Nat)) (Z : List Int) : St :=
  ⟨[(0, .one (.ptr 0 0)), (1, .one (.str s)), (5, .one (.int .i64 i))], [.ptr 0 0, .str s], refHp (some 0) most S at_ sc Z⟩
theorem body110 (s S : ByteArray) (i : Nat) (b most at_ : Int) (sc : Option (Nat × Nat)) (Z : List Int) (hi : i < s.size) (hs : s.size < 10000) (hb : (toBytes s)[i]? = some b) (hl : (vw Z sc).length ≤ 20000) :
    ∃ st1, evC T110 KK b110x0 (canon110 s i most S at_ sc Z) = some (.norm, st1) ∧ St.head [0, 1, 5] st1 = canon110 s (i + 1 : Nat) most S at_ none (vw Z sc ++ [b - 256]) := by
  have hr := toBytes_range s i b hb
  have hc : (i : Int) < s.size := by omega
  have hg : (toBytes s)[i]?.getD 0 = b := by rw [hb]; rfl
  have w1 : IntKind.i64.wrap b = b := i64_in _ (by omega)
  have w2 : IntKind.i64.wrap ((i : Int) + 1) = (i : Int) + 1 := i64_in _ (by omega)
  have w3 : IntKind.i64.wrap (b - 256) = b - 256 := i64_in _ (by omega)
  have hm : ((vw Z sc).length + 1) * 8 ≤ 140737488355328 := by omega
  cases sc with
  | none =>
    simp only [vw] at hm ⊢
    simp -implicitDefEqProofs [b110x0, canon110, refHp, slv, upd, hc, hi, hg, w1, w2, w3, hm, RC.len, RC.size, RC.app, RC.ofElems]
  | some p =>
    obtain ⟨o, m⟩ := p
    simp only [vw, List.length_take, List.length_drop] at hm ⊢
    simp -implicitDefEqProofs [b110x0, canon110, refHp, slv, upd, hc, hi, hg, w1, w2, w3, hm, RC.len, RC.size, RC.app, RC.ofElems, RC.cut]
theorem end110 (s S : ByteArray) (i : Nat) (most at_ : Int) (sc : Option (Nat × Nat)) (Z : List Int) (hi : s.size = i) :
    ∃ env, evC T110 KK b110x0 (canon110 s i most S at_ sc Z) = some (.exit 0, ⟨env, [.ptr 0 0, .str s], refHp (some 0) most S at_ sc Z⟩) := by
  simp -implicitDefEqProofs [b110x0, canon110, refHp, hi]
theorem loop110 (s S : ByteArray) (hs : s.size < 10000) : ∀ (j i : Nat) (most at_ : Int) (sc : Option (Nat × Nat)) (Z : List Int) (k : Nat), i + j = s.size → (vw Z sc).length + j ≤ 20000 → vok Z sc → j < k →
    ∃ env sc' Z', loopH (evC T110 KK b110x0) [0, 1, 5] k (canon110 s i most S at_ sc Z) = some (.exit 0, ⟨env, [.ptr 0 0, .str s], refHp (some 0) most S at_ sc' Z'⟩) ∧ vw Z' sc' = vw Z sc ++ ((toBytes s).drop i).map (fun b => b - 256) ∧ vok Z' sc'
  | 0, i, most, at_, sc, Z, k, hi, hl, hok, hk => by
    obtain ⟨env, e⟩ := end110 s S i most at_ sc Z (by omega)
    rw [drop_end (by omega : s.size ≤ i)]
    exact ⟨env, sc, Z, loopH_exit e, by simp, hok⟩
  | j + 1, i, most, at_, sc, Z, k, hi, hl, hok, hk => by
    obtain ⟨b, hb, hd⟩ := drop_cons (by omega : i < s.size)
    obtain ⟨st1, e1, e2⟩ := body110 s S i b most at_ sc Z (by omega) hs hb (by omega)
    obtain ⟨env, sc', Z', p, q, r⟩ := loop110 s S hs j (i + 1) most at_ none (vw Z sc ++ [b - 256]) (k - 1) (by omega) (by simp only [vw, List.length_append, List.length_cons, List.length_nil] at hl ⊢; omega) trivial (by omega)
    refine ⟨env, sc', Z', ?_, ?_, r⟩
    · rw [loopH_norm e1 (by omega), e2]; exact p
    · rw [q, hd]; simp [vw]
theorem f110 (most at_ : Int) (S s : ByteArray) (sc : Option (Nat × Nat)) (Z : List Int) (hm : 0 ≤ most ∧ most ≤ 2048) (ha : 0 ≤ at_ ∧ at_ ≤ S.size) (hs : S.size ≤ 10000) (hz : vwn Z sc ≤ 10000) (hok : vok Z sc) (hf : (s.size : Int) ≤ most - (S.size - at_) - vwn Z sc) :
    ∃ sc' Z', F110 [.one (.ptr 0 0), .one (.str s)] (refHp (some 0) most S at_ sc Z) = some (.one (.bool true), refHp (some 0) most S at_ sc' Z') ∧ vw Z' sc' = vw Z sc ++ (toBytes s).map (fun b => b - 256) ∧ vok Z' sc' := by
  have e58 := f58 most at_ S sc Z hm ha hs hz
  have hlen := vw_len Z sc hok
  have hf' : ¬ (most - ((S.size : Int) - at_) - vwn Z sc < s.size) := by omega
  obtain ⟨env, sc', Z', p, q, r⟩ := loop110 s S (by omega) s.size 0 most at_ sc Z KK (by omega) (by omega) hok (by rw [KK_eq]; omega)
  have z : ((0 : Nat) : Int) = 0 := rfl
  simp only [canon110, refHp, z, List.drop_zero] at p q e58
  refine ⟨sc', Z', ?_, q, r⟩
  generalize vwn Z sc = lz at *
  cases sc <;> cases sc' <;> simp only [slv] at p e58 <;> simp -implicitDefEqProofs [F110, c110, upd, refHp, slv, e58, hf', p]
theorem f110' (most at_ : Int) (S s : ByteArray) (sc : Option (Nat × Nat)) (Z : List Int) (hm : 0 ≤ most ∧ most ≤ 2048) (ha : 0 ≤ at_ ∧ at_ ≤ S.size) (hs : S.size ≤ 10000) (hz : vwn Z sc ≤ 10000) (hf : most - (S.size - at_) - vwn Z sc < (s.size : Int)) :
    F110 [.one (.ptr 0 0), .one (.str s)] (refHp (some 0) most S at_ sc Z) = some (.one (.bool false), refHp (some 0) most S at_ sc Z) := by
  have e58 := f58 most at_ S sc Z hm ha hs hz
  simp only [refHp] at e58
  generalize vwn Z sc = lz at *
  cases sc <;> simp only [slv] at e58 <;> simp -implicitDefEqProofs [F110, c110, upd, refHp, slv, e58, hf]
def tup4 (b s : Int) (x y : Bool) : AV := .tup [.one (.int .u8 b), .one (.int .u64 s), .one (.bool x), .one (.bool y)]
theorem f66n (most at_ : Int) (S : ByteArray) (sc : Option (Nat × Nat)) (Z : List Int) (hok : vok Z sc) (hz : vw Z sc = []) :
    F66 [.one (.ptr 0 0)] (refHp (some 0) most S at_ sc Z) = some (tup4 0 0 false false, refHp (some 0) most S at_ sc Z) := by
  have hl := vw_len Z sc hok
  rw [hz] at hl
  cases sc with
  | none =>
    simp only [vw] at hz
    subst hz
    simp -implicitDefEqProofs [F66, c66, upd, refHp, slv, tup4, RC.len]
  | some p =>
    obtain ⟨o, m⟩ := p
    simp only [vwn, List.length_nil] at hl
    subst hl
    simp -implicitDefEqProofs [F66, c66, upd, refHp, slv, tup4, RC.len]
/-- The first of what came, told of its place. -/
theorem first43 {Z : List Int} {sc : Option (Nat × Nat)} {x : Int} {C : List Int} (hok : vok Z sc) (hz : vw Z sc = x :: C) : ∃ o, Z[o]?.getD 0 = x ∧ o < Z.length ∧ o + (C.length + 1) ≤ Z.length ∧ (sc = none ∧ o = 0 ∧ Z = x :: C ∨ sc = some (o, C.length + 1)) ∧ vw Z (some (o + 1, C.length)) = C := by
  have hl := vw_len Z sc hok
  rw [hz] at hl
  cases sc with
  | none =>
    simp only [vw] at hz
    subst hz
    exact ⟨0, by simp, by simp, by simp, .inl ⟨rfl, rfl, rfl⟩, by simp [vw]⟩
  | some p =>
    obtain ⟨o, m⟩ := p
    simp only [vwn, List.length_cons] at hl
    subst hl
    simp only [vok] at hok
    simp only [vw] at hz
    have h0 := congrArg (fun l => l[0]?) hz
    have h1 := congrArg (fun l => l.drop 1) hz
    refine ⟨o, ?_, by omega, hok, .inr rfl, ?_⟩
    · simp [List.getElem?_take, List.getElem?_drop] at h0
      rw [h0]; rfl
    · simpa [vw, List.drop_take, List.drop_drop, Nat.add_comm] using h1
theorem f66i (most at_ x : Int) (S : ByteArray) (sc : Option (Nat × Nat)) (Z C : List Int) (hok : vok Z sc) (hz : vw Z sc = x :: C) (hx : -256 ≤ x ∧ x < 0) (hl : (vw Z sc).length ≤ 10000) :
    ∃ sc' Z', F66 [.one (.ptr 0 0)] (refHp (some 0) most S at_ sc Z) = some (tup4 (x + 256) 0 false true, refHp (some 0) most S at_ sc' Z') ∧ vw Z' sc' = C ∧ vok Z' sc' := by
  obtain ⟨o, h1, h2, h3, h4, h5⟩ := first43 hok hz
  have w1 : IntKind.i64.wrap (x + 256) = x + 256 := i64_in _ (by omega)
  have w2 : IntKind.u8.wrap (x + 256) = x + 256 := u8_in _ (by omega)
  have hn : x < 0 := hx.2
  refine ⟨some (o + 1, C.length), Z, ?_, h5, by simp only [vok]; omega⟩
  have z : ¬ ((C.length : Int) + 1 = 0) := by omega
  have z1 : (0 : Int) < (C.length : Int) + 1 := by omega
  have z2 : (1 : Int) ≤ (C.length : Int) + 1 := by omega
  rcases h4 with ⟨rfl, rfl, rfl⟩ | rfl
  · simp -implicitDefEqProofs [F66, c66, upd, refHp, slv, tup4, RC.len, RC.get, z, z1, z2, hn, w1, w2]
  · simp -implicitDefEqProofs [F66, c66, upd, refHp, slv, tup4, RC.len, RC.get, z, z1, z2, h1, hn, w1, w2]
theorem f66s (most at_ : Int) (k : Nat) (S : ByteArray) (sc : Option (Nat × Nat)) (Z C : List Int) (hok : vok Z sc) (hz : vw Z sc = (k : Int) :: C) (hk : k < S.size) (hs : S.size < 10000) (b : Int) (hb : (toBytes S)[k]? = some b) :
    ∃ sc' Z', F66 [.one (.ptr 0 0)] (refHp (some 0) most S at_ sc Z) = some (tup4 b (sfin (((toBytes S).take (k + 1)).foldl sstep 7640891576956012808) (k + 1)) true true, refHp (some 0) most S at_ sc' Z') ∧ vw Z' sc' = C ∧ vok Z' sc' := by
  obtain ⟨o, h1, h2, h3, h4, h5⟩ := first43 hok hz
  have hsz : (S.extract 0 (k + 1)).size = k + 1 := by rw [ByteArray.size_extract]; omega
  have htb : toBytes (S.extract 0 (k + 1)) = (toBytes S).take (k + 1) := by
    simp [toBytes, ByteArray.data_extract, Array.toList_extract, List.extract_eq_take_drop, List.map_take]
  have e96 := e96 (S.extract 0 (k + 1)) (by omega)
  rw [htb, hsz] at e96
  have hcast : ((k + 1 : Nat) : Int) = (k : Int) + 1 := by omega
  rw [hcast] at e96
  generalize sfin (((toBytes S).take (k + 1)).foldl sstep 7640891576956012808) ((k : Int) + 1) = q at *
  have w1 : IntKind.i64.wrap ((k : Int) + 1) = k + 1 := i64_in _ (by omega)
  have hn : ¬ ((k : Int) < 0) := by omega
  have hg : (toBytes S)[k]?.getD 0 = b := by rw [hb]; rfl
  have hk' : (k : Int) < S.size := by omega
  have hk1 : (k : Int) + 1 ≤ S.size := by omega
  have hk0 : (0 : Int) ≤ (k : Int) + 1 := by omega
  have ht : ((k : Int) + 1).toNat = k + 1 := by omega
  refine ⟨some (o + 1, C.length), Z, ?_, h5, by simp only [vok]; omega⟩
  have z : ¬ ((C.length : Int) + 1 = 0) := by omega
  have z1 : (0 : Int) < (C.length : Int) + 1 := by omega
  have z2 : (1 : Int) ≤ (C.length : Int) + 1 := by omega
  rcases h4 with ⟨rfl, rfl, rfl⟩ | rfl
  · simp -implicitDefEqProofs [F66, c66, upd, refHp, slv, tup4, RC.len, RC.get, z, z1, z2, hn, w1, hg, hk, hk', hk1, hk0, ht, e96]
  · simp -implicitDefEqProofs [F66, c66, upd, refHp, slv, tup4, RC.len, RC.get, z, z1, z2, h1, hn, w1, hg, hk, hk', hk1, hk0, ht, e96]
end Go.X.Try
