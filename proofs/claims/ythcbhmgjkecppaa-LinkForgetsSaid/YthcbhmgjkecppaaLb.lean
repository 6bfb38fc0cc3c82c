import Derived.Test.YthcbhmgjkecppaaLa
set_option maxRecDepth 100000
set_option linter.unusedSimpArgs false
namespace Go.X.Try
open Go.IntWalk
theorem toBytes_append (S s : ByteArray) : toBytes (S ++ s) = toBytes S ++ toBytes s := by
  simp [toBytes]
/-- The document's pipe. -/
structure RS where
  most : Int
  S : ByteArray
  at_ : Nat
  sc : Option (Nat × Nat)
  Z : List Int
def RS.obs (r : RS) (g : Option Nat) (b : Nat) : List Ob := [.cells g [.int .i64 r.most, .str r.S, .int .i64 r.at_, slv (b + 1) r.sc], .rows (.ints .i64 r.Z)]
def RS.zero (r : RS) : RS := ⟨r.most, ⟨#[]⟩, 0, none, []⟩
theorem r94 (R : RS) : F94 [.one (.ptr 0 0)] (R.obs (some 0) 0) = some (.tup [], R.zero.obs (some 0) 0) := f94 R.most R.at_ R.S R.sc R.Z
theorem r62 (m most : Int) (hm : most = if m < 1 then 1 else if 2048 < m then 2048 else m) : F62 [.one (.int .i64 m)] [] = some (.one (.ptr 0 0), (RS.zero ⟨most, ⟨#[]⟩, 0, none, []⟩).obs none 0) := by
  rw [f62, hm]; rfl
structure Duo (P : PS) (R : RS) (B : Nat) : Prop where
  okX : okv P.X P.sf
  okY : okv P.Y P.sc
  okZ : vok R.Z R.sc
  rel : Rel P.most (cont P.X P.sf) (cont P.Y P.sc) (P.h, P.n) (toBytes R.S) R.at_ (vw R.Z R.sc)
  size : R.S.size ≤ B
  same : R.most = P.most
  most1 : 1 ≤ P.most
  most2 : P.most ≤ 2048
section
variable {P : PS} {R : RS} {B : Nat}
theorem Duo.mono (v : Duo P R B) {C : Nat} (h : B ≤ C) : Duo P R C := ⟨v.okX, v.okY, v.okZ, v.rel, Nat.le_trans v.size h, v.same, v.most1, v.most2⟩
theorem Duo.zero (v : Duo P R B) (C : Nat) : Duo P.zero R.zero C := ⟨trivial, trivial, trivial, Rel.clear (by have := v.most1; show 0 ≤ P.most; omega), Nat.zero_le _, v.same, v.most1, v.most2⟩
theorem Duo.lens (v : Duo P R B) : slen P.X P.sf = R.S.size - R.at_ ∧ slen P.Y P.sc = vwn R.Z R.sc ∧ R.at_ ≤ R.S.size ∧ (slen P.X P.sf : Int) + slen P.Y P.sc ≤ P.most := by
  have h1 := cont_len P.X P.sf v.okX
  have h2 := cont_len P.Y P.sc v.okY
  have h3 := vw_len R.Z R.sc v.okZ
  have h4 := v.rel.lenA
  have h5 := v.rel.lenB
  have h6 := v.rel.hat
  have h7 := v.rel.room
  rw [toBytes_length] at h4 h6
  omega
theorem Duo.room (v : Duo P R B) (hB : B ≤ 9000) : F58 [.one (.ptr 0 0)] (R.obs (some 0) 0) = some (.one (.int .i64 (P.most - P.nx - P.ny)), R.obs (some 0) 0) := by
  obtain ⟨l1, l2, l3, l4⟩ := v.lens
  have h2 := v.most2
  have h1 := v.most1
  have h0 := v.same
  have hs := v.size
  have e := f58 R.most R.at_ R.S R.sc R.Z (by omega) (by omega) (by omega) (by omega)
  unfold PS.nx PS.ny
  rw [show (P.most - (slen P.X P.sf : Int) - (slen P.Y P.sc : Int)) = R.most - ((R.S.size : Int) - R.at_) - vwn R.Z R.sc by omega]
  exact e
theorem Duo.send (v : Duo P R B) (hB : B ≤ 9000) (s : ByteArray) :
    ∃ ok P' R', F39 [.one (.ptr 0 0), .one (.str s)] (P.obs (some 0) 0) = some (.one (.bool ok), P'.obs (some 0) 0) ∧ F63 [.one (.ptr 0 0), .one (.str s)] (R.obs (some 0) 0) = some (.one (.bool ok), R'.obs (some 0) 0) ∧ Duo P' R' (B + s.size) ∧ P'.most = P.most ∧ (ok = decide ((s.size : Int) ≤ P.most - P.nx - P.ny)) ∧ P'.nx + P'.ny = P.nx + P.ny + (if ok = true then s.size else 0) := by
  obtain ⟨l1, l2, l3, l4⟩ := v.lens
  obtain ⟨okX, okY, okZ, rel, size, same, most1, most2⟩ := v
  have hA : (cont P.X P.sf).length = slen P.X P.sf := cont_len P.X P.sf okX
  have hY : (cont P.Y P.sc).length = slen P.Y P.sc := cont_len P.Y P.sc okY
  unfold PS.nx PS.ny
  by_cases hf : (s.size : Int) ≤ P.most - slen P.X P.sf - slen P.Y P.sc
  · obtain ⟨sf', X', e1, q, r⟩ := f39 s P.most P.h P.n P.sf P.sc P.X P.Y (by omega) (by omega) (by omega) okX hf
    have e2 := f63 R.most R.at_ R.S s R.sc R.Z (by omega) (by omega) (by omega) (by omega) (by omega)
    have hl := cont_len X' sf' r
    rw [q, List.length_append, sendR_length, toBytes_length] at hl
    refine ⟨true, ⟨P.most, sf', P.sc, X', P.Y, ((toBytes s).foldl sbyte (P.h, P.n)).1, ((toBytes s).foldl sbyte (P.h, P.n)).2⟩, ⟨R.most, R.S ++ s, R.at_, R.sc, R.Z⟩, e1, e2, ⟨r, okY, okZ, ?_, ?_, same, most1, most2⟩, rfl, by simpa using hf, ?_⟩
    · simp only [q, toBytes_append]
      exact rel.send (toBytes s) (by rw [toBytes_length]; omega)
    · simp only [ByteArray.size_append]; omega
    · simp only [if_true]; omega
  · have e1 := f39' s P.most P.h P.n P.sf P.sc P.X P.Y (by omega) (by omega) (by omega) (by omega)
    have e2 := f63' R.most R.at_ R.S s R.sc R.Z (by omega) (by omega) (by omega) (by omega) (by omega)
    exact ⟨false, P, R, e1, e2, ⟨okX, okY, okZ, rel, by omega, same, most1, most2⟩, rfl, by simpa using hf, by simp⟩
theorem Duo.deliver (v : Duo P R B) (hB : B ≤ 9000) (N : Int) :
    ∃ j P' R', F40 [.one (.ptr 0 0), .one (.int .i64 N)] (P.obs (some 0) 0) = some (.one (.int .i64 j), P'.obs (some 0) 0) ∧ F64 [.one (.ptr 0 0), .one (.int .i64 N)] (R.obs (some 0) 0) = some (.one (.int .i64 j), R'.obs (some 0) 0) ∧ Duo P' R' B ∧ P'.most = P.most ∧ P'.nx + P'.ny = P.nx + P.ny := by
  obtain ⟨l1, l2, l3, l4⟩ := v.lens
  obtain ⟨okX, okY, okZ, rel, size, same, most1, most2⟩ := v
  have hA : (cont P.X P.sf).length = slen P.X P.sf := cont_len P.X P.sf okX
  have hY : (cont P.Y P.sc).length = slen P.Y P.sc := cont_len P.Y P.sc okY
  obtain ⟨j, hj⟩ : ∃ j, j = if N < 0 then 0 else if N < slen P.X P.sf then N.toNat else slen P.X P.sf := ⟨_, rfl⟩
  have hj2 : j = if N < 0 then 0 else if N < (R.S.size : Int) - R.at_ then N.toNat else R.S.size - R.at_ := by
    rw [hj, l1]
    have : ((R.S.size - R.at_ : Nat) : Int) = (R.S.size : Int) - R.at_ := by omega
    rw [this]
  obtain ⟨sf', sc', X', Y', e1, qX, rX, qY, rY⟩ := f40 P.most P.h P.n N P.sf P.sc P.X P.Y (by omega) (by omega) okX okY j hj
  obtain ⟨sz', Z', e2, qZ, rZ⟩ := f64 N R.most R.S R.at_ R.sc R.Z (by omega) l3 (by omega) okZ j hj2
  have hjl : j ≤ slen P.X P.sf := by rw [hj]; split; omega; split <;> omega
  have hl := cont_len X' sf' rX
  have hl2 := cont_len Y' sc' rY
  rw [qX, List.length_drop] at hl
  rw [qY, List.length_append, List.length_take] at hl2
  refine ⟨j, ⟨P.most, sf', sc', X', Y', P.h, P.n⟩, ⟨R.most, R.S, R.at_ + j, sz', Z'⟩, e1, e2, ⟨rX, rY, rZ, ?_, size, same, most1, most2⟩, rfl, ?_⟩
  · simp only [qX, qY, qZ]
    exact rel.deliver j (by omega)
  · simp only [PS.nx, PS.ny]; omega
theorem Duo.inject (v : Duo P R B) (hB : B ≤ 9000) (s : ByteArray) :
    ∃ ok P' R', F59 [.one (.ptr 0 0), .one (.str s)] (P.obs (some 0) 0) = some (.one (.bool ok), P'.obs (some 0) 0) ∧ F110 [.one (.ptr 0 0), .one (.str s)] (R.obs (some 0) 0) = some (.one (.bool ok), R'.obs (some 0) 0) ∧ Duo P' R' B ∧ P'.most = P.most ∧ P'.nx + P'.ny ≤ P.nx + P.ny + s.size := by
  obtain ⟨l1, l2, l3, l4⟩ := v.lens
  obtain ⟨okX, okY, okZ, rel, size, same, most1, most2⟩ := v
  have hA : (cont P.X P.sf).length = slen P.X P.sf := cont_len P.X P.sf okX
  have hY : (cont P.Y P.sc).length = slen P.Y P.sc := cont_len P.Y P.sc okY
  by_cases hf : (s.size : Int) ≤ P.most - slen P.X P.sf - slen P.Y P.sc
  · obtain ⟨sc', Y', e1, q, r⟩ := f59 s P.most P.h P.n P.sf P.sc P.X P.Y (by omega) (by omega) (by omega) okY hf
    obtain ⟨sz', Z', e2, qZ, rZ⟩ := f110 R.most R.at_ R.S s R.sc R.Z (by omega) (by omega) (by omega) (by omega) okZ (by omega)
    have hl := cont_len Y' sc' r
    rw [q, List.length_append, List.length_map, toBytes_length] at hl
    refine ⟨true, ⟨P.most, P.sf, sc', P.X, Y', P.h, P.n⟩, ⟨R.most, R.S, R.at_, sz', Z'⟩, e1, e2, ⟨okX, r, rZ, ?_, size, same, most1, most2⟩, rfl, ?_⟩
    · simp only [q, qZ]
      refine rel.inject (toBytes s) (fun b hb => ?_) (by rw [toBytes_length]; omega)
      obtain ⟨k, hk'⟩ := List.getElem?_of_mem hb
      exact toBytes_range s k b hk'
    · simp only [PS.nx, PS.ny]; omega
  · have e1 := f59' s P.most P.h P.n P.sf P.sc P.X P.Y (by omega) (by omega) (by omega) (by omega)
    have e2 := f110' R.most R.at_ R.S s R.sc R.Z (by omega) (by omega) (by omega) (by omega) (by omega)
    exact ⟨false, P, R, e1, e2, ⟨okX, okY, okZ, rel, size, same, most1, most2⟩, rfl, by omega⟩
theorem Duo.take (v : Duo P R B) (hB : B ≤ 9000) :
    ∃ x0 x1 x2 ok P' R', F65 [.one (.ptr 0 0)] (P.obs (some 0) 0) = some (.tup [.agg [.int .u8 x0, .int .u64 x1, .bool x2], .one (.bool ok)], P'.obs (some 0) 0) ∧ F66 [.one (.ptr 0 0)] (R.obs (some 0) 0) = some (tup4 x0 x1 x2 ok, R'.obs (some 0) 0) ∧ Duo P' R' B ∧ P'.most = P.most ∧ P'.nx + P'.ny ≤ P.nx + P.ny := by
  obtain ⟨l1, l2, l3, l4⟩ := v.lens
  obtain ⟨okX, okY, okZ, rel, size, same, most1, most2⟩ := v
  have hA : (cont P.X P.sf).length = slen P.X P.sf := cont_len P.X P.sf okX
  have hY : (cont P.Y P.sc).length = slen P.Y P.sc := cont_len P.Y P.sc okY
  have hC : (vw R.Z R.sc).length = vwn R.Z R.sc := vw_len R.Z R.sc okZ
  cases hz : vw R.Z R.sc with
  | nil =>
    rw [hz] at hC
    have hB0 : cont P.Y P.sc = [] := List.eq_nil_of_length_eq_zero (by rw [hY, l2, ← hC]; rfl)
    have e1 := f65' P.most P.h P.n P.sf P.sc P.X P.Y okY hB0
    have e2 := f66n R.most R.at_ R.S R.sc R.Z okZ hz
    exact ⟨0, 0, false, false, P, R, e1, e2, ⟨okX, okY, okZ, rel, size, same, most1, most2⟩, rfl, Nat.le_refl _⟩
  | cons k C =>
    rw [hz] at rel
    obtain ⟨hB1, rel'⟩ := rel.tail
    have hkr := rel.hC k (by simp)
    rw [hz] at hC
    by_cases hneg : k < 0
    · have hrb : rb (sendR p0 (toBytes R.S)) k = recI (k + 256) := by unfold rb; rw [if_pos hneg]
      rw [hrb] at hB1
      obtain ⟨sc', Y', e1, q, r⟩ := f65 P.most P.h P.n P.sf P.sc P.X P.Y okY (by omega) _ _ _ _ hB1
      obtain ⟨sz', Z', e2, qZ, rZ⟩ := f66i R.most R.at_ k R.S R.sc R.Z C okZ hz (by omega) (by rw [hz]; omega)
      have hl := cont_len Y' sc' r
      have hl2 := congrArg List.length hB1
      rw [List.length_cons, hY, ← q, hl] at hl2
      refine ⟨k + 256, 0, false, true, ⟨P.most, P.sf, sc', P.X, Y', P.h, P.n⟩, ⟨R.most, R.S, R.at_, sz', Z'⟩, e1, e2, ⟨okX, r, rZ, ?_, size, same, most1, most2⟩, rfl, ?_⟩
      · simp only [q, qZ]; exact rel'
      · simp only [PS.nx, PS.ny]; omega
    · obtain ⟨m, rfl⟩ : ∃ m : Nat, k = m := ⟨k.toNat, by omega⟩
      obtain ⟨b, hb, hrb⟩ := rel.take_s (by rw [toBytes_length]; omega)
      rw [hrb] at hB1
      obtain ⟨sc', Y', e1, q, r⟩ := f65 P.most P.h P.n P.sf P.sc P.X P.Y okY (by omega) _ _ _ _ hB1
      obtain ⟨sz', Z', e2, qZ, rZ⟩ := f66s R.most R.at_ m R.S R.sc R.Z C okZ hz (by omega) (by omega) b hb
      have hl := cont_len Y' sc' r
      have hl2 := congrArg List.length hB1
      rw [List.length_cons, hY, ← q, hl] at hl2
      refine ⟨b, _, true, true, ⟨P.most, P.sf, sc', P.X, Y', P.h, P.n⟩, ⟨R.most, R.S, R.at_, sz', Z'⟩, e1, e2, ⟨okX, r, rZ, ?_, size, same, most1, most2⟩, rfl, ?_⟩
      · simp only [q, qZ]; exact rel'
      · simp only [PS.nx, PS.ny]; omega
end
end Go.X.Try
