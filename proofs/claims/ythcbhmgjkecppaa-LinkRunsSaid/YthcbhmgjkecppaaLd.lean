import Derived.Test.YthcbhmgjkecppaaLc
set_option maxRecDepth 100000
set_option linter.unusedSimpArgs false
namespace Go.X.Try
open Go.IntWalk
def wHp (t up : Bool) (gen : Int) (R T : RS) (b : Nat) : List Ob := .cells (tg t b) [.ptr (b + 1) 0, .ptr (b + 3) 0, .bool up, .int .i64 gen] :: (R.obs (tg t (b + 1)) (b + 1) ++ T.obs (tg t (b + 3)) (b + 3))
theorem f55 (m most : Int) (hm : most = if m < 1 then 1 else if 2048 < m then 2048 else m) : F55 [.one (.int .i64 m)] [] = some (.one (.ptr 0 0), wHp false false 0 (RS.zero ⟨most, ⟨#[]⟩, 0, none, []⟩) (RS.zero ⟨most, ⟨#[]⟩, 0, none, []⟩) 0) := by
  have e62 := r62 m most hm
  clear hm
  simp only [wHp, RS.obs, RS.zero, tg_false, List.cons_append, List.nil_append, Nat.reduceAdd] at e62 ⊢
  simp -implicitDefEqProofs [F55, c55, upd, e62, slv]
theorem f56s (up : Bool) (gen : Int) (R T : RS) : F56 [.one (.ptr 0 0), .one (.bool up)] (wHp true up gen R T 0) = some (.one (.bool false), wHp true up gen R T 0) := by
  cases up <;> simp -implicitDefEqProofs [F56, c56, upd, wHp, RS.obs]
theorem f56u (gen gen' : Int) (R T : RS) (w : IntKind.i64.wrap (gen + 1) = gen') : F56 [.one (.ptr 0 0), .one (.bool true)] (wHp true false gen R T 0) = some (.one (.bool true), wHp true true gen' R.zero T.zero 0) := by
  have e1 := r94 R
  have e2 := r94 T
  simp only [wHp, RS.obs, tg_true, List.cons_append, List.nil_append, Nat.reduceAdd] at e1 e2 ⊢
  simp -implicitDefEqProofs [F56, c56, upd, e1, e2, w]
theorem f56d (gen : Int) (R T : RS) : F56 [.one (.ptr 0 0), .one (.bool false)] (wHp true true gen R T 0) = some (.one (.bool true), wHp true false gen R.zero T.zero 0) := by
  have e1 := r94 R
  have e2 := r94 T
  simp only [wHp, RS.obs, tg_true, List.cons_append, List.nil_append, Nat.reduceAdd] at e1 e2 ⊢
  simp -implicitDefEqProofs [F56, c56, upd, e1, e2]
def duoHp (P : PS) (R : RS) : List Ob := P.obs (some 0) 0 ++ R.obs (some 3) 3
section
variable {P : PS} {R : RS} {B : Nat}
theorem f95 (v : Duo P R B) (hB : B ≤ 9000) (kd : Int) (fr : Bool) (N : Int) (s : ByteArray) (h6 : kd.tmod 6 = 2 ∨ kd.tmod 6 = 3 ∨ kd.tmod 6 = 4 ∨ kd.tmod 6 = 5) :
    ∃ P' R', F95 [.agg [.int .u8 kd, .bool fr, .int .i64 N, .str s], .one (.ptr 0 0), .one (.ptr 3 0)] (duoHp P R) = some (.one (.bool true), duoHp P' R') ∧ Duo P' R' (B + s.size) ∧ P'.most = P.most := by
  rcases h6 with h6 | h6 | h6 | h6
  · obtain ⟨ok, P', R', e1, e2, v', hm, _⟩ := v.send hB s
    refine ⟨P', R', ?_, v', hm⟩
    simp only [duoHp, PS.obs, RS.obs, List.cons_append, List.nil_append, Nat.reduceAdd] at e1 e2 ⊢
    simp -implicitDefEqProofs [F95, c95, upd, h6, e1, e2]
  · obtain ⟨j, P', R', e1, e2, v', hm, _⟩ := v.deliver hB N
    refine ⟨P', R', ?_, v'.mono (by omega), hm⟩
    simp only [duoHp, PS.obs, RS.obs, List.cons_append, List.nil_append, Nat.reduceAdd] at e1 e2 ⊢
    simp -implicitDefEqProofs [F95, c95, upd, h6, e1, e2]
  · obtain ⟨x0, x1, x2, ok, P', R', e1, e2, v', hm, _⟩ := v.take hB
    refine ⟨P', R', ?_, v'.mono (by omega), hm⟩
    simp only [duoHp, PS.obs, RS.obs, tup4, List.cons_append, List.nil_append, Nat.reduceAdd] at e1 e2 ⊢
    simp -implicitDefEqProofs [F95, c95, upd, h6, e1, e2]
  · obtain ⟨ok, P', R', e1, e2, v', hm, _⟩ := v.inject hB s
    refine ⟨P', R', ?_, v'.mono (by omega), hm⟩
    simp only [duoHp, PS.obs, RS.obs, List.cons_append, List.nil_append, Nat.reduceAdd] at e1 e2 ⊢
    simp -implicitDefEqProofs [F95, c95, upd, h6, e1, e2]
end
def bothHp (t up : Bool) (gen : Int) (P Q : PS) (R T : RS) : List Ob := linkHp t up gen P Q ++ wHp t up gen R T 7
theorem f57d (gen : Int) (P Q : PS) (R T : RS) (kd : Int) (fr : Bool) (N : Int) (s : ByteArray) :
    F57 [.agg [.int .u8 kd, .bool fr, .int .i64 N, .str s], .one (.ptr 0 0), .one (.ptr 7 0)] (bothHp true false gen P Q R T) = some (.one (.bool true), bothHp true false gen P Q R T) := by
  have e36 := f36 false gen P Q
  have e37 := f37 false gen P Q
  simp only [bothHp, wHp, linkHp, PS.obs, RS.obs, tg_true, List.cons_append, List.nil_append, Nat.reduceAdd] at e36 e37 ⊢
  cases fr <;> simp -implicitDefEqProofs [F57, c57, upd, e36, e37, n39, n40]
theorem f57u {gen : Int} {P Q : PS} {R T : RS} {B : Nat} (v : Duo P R B) (u : Duo Q T B) (hB : B ≤ 9000) (kd : Int) (fr : Bool) (N : Int) (s : ByteArray) (h6 : kd.tmod 6 = 2 ∨ kd.tmod 6 = 3 ∨ kd.tmod 6 = 4 ∨ kd.tmod 6 = 5) :
    ∃ P' Q' R' T', F57 [.agg [.int .u8 kd, .bool fr, .int .i64 N, .str s], .one (.ptr 0 0), .one (.ptr 7 0)] (bothHp true true gen P Q R T) = some (.one (.bool true), bothHp true true gen P' Q' R' T') ∧ Duo P' R' (B + s.size) ∧ Duo Q' T' (B + s.size) ∧ P'.most = P.most ∧ Q'.most = Q.most := by
  have e36 := f36 true gen P Q
  have e37 := f37 true gen P Q
  cases fr with
  | false =>
    obtain ⟨P', R', e95, v', hm⟩ := f95 v hB kd false N s h6
    refine ⟨P', Q, R', T, ?_, v', u.mono (by omega), hm, rfl⟩
    simp only [bothHp, wHp, linkHp, duoHp, PS.obs, RS.obs, tg_true, List.cons_append, List.nil_append, Nat.reduceAdd, if_true] at e36 e37 e95 ⊢
    simp -implicitDefEqProofs [F57, c57, upd, e36, e37, e95]
  | true =>
    obtain ⟨P', R', e95, v', hm⟩ := f95 u hB kd true N s h6
    refine ⟨P, P', R, R', ?_, v.mono (by omega), v', rfl, hm⟩
    simp only [bothHp, wHp, linkHp, duoHp, PS.obs, RS.obs, tg_true, List.cons_append, List.nil_append, Nat.reduceAdd, if_true] at e36 e37 e95 ⊢
    simp -implicitDefEqProofs [F57, c57, upd, e36, e37, e95]
end Go.X.Try
