import Derived.Test.YthcbhmgjkecppaaLd
import Derived.Test.YthcbhmgjkecppaaAv
set_option maxRecDepth 100000
set_option linter.unusedSimpArgs false
namespace Go.X.Try
open Go.IntWalk
def canon10 (L : List (List Sc)) (i m0 : Int) (hp : List Ob) : St :=
  ⟨[(5, .one (.ptr 0 0)), (6, .one (.ptr 7 0)), (20, .one (.ro 0 (.recs 4 L))), (21, .one (.int .i64 L.length)), (22, .one (.int .i64 i))], [.ro 0 (.recs 4 L), .int .i64 m0], hp⟩
/-- What the questions behind a deed answer. -/
structure Asks (up : Bool) (gen : Int) (P Q : PS) (R T : RS) (q : Bool) (r1 r2 a b : Int) : Prop where
  e34 : F34 [.one (.ptr 0 0)] (linkHp true up gen P Q) = some (.one (.bool up), linkHp true up gen P Q)
  e35 : F35 [.one (.ptr 0 0)] (linkHp true up gen P Q) = some (.one (.int .i64 gen), linkHp true up gen P Q)
  e36 : F36 [.one (.ptr 0 0)] (linkHp true up gen P Q) = some (.one (if up = true then .ptr 1 0 else .nilp), linkHp true up gen P Q)
  e37 : F37 [.one (.ptr 0 0)] (linkHp true up gen P Q) = some (.one (if up = true then .ptr 4 0 else .nilp), linkHp true up gen P Q)
  e38 : F38 [.one (.ptr 0 0)] (linkHp true up gen P Q) = some (.one (.bool q), linkHp true up gen P Q)
  e58 : F58 [.one (.ptr 0 0)] (R.obs (some 0) 0) = some (.one (.int .i64 r1), R.obs (some 0) 0)
  e58' : F58 [.one (.ptr 0 0)] (T.obs (some 0) 0) = some (.one (.int .i64 r2), T.obs (some 0) 0)
  w1 : IntKind.i64.wrap (r1 + r2) = a
  w2 : IntKind.i64.wrap (R.most + T.most) = b
  hq : q = (!up || (a == b))
section
variable {up up' : Bool} {gen gen' : Int} {P Q P' Q' : PS} {R T R' T' : RS} {q : Bool} {r1 r2 a b : Int}
theorem body10_0 (L : List (List Sc)) (i : Nat) (m0 N : Int) (kd : Int) (fr : Bool) (s : ByteArray) (ok : Bool)
    (hi : i < L.length) (hd : L[i]?.getD [] = [.int .u8 kd, .bool fr, .int .i64 N, .str s]) (hL : L.length ≤ 100) (hs : s.size ≤ 30) (hkd : kd.tmod 6 = 0)
    (e32 : F32 [.one (.ptr 0 0)] (linkHp true up gen P Q) = some (.one (.bool ok), linkHp true up' gen' P' Q'))
    (e56 : F56 [.one (.ptr 0 0), .one (.bool true)] (wHp true up gen R T 0) = some (.one (.bool ok), wHp true up' gen' R' T' 0))
    (v : Asks up' gen' P' Q' R' T' q r1 r2 a b) :
    ∃ st1, evC T10 KK b10x0 (canon10 L i m0 (bothHp false up gen P Q R T)) = some (.norm, st1) ∧ St.head [5, 6, 20, 21, 22] st1 = canon10 L (i + 1 : Nat) m0 (bothHp false up' gen' P' Q' R' T') := by
  obtain ⟨e34, e35, e36, e37, e38, e58, e58', w1, w2, hq⟩ := v
  have hc : (i : Int) < L.length := by omega
  have hd' : L[i] = [.int .u8 kd, .bool fr, .int .i64 N, .str s] := by rw [List.getElem?_eq_getElem hi] at hd; exact hd
  have w3 : IntKind.i64.wrap ((i : Int) + 1) = (i : Int) + 1 := i64_in _ (by omega)
  have hs1 : ¬ ((30 : Int) < s.size) := by omega
  have hs2 : ¬ (30 < s.size) := by omega
  simp only [bothHp, wHp, linkHp, PS.obs, RS.obs, tg_true, tg_false, List.cons_append, List.nil_append, Nat.reduceAdd] at e32 e56 e34 e35 e36 e37 e38 e58 e58' ⊢
  cases up' with
  | false =>
    subst hq
    simp only [Bool.not_false, Bool.true_or, Bool.false_eq_true, if_false] at e36 e37 e38
    simp -implicitDefEqProofs [b10x0, canon10, upd, hc, hi, hd, hd', hs, hs1, hs2, hkd, e32, e56, e34, e35, e36, e37, e38, w3, RC.len, RC.size, RC.elem, takeE]
  | true =>
    subst hq
    simp only [Bool.not_true, Bool.false_or, if_true] at e36 e37 e38
    simp -implicitDefEqProofs [b10x0, canon10, upd, hc, hi, hd, hd', hs, hs1, hs2, hkd, e32, e56, e34, e35, e36, e37, e38, e58, e58', w1, w2, w3, RC.len, RC.size, RC.elem, takeE]
theorem body10_1 (L : List (List Sc)) (i : Nat) (m0 N : Int) (kd : Int) (fr : Bool) (s : ByteArray) (ok : Bool)
    (hi : i < L.length) (hd : L[i]?.getD [] = [.int .u8 kd, .bool fr, .int .i64 N, .str s]) (hL : L.length ≤ 100) (hs : s.size ≤ 30) (hkd : kd.tmod 6 = 1)
    (e33 : F33 [.one (.ptr 0 0)] (linkHp true up gen P Q) = some (.one (.bool ok), linkHp true up' gen' P' Q'))
    (e56 : F56 [.one (.ptr 0 0), .one (.bool false)] (wHp true up gen R T 0) = some (.one (.bool ok), wHp true up' gen' R' T' 0))
    (v : Asks up' gen' P' Q' R' T' q r1 r2 a b) :
    ∃ st1, evC T10 KK b10x0 (canon10 L i m0 (bothHp false up gen P Q R T)) = some (.norm, st1) ∧ St.head [5, 6, 20, 21, 22] st1 = canon10 L (i + 1 : Nat) m0 (bothHp false up' gen' P' Q' R' T') := by
  obtain ⟨e34, e35, e36, e37, e38, e58, e58', w1, w2, hq⟩ := v
  have hc : (i : Int) < L.length := by omega
  have hd' : L[i] = [.int .u8 kd, .bool fr, .int .i64 N, .str s] := by rw [List.getElem?_eq_getElem hi] at hd; exact hd
  have w3 : IntKind.i64.wrap ((i : Int) + 1) = (i : Int) + 1 := i64_in _ (by omega)
  have hs1 : ¬ ((30 : Int) < s.size) := by omega
  have hs2 : ¬ (30 < s.size) := by omega
  simp only [bothHp, wHp, linkHp, PS.obs, RS.obs, tg_true, tg_false, List.cons_append, List.nil_append, Nat.reduceAdd] at e33 e56 e34 e35 e36 e37 e38 e58 e58' ⊢
  cases up' with
  | false =>
    subst hq
    simp only [Bool.not_false, Bool.true_or, Bool.false_eq_true, if_false] at e36 e37 e38
    simp -implicitDefEqProofs [b10x0, canon10, upd, hc, hi, hd, hd', hs, hs1, hs2, hkd, e33, e56, e34, e35, e36, e37, e38, w3, RC.len, RC.size, RC.elem, takeE]
  | true =>
    subst hq
    simp only [Bool.not_true, Bool.false_or, if_true] at e36 e37 e38
    simp -implicitDefEqProofs [b10x0, canon10, upd, hc, hi, hd, hd', hs, hs1, hs2, hkd, e33, e56, e34, e35, e36, e37, e38, e58, e58', w1, w2, w3, RC.len, RC.size, RC.elem, takeE]
theorem body10_2 (L : List (List Sc)) (i : Nat) (m0 N : Int) (kd : Int) (fr : Bool) (s : ByteArray)
    (hi : i < L.length) (hd : L[i]?.getD [] = [.int .u8 kd, .bool fr, .int .i64 N, .str s]) (hL : L.length ≤ 100) (hs : s.size ≤ 30) (k : Int) (hkd : kd.tmod 6 = k) (hk0 : ¬ k < 2)
    (e57 : F57 [.agg [.int .u8 kd, .bool fr, .int .i64 N, .str s], .one (.ptr 0 0), .one (.ptr 7 0)] (bothHp true up gen P Q R T) = some (.one (.bool true), bothHp true up' gen' P' Q' R' T'))
    (v : Asks up' gen' P' Q' R' T' q r1 r2 a b) :
    ∃ st1, evC T10 KK b10x0 (canon10 L i m0 (bothHp false up gen P Q R T)) = some (.norm, st1) ∧ St.head [5, 6, 20, 21, 22] st1 = canon10 L (i + 1 : Nat) m0 (bothHp false up' gen' P' Q' R' T') := by
  obtain ⟨e34, e35, e36, e37, e38, e58, e58', w1, w2, hq⟩ := v
  have hc : (i : Int) < L.length := by omega
  have hd' : L[i] = [.int .u8 kd, .bool fr, .int .i64 N, .str s] := by rw [List.getElem?_eq_getElem hi] at hd; exact hd
  have w3 : IntKind.i64.wrap ((i : Int) + 1) = (i : Int) + 1 := i64_in _ (by omega)
  have hs1 : ¬ ((30 : Int) < s.size) := by omega
  have hs2 : ¬ (30 < s.size) := by omega
  simp only [bothHp, wHp, linkHp, PS.obs, RS.obs, tg_true, tg_false, List.cons_append, List.nil_append, Nat.reduceAdd] at e57 e34 e35 e36 e37 e38 e58 e58' ⊢
  cases up' with
  | false =>
    subst hq
    simp only [Bool.not_false, Bool.true_or, Bool.false_eq_true, if_false] at e36 e37 e38
    simp -implicitDefEqProofs [b10x0, canon10, upd, hc, hi, hd, hd', hs, hs1, hs2, hkd, hk0, e57, e34, e35, e36, e37, e38, w3, RC.len, RC.size, RC.elem, takeE]
  | true =>
    subst hq
    simp only [Bool.not_true, Bool.false_or, if_true] at e36 e37 e38
    simp -implicitDefEqProofs [b10x0, canon10, upd, hc, hi, hd, hd', hs, hs1, hs2, hkd, hk0, e57, e34, e35, e36, e37, e38, e58, e58', w1, w2, w3, RC.len, RC.size, RC.elem, takeE]
theorem long10 (L : List (List Sc)) (i : Nat) (m0 kd N : Int) (fr : Bool) (s : ByteArray) (hp : List Ob) (hi : i < L.length) (hd : L[i]?.getD [] = [.int .u8 kd, .bool fr, .int .i64 N, .str s]) (hs : 30 < s.size) :
    ∃ env hp', evC T10 KK b10x0 (canon10 L i m0 hp) = some (.ret, ⟨env, [.ro 0 (.recs 4 L), .int .i64 m0], hp'⟩) ∧ getT 4 env = .one (.bool true) := by
  have hd' : L[i] = [.int .u8 kd, .bool fr, .int .i64 N, .str s] := by rw [List.getElem?_eq_getElem hi] at hd; exact hd
  have hc : (i : Int) < L.length := by omega
  have hs1 : (30 : Int) < s.size := by omega
  simp -implicitDefEqProofs [b10x0, canon10, upd, hc, hi, hd, hd', hs, hs1, RC.len, RC.size, RC.elem, takeE]
theorem end10 (L : List (List Sc)) (i : Nat) (m0 : Int) (hp : List Ob) (hi : L.length ≤ i) :
    ∃ env hp', evC T10 KK b10x0 (canon10 L i m0 hp) = some (.exit 0, ⟨env, [.ro 0 (.recs 4 L), .int .i64 m0], hp'⟩) := by
  have hc : ¬ (i : Int) < L.length := by omega
  simp -implicitDefEqProofs [b10x0, canon10, upd, hc]
end
end Go.X.Try
