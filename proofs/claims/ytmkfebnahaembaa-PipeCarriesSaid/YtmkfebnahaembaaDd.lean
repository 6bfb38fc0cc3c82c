import Derived.Test.YtmkfebnahaembaaDc
set_option maxRecDepth 100000
set_option linter.unusedSimpArgs false
namespace Go.X.Try
open Go.IntWalk
@[simp ↓ high] theorem lenOf_slv_none (hp : List Ob) (k : Nat) : lenOf hp (slv k none) = lenAt hp[k]? := rfl
@[simp ↓ high] theorem lenOf_slv_some (hp : List Ob) (k o n : Nat) : lenOf hp (slv k (some (o, n))) = some n := rfl
def hp8 (most : Int) (sf sc : Option (Nat × Nat)) (X Y : List (List Sc)) (h n : Int) (S : ByteArray) (at_ : Int) (sz : Option (Nat × Nat)) (Z : List Int) : List Ob :=
  [.cells none (pipeCells most (slv 1 sf) (slv 2 sc) h n), .rows (.recs 3 X), .rows (.recs 3 Y), .cells none [.int .i64 most, .str S, .int .i64 at_, slv 4 sz], .rows (.ints .i64 Z)]
def canon8 (L : List (List Sc)) (i m0 : Int) (hp : List Ob) : St :=
  ⟨[(5, .one (.ptr 0 0)), (6, .one (.ptr 3 0)), (25, .one (.ro 0 (.recs 3 L))), (26, .one (.int .i64 L.length)), (27, .one (.int .i64 i))], [.ro 0 (.recs 3 L), .int .i64 m0], hp⟩
/-- What the questions behind a deed answer. -/
structure Asks (most : Int) (sf sc : Option (Nat × Nat)) (X Y : List (List Sc)) (h n : Int) (S : ByteArray) (at_ : Int) (sz : Option (Nat × Nat)) (Z : List Int) (q1 q2 q3 : Int) : Prop where
  e46 : F46 [.one (.ptr 0 0)] (pipeHp (some 0) most sf sc X Y h n) = some (.one (.int .i64 q1), pipeHp (some 0) most sf sc X Y h n)
  e47 : F47 [.one (.ptr 0 0)] (pipeHp (some 0) most sf sc X Y h n) = some (.one (.int .i64 q2), pipeHp (some 0) most sf sc X Y h n)
  e24 : F24 [.one (.ptr 0 0)] (pipeHp (some 0) most sf sc X Y h n) = some (.one (.int .i64 q3), pipeHp (some 0) most sf sc X Y h n)
  e48 : F48 [.one (.ptr 0 0)] (refHp (some 0) most S at_ sz Z) = some (.one (.int .i64 q3), refHp (some 0) most S at_ sz Z)
  w1 : IntKind.i64.wrap ((S.size : Int) - at_) = q1
  w2 : (vwn Z sz : Int) = q2
theorem body8_0 (L : List (List Sc)) (i : Nat) (m0 most N : Int) (kd : Int) (s : ByteArray) (ok : Bool) (sf sc sz sf' sc' sz' : Option (Nat × Nat)) (X Y X' Y' : List (List Sc)) (h n h' n' at_ at' : Int) (S S' : ByteArray) (Z Z' : List Int) (q1 q2 q3 : Int)
    (hi : i < L.length) (hd : L[i]?.getD [] = [.int .u8 kd, .int .i64 N, .str s]) (hL : L.length ≤ 100) (hs : s.size ≤ 40) (hkd : kd.tmod 5 = 0)
    (e20 : F20 [.one (.ptr 0 0), .one (.str s)] (pipeHp (some 0) most sf sc X Y h n) = some (.one (.bool ok), pipeHp (some 0) most sf' sc' X' Y' h' n'))
    (e39 : F39 [.one (.ptr 0 0), .one (.str s)] (refHp (some 0) most S at_ sz Z) = some (.one (.bool ok), refHp (some 0) most S' at' sz' Z'))
    (a : Asks most sf' sc' X' Y' h' n' S' at' sz' Z' q1 q2 q3) :
    ∃ st1, evC T8 KK b8x0 (canon8 L i m0 (hp8 most sf sc X Y h n S at_ sz Z)) = some (.norm, st1) ∧ St.head [5, 6, 25, 26, 27] st1 = canon8 L (i + 1 : Nat) m0 (hp8 most sf' sc' X' Y' h' n' S' at' sz' Z') := by
  obtain ⟨e46, e47, e24, e48, w1, w2⟩ := a
  have hc : (i : Int) < L.length := by omega
  have hd' : L[i] = [.int .u8 kd, .int .i64 N, .str s] := by rw [List.getElem?_eq_getElem hi] at hd; exact hd
  have w3 : IntKind.i64.wrap ((i : Int) + 1) = (i : Int) + 1 := i64_in _ (by omega)
  have hs1 : ¬ ((40 : Int) < s.size) := by omega
  have hs2 : ¬ (40 < s.size) := by omega
  simp only [pipeHp, refHp, pipeCells] at e20 e39 e46 e47 e24 e48
  rcases sz' with _ | ⟨o, m⟩ <;> simp only [vwn] at w2 <;> simp -implicitDefEqProofs [b8x0, canon8, hp8, pipeCells, upd, hc, hi, hd, hd', hs, hs1, hs2, hkd, e20, e39, e46, e47, e24, e48, w1, w2, w3, RC.len, RC.size, RC.elem, takeE]
theorem body8_1 (L : List (List Sc)) (i : Nat) (m0 most N : Int) (kd : Int) (s : ByteArray) (v : Int) (sf sc sz sf' sc' sz' : Option (Nat × Nat)) (X Y X' Y' : List (List Sc)) (h n h' n' at_ at' : Int) (S S' : ByteArray) (Z Z' : List Int) (q1 q2 q3 : Int)
    (hi : i < L.length) (hd : L[i]?.getD [] = [.int .u8 kd, .int .i64 N, .str s]) (hL : L.length ≤ 100) (hs : s.size ≤ 40) (hkd : kd.tmod 5 = 1)
    (e21 : F21 [.one (.ptr 0 0), .one (.int .i64 N)] (pipeHp (some 0) most sf sc X Y h n) = some (.one (.int .i64 v), pipeHp (some 0) most sf' sc' X' Y' h' n'))
    (e40 : F40 [.one (.ptr 0 0), .one (.int .i64 N)] (refHp (some 0) most S at_ sz Z) = some (.one (.int .i64 v), refHp (some 0) most S' at' sz' Z'))
    (a : Asks most sf' sc' X' Y' h' n' S' at' sz' Z' q1 q2 q3) :
    ∃ st1, evC T8 KK b8x0 (canon8 L i m0 (hp8 most sf sc X Y h n S at_ sz Z)) = some (.norm, st1) ∧ St.head [5, 6, 25, 26, 27] st1 = canon8 L (i + 1 : Nat) m0 (hp8 most sf' sc' X' Y' h' n' S' at' sz' Z') := by
  obtain ⟨e46, e47, e24, e48, w1, w2⟩ := a
  have hc : (i : Int) < L.length := by omega
  have hd' : L[i] = [.int .u8 kd, .int .i64 N, .str s] := by rw [List.getElem?_eq_getElem hi] at hd; exact hd
  have w3 : IntKind.i64.wrap ((i : Int) + 1) = (i : Int) + 1 := i64_in _ (by omega)
  have hs1 : ¬ ((40 : Int) < s.size) := by omega
  have hs2 : ¬ (40 < s.size) := by omega
  simp only [pipeHp, refHp, pipeCells] at e21 e40 e46 e47 e24 e48
  rcases sz' with _ | ⟨o, m⟩ <;> simp only [vwn] at w2 <;> simp -implicitDefEqProofs [b8x0, canon8, hp8, pipeCells, upd, hc, hi, hd, hd', hs, hs1, hs2, hkd, e21, e40, e46, e47, e24, e48, w1, w2, w3, RC.len, RC.size, RC.elem, takeE]
theorem body8_2 (L : List (List Sc)) (i : Nat) (m0 most N : Int) (kd : Int) (s : ByteArray) (ok : Bool) (sf sc sz sf' sc' sz' : Option (Nat × Nat)) (X Y X' Y' : List (List Sc)) (h n h' n' at_ at' : Int) (S S' : ByteArray) (Z Z' : List Int) (q1 q2 q3 : Int)
    (hi : i < L.length) (hd : L[i]?.getD [] = [.int .u8 kd, .int .i64 N, .str s]) (hL : L.length ≤ 100) (hs : s.size ≤ 40) (hkd : kd.tmod 5 = 2)
    (e41 : F41 [.one (.ptr 0 0), .one (.str s)] (pipeHp (some 0) most sf sc X Y h n) = some (.one (.bool ok), pipeHp (some 0) most sf' sc' X' Y' h' n'))
    (e42 : F42 [.one (.ptr 0 0), .one (.str s)] (refHp (some 0) most S at_ sz Z) = some (.one (.bool ok), refHp (some 0) most S' at' sz' Z'))
    (a : Asks most sf' sc' X' Y' h' n' S' at' sz' Z' q1 q2 q3) :
    ∃ st1, evC T8 KK b8x0 (canon8 L i m0 (hp8 most sf sc X Y h n S at_ sz Z)) = some (.norm, st1) ∧ St.head [5, 6, 25, 26, 27] st1 = canon8 L (i + 1 : Nat) m0 (hp8 most sf' sc' X' Y' h' n' S' at' sz' Z') := by
  obtain ⟨e46, e47, e24, e48, w1, w2⟩ := a
  have hc : (i : Int) < L.length := by omega
  have hd' : L[i] = [.int .u8 kd, .int .i64 N, .str s] := by rw [List.getElem?_eq_getElem hi] at hd; exact hd
  have w3 : IntKind.i64.wrap ((i : Int) + 1) = (i : Int) + 1 := i64_in _ (by omega)
  have hs1 : ¬ ((40 : Int) < s.size) := by omega
  have hs2 : ¬ (40 < s.size) := by omega
  simp only [pipeHp, refHp, pipeCells] at e41 e42 e46 e47 e24 e48
  rcases sz' with _ | ⟨o, m⟩ <;> simp only [vwn] at w2 <;> simp -implicitDefEqProofs [b8x0, canon8, hp8, pipeCells, upd, hc, hi, hd, hd', hs, hs1, hs2, hkd, e41, e42, e46, e47, e24, e48, w1, w2, w3, RC.len, RC.size, RC.elem, takeE]
theorem body8_3 (L : List (List Sc)) (i : Nat) (m0 most N : Int) (kd : Int) (s : ByteArray) (ok x2 : Bool) (x0 x1 : Int) (sf sc sz sf' sc' sz' : Option (Nat × Nat)) (X Y X' Y' : List (List Sc)) (h n h' n' at_ at' : Int) (S S' : ByteArray) (Z Z' : List Int) (q1 q2 q3 : Int)
    (hi : i < L.length) (hd : L[i]?.getD [] = [.int .u8 kd, .int .i64 N, .str s]) (hL : L.length ≤ 100) (hs : s.size ≤ 40) (hkd : kd.tmod 5 = 3)
    (e22 : F22 [.one (.ptr 0 0)] (pipeHp (some 0) most sf sc X Y h n) = some (.tup [.agg [.int .u8 x0, .int .u64 x1, .bool x2], .one (.bool ok)], pipeHp (some 0) most sf' sc' X' Y' h' n'))
    (e43 : F43 [.one (.ptr 0 0)] (refHp (some 0) most S at_ sz Z) = some (tup4 x0 x1 x2 ok, refHp (some 0) most S' at' sz' Z'))
    (a : Asks most sf' sc' X' Y' h' n' S' at' sz' Z' q1 q2 q3) :
    ∃ st1, evC T8 KK b8x0 (canon8 L i m0 (hp8 most sf sc X Y h n S at_ sz Z)) = some (.norm, st1) ∧ St.head [5, 6, 25, 26, 27] st1 = canon8 L (i + 1 : Nat) m0 (hp8 most sf' sc' X' Y' h' n' S' at' sz' Z') := by
  obtain ⟨e46, e47, e24, e48, w1, w2⟩ := a
  have hc : (i : Int) < L.length := by omega
  have hd' : L[i] = [.int .u8 kd, .int .i64 N, .str s] := by rw [List.getElem?_eq_getElem hi] at hd; exact hd
  have w3 : IntKind.i64.wrap ((i : Int) + 1) = (i : Int) + 1 := i64_in _ (by omega)
  have hs1 : ¬ ((40 : Int) < s.size) := by omega
  have hs2 : ¬ (40 < s.size) := by omega
  simp only [pipeHp, refHp, pipeCells, tup4] at e22 e43 e46 e47 e24 e48
  rcases sz' with _ | ⟨o, m⟩ <;> simp only [vwn] at w2 <;> simp -implicitDefEqProofs [b8x0, canon8, hp8, pipeCells, upd, hc, hi, hd, hd', hs, hs1, hs2, hkd, e22, e43, e46, e47, e24, e48, w1, w2, w3, RC.len, RC.size, RC.elem, takeE]
theorem body8_4 (L : List (List Sc)) (i : Nat) (m0 most N : Int) (kd : Int) (s : ByteArray)  (sf sc sz sf' sc' sz' : Option (Nat × Nat)) (X Y X' Y' : List (List Sc)) (h n h' n' at_ at' : Int) (S S' : ByteArray) (Z Z' : List Int) (q1 q2 q3 : Int)
    (hi : i < L.length) (hd : L[i]?.getD [] = [.int .u8 kd, .int .i64 N, .str s]) (hL : L.length ≤ 100) (hs : s.size ≤ 40) (hkd : kd.tmod 5 = 4) (hN : N.tmod 4 = 0)
    (e44 : F44 [.one (.ptr 0 0)] (pipeHp (some 0) most sf sc X Y h n) = some (.tup [], pipeHp (some 0) most sf' sc' X' Y' h' n'))
    (e45 : F45 [.one (.ptr 0 0)] (refHp (some 0) most S at_ sz Z) = some (.tup [], refHp (some 0) most S' at' sz' Z'))
    (a : Asks most sf' sc' X' Y' h' n' S' at' sz' Z' q1 q2 q3) :
    ∃ st1, evC T8 KK b8x0 (canon8 L i m0 (hp8 most sf sc X Y h n S at_ sz Z)) = some (.norm, st1) ∧ St.head [5, 6, 25, 26, 27] st1 = canon8 L (i + 1 : Nat) m0 (hp8 most sf' sc' X' Y' h' n' S' at' sz' Z') := by
  obtain ⟨e46, e47, e24, e48, w1, w2⟩ := a
  have hc : (i : Int) < L.length := by omega
  have hd' : L[i] = [.int .u8 kd, .int .i64 N, .str s] := by rw [List.getElem?_eq_getElem hi] at hd; exact hd
  have w3 : IntKind.i64.wrap ((i : Int) + 1) = (i : Int) + 1 := i64_in _ (by omega)
  have hs1 : ¬ ((40 : Int) < s.size) := by omega
  have hs2 : ¬ (40 < s.size) := by omega
  simp only [pipeHp, refHp, pipeCells] at e44 e45 e46 e47 e24 e48
  rcases sz' with _ | ⟨o, m⟩ <;> simp only [vwn] at w2 <;> simp -implicitDefEqProofs [b8x0, canon8, hp8, pipeCells, upd, hc, hi, hd, hd', hs, hs1, hs2, hkd, e44, e45, hN, e46, e47, e24, e48, w1, w2, w3, RC.len, RC.size, RC.elem, takeE]
theorem body8_5 (L : List (List Sc)) (i : Nat) (m0 most N : Int) (kd : Int) (s : ByteArray)  (sf sc sz : Option (Nat × Nat)) (X Y : List (List Sc)) (h n at_ : Int) (S : ByteArray) (Z : List Int) (q1 q2 q3 : Int)
    (hi : i < L.length) (hd : L[i]?.getD [] = [.int .u8 kd, .int .i64 N, .str s]) (hL : L.length ≤ 100) (hs : s.size ≤ 40) (hkd : kd.tmod 5 = 4) (hN : ¬ N.tmod 4 = 0)
    (a : Asks most sf sc X Y h n S at_ sz Z q1 q2 q3) :
    ∃ st1, evC T8 KK b8x0 (canon8 L i m0 (hp8 most sf sc X Y h n S at_ sz Z)) = some (.norm, st1) ∧ St.head [5, 6, 25, 26, 27] st1 = canon8 L (i + 1 : Nat) m0 (hp8 most sf sc X Y h n S at_ sz Z) := by
  have hN2 : ¬ (4 ∣ N) := fun c => hN (Int.tmod_eq_zero_of_dvd c)
  obtain ⟨e46, e47, e24, e48, w1, w2⟩ := a
  have hc : (i : Int) < L.length := by omega
  have hd' : L[i] = [.int .u8 kd, .int .i64 N, .str s] := by rw [List.getElem?_eq_getElem hi] at hd; exact hd
  have w3 : IntKind.i64.wrap ((i : Int) + 1) = (i : Int) + 1 := i64_in _ (by omega)
  have hs1 : ¬ ((40 : Int) < s.size) := by omega
  have hs2 : ¬ (40 < s.size) := by omega
  simp only [pipeHp, refHp, pipeCells] at e46 e47 e24 e48
  rcases sz with _ | ⟨o, m⟩ <;> simp only [vwn] at w2 <;> simp -implicitDefEqProofs [b8x0, canon8, hp8, pipeCells, upd, hc, hi, hd, hd', hs, hs1, hs2, hkd, hN, hN2, e46, e47, e24, e48, w1, w2, w3, RC.len, RC.size, RC.elem, takeE]
end Go.X.Try
