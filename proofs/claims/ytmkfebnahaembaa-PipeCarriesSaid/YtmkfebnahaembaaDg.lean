import Derived.Test.YtmkfebnahaembaaDe
set_option maxRecDepth 100000
set_option linter.unusedSimpArgs false
namespace Go.X.Try
open Go.IntWalk
abbrev rts4 (L : List ByteArray) (Nn : List Int) : List SV := [.ro 0 (.strs L), .ro 1 (.ints .u8 Nn)]
def canon4a (L : List ByteArray) (Nn : List Int) (i : Int) (all : ByteArray) (sf : Option (Nat × Nat)) (X : List (List Sc)) (h n : Int) : St :=
  ⟨[(1, .one (.ro 1 (.ints .u8 Nn))), (5, .one (.ptr 0 0)), (6, .one (.str all)), (25, .one (.ro 0 (.strs L))), (26, .one (.int .i64 L.length)), (27, .one (.int .i64 i))], rts4 L Nn, [.cells none (pipeCells 2048 (slv 1 sf) (slv 2 none) h n), .rows (.recs 3 X), .rows (.recs 3 [])]⟩
theorem body4a (L : List ByteArray) (Nn : List Int) (i : Nat) (all s : ByteArray) (sf sf' : Option (Nat × Nat)) (X X' : List (List Sc)) (h n h' n' : Int) (hi : i < L.length) (hd : L[i]? = some s) (hL : L.length ≤ 20) (hs : s.size ≤ 60) (ha : all.size ≤ 4000)
    (e20 : F20 [.one (.ptr 0 0), .one (.str s)] (pipeHp (some 0) 2048 sf none X [] h n) = some (.one (.bool true), pipeHp (some 0) 2048 sf' none X' [] h' n')) :
    ∃ st1, evC T4 KK b4x0 (canon4a L Nn i all sf X h n) = some (.norm, st1) ∧ St.head [1, 5, 6, 25, 26, 27] st1 = canon4a L Nn (i + 1 : Nat) (all ++ s) sf' X' h' n' := by
  have hc : (i : Int) < L.length := by omega
  have hd2 : L[i]?.getD ByteArray.empty = s := by rw [hd]; rfl
  have hd' : L[i] = s := by rw [List.getElem?_eq_getElem hi] at hd; simpa using hd
  have w3 : IntKind.i64.wrap ((i : Int) + 1) = (i : Int) + 1 := i64_in _ (by omega)
  have hs1 : ¬ ((60 : Int) < s.size) := by omega
  have hs2 : ¬ (60 < s.size) := by omega
  have hl : all.size + s.size ≤ 9223372036854775807 := by omega
  simp only [pipeHp, pipeCells] at e20
  simp -implicitDefEqProofs [b4x0, canon4a, pipeCells, upd, hc, hi, hd2, hd', hs, hs1, hs2, hl, e20, w3, RC.len, RC.size, RC.get]
theorem long4a (L : List ByteArray) (Nn : List Int) (i : Nat) (all s : ByteArray) (sf : Option (Nat × Nat)) (X : List (List Sc)) (h n : Int) (hi : i < L.length) (hd : L[i]? = some s) (hs : 60 < s.size) :
    ∃ env hp', evC T4 KK b4x0 (canon4a L Nn i all sf X h n) = some (.ret, ⟨env, rts4 L Nn, hp'⟩) ∧ getT 4 env = .one (.bool true) := by
  have hc : (i : Int) < L.length := by omega
  have hd2 : L[i]?.getD ByteArray.empty = s := by rw [hd]; rfl
  have hd' : L[i] = s := by rw [List.getElem?_eq_getElem hi] at hd; simpa using hd
  have hs1 : (60 : Int) < s.size := by omega
  simp -implicitDefEqProofs [b4x0, canon4a, upd, hc, hi, hd2, hd', hs, hs1, RC.len, RC.size, RC.get]
theorem end4a (L : List ByteArray) (Nn : List Int) (i : Nat) (all : ByteArray) (sf : Option (Nat × Nat)) (X : List (List Sc)) (h n : Int) (hi : L.length ≤ i) :
    ∃ env, evC T4 KK b4x0 (canon4a L Nn i all sf X h n) = some (.exit 0, ⟨env, rts4 L Nn, [.cells none (pipeCells 2048 (slv 1 sf) (slv 2 none) h n), .rows (.recs 3 X), .rows (.recs 3 [])]⟩) ∧ getT 1 env = .one (.ro 1 (.ints .u8 Nn)) ∧ getT 5 env = .one (.ptr 0 0) ∧ getT 6 env = .one (.str all) := by
  have hc : ¬ (i : Int) < L.length := by omega
  simp -implicitDefEqProofs [b4x0, canon4a, upd, hc]
def canon4b (L : List ByteArray) (Nn ks : List Int) (i : Int) (all got : ByteArray) (sf sc : Option (Nat × Nat)) (X Y : List (List Sc)) (h n : Int) : St :=
  ⟨[(5, .one (.ptr 0 0)), (6, .one (.str all)), (9, .one (.str got)), (51, .one (.row 3)), (52, .one (.int .i64 ks.length)), (53, .one (.int .i64 i))], rts4 L Nn, [.cells none (pipeCells 2048 (slv 1 sf) (slv 2 sc) h n), .rows (.recs 3 X), .rows (.recs 3 Y), .rows (.ints .u8 ks)]⟩
def hp4c (ks : List Int) (sf sc : Option (Nat × Nat)) (X Y : List (List Sc)) (h n y0 y1 : Int) (y2 : Bool) : List Ob :=
  [.cells none (pipeCells 2048 (slv 1 sf) (slv 2 sc) h n), .rows (.recs 3 X), .rows (.recs 3 Y), .cells none [.int .u8 y0, .int .u64 y1, .bool y2], .rows (.ints .u8 ks)]
def canon4c (L : List ByteArray) (Nn ks : List Int) (i : Int) (all got : ByteArray) (ok : Bool) (hp : List Ob) : St :=
  ⟨[(5, .one (.ptr 0 0)), (6, .one (.str all)), (9, .one (.str got)), (12, .one (.ptr 3 0)), (13, .one (.bool ok)), (51, .one (.row 4)), (52, .one (.int .i64 ks.length)), (53, .one (.int .i64 i))], rts4 L Nn, hp⟩
theorem body4c (L : List ByteArray) (Nn ks : List Int) (i : Int) (all got : ByteArray) (sf sc sc' : Option (Nat × Nat)) (X Y Y' : List (List Sc)) (h n x0 x1 y0 y1 : Int) (y2 ok : Bool) (hg : got.size ≤ 4000)
    (e23 : F23 [.one (.str (got ++ ofBytes [x0]))] [] = some (.one (.int .u64 x1), []))
    (e22 : F22 [.one (.ptr 0 0)] (pipeHp (some 0) 2048 sf sc X Y h n) = some (.tup [.agg [.int .u8 y0, .int .u64 y1, .bool y2], .one (.bool ok)], pipeHp (some 0) 2048 sf sc' X Y' h n)) :
    ∃ st1, evC T4 KK b4x1 (canon4c L Nn ks i all got true (hp4c ks sf sc X Y h n x0 x1 true)) = some (.norm, st1) ∧ St.head [5, 6, 9, 12, 13, 51, 52, 53] st1 = canon4c L Nn ks i all (got ++ ofBytes [x0]) ok (hp4c ks sf sc' X Y' h n y0 y1 y2) := by
  have hl : got.size + (ofBytes [x0]).size ≤ 9223372036854775807 := by
    have : (ofBytes [x0]).size = 1 := rfl
    omega
  simp only [pipeHp, pipeCells] at e22
  simp -implicitDefEqProofs [b4x1, canon4c, hp4c, pipeCells, upd, e22, e23, hl, RC.len, RC.size, RC.get, RC.ofElems]
theorem end4c (L : List ByteArray) (Nn ks : List Int) (i : Int) (all got : ByteArray) (sf sc : Option (Nat × Nat)) (X Y : List (List Sc)) (h n x0 x1 : Int) (x2 : Bool) :
    ∃ env, evC T4 KK b4x1 (canon4c L Nn ks i all got false (hp4c ks sf sc X Y h n x0 x1 x2)) = some (.exit 4, ⟨env, rts4 L Nn, hp4c ks sf sc X Y h n x0 x1 x2⟩) ∧ getT 5 env = .one (.ptr 0 0) ∧ getT 6 env = .one (.str all) ∧ getT 9 env = .one (.str got) ∧ getT 51 env = .one (.row 4) ∧ getT 52 env = .one (.int .i64 ks.length) ∧ getT 53 env = .one (.int .i64 i) := by
  simp -implicitDefEqProofs [b4x1, canon4c, upd]
theorem body4b (L : List ByteArray) (Nn ks : List Int) (i : Nat) (all got got' : ByteArray) (sf sc sf1 sc1 sc2 sc3 : Option (Nat × Nat)) (X Y X1 Y1 Y2 Y3 : List (List Sc)) (h n k v y0 y1 z0 z1 : Int) (y2 z2 ok : Bool) (env : Env)
    (hi : i < ks.length) (hd : ks[i]?.getD 0 = k) (hk : 0 ≤ k ∧ k < 256) (hks : ks.length ≤ 200)
    (e21 : F21 [.one (.ptr 0 0), .one (.int .i64 k)] (pipeHp (some 0) 2048 sf sc X Y h n) = some (.one (.int .i64 v), pipeHp (some 0) 2048 sf1 sc1 X1 Y1 h n))
    (e22 : F22 [.one (.ptr 0 0)] (pipeHp (some 0) 2048 sf1 sc1 X1 Y1 h n) = some (.tup [.agg [.int .u8 y0, .int .u64 y1, .bool y2], .one (.bool ok)], pipeHp (some 0) 2048 sf1 sc2 X1 Y2 h n))
    (p : loopH (evC T4 KK b4x1) [5, 6, 9, 12, 13, 51, 52, 53] KK (canon4c L Nn ks i all got ok (hp4c ks sf1 sc2 X1 Y2 h n y0 y1 y2)) = some (.exit 4, ⟨env, rts4 L Nn, hp4c ks sf1 sc3 X1 Y3 h n z0 z1 z2⟩))
    (g5 : getT 5 env = .one (.ptr 0 0)) (g6 : getT 6 env = .one (.str all)) (g9 : getT 9 env = .one (.str got')) (g51 : getT 51 env = .one (.row 4)) (g52 : getT 52 env = .one (.int .i64 ks.length)) (g53 : getT 53 env = .one (.int .i64 i)) :
    ∃ st1, evC T4 KK b4x2 (canon4b L Nn ks i all got sf sc X Y h n) = some (.norm, st1) ∧ St.head [5, 6, 9, 51, 52, 53] st1 = canon4b L Nn ks (i + 1 : Nat) all got' sf1 sc3 X1 Y3 h n := by
  have hc : (i : Int) < ks.length := by omega
  have hd' : ks[i] = k := by rw [List.getElem?_eq_getElem hi] at hd; simpa using hd
  have w1 : IntKind.i64.wrap k = k := i64_in _ (by omega)
  have w3 : IntKind.i64.wrap ((i : Int) + 1) = (i : Int) + 1 := i64_in _ (by omega)
  simp only [pipeHp, pipeCells] at e21 e22
  simp only [canon4c, hp4c, pipeCells] at p
  simp -implicitDefEqProofs [b4x2, canon4b, pipeCells, upd, hc, hi, hd, hd', e21, e22, p, g5, g6, g9, g51, g52, g53, w1, w3, RC.len, RC.size, RC.get]
theorem end4b (L : List ByteArray) (Nn ks : List Int) (i : Nat) (all got : ByteArray) (sf sc : Option (Nat × Nat)) (X Y : List (List Sc)) (h n : Int) (hi : ks.length ≤ i) :
    ∃ env, evC T4 KK b4x2 (canon4b L Nn ks i all got sf sc X Y h n) = some (.exit 2, ⟨env, rts4 L Nn, [.cells none (pipeCells 2048 (slv 1 sf) (slv 2 sc) h n), .rows (.recs 3 X), .rows (.recs 3 Y), .rows (.ints .u8 ks)]⟩) ∧ getT 5 env = .one (.ptr 0 0) ∧ getT 6 env = .one (.str all) ∧ getT 9 env = .one (.str got) := by
  have hc : ¬ (i : Int) < ks.length := by omega
  simp -implicitDefEqProofs [b4x2, canon4b, upd, hc]
end Go.X.Try
