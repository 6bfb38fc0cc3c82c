import Derived.Test.YtejcknhmobnbeaaCg
set_option maxRecDepth 100000
set_option linter.unusedSimpArgs false
namespace Go.X.Try
open Go.IntWalk
def canon9 (s0 : ByteArray) (L : List (List Sc)) (i : Int) (l : List Int) (bad : Bool) : St :=
  ⟨[(2, .one (.ptr 0 0)), (5, .one (.ptr 1 0)), (6, .one (.ptr 2 0)), (7, .one (.fn 38 [.ptr 2 0, .ptr 0 0])), (8, .one (.ptr 3 0)), (9, .one (.fn 41 [.ptr 3 0, .ptr 2 0])), (34, .one (.ro 1 (.recs 4 L))), (35, .one (.int .i64 L.length)), (36, .one (.int .i64 i))],
   [.str s0, .ro 1 (.recs 4 L)], [.cells none [.str (ofBytes l)], .cells none [.str (ofBytes l), .bool bad], .cells none [.bool bad], .cells none [.fn 39 [.ptr 0 0, .ptr 2 0]]]⟩
theorem kind6 {kd : Int} (h : 0 ≤ kd ∧ kd < 256) : kd.tmod 6 = 0 ∨ kd.tmod 6 = 1 ∨ kd.tmod 6 = 2 ∨ kd.tmod 6 = 3 ∨ kd.tmod 6 = 4 ∨ kd.tmod 6 = 5 := by
  have := Int.tmod_eq_emod_of_nonneg (b := 6) h.1
  omega
theorem body9a (s0 : ByteArray) (L : List (List Sc)) (i : Nat) (l x r : List Int) (y : ByteArray) (bad bad' : Bool) (kd v n : Int) (s : ByteArray) (u : Int) (hi : i < L.length) (hL : L.length ≤ 20) (hd : L[i]?.getD [] = [.int .u8 kd, .int .u64 v, .int .i64 n, .str s])
    (h6 : kd.tmod 6 = 0)
    (e38 : F38 [.one (.int .i64 (sz n)), .one (.ptr 0 0), .one (.ptr 1 0)] [.cells (some 0) [.bool bad], .cells (some 1) [.str (ofBytes l)]] = some (.one (.str (ofBytes x)), [.cells (some 0) [.bool bad'], .cells (some 1) [.str y]]))
    (e42 : F42 [.one (.str (ofBytes x))] [] = some (.one (.int .u64 u), []))
    (e43 : F43 [.one (.ptr 0 0), .one (.int .i64 n)] (rHp (some 0) l bad) = some (.one (.int .u64 u), rHp (some 0) r bad'))
    (hr : bad' = true → r = []) (hy : bad' = false → y = ofBytes r) :
    ∃ st1, evC T9x KK b9x0 (canon9 s0 L i l bad) = some (.norm, st1) ∧ St.head [2, 5, 6, 7, 8, 9, 34, 35, 36] st1 = canon9 s0 L (i + 1 : Nat) r bad' := by
  have hd' : L[i] = [.int .u8 kd, .int .u64 v, .int .i64 n, .str s] := by rw [List.getElem?_eq_getElem hi] at hd; exact hd
  have hi2 : (i : Int) < L.length := by omega
  have w : IntKind.i64.wrap ((i : Int) + 1) = (i : Int) + 1 := i64_in _ (by omega)
  have e23 := f23 r bad'
  have e22 := f22 r bad'
  have e0 := emptyS r
  unfold sz at e38
  simp only [rHp] at e43 e23 e22
  cases bad'
  · obtain rfl := hy rfl
    by_cases h : n < 0
    · rw [if_pos h, show ((0 : Nat) : Int) = 0 from rfl] at e38
      simp -implicitDefEqProofs [b9x0, canon9, upd, hi, hi2, hd, hd', h6, w, e38, e42, e43, e23, e22, e0, h, RC.len, RC.size, RC.elem, takeE]
    · by_cases h8 : 8 < n
      · rw [if_neg h, if_pos h8, show ((8 : Nat) : Int) = 8 from rfl] at e38
        simp -implicitDefEqProofs [b9x0, canon9, upd, hi, hi2, hd, hd', h6, w, e38, e42, e43, e23, e22, e0, h, h8, RC.len, RC.size, RC.elem, takeE]
      · rw [if_neg h, if_neg h8, show ((n.toNat : Nat) : Int) = n by omega] at e38
        simp -implicitDefEqProofs [b9x0, canon9, upd, hi, hi2, hd, hd', h6, w, e38, e42, e43, e23, e22, e0, h, h8, RC.len, RC.size, RC.elem, takeE]
  · obtain rfl := hr rfl
    simp only [ofBytes_nil] at e43 e23 e22
    by_cases h : n < 0
    · rw [if_pos h, show ((0 : Nat) : Int) = 0 from rfl] at e38
      simp -implicitDefEqProofs [b9x0, canon9, upd, hi, hi2, hd, hd', h6, w, e38, e42, e43, e23, e22, e0, h, RC.len, RC.size, RC.elem, takeE, ofBytes_nil]
    · by_cases h8 : 8 < n
      · rw [if_neg h, if_pos h8, show ((8 : Nat) : Int) = 8 from rfl] at e38
        simp -implicitDefEqProofs [b9x0, canon9, upd, hi, hi2, hd, hd', h6, w, e38, e42, e43, e23, e22, e0, h, h8, RC.len, RC.size, RC.elem, takeE, ofBytes_nil]
      · rw [if_neg h, if_neg h8, show ((n.toNat : Nat) : Int) = n by omega] at e38
        simp -implicitDefEqProofs [b9x0, canon9, upd, hi, hi2, hd, hd', h6, w, e38, e42, e43, e23, e22, e0, h, h8, RC.len, RC.size, RC.elem, takeE, ofBytes_nil]
theorem body9b (s0 : ByteArray) (L : List (List Sc)) (i : Nat) (l r : List Int) (y : ByteArray) (bad bad' : Bool) (kd v n : Int) (s : ByteArray) (u : Int) (hi : i < L.length) (hL : L.length ≤ 20) (hd : L[i]?.getD [] = [.int .u8 kd, .int .u64 v, .int .i64 n, .str s])
    (h6 : kd.tmod 6 = 1)
    (e39 : F39 [.one (.ptr 0 0), .one (.ptr 1 0)] [.cells (some 0) [.str (ofBytes l)], .cells (some 1) [.bool bad]] = some (.one (.int .u64 u), [.cells (some 0) [.str y], .cells (some 1) [.bool bad']]))
    (e21 : F21 [.one (.ptr 0 0)] (rHp (some 0) l bad) = some (.one (.int .u64 u), rHp (some 0) r bad'))
    (hr : bad' = true → r = []) (hy : bad' = false → y = ofBytes r) :
    ∃ st1, evC T9x KK b9x0 (canon9 s0 L i l bad) = some (.norm, st1) ∧ St.head [2, 5, 6, 7, 8, 9, 34, 35, 36] st1 = canon9 s0 L (i + 1 : Nat) r bad' := by
  have hd' : L[i] = [.int .u8 kd, .int .u64 v, .int .i64 n, .str s] := by rw [List.getElem?_eq_getElem hi] at hd; exact hd
  have hi2 : (i : Int) < L.length := by omega
  have w : IntKind.i64.wrap ((i : Int) + 1) = (i : Int) + 1 := i64_in _ (by omega)
  have e23 := f23 r bad'
  have e22 := f22 r bad'
  have e0 := emptyS r
  simp only [rHp] at e21 e23 e22
  cases bad'
  · obtain rfl := hy rfl
    simp -implicitDefEqProofs [b9x0, canon9, upd, hi, hi2, hd, hd', h6, w, e39, e21, e23, e22, e0, RC.len, RC.size, RC.elem, takeE]
  · obtain rfl := hr rfl
    simp only [ofBytes_nil] at e21 e23 e22
    simp -implicitDefEqProofs [b9x0, canon9, upd, hi, hi2, hd, hd', h6, w, e39, e21, e23, e22, e0, RC.len, RC.size, RC.elem, takeE, ofBytes_nil]
theorem body9c (s0 : ByteArray) (L : List (List Sc)) (i : Nat) (l x r : List Int) (y : ByteArray) (bad bad' : Bool) (kd v n m : Int) (s : ByteArray) (hi : i < L.length) (hL : L.length ≤ 20) (hd : L[i]?.getD [] = [.int .u8 kd, .int .u64 v, .int .i64 n, .str s])
    (h6 : kd.tmod 6 = 2) (hm : m = if n < 0 then 0 else n)
    (e38 : F38 [.one (.int .i64 m), .one (.ptr 0 0), .one (.ptr 1 0)] [.cells (some 0) [.bool bad], .cells (some 1) [.str (ofBytes l)]] = some (.one (.str (ofBytes x)), [.cells (some 0) [.bool bad'], .cells (some 1) [.str y]]))
    (e44 : F44 [.one (.ptr 0 0), .one (.int .i64 n)] (rHp (some 0) l bad) = some (.one (.str (ofBytes x)), rHp (some 0) r bad'))
    (hr : bad' = true → r = []) (hy : bad' = false → y = ofBytes r) :
    ∃ st1, evC T9x KK b9x0 (canon9 s0 L i l bad) = some (.norm, st1) ∧ St.head [2, 5, 6, 7, 8, 9, 34, 35, 36] st1 = canon9 s0 L (i + 1 : Nat) r bad' := by
  have hd' : L[i] = [.int .u8 kd, .int .u64 v, .int .i64 n, .str s] := by rw [List.getElem?_eq_getElem hi] at hd; exact hd
  have hi2 : (i : Int) < L.length := by omega
  have w : IntKind.i64.wrap ((i : Int) + 1) = (i : Int) + 1 := i64_in _ (by omega)
  have e23 := f23 r bad'
  have e22 := f22 r bad'
  have e0 := emptyS r
  simp only [rHp] at e44 e23 e22
  subst hm
  cases bad'
  · obtain rfl := hy rfl
    by_cases h : n < 0
    · rw [if_pos h] at e38
      simp -implicitDefEqProofs [b9x0, canon9, upd, hi, hi2, hd, hd', h6, w, e38, e44, e23, e22, e0, h, RC.len, RC.size, RC.elem, takeE]
    · rw [if_neg h] at e38
      simp -implicitDefEqProofs [b9x0, canon9, upd, hi, hi2, hd, hd', h6, w, e38, e44, e23, e22, e0, h, RC.len, RC.size, RC.elem, takeE]
  · obtain rfl := hr rfl
    simp only [ofBytes_nil] at e44 e23 e22
    by_cases h : n < 0
    · rw [if_pos h] at e38
      simp -implicitDefEqProofs [b9x0, canon9, upd, hi, hi2, hd, hd', h6, w, e38, e44, e23, e22, e0, h, RC.len, RC.size, RC.elem, takeE, ofBytes_nil]
    · rw [if_neg h] at e38
      simp -implicitDefEqProofs [b9x0, canon9, upd, hi, hi2, hd, hd', h6, w, e38, e44, e23, e22, e0, h, RC.len, RC.size, RC.elem, takeE, ofBytes_nil]
theorem body9d (s0 : ByteArray) (L : List (List Sc)) (i : Nat) (l x r : List Int) (y z : ByteArray) (bad b1 bad' : Bool) (kd v n m : Int) (s : ByteArray) (hi : i < L.length) (hL : L.length ≤ 20) (hd : L[i]?.getD [] = [.int .u8 kd, .int .u64 v, .int .i64 n, .str s])
    (h6 : kd.tmod 6 = 3)
    (e41 : F41x [.one (.int .i64 n), .one (.ptr 0 0), .one (.ptr 2 0)] [.cells (some 0) [.fn 39 [.ptr 1 0, .ptr 2 0]], .cells (some 1) [.str (ofBytes l)], .cells (some 2) [.bool bad]]
      = some (.one (.int .i64 m), [.cells (some 0) [.fn 39 [.ptr 1 0, .ptr 2 0]], .cells (some 1) [.str z], .cells (some 2) [.bool b1]]))
    (e38 : F38 [.one (.int .i64 m), .one (.ptr 0 0), .one (.ptr 1 0)] [.cells (some 0) [.bool b1], .cells (some 1) [.str z]] = some (.one (.str (ofBytes x)), [.cells (some 0) [.bool bad'], .cells (some 1) [.str y]]))
    (e45 : F45 [.one (.ptr 0 0), .one (.int .i64 n)] (rHp (some 0) l bad) = some (.one (.str (ofBytes x)), rHp (some 0) r bad'))
    (hr : bad' = true → r = []) (hy : bad' = false → y = ofBytes r) :
    ∃ st1, evC T9x KK b9x0 (canon9 s0 L i l bad) = some (.norm, st1) ∧ St.head [2, 5, 6, 7, 8, 9, 34, 35, 36] st1 = canon9 s0 L (i + 1 : Nat) r bad' := by
  have hd' : L[i] = [.int .u8 kd, .int .u64 v, .int .i64 n, .str s] := by rw [List.getElem?_eq_getElem hi] at hd; exact hd
  have hi2 : (i : Int) < L.length := by omega
  have w : IntKind.i64.wrap ((i : Int) + 1) = (i : Int) + 1 := i64_in _ (by omega)
  have e23 := f23 r bad'
  have e22 := f22 r bad'
  have e0 := emptyS r
  simp only [rHp] at e45 e23 e22
  cases bad'
  · obtain rfl := hy rfl
    simp -implicitDefEqProofs [b9x0, canon9, upd, hi, hi2, hd, hd', h6, w, e41, e38, e45, e23, e22, e0, RC.len, RC.size, RC.elem, takeE]
  · obtain rfl := hr rfl
    simp only [ofBytes_nil] at e45 e23 e22
    simp -implicitDefEqProofs [b9x0, canon9, upd, hi, hi2, hd, hd', h6, w, e41, e38, e45, e23, e22, e0, RC.len, RC.size, RC.elem, takeE, ofBytes_nil]
theorem body9e (s0 : ByteArray) (L : List (List Sc)) (i : Nat) (l r : List Int) (y : ByteArray) (bad bad' : Bool) (kd v n m : Int) (s : ByteArray) (hi : i < L.length) (hL : L.length ≤ 20) (hd : L[i]?.getD [] = [.int .u8 kd, .int .u64 v, .int .i64 n, .str s])
    (h6 : kd.tmod 6 = 4)
    (e41 : F41x [.one (.int .i64 n), .one (.ptr 0 0), .one (.ptr 2 0)] [.cells (some 0) [.fn 39 [.ptr 1 0, .ptr 2 0]], .cells (some 1) [.str (ofBytes l)], .cells (some 2) [.bool bad]]
      = some (.one (.int .i64 m), [.cells (some 0) [.fn 39 [.ptr 1 0, .ptr 2 0]], .cells (some 1) [.str y], .cells (some 2) [.bool bad']]))
    (e46 : F46 [.one (.ptr 0 0), .one (.int .i64 n)] (rHp (some 0) l bad) = some (.one (.int .i64 m), rHp (some 0) r bad'))
    (hr : bad' = true → r = []) (hy : bad' = false → y = ofBytes r) :
    ∃ st1, evC T9x KK b9x0 (canon9 s0 L i l bad) = some (.norm, st1) ∧ St.head [2, 5, 6, 7, 8, 9, 34, 35, 36] st1 = canon9 s0 L (i + 1 : Nat) r bad' := by
  have hd' : L[i] = [.int .u8 kd, .int .u64 v, .int .i64 n, .str s] := by rw [List.getElem?_eq_getElem hi] at hd; exact hd
  have hi2 : (i : Int) < L.length := by omega
  have w : IntKind.i64.wrap ((i : Int) + 1) = (i : Int) + 1 := i64_in _ (by omega)
  have e23 := f23 r bad'
  have e22 := f22 r bad'
  have e0 := emptyS r
  simp only [rHp] at e46 e23 e22
  cases bad'
  · obtain rfl := hy rfl
    simp -implicitDefEqProofs [b9x0, canon9, upd, hi, hi2, hd, hd', h6, w, e41, e46, e23, e22, e0, RC.len, RC.size, RC.elem, takeE]
  · obtain rfl := hr rfl
    simp only [ofBytes_nil] at e46 e23 e22
    simp -implicitDefEqProofs [b9x0, canon9, upd, hi, hi2, hd, hd', h6, w, e41, e46, e23, e22, e0, RC.len, RC.size, RC.elem, takeE, ofBytes_nil]
theorem body9f (s0 : ByteArray) (L : List (List Sc)) (i : Nat) (l x r : List Int) (y : ByteArray) (bad bad' : Bool) (kd v n : Int) (s : ByteArray) (hi : i < L.length) (hL : L.length ≤ 20) (hd : L[i]?.getD [] = [.int .u8 kd, .int .u64 v, .int .i64 n, .str s])
    (h6 : kd.tmod 6 = 5)
    (e38 : F38 [.one (.int .i64 (l.length : Nat)), .one (.ptr 0 0), .one (.ptr 1 0)] [.cells (some 0) [.bool bad], .cells (some 1) [.str (ofBytes l)]] = some (.one (.str (ofBytes x)), [.cells (some 0) [.bool bad'], .cells (some 1) [.str y]]))
    (e47 : F47 [.one (.ptr 0 0)] (rHp (some 0) l bad) = some (.one (.str (ofBytes x)), rHp (some 0) r bad'))
    (hr : bad' = true → r = []) (hy : bad' = false → y = ofBytes r) :
    ∃ st1, evC T9x KK b9x0 (canon9 s0 L i l bad) = some (.norm, st1) ∧ St.head [2, 5, 6, 7, 8, 9, 34, 35, 36] st1 = canon9 s0 L (i + 1 : Nat) r bad' := by
  have hd' : L[i] = [.int .u8 kd, .int .u64 v, .int .i64 n, .str s] := by rw [List.getElem?_eq_getElem hi] at hd; exact hd
  have hi2 : (i : Int) < L.length := by omega
  have w : IntKind.i64.wrap ((i : Int) + 1) = (i : Int) + 1 := i64_in _ (by omega)
  have e23 := f23 r bad'
  have e22 := f22 r bad'
  have e0 := emptyS r
  have e3 := size_ofBytes l
  simp only [rHp] at e47 e23 e22
  cases bad'
  · obtain rfl := hy rfl
    simp -implicitDefEqProofs [b9x0, canon9, upd, hi, hi2, hd, hd', h6, w, e38, e47, e23, e22, e0, e3, RC.len, RC.size, RC.elem, takeE]
  · obtain rfl := hr rfl
    simp only [ofBytes_nil] at e47 e23 e22
    simp -implicitDefEqProofs [b9x0, canon9, upd, hi, hi2, hd, hd', h6, w, e38, e47, e23, e22, e0, e3, RC.len, RC.size, RC.elem, takeE, ofBytes_nil]
theorem end9 (s0 : ByteArray) (L : List (List Sc)) (i : Nat) (l : List Int) (bad : Bool) (hi : L.length ≤ i) :
    ∃ st, evC T9x KK b9x0 (canon9 s0 L i l bad) = some (.exit 0, st) ∧ st.rts = [.str s0, .ro 1 (.recs 4 L)] := by
  have hi2 : ¬ (i : Int) < L.length := by omega
  simp -implicitDefEqProofs [b9x0, canon9, upd, hi2]
end Go.X.Try
