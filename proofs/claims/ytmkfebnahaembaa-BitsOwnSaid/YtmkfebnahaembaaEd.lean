import Derived.Test.YtmkfebnahaembaaEc
import Derived.Test.YtmkfebnahaembaaB3
set_option maxRecDepth 100000
set_option linter.unusedSimpArgs false
namespace Go.X.Try
open Go.IntWalk
@[simp ↓ high] theorem lenOf_slv_none' (hp : List Ob) (k : Nat) : lenOf hp (slv k none) = lenAt hp[k]? := rfl
@[simp ↓ high] theorem lenOf_slv_some' (hp : List Ob) (k o n : Nat) : lenOf hp (slv k (some (o, n))) = some n := rfl
theorem holds0 : Holds [] 0 0 := ⟨by simp [isB], rfl, rfl, by omega⟩
theorem holds13 {bs : List Int} (h : Holds bs 4 13) : bs = [13] := by
  obtain ⟨hB, hl, hv, _⟩ := h
  match bs, hl with
  | [b], _ =>
    have := hB b (by simp)
    simp only [leB] at hv
    have : b = 13 := by omega
    rw [this]
theorem h25 : F25 [] [] = some (.one (.bool true), []) := by
  obtain ⟨b1, e1, h1⟩ := f33 5 3 0 0 [] holds0 (by omega) (by omega) (by omega)
  obtain ⟨b2, e2, h2⟩ := f33 1 1 3 5 b1 (by simpa using h1) (by omega) (by omega) (by omega)
  have hb := holds13 (by simpa using h2)
  subst hb
  have e34 := f34 [13] ((3 + 1 : Nat) : Int) (by simp)
  have e31 : F31 [.one (.int .u32 13)] [] = some (.one (.int .i64 4), []) := e31 13 (by omega) (by omega)
  have c0 : ((0 : Nat) : Int) = 0 := rfl
  have c1 : ((1 : Nat) : Int) = 1 := rfl
  have c3 : ((3 : Nat) : Int) = 3 := rfl
  have c5 : ((5 : Nat) : Int) = 5 := rfl
  have c4 : ((3 + 1 : Nat) : Int) = 4 := rfl
  simp only [bufHp, c0, c1, c3, c5, c4, Nat.zero_add, List.cons_append, List.nil_append] at e1 e2 e34
  simp -implicitDefEqProofs [F25, c25, upd, e1, e2, e34, e31, RC.len, RC.size, RC.get]
abbrev rts5 (bs L : List Int) : List SV := [.ro 0 (.ints .u8 bs), .ro 1 (.ints .i64 L)]
def canon5 (bs L : List Int) (i : Int) (sa : Option (Nat × Nat)) (A : List Int) (at_ : Int) : St :=
  ⟨[(5, .one (.ptr 0 0)), (6, .one (slv 2 sa)), (25, .one (.ro 1 (.ints .i64 L))), (26, .one (.int .i64 L.length)), (27, .one (.int .i64 i))], rts5 bs L, [.cells none [.row 1, .int .i64 at_], .rows (.ints .u8 bs), .rows (.ints .i64 A)]⟩
theorem body5a (bs L : List Int) (i : Nat) (sa : Option (Nat × Nat)) (A : List Int) (at_ n : Int) (hi : i < L.length) (hL : L.length ≤ 100) (hn : L[i]?.getD 0 = n) (hr : n < 0 ∨ 32 < n ∨ (vwn A sa : Int) < n)
    (e28 : F28 [.one (.ptr 0 0), .one (.int .i64 n)] (bufHp (some 0) bs at_) = some (tup2 0 false, bufHp (some 0) bs at_)) :
    ∃ st1, evC T5 KK b5x0 (canon5 bs L i sa A at_) = some (.norm, st1) ∧ St.head [5, 6, 25, 26, 27] st1 = canon5 bs L (i + 1 : Nat) sa A at_ := by
  have hn' : L[i] = n := by rw [List.getElem?_eq_getElem hi] at hn; exact hn
  have hi2 : (i : Int) < L.length := by omega
  have w : IntKind.i64.wrap ((i : Int) + 1) = (i : Int) + 1 := i64_in _ (by omega)
  simp only [bufHp, tup2] at e28
  by_cases h1 : n < 0
  · rcases sa with _ | ⟨o, m⟩ <;> simp -implicitDefEqProofs [b5x0, canon5, upd, hi, hi2, hn, hn', w, e28, h1, RC.len, RC.size, RC.get]
  · by_cases h2 : 32 < n
    · rcases sa with _ | ⟨o, m⟩ <;> simp -implicitDefEqProofs [b5x0, canon5, upd, hi, hi2, hn, hn', w, e28, h1, h2, RC.len, RC.size, RC.get]
    · have h3 : (vwn A sa : Int) < n := by omega
      rcases sa with _ | ⟨o, m⟩ <;> simp only [vwn] at h3 <;> simp -implicitDefEqProofs [b5x0, canon5, upd, hi, hi2, hn, hn', w, e28, h1, h2, h3, RC.len, RC.size, RC.get]
theorem body5b (bs L : List Int) (i : Nat) (sa : Option (Nat × Nat)) (A : List Int) (at_ at' v q : Int) (n : Nat) (hi : i < L.length) (hL : L.length ≤ 100) (hn : L[i]?.getD 0 = n) (hr : n ≤ 32) (hle : n ≤ vwn A sa) (hok : vok A sa) (hA : A.length ≤ 100000)
    (e28 : F28 [.one (.ptr 0 0), .one (.int .i64 n)] (bufHp (some 0) bs at_) = some (tup2 v true, bufHp (some 0) bs at'))
    (e29 : ∀ t, F29 [.one (.ro t (.ints .i64 ((vw A sa).take n)))] [] = some (.one (.int .u32 v), []))
    (e30 : F30 [.one (.ptr 0 0)] (bufHp (some 0) bs at') = some (.one (.int .i64 q), bufHp (some 0) bs at')) (hq : q = ((vwn A sa - n : Nat) : Int)) :
    ∃ sa', (∃ st1, evC T5 KK b5x0 (canon5 bs L i sa A at_) = some (.norm, st1) ∧ St.head [5, 6, 25, 26, 27] st1 = canon5 bs L (i + 1 : Nat) sa' A at') ∧ vw A sa' = (vw A sa).drop n ∧ vok A sa' := by
  have hn' : L[i] = n := by rw [List.getElem?_eq_getElem hi] at hn; exact hn
  have hi2 : (i : Int) < L.length := by omega
  have w : IntKind.i64.wrap ((i : Int) + 1) = (i : Int) + 1 := i64_in _ (by omega)
  have h1 : ¬ (n : Int) < 0 := by omega
  have h2 : ¬ (32 : Int) < n := by omega
  have h2' : ¬ 32 < n := by omega
  simp only [bufHp, tup2] at e28 e30
  subst hq
  rcases sa with _ | ⟨o, m⟩
  · simp only [vwn, vw] at hle e29 e30
    have h3 : ¬ (A.length : Int) < n := by omega
    have h3' : ¬ A.length < n := by omega
    refine ⟨some (n, A.length - n), ?_, ?_, ?_⟩
    · simp -implicitDefEqProofs [b5x0, canon5, upd, hi, hi2, hn, hn', hr, w, e28, e29, e30, h1, h2, h2', h3, h3', hle, RC.len, RC.size, RC.get, RC.cut, slv]
    · simp [vw, List.take_of_length_le]
    · simp only [vok]; omega
  · simp only [vwn, vw, vok] at hle e29 e30 hok
    have h3 : ¬ (m : Int) < n := by omega
    have h3' : ¬ m < n := by omega
    have hmin : min n m = n := by omega
    rw [List.take_take, hmin] at e29
    refine ⟨some (o + n, m - n), ?_, ?_, ?_⟩
    · simp -implicitDefEqProofs [b5x0, canon5, upd, hi, hi2, hn, hn', hr, w, e28, e29, e30, h1, h2, h2', h3, h3', hle, RC.len, RC.size, RC.get, RC.cut, slv]
    · simp [vw, List.drop_take, List.drop_drop]
    · simp only [vok]; omega
theorem end5 (bs L : List Int) (i : Nat) (sa : Option (Nat × Nat)) (A : List Int) (at_ : Int) (hi : L.length ≤ i) :
    ∃ env, evC T5 KK b5x0 (canon5 bs L i sa A at_) = some (.exit 0, ⟨env, rts5 bs L, [.cells none [.row 1, .int .i64 at_], .rows (.ints .u8 bs), .rows (.ints .i64 A)]⟩) ∧ getT 5 env = .one (.ptr 0 0) ∧ getT 6 env = .one (slv 2 sa) := by
  have hi2 : ¬ (i : Int) < L.length := by omega
  simp -implicitDefEqProofs [b5x0, canon5, upd, hi2]
end Go.X.Try
