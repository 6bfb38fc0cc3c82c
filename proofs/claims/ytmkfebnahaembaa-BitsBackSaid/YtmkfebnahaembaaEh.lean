import Derived.Test.YtmkfebnahaembaaEg
set_option maxRecDepth 100000
set_option linter.unusedSimpArgs false
namespace Go.X.Try
open Go.IntWalk
/-- Of pieces one behind the other: how many bits, and their number. -/
def pBits : List (List Sc) → Nat
  | [] => 0
  | [.int _ _, .int _ n] :: L => (if 0 ≤ n ∧ n ≤ 32 then n.toNat else 0) + pBits L
  | _ :: L => pBits L
def pVal : List (List Sc) → Nat
  | [] => 0
  | [.int _ v, .int _ n] :: L => if 0 ≤ n ∧ n ≤ 32 then v.toNat % 2 ^ n.toNat + 2 ^ n.toNat * pVal L else pVal L
  | _ :: L => pVal L
theorem piece_of {z : List Sc} (h : okFields [.int .u32, .int .i64] z) : ∃ v n, z = [.int .u32 v, .int .i64 n] ∧ 0 ≤ v ∧ v < 4294967296 := by
  match z, h with
  | [a, b], ⟨ha, hb, _⟩ =>
    cases a <;> simp only [FK.ok] at ha
    cases b <;> simp only [FK.ok] at hb
    obtain ⟨rfl, hw⟩ := ha
    obtain ⟨rfl, _⟩ := hb
    refine ⟨_, _, rfl, ?_⟩
    simp [Lit.wf, IntKind.min, IntKind.max, IntKind.signed, IntKind.bits] at hw
    omega
section
variable {L : List (List Sc)} (hw : ∀ z ∈ L, okFields [.int .u32, .int .i64] z)
include hw
theorem pBits_append (M : List (List Sc)) : pBits (L ++ M) = pBits L + pBits M := by
  induction L with
  | nil => simp [pBits]
  | cons z L ih =>
    obtain ⟨v, n, rfl, _⟩ := piece_of (hw z (by simp))
    simp only [List.cons_append, pBits, ih (fun x hx => hw x (List.mem_cons_of_mem _ hx))]
    omega
theorem pVal_append (M : List (List Sc)) : pVal (L ++ M) = pVal L + 2 ^ pBits L * pVal M := by
  induction L with
  | nil => simp [pVal, pBits]
  | cons z L ih =>
    obtain ⟨v, n, rfl, _⟩ := piece_of (hw z (by simp))
    simp only [List.cons_append, pVal, pBits, ih (fun x hx => hw x (List.mem_cons_of_mem _ hx))]
    split
    · rw [Nat.pow_add, Nat.mul_add, Nat.mul_assoc, Nat.add_assoc]
    · rw [Nat.zero_add]
theorem pVal_lt : pVal L < 2 ^ pBits L := by
  induction L with
  | nil => simp [pVal, pBits]
  | cons z L ih =>
    obtain ⟨v, n, rfl, _⟩ := piece_of (hw z (by simp))
    have h := ih (fun x hx => hw x (List.mem_cons_of_mem _ hx))
    simp only [pVal, pBits]
    split
    · rw [Nat.pow_add]
      have h1 : v.toNat % 2 ^ n.toNat < 2 ^ n.toNat := Nat.mod_lt _ (Nat.two_pow_pos _)
      have h2 : 2 ^ n.toNat * (pVal L + 1) ≤ 2 ^ n.toNat * 2 ^ pBits L := Nat.mul_le_mul_left _ h
      rw [Nat.mul_add, Nat.mul_one] at h2
      omega
    · rw [Nat.zero_add]; exact h
theorem pBits_le : pBits L ≤ 32 * L.length := by
  induction L with
  | nil => simp [pBits]
  | cons z L ih =>
    obtain ⟨v, n, rfl, _⟩ := piece_of (hw z (by simp))
    have h := ih (fun x hx => hw x (List.mem_cons_of_mem _ hx))
    simp only [pBits, List.length_cons]
    split <;> omega
end
def canon7a (L : List (List Sc)) (i : Int) (ws : List Int) (c : Int) (all : List Int) : St :=
  ⟨[(0, .one (.ro 0 (.recs 2 L))), (3, .one (.ptr 0 0)), (4, .one (.row 2)), (18, .one (.ro 0 (.recs 2 L))), (19, .one (.int .i64 L.length)), (20, .one (.int .i64 i))], [.ro 0 (.recs 2 L)], [.cells none [.row 1, .int .i64 c], .rows (.ints .u8 ws), .rows (.ints .i64 all)]⟩
theorem body7a (L : List (List Sc)) (i : Nat) (v n c : Int) (ws all : List Int) (hi : i < L.length) (hL : L.length ≤ 100) (hd : L[i]?.getD [] = [.int .u32 v, .int .i64 n]) (hn : n < 0 ∨ 32 < n)
    (e33 : F33 [.one (.ptr 0 0), .one (.int .u32 v), .one (.int .i64 n)] (bufHp (some 0) ws c) = some (.one (.bool false), bufHp (some 0) ws c)) :
    ∃ st1, evC T7 KK b7x0 (canon7a L i ws c all) = some (.norm, st1) ∧ St.head [0, 3, 4, 18, 19, 20] st1 = canon7a L (i + 1 : Nat) ws c all := by
  have hd' : L[i] = [.int .u32 v, .int .i64 n] := by rw [List.getElem?_eq_getElem hi] at hd; exact hd
  have hi2 : (i : Int) < L.length := by omega
  have w : IntKind.i64.wrap ((i : Int) + 1) = (i : Int) + 1 := i64_in _ (by omega)
  simp only [bufHp] at e33
  by_cases h1 : 0 ≤ n
  · have h2 : ¬ n ≤ 32 := by omega
    simp -implicitDefEqProofs [b7x0, canon7a, upd, hi, hi2, hd, hd', w, e33, h1, h2, RC.len, RC.size, RC.elem, takeE]
  · simp -implicitDefEqProofs [b7x0, canon7a, upd, hi, hi2, hd, hd', w, e33, h1, RC.len, RC.size, RC.elem, takeE]
theorem body7b (L : List (List Sc)) (i : Nat) (v n c c' : Int) (ws ws' all add : List Int) (hi : i < L.length) (hL : L.length ≤ 100) (hd : L[i]?.getD [] = [.int .u32 v, .int .i64 n]) (hn : 0 ≤ n ∧ n ≤ 32)
    (e33 : F33 [.one (.ptr 0 0), .one (.int .u32 v), .one (.int .i64 n)] (bufHp (some 0) ws c) = some (.one (.bool true), bufHp (some 0) ws' c'))
    (e35 : F35 [.one (.int .u32 v), .one (.int .i64 n)] [] = some (.one (.row 0), [.rows (.ints .i64 add)])) (hm : (all.length + add.length) * 8 ≤ 140737488355328) :
    ∃ st1, evC T7 KK b7x0 (canon7a L i ws c all) = some (.norm, st1) ∧ St.head [0, 3, 4, 18, 19, 20] st1 = canon7a L (i + 1 : Nat) ws' c' (all ++ add) := by
  have hd' : L[i] = [.int .u32 v, .int .i64 n] := by rw [List.getElem?_eq_getElem hi] at hd; exact hd
  have hi2 : (i : Int) < L.length := by omega
  have w : IntKind.i64.wrap ((i : Int) + 1) = (i : Int) + 1 := i64_in _ (by omega)
  obtain ⟨h1, h2⟩ := hn
  simp only [bufHp] at e33
  simp -implicitDefEqProofs [b7x0, canon7a, upd, hi, hi2, hd, hd', w, e33, e35, h1, h2, hm, RC.len, RC.size, RC.elem, RC.app, takeE]
theorem end7a (L : List (List Sc)) (i : Nat) (ws : List Int) (c : Int) (all : List Int) (hi : L.length ≤ i) :
    ∃ env, evC T7 KK b7x0 (canon7a L i ws c all) = some (.exit 0, ⟨env, [.ro 0 (.recs 2 L)], [.cells none [.row 1, .int .i64 c], .rows (.ints .u8 ws), .rows (.ints .i64 all)]⟩) ∧ getT 0 env = .one (.ro 0 (.recs 2 L)) ∧ getT 3 env = .one (.ptr 0 0) ∧ getT 4 env = .one (.row 2) := by
  have hi2 : ¬ (i : Int) < L.length := by omega
  simp -implicitDefEqProofs [b7x0, canon7a, upd, hi2]
def canon7c (L : List (List Sc)) (i : Int) (ws : List Int) (at_ : Int) (all : List Int) : St :=
  ⟨[(4, .one (.row 0)), (8, .one (.ptr 1 0)), (62, .one (.ro 0 (.recs 2 L))), (63, .one (.int .i64 L.length)), (64, .one (.int .i64 i))], [.ro 0 (.recs 2 L)], [.rows (.ints .i64 all), .cells none [.row 2, .int .i64 at_], .rows (.ints .u8 ws)]⟩
theorem body7c (L : List (List Sc)) (i : Nat) (v n at_ : Int) (ws all : List Int) (hi : i < L.length) (hL : L.length ≤ 100) (hd : L[i]?.getD [] = [.int .u32 v, .int .i64 n]) (hn : n < 0 ∨ 32 < n) :
    ∃ st1, evC T7 KK b7x1 (canon7c L i ws at_ all) = some (.norm, st1) ∧ St.head [4, 8, 62, 63, 64] st1 = canon7c L (i + 1 : Nat) ws at_ all := by
  have hd' : L[i] = [.int .u32 v, .int .i64 n] := by rw [List.getElem?_eq_getElem hi] at hd; exact hd
  have hi2 : (i : Int) < L.length := by omega
  have w : IntKind.i64.wrap ((i : Int) + 1) = (i : Int) + 1 := i64_in _ (by omega)
  by_cases h1 : n < 0
  · simp -implicitDefEqProofs [b7x1, canon7c, upd, hi, hi2, hd, hd', w, h1, RC.len, RC.size, RC.elem, takeE]
  · have h2 : 32 < n := by omega
    simp -implicitDefEqProofs [b7x1, canon7c, upd, hi, hi2, hd, hd', w, h1, h2, RC.len, RC.size, RC.elem, takeE]
theorem body7d (L : List (List Sc)) (i : Nat) (v n at_ at' x : Int) (ws all add : List Int) (hi : i < L.length) (hL : L.length ≤ 100) (hd : L[i]?.getD [] = [.int .u32 v, .int .i64 n]) (hn : 0 ≤ n ∧ n ≤ 32)
    (e28 : F28 [.one (.ptr 0 0), .one (.int .i64 n)] (bufHp (some 0) ws at_) = some (tup2 x true, bufHp (some 0) ws at'))
    (e35 : F35 [.one (.int .u32 v), .one (.int .i64 n)] [] = some (.one (.row 0), [.rows (.ints .i64 add)])) (e29 : ∀ t, F29 [.one (.ro t (.ints .i64 add))] [] = some (.one (.int .u32 x), [])) :
    ∃ st1, evC T7 KK b7x1 (canon7c L i ws at_ all) = some (.norm, st1) ∧ St.head [4, 8, 62, 63, 64] st1 = canon7c L (i + 1 : Nat) ws at' all := by
  have hd' : L[i] = [.int .u32 v, .int .i64 n] := by rw [List.getElem?_eq_getElem hi] at hd; exact hd
  have hi2 : (i : Int) < L.length := by omega
  have w : IntKind.i64.wrap ((i : Int) + 1) = (i : Int) + 1 := i64_in _ (by omega)
  have h1 : ¬ n < 0 := by omega
  have h2 : ¬ 32 < n := by omega
  simp only [bufHp, tup2] at e28
  simp -implicitDefEqProofs [b7x1, canon7c, upd, hi, hi2, hd, hd', w, e28, e35, e29, h1, h2, RC.len, RC.size, RC.elem, takeE]
theorem end7c (L : List (List Sc)) (i : Nat) (ws : List Int) (at_ : Int) (all : List Int) (hi : L.length ≤ i) :
    ∃ env, evC T7 KK b7x1 (canon7c L i ws at_ all) = some (.exit 2, ⟨env, [.ro 0 (.recs 2 L)], [.rows (.ints .i64 all), .cells none [.row 2, .int .i64 at_], .rows (.ints .u8 ws)]⟩) ∧ getT 4 env = .one (.row 0) ∧ getT 8 env = .one (.ptr 1 0) := by
  have hi2 : ¬ (i : Int) < L.length := by omega
  simp -implicitDefEqProofs [b7x1, canon7c, upd, hi2]
end Go.X.Try
