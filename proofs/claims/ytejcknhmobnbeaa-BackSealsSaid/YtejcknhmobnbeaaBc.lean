import Derived.Test.YtejcknhmobnbeaaBb
import Derived.Test.YtejcknhmobnbeaaAv
set_option maxRecDepth 100000
set_option linter.unusedSimpArgs false
namespace Go.X.Try
open Go.IntWalk
theorem isB_of {l : List Int} (h : ∀ z ∈ l, (Lit.int .u8 z).wf = true) : isB l := fun z hz => by
  have := h z hz
  simp [Lit.wf, IntKind.min, IntKind.max, IntKind.signed, IntKind.bits] at this
  omega
theorem holds13 {bs : List Int} (h : Holds bs 4 13) : bs = [13] := by
  obtain ⟨hB, hl, hv, _⟩ := h
  match bs, hl with
  | [b], _ =>
    have := hB b (by simp)
    simp only [leB] at hv
    have : b = 13 := by omega
    rw [this]
theorem h24 : F24 [] [] = some (.one (.bool true), []) := by
  obtain ⟨b1, e1, h1⟩ := f25 5 3 0 0 [] holds0 (by omega) (by omega) (by omega)
  obtain ⟨out, e27, ho⟩ := f27 b1 3 5 (by simpa using h1) (by omega)
  have hb := holds13 (by simpa using ho)
  subst hb
  have e28 := f28 0 [13] 13 (isB_one (by omega)) (by simp) (by omega) (by simp)
  have hbl : bl (13 : Int).toNat = 4 := bl_unique (n := 13) (k := 3) (by omega) (by omega)
  have e30 := f30 [13] 3
  rw [hbl] at e28
  have c0 : ((0 : Nat) : Int) = 0 := rfl
  have c3 : ((3 : Nat) : Int) = 3 := rfl
  have c5 : ((5 : Nat) : Int) = 5 := rfl
  have c3' : ((8 * (([13] : List Int).length - 1) + (4 - 1) : Nat) : Int) = 3 := rfl
  simp only [bufHp, c0, c3, c5, c3', Nat.zero_add, List.cons_append, List.nil_append] at e1 e27 e28 e30
  simp -implicitDefEqProofs [F24, c24, upd, e1, e27, e28, e30, RC.len, RC.size, RC.get]
abbrev rts6 (bs L : List Int) : List SV := [.ro 0 (.ints .u8 bs), .ro 1 (.ints .i64 L)]
def canon6 (bs L A : List Int) (i : Int) (k : Nat) : St :=
  ⟨[(5, .one (.view 0 0 k)), (6, .one (.bool true)), (7, .one (.ptr 1 0)), (45, .one (.ro 1 (.ints .i64 L))), (46, .one (.int .i64 L.length)), (47, .one (.int .i64 i))], rts6 bs L, [.rows (.ints .i64 A), .cells none [.row 2, .int .i64 k], .rows (.ints .u8 bs)]⟩
theorem body6a (bs L A : List Int) (i k : Nat) (n : Int) (hi : i < L.length) (hL : L.length ≤ 100) (hn : L[i]?.getD 0 = n) (hr : n < 0 ∨ 32 < n ∨ (k : Int) < n)
    (e32 : F32 [.one (.ptr 0 0), .one (.int .i64 n)] (bufHp (some 0) bs k) = some (tup2 0 false, bufHp (some 0) bs k)) :
    ∃ st1, evC T6 KK b6x0 (canon6 bs L A i k) = some (.norm, st1) ∧ St.head [5, 6, 7, 45, 46, 47] st1 = canon6 bs L A (i + 1 : Nat) k := by
  have hn' : L[i] = n := by rw [List.getElem?_eq_getElem hi] at hn; exact hn
  have hi2 : (i : Int) < L.length := by omega
  have w : IntKind.i64.wrap ((i : Int) + 1) = (i : Int) + 1 := i64_in _ (by omega)
  simp only [bufHp, tup2] at e32
  by_cases h1 : n < 0
  · simp -implicitDefEqProofs [b6x0, canon6, upd, hi, hi2, hn, hn', w, e32, h1, RC.len, RC.size, RC.get]
  · by_cases h2 : 32 < n
    · simp -implicitDefEqProofs [b6x0, canon6, upd, hi, hi2, hn, hn', w, e32, h1, h2, RC.len, RC.size, RC.get]
    · have h3 : (k : Int) < n := by omega
      simp -implicitDefEqProofs [b6x0, canon6, upd, hi, hi2, hn, hn', w, e32, h1, h2, h3, RC.len, RC.size, RC.get]
theorem body6b (bs L A : List Int) (i k n : Nat) (v : Int) (hi : i < L.length) (hL : L.length ≤ 100) (hn : L[i]?.getD 0 = n) (hr : n ≤ 32) (hle : n ≤ k) (hk : k ≤ A.length) (hA : A.length ≤ 100000)
    (e32 : F32 [.one (.ptr 0 0), .one (.int .i64 n)] (bufHp (some 0) bs k) = some (tup2 v true, bufHp (some 0) bs (k - n : Nat)))
    (e33 : ∀ t, F33 [.one (.ro t (.ints .i64 ((A.drop (k - n)).take n)))] [] = some (.one (.int .u32 v), [])) :
    ∃ st1, evC T6 KK b6x0 (canon6 bs L A i k) = some (.norm, st1) ∧ St.head [5, 6, 7, 45, 46, 47] st1 = canon6 bs L A (i + 1 : Nat) (k - n) := by
  have hn' : L[i] = n := by rw [List.getElem?_eq_getElem hi] at hn; exact hn
  have hi2 : (i : Int) < L.length := by omega
  have w : IntKind.i64.wrap ((i : Int) + 1) = (i : Int) + 1 := i64_in _ (by omega)
  have wk : IntKind.i64.wrap ((k : Int) - n) = ((k - n : Nat) : Int) := by rw [i64_in _ (by omega)]; omega
  have h1 : ¬ (n : Int) < 0 := by omega
  have h2 : ¬ (32 : Int) < n := by omega
  have h2' : ¬ 32 < n := by omega
  have h3 : ¬ (k : Int) < n := by omega
  have h3' : ¬ k < n := by omega
  have hkn : ((k - n : Nat) : Int) ≤ k := by omega
  have hkn' : k - n ≤ k := by omega
  have hsub : k - (k - n) = n := by omega
  have hdl : n ≤ A.length - (k - n) := by omega
  simp only [bufHp, tup2] at e32
  generalize hq : k - n = q at *
  simp -implicitDefEqProofs [b6x0, canon6, upd, hi, hi2, hn, hn', hr, w, wk, e32, e33, h1, h2, h2', h3, h3', hle, hk, hkn, hkn', hsub, hdl, RC.len, RC.size, RC.get, RC.cut]
theorem end6 (bs L A : List Int) (i k : Nat) (hi : L.length ≤ i) :
    ∃ env, evC T6 KK b6x0 (canon6 bs L A i k) = some (.exit 0, ⟨env, rts6 bs L, [.rows (.ints .i64 A), .cells none [.row 2, .int .i64 k], .rows (.ints .u8 bs)]⟩) ∧ getT 5 env = .one (.view 0 0 k) ∧ getT 7 env = .one (.ptr 1 0) := by
  have hi2 : ¬ (i : Int) < L.length := by omega
  simp -implicitDefEqProofs [b6x0, canon6, upd, hi2]
theorem loop6 (bs L A : List Int) (hB : isB bs) (hb : bs.length ≤ 60) (hL : L.length ≤ 100) (hN : isN A) (hA : A.length = 8 * bs.length) (hv : leN A = leB bs) : ∀ (j i k : Nat) (K : Nat), i + j = L.length → k ≤ A.length → j < K →
    ∃ env k', loopH (evC T6 KK b6x0) [5, 6, 7, 45, 46, 47] K (canon6 bs L A i k) = some (.exit 0, ⟨env, rts6 bs L, [.rows (.ints .i64 A), .cells none [.row 2, .int .i64 (k' : Nat)], .rows (.ints .u8 bs)]⟩) ∧ getT 5 env = .one (.view 0 0 k') ∧ getT 7 env = .one (.ptr 1 0)
  | 0, i, k, K, hi, hk, hK => by
    obtain ⟨env, e, g5, g7⟩ := end6 bs L A i k (by omega)
    exact ⟨env, k, loopH_exit e, g5, g7⟩
  | j + 1, i, k, K, hi, hk, hK => by
    have hlt : i < L.length := by omega
    have hg : L[i]?.getD 0 = L[i] := by rw [List.getElem?_eq_getElem hlt]; rfl
    obtain ⟨n, hn⟩ : ∃ n, L[i] = n := ⟨_, rfl⟩
    rw [hn] at hg
    by_cases h1 : n < 0 ∨ 32 < n ∨ (k : Int) < n
    · obtain ⟨st1, e1, e2⟩ := body6a bs L A i k n hlt hL hg h1 (f32a bs k n h1)
      obtain ⟨env, k', e, rest⟩ := loop6 bs L A hB hb hL hN hA hv j (i + 1) k (K - 1) (by omega) hk (by omega)
      exact ⟨env, k', by rw [loopH_norm e1 (by omega), e2]; exact e, rest⟩
    · obtain ⟨m, rfl⟩ : ∃ m : Nat, n = m := ⟨n.toNat, by omega⟩
      have e32 := f32 bs k m hB (by omega) (by omega) (by omega) (by omega)
      have e33 : ∀ t, F33 [.one (.ro t (.ints .i64 ((A.drop (k - m)).take m)))] [] = some (.one (.int .u32 (leB bs / 2 ^ (k - m) % 2 ^ m : Nat)), []) := fun t => by
        have hNd : isN (A.drop (k - m)) := fun x hx => hN x (List.mem_of_mem_drop hx)
        have := f33 t ((A.drop (k - m)).take m) (fun x hx => hNd x (List.mem_of_mem_take hx)) (by rw [List.length_take]; omega)
        rw [leN_take m hNd, leN_drop _ hN, hv] at this
        exact this
      obtain ⟨st1, e1, e2⟩ := body6b bs L A i k m _ hlt hL hg (by omega) (by omega) hk (by omega) e32 e33
      obtain ⟨env, k', e, rest⟩ := loop6 bs L A hB hb hL hN hA hv j (i + 1) (k - m) (K - 1) (by omega) (by omega) (by omega)
      exact ⟨env, k', by rw [loopH_norm e1 (by omega), e2]; exact e, rest⟩
def canon6z (bs L : List Int) (i : Int) : St :=
  ⟨[(5, .one (.row 0)), (6, .one (.bool false)), (7, .one .nilp), (45, .one (.ro 1 (.ints .i64 L))), (46, .one (.int .i64 L.length)), (47, .one (.int .i64 i))], rts6 bs L, [.rows (.ints .i64 [])]⟩
theorem body6z (bs L : List Int) (i : Nat) (n : Int) (hi : i < L.length) (hL : L.length ≤ 100) (hn : L[i]?.getD 0 = n) :
    ∃ st1, evC T6 KK b6x0 (canon6z bs L i) = some (.norm, st1) ∧ St.head [5, 6, 7, 45, 46, 47] st1 = canon6z bs L (i + 1 : Nat) := by
  have hn' : L[i] = n := by rw [List.getElem?_eq_getElem hi] at hn; exact hn
  have hi2 : (i : Int) < L.length := by omega
  have w : IntKind.i64.wrap ((i : Int) + 1) = (i : Int) + 1 := i64_in _ (by omega)
  have e32 := f32n n
  simp only [tup2] at e32
  simp -implicitDefEqProofs [b6x0, canon6z, upd, hi, hi2, hn, hn', w, e32, RC.len, RC.size, RC.get]
theorem end6z (bs L : List Int) (i : Nat) (hi : L.length ≤ i) :
    ∃ env, evC T6 KK b6x0 (canon6z bs L i) = some (.exit 0, ⟨env, rts6 bs L, [.rows (.ints .i64 [])]⟩) ∧ getT 5 env = .one (.row 0) ∧ getT 7 env = .one .nilp := by
  have hi2 : ¬ (i : Int) < L.length := by omega
  simp -implicitDefEqProofs [b6x0, canon6z, upd, hi2]
theorem loop6z (bs L : List Int) (hL : L.length ≤ 100) : ∀ (j i : Nat) (K : Nat), i + j = L.length → j < K →
    ∃ env, loopH (evC T6 KK b6x0) [5, 6, 7, 45, 46, 47] K (canon6z bs L i) = some (.exit 0, ⟨env, rts6 bs L, [.rows (.ints .i64 [])]⟩) ∧ getT 5 env = .one (.row 0) ∧ getT 7 env = .one .nilp
  | 0, i, K, hi, hK => by
    obtain ⟨env, e, g⟩ := end6z bs L i (by omega)
    exact ⟨env, loopH_exit e, g⟩
  | j + 1, i, K, hi, hK => by
    have hlt : i < L.length := by omega
    have hg : L[i]?.getD 0 = L[i] := by rw [List.getElem?_eq_getElem hlt]; rfl
    obtain ⟨st1, e1, e2⟩ := body6z bs L i L[i] hlt hL hg
    obtain ⟨env, e, g⟩ := loop6z bs L hL j (i + 1) (K - 1) (by omega) (by omega)
    exact ⟨env, by rw [loopH_norm e1 (by omega), e2]; exact e, g⟩
theorem law6 (bs L : List Int) (_ : bs.length ≤ maxLen) (hw : ∀ z ∈ bs, (Lit.int .u8 z).wf = true) (_ : L.length ≤ maxLen) (_ : ∀ z ∈ L, (Lit.int .i64 z).wf = true) : F6 [.one (.ro 0 (.ints .u8 bs)), .one (.ro 1 (.ints .i64 L))] [] = some (.one (.bool true), []) := by
  have hB := isB_of hw
  by_cases hb : bs.length ≤ 60
  · have hb1 : ¬ ((60 : Int) < bs.length) := by omega
    have hb2 : ¬ (60 < bs.length) := by omega
    by_cases hL : L.length ≤ 100
    · have hL1 : ¬ ((100 : Int) < L.length) := by omega
      have hL2 : ¬ (100 < L.length) := by omega
      have z : ((0 : Nat) : Int) = 0 := rfl
      by_cases hz : bs = [] ∨ bs.getLast? = some 0
      · have e34 := f34z 0 bs hz (by omega)
        have e28 := f28z 0 bs hz (by omega)
        obtain ⟨env, e, g5, g7⟩ := loop6z bs L hL L.length 0 KK (by omega) (by rw [KK_eq]; omega)
        have e30 := f30n
        simp only [canon6z, rts6, z] at e
        simp -implicitDefEqProofs [F6, c6, upd, h24, hb1, hb2, hL1, hL2, hb, hL, RC.len, e34, e28, e, g5, g7, e30]
      · have h0 : bs ≠ [] := fun c => hz (.inl c)
        obtain ⟨b, hlast⟩ : ∃ b, bs.getLast? = some b := ⟨_, List.getLast?_eq_some_getLast h0⟩
        have hb0 : b ≠ 0 := fun c => hz (.inr (by rw [hlast, c]))
        obtain ⟨A, e34, hN, hv, hbk, hA⟩ := f34 0 bs b hB hlast hb0 (by omega)
        have e28 := f28 0 bs b hB hlast hb0 (by omega)
        have hbl := bl_leB hB hlast hb0
        have hblb : 0 < bl b.toNat := by
          have hm := List.mem_of_getLast? hlast
          have := hB b hm
          exact (bl_pos (n := b.toNat) (by omega)).2.2
        have hq : 8 * (bs.length - 1) + (bl b.toNat - 1) = bl (leB bs) - 1 := by omega
        rw [hq] at e28
        obtain ⟨env, k', e, g5, g7⟩ := loop6 bs L A hB hb hL hN hA hv L.length 0 (bl (leB bs) - 1) KK (by omega) (by omega) (by rw [KK_eq]; omega)
        have e30 := f30 bs (k' : Nat)
        simp only [canon6, rts6, z] at e
        simp only [bufHp] at e28 e30
        generalize bl (leB bs) - 1 = q at *
        simp -implicitDefEqProofs [F6, c6, upd, h24, hb1, hb2, hL1, hL2, hb, hL, RC.len, e34, e28, e, g5, g7, e30]
    · have hL1 : (100 : Int) < L.length := by omega
      have hL2 : 100 < L.length := by omega
      simp -implicitDefEqProofs [F6, c6, upd, h24, hb1, hb2, hL1, hL2, hb, RC.len]
  · have hb1 : (60 : Int) < bs.length := by omega
    have hb2 : 60 < bs.length := by omega
    simp -implicitDefEqProofs [F6, c6, upd, h24, hb1, hb2, RC.len]
end Go.X.Try
