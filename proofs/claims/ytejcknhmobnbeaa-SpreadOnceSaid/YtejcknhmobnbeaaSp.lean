import Derived.Test.YtejcknhmobnbeaaSo
set_option maxRecDepth 100000
set_option linter.unusedSimpArgs false
set_option linter.unusedVariables false
namespace Go.X.Try
open Go.IntWalk
/-! ### the document's state ahead -/
def canon49 (t : Nat) (st sb i : Int) (cs : List (List Sc)) : St :=
  ⟨[(0, .one (.ro t (.recs 3 cs))), (1, .one (.int .i64 st)), (2, .one (.int .u8 sb)), (9, .one (.int .i64 i))], [.ro t (.recs 3 cs), .int .i64 st, .int .u8 sb], []⟩
theorem miss49 (t : Nat) (st sb s b base p e i' : Int) (i : Nat) (cs : List (List Sc)) (hc : cs[i]? = some [.int .u8 s, .int .i64 b, .int .i64 base]) (e51 : F51 [.one (.int .i64 b)] [] = some (.one (.int .i64 p), [])) (we : IntKind.i64.wrap (base + p) = e) (h : ¬ s = sb ∨ ¬ base ≤ st ∨ ¬ st < e) (wi : IntKind.i64.wrap ((i : Int) + 1) = i') :
    ∃ st1, evC T49 KK b49x0 (canon49 t st sb i cs) = some (.norm, st1) ∧ St.head [0, 1, 2, 9] st1 = canon49 t st sb i' cs := by
  have l2 := (List.getElem?_eq_some_iff.1 hc).1
  have l2i : (i : Int) < cs.length := by omega
  have hc' : ∀ hh, cs[i]'hh = [Sc.int .u8 s, .int .i64 b, .int .i64 base] := fun hh => by rw [List.getElem?_eq_getElem hh] at hc; simpa using hc
  by_cases h1 : s = sb
  · subst h1
    by_cases h2 : base ≤ st
    · have h3 : ¬ st < e := by
        rcases h with h | h | h
        · exact absurd rfl h
        · exact absurd h2 h
        · exact h
      simp -implicitDefEqProofs [b49x0, canon49, upd, l2, l2i, hc, hc', wi, e51, we, h2, h3, takeE, RC.len, RC.size, RC.get, RC.elem]
    · simp -implicitDefEqProofs [b49x0, canon49, upd, l2, l2i, hc, hc', wi, e51, we, h2, takeE, RC.len, RC.size, RC.get, RC.elem]
  · simp -implicitDefEqProofs [b49x0, canon49, upd, l2, l2i, hc, hc', wi, e51, we, h1, takeE, RC.len, RC.size, RC.get, RC.elem]
theorem hit49 (t : Nat) (st s b base p e r : Int) (i : Nat) (cs : List (List Sc)) (hc : cs[i]? = some [.int .u8 s, .int .i64 b, .int .i64 base]) (e51 : F51 [.one (.int .i64 b)] [] = some (.one (.int .i64 p), [])) (we : IntKind.i64.wrap (base + p) = e) (h2 : base ≤ st) (h3 : st < e) (wr : IntKind.i64.wrap (st - base) = r) :
    ∃ env hp, evC T49 KK b49x0 (canon49 t st s i cs) = some (.ret, ⟨env, [.ro t (.recs 3 cs), .int .i64 st, .int .u8 s], hp⟩) ∧ getT 6 env = .one (.int .i64 i) ∧ getT 7 env = .one (.int .i64 r) ∧ getT 8 env = .one (.bool true) := by
  have l2 := (List.getElem?_eq_some_iff.1 hc).1
  have l2i : (i : Int) < cs.length := by omega
  have hc' : ∀ hh, cs[i]'hh = [Sc.int .u8 s, .int .i64 b, .int .i64 base] := fun hh => by rw [List.getElem?_eq_getElem hh] at hc; simpa using hc
  simp -implicitDefEqProofs [b49x0, canon49, upd, l2, l2i, hc, hc', e51, we, h2, h3, wr, takeE, RC.len, RC.size, RC.get, RC.elem]
theorem end49 (t : Nat) (st sb i : Int) (cs : List (List Sc)) (h : ¬ i < cs.length) :
    ∃ env, evC T49 KK b49x0 (canon49 t st sb i cs) = some (.exit 0, ⟨env, [.ro t (.recs 3 cs), .int .i64 st, .int .u8 sb], []⟩) := by
  simp -implicitDefEqProofs [b49x0, canon49, upd, h, RC.len]
/-- A cell in which a state lies. -/
def inCell (st sb : Int) : List Sc → Bool
  | [.int _ s, .int _ b, .int _ base] => decide (s = sb ∧ base ≤ st ∧ st < base + ((2 ^ b.toNat : Nat) : Int))
  | _ => false
/-- What a table's cells are. -/
def CellOk (c : List Sc) : Prop := ∃ s b base : Int, c = [.int .u8 s, .int .i64 b, .int .i64 base] ∧ 0 ≤ b ∧ b ≤ 10 ∧ 0 ≤ base ∧ base ≤ 2000
theorem pw10 {b : Int} (h0 : 0 ≤ b) (h1 : b ≤ 10) : (((2 ^ b.toNat : Nat)) : Int) ≤ 1024 ∧ 1 ≤ (((2 ^ b.toNat : Nat)) : Int) := by
  have : 2 ^ b.toNat ≤ 2 ^ 10 := Nat.pow_le_pow_right (by omega) (by omega)
  have := Nat.two_pow_pos b.toNat
  omega
theorem loop49 (t : Nat) (st sb : Int) (cs : List (List Sc)) (hcs : cs.length ≤ 1000) (hok : ∀ (i : Nat) (c : List Sc), cs[i]? = some c → CellOk c) (i0 : Nat) (hb : ∀ (i : Nat) (c : List Sc), i < i0 → cs[i]? = some c → inCell st sb c = false) : ∀ (j i K : Nat), i + j = i0 → i0 ≤ cs.length → j < K →
    ∃ K', 0 < K' ∧ K ≤ K' + j ∧ loopH (evC T49 KK b49x0) [0, 1, 2, 9] K (canon49 t st sb i cs) = loopH (evC T49 KK b49x0) [0, 1, 2, 9] K' (canon49 t st sb i0 cs)
  | 0, i, K, hj, h0, hK => by
    obtain rfl : i = i0 := by omega
    exact ⟨K, hK, by omega, rfl⟩
  | j + 1, i, K, hj, h0, hK => by
    obtain ⟨c, hc⟩ : ∃ c, cs[i]? = some c := ⟨_, List.getElem?_eq_getElem (by omega)⟩
    obtain ⟨s, b, base, rfl, b0, b1, b2, b3⟩ := hok i c hc
    have hm := hb i _ (by omega) hc
    have hp := pw10 b0 b1
    have e51 := e51 b b0 (by omega)
    simp only [inCell, decide_eq_false_iff_not] at hm
    obtain ⟨st1, e1, e2⟩ := miss49 t st sb s b base _ _ ((i + 1 : Nat) : Int) i cs hc e51 (i64_in _ (by omega)) (by
      by_cases x1 : s = sb
      · by_cases x2 : base ≤ st
        · exact .inr (.inr fun x3 => hm ⟨x1, x2, x3⟩)
        · exact .inr (.inl x2)
      · exact .inl x1) (by rw [i64_in _ (by omega)]; omega)
    obtain ⟨K', q1, q2, q3⟩ := loop49 t st sb cs hcs hok i0 hb j (i + 1) (K - 1) (by omega) h0 (by omega)
    exact ⟨K', q1, by omega, by rw [loopH_norm e1 (by omega), e2, q3]⟩
theorem f49 (t : Nat) (st s b base : Int) (cs : List (List Sc)) (hcs : cs.length ≤ 1000) (hok : ∀ (i : Nat) (c : List Sc), cs[i]? = some c → CellOk c) (i0 : Nat) (hb : ∀ (i : Nat) (c : List Sc), i < i0 → cs[i]? = some c → inCell st s c = false) (hc : cs[i0]? = some [.int .u8 s, .int .i64 b, .int .i64 base]) (hin : base ≤ st ∧ st < base + ((2 ^ b.toNat : Nat) : Int)) :
    F49 [.one (.ro t (.recs 3 cs)), .one (.int .i64 st), .one (.int .u8 s)] [] = some (.tup [.one (.int .i64 i0), .one (.int .i64 (st - base)), .one (.bool true)], []) := by
  have l2 := (List.getElem?_eq_some_iff.1 hc).1
  obtain ⟨s', b', base', e0, b0, b1, b2, b3⟩ := hok i0 _ hc
  simp only [List.cons.injEq, Sc.int.injEq, true_and, and_true] at e0
  obtain ⟨rfl, rfl, rfl⟩ := e0
  have hp := pw10 b0 b1
  have e51 := e51 b b0 (by omega)
  obtain ⟨K', q1, q2, q3⟩ := loop49 t st s cs hcs hok i0 hb i0 0 KK (by omega) (by omega) (by rw [KK_eq]; omega)
  obtain ⟨env, hp', r1, r6, r7, r8⟩ := hit49 t st s b base _ _ (st - base) i0 cs hc e51 (i64_in _ (by omega)) hin.1 hin.2 (i64_in _ (by omega))
  rw [loopH_ret r1] at q3
  have z : ((0 : Nat) : Int) = 0 := rfl
  simp only [canon49, z] at q3
  simp -implicitDefEqProofs [F49, c49, upd, q3, r6, r7, r8, RC.len]
theorem f49n (t : Nat) (st s : Int) (cs : List (List Sc)) (hcs : cs.length ≤ 1000) (hok : ∀ (i : Nat) (c : List Sc), cs[i]? = some c → CellOk c) (hb : ∀ (i : Nat) (c : List Sc), i < cs.length → cs[i]? = some c → inCell st s c = false) :
    F49 [.one (.ro t (.recs 3 cs)), .one (.int .i64 st), .one (.int .u8 s)] [] = some (.tup [.one (.int .i64 0), .one (.int .i64 0), .one (.bool false)], []) := by
  obtain ⟨K', q1, q2, q3⟩ := loop49 t st s cs hcs hok cs.length hb cs.length 0 KK (by omega) (by omega) (by rw [KK_eq]; omega)
  obtain ⟨env, r1⟩ := end49 t st s cs.length cs (by omega)
  rw [loopH_exit r1] at q3
  have z : ((0 : Nat) : Int) = 0 := rfl
  simp only [canon49, z] at q3
  simp -implicitDefEqProofs [F49, c49, upd, q3, RC.len]
/-! ### a share's cells -/
theorem cellSc_ok {l : List Int} {sh : List Nat} {L : Nat} (S : Shr l L sh) {i : Nat} (hi : i < 2 ^ L) : ∃ s n : Nat, (symOf sh)[i]? = some s ∧ sh[s]? = some n ∧ yOf sh i = n + ((symOf sh).take i).count s ∧ ((symOf sh).take i).count s < n ∧ n ≤ 2 ^ L ∧ s < 256 ∧
    cellSc L sh i = [.int .u8 s, .int .i64 (bOf L sh i : Nat), .int .i64 (baseOf L sh i : Nat)] ∧ bOf L sh i ≤ L ∧ baseOf L sh i + 2 ^ L = yOf sh i * 2 ^ bOf L sh i ∧ (yOf sh i + 1) * 2 ^ bOf L sh i ≤ 2 ^ (L + 1) := by
  have hsl : (symOf sh).length = 2 ^ L := by rw [symOf_length, S.sum]
  obtain ⟨s, hs⟩ : ∃ s, (symOf sh)[i]? = some s := ⟨_, List.getElem?_eq_getElem (by omega)⟩
  obtain ⟨n, hn, hy, hr, hnL⟩ := y_bd S.sum S.lo hs
  have hlt := sym_lt S.sum S.lo hs
  have hlen := S.len
  have hyb : yOf sh i < 2 ^ (L + 1) := by rw [Nat.pow_succ]; omega
  obtain ⟨b1, b2, b3, b4⟩ := cell_bd (L := L) (y := yOf sh i) (by omega) hyb
  have hb : bOf L sh i = L + 1 - bl (yOf sh i) := rfl
  have hbase : baseOf L sh i = yOf sh i * 2 ^ bOf L sh i - 2 ^ L := rfl
  rw [← hb] at b3 b4
  exact ⟨s, n, hs, hn, hy, hr, hnL, by omega, by simp [cellSc, List.getD, hs], by omega, by omega, b4⟩
theorem cells_ok {l : List Int} {sh : List Nat} {L : Nat} (S : Shr l L sh) (i : Nat) (c : List Sc) (h : (cellsTo L sh (2 ^ L))[i]? = some c) : CellOk c := by
  have hi : i < 2 ^ L := by have := (List.getElem?_eq_some_iff.1 h).1; rw [cellsTo_length] at this; exact this
  rw [cellsTo_get hi] at h
  simp only [Option.some.injEq] at h
  subst h
  obtain ⟨s, n, h1, h2, h3, h4, h5, h6, h7, h8, h9, h10⟩ := cellSc_ok S hi
  have hsz := S.size
  have h9' := S.hi
  have hmul : yOf sh i * 2 ^ bOf L sh i ≤ (yOf sh i + 1) * 2 ^ bOf L sh i := Nat.mul_le_mul_right _ (by omega)
  rw [Nat.pow_succ] at h10
  exact ⟨s, _, _, h7, by omega, by omega, by omega, by omega⟩
end Go.X.Try
