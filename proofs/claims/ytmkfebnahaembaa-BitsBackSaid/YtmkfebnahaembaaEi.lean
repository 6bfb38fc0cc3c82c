import Derived.Test.YtmkfebnahaembaaEh
set_option maxRecDepth 100000
set_option linter.unusedSimpArgs false
namespace Go.X.Try
open Go.IntWalk
theorem take_snoc {α : Type} {L : List α} {i : Nat} (h : i < L.length) : L.take (i + 1) = L.take i ++ [L[i]] := (List.take_append_getElem h).symm
theorem loop7a (L : List (List Sc)) (hL : L.length ≤ 100) (hw : ∀ z ∈ L, okFields [.int .u32, .int .i64] z) : ∀ (j i : Nat) (ws all : List Int) (K : Nat), i + j = L.length → Holds ws (pBits (L.take i)) (pVal (L.take i)) → isN all → all.length = pBits (L.take i) → leN all = pVal (L.take i) → j < K →
    ∃ env ws' all', loopH (evC T7 KK b7x0) [0, 3, 4, 18, 19, 20] K (canon7a L i ws (pBits (L.take i) : Nat) all) = some (.exit 0, ⟨env, [.ro 0 (.recs 2 L)], [.cells none [.row 1, .int .i64 (pBits L : Nat)], .rows (.ints .u8 ws'), .rows (.ints .i64 all')]⟩) ∧ getT 0 env = .one (.ro 0 (.recs 2 L)) ∧ getT 3 env = .one (.ptr 0 0) ∧ getT 4 env = .one (.row 2) ∧
      Holds ws' (pBits L) (pVal L) ∧ isN all' ∧ all'.length = pBits L ∧ leN all' = pVal L
  | 0, i, ws, all, K, hi, h, hN, hlen, hv, hK => by
    obtain rfl : i = L.length := by omega
    obtain ⟨env, e, g⟩ := end7a L L.length ws (pBits (L.take L.length) : Nat) all (Nat.le_refl _)
    rw [List.take_length] at *
    exact ⟨env, ws, all, loopH_exit e, g.1, g.2.1, g.2.2, h, hN, hlen, hv⟩
  | j + 1, i, ws, all, K, hi, h, hN, hlen, hv, hK => by
    have hlt : i < L.length := by omega
    have hg : L[i]?.getD [] = L[i] := by rw [List.getElem?_eq_getElem hlt]; rfl
    have hwt : ∀ z ∈ L.take i, okFields [.int .u32, .int .i64] z := fun z hz => hw z (List.mem_of_mem_take hz)
    have hpb := pBits_le hwt
    rw [List.length_take] at hpb
    obtain ⟨v, n, hz, hv0, hv1⟩ := piece_of (hw L[i] (List.getElem_mem hlt))
    rw [hz] at hg
    have hB1 : pBits (L.take (i + 1)) = pBits (L.take i) + pBits [L[i]] := by rw [take_snoc hlt, pBits_append hwt]
    have hV1 : pVal (L.take (i + 1)) = pVal (L.take i) + 2 ^ pBits (L.take i) * pVal [L[i]] := by rw [take_snoc hlt, pVal_append hwt]
    rw [hz] at hB1 hV1
    by_cases hn : 0 ≤ n ∧ n ≤ 32
    · obtain ⟨m, rfl⟩ : ∃ m : Nat, n = m := ⟨n.toNat, by omega⟩
      obtain ⟨u, rfl⟩ : ∃ u : Nat, v = u := ⟨v.toNat, by omega⟩
      simp only [pBits, pVal, if_pos hn, Int.toNat_natCast, Nat.add_zero, Nat.mul_zero] at hB1 hV1
      obtain ⟨ws', e33, h'⟩ := f33 u m _ _ ws h (by omega) (by omega) (by omega)
      have e35 := f35 u m (by omega) (by omega)
      obtain ⟨st1, e1, e2⟩ := body7b L i u m _ _ ws ws' all (ofN u m) hlt hL hg hn e33 e35 (by rw [ofN_length]; omega)
      rw [Nat.mul_comm, ← hB1] at h'
      rw [← hB1] at e2
      rw [← hV1] at h'
      obtain ⟨env, ws2, all2, e, rest⟩ := loop7a L hL hw j (i + 1) ws' (all ++ ofN u m) (K - 1) (by omega) h' (fun x hx => by
          rcases List.mem_append.1 hx with hx | hx
          · exact hN x hx
          · exact ofN_isN m u x hx) (by rw [List.length_append, ofN_length, hlen, hB1]) (by rw [leN_append, hv, hlen, leN_ofN, hV1]) (by omega)
      exact ⟨env, ws2, all2, by rw [loopH_norm e1 (by omega), e2]; exact e, rest⟩
    · simp only [pBits, pVal, if_neg hn, Nat.add_zero, Nat.mul_zero] at hB1 hV1
      have e33 := f33a v n (pBits (L.take i) : Nat) ws (by omega)
      obtain ⟨st1, e1, e2⟩ := body7a L i v n _ ws all hlt hL hg (by omega) e33
      rw [← hB1] at e2
      rw [← hB1, ← hV1] at h
      obtain ⟨env, ws2, all2, e, rest⟩ := loop7a L hL hw j (i + 1) ws all (K - 1) (by omega) h hN (by rw [hlen, hB1]) (by rw [hv, hV1]) (by omega)
      exact ⟨env, ws2, all2, by rw [loopH_norm e1 (by omega), e2]; exact e, rest⟩
theorem loop7c (L : List (List Sc)) (hL : L.length ≤ 100) (hw : ∀ z ∈ L, okFields [.int .u32, .int .i64] z) (ws all : List Int) (h : Holds ws (pBits L) (pVal L)) : ∀ (j i : Nat) (K : Nat), i + j = L.length → j < K →
    ∃ env, loopH (evC T7 KK b7x1) [4, 8, 62, 63, 64] K (canon7c L i ws (pBits (L.take i) : Nat) all) = some (.exit 2, ⟨env, [.ro 0 (.recs 2 L)], [.rows (.ints .i64 all), .cells none [.row 2, .int .i64 (pBits L : Nat)], .rows (.ints .u8 ws)]⟩) ∧ getT 4 env = .one (.row 0) ∧ getT 8 env = .one (.ptr 1 0)
  | 0, i, K, hi, hK => by
    obtain rfl : i = L.length := by omega
    obtain ⟨env, e, g⟩ := end7c L L.length ws (pBits (L.take L.length) : Nat) all (Nat.le_refl _)
    rw [List.take_length] at *
    exact ⟨env, loopH_exit e, g⟩
  | j + 1, i, K, hi, hK => by
    have hlt : i < L.length := by omega
    have hg : L[i]?.getD [] = L[i] := by rw [List.getElem?_eq_getElem hlt]; rfl
    have hwt : ∀ z ∈ L.take i, okFields [.int .u32, .int .i64] z := fun z hz => hw z (List.mem_of_mem_take hz)
    have hwd : ∀ z ∈ L.drop i, okFields [.int .u32, .int .i64] z := fun z hz => hw z (List.mem_of_mem_drop hz)
    have hpb := pBits_le hw
    obtain ⟨v, n, hz, hv0, hv1⟩ := piece_of (hw L[i] (List.getElem_mem hlt))
    rw [hz] at hg
    have hB1 : pBits (L.take (i + 1)) = pBits (L.take i) + pBits [L[i]] := by rw [take_snoc hlt, pBits_append hwt]
    have hBt : pBits L = pBits (L.take i) + pBits (L.drop i) := by rw [← pBits_append hwt, List.take_append_drop]
    have hVt : pVal L = pVal (L.take i) + 2 ^ pBits (L.take i) * pVal (L.drop i) := by rw [← pVal_append hwt, List.take_append_drop]
    have hlt2 := pVal_lt hwt
    have hdiv : pVal L / 2 ^ pBits (L.take i) = pVal (L.drop i) := by
      rw [hVt, Nat.add_mul_div_left _ _ (Nat.two_pow_pos _), Nat.div_eq_of_lt hlt2, Nat.zero_add]
    rw [List.drop_eq_getElem_cons hlt, hz] at hdiv hBt
    rw [hz] at hB1
    by_cases hn : 0 ≤ n ∧ n ≤ 32
    · obtain ⟨m, rfl⟩ : ∃ m : Nat, n = m := ⟨n.toNat, by omega⟩
      obtain ⟨u, rfl⟩ : ∃ u : Nat, v = u := ⟨v.toNat, by omega⟩
      simp only [pBits, pVal, if_pos hn, Int.toNat_natCast, Nat.add_zero] at hB1 hBt hdiv
      have e28 := f28 ws (pBits (L.take i)) m h.isB (by omega) (by rw [h.len]; omega) (by rw [h.len]; omega)
      rw [h.val, hdiv, Nat.add_mul_mod_self_left, Nat.mod_mod] at e28
      have e35 := f35 u m (by omega) (by omega)
      have e29 : ∀ t, F29 [.one (.ro t (.ints .i64 (ofN u m)))] [] = some (.one (.int .u32 ((u % 2 ^ m : Nat) : Int)), []) := fun t => by
        have := f29 t (ofN u m) (ofN_isN m u) (by rw [ofN_length]; omega)
        rw [leN_ofN] at this
        exact this
      obtain ⟨st1, e1, e2⟩ := body7d L i u m _ _ _ ws all (ofN u m) hlt hL hg hn e28 e35 e29
      rw [← hB1] at e2
      obtain ⟨env, e, rest⟩ := loop7c L hL hw ws all h j (i + 1) (K - 1) (by omega) (by omega)
      exact ⟨env, by rw [loopH_norm e1 (by omega), e2]; exact e, rest⟩
    · simp only [pBits, if_neg hn, Nat.add_zero] at hB1
      obtain ⟨st1, e1, e2⟩ := body7c L i v n (pBits (L.take i) : Nat) ws all hlt hL hg (by omega)
      rw [← hB1] at e2
      obtain ⟨env, e, rest⟩ := loop7c L hL hw ws all h j (i + 1) (K - 1) (by omega) (by omega)
      exact ⟨env, by rw [loopH_norm e1 (by omega), e2]; exact e, rest⟩
theorem law7 (L : List (List Sc)) (_ : L.length ≤ maxLen) (hw : ∀ z ∈ L, okFields [.int .u32, .int .i64] z) : F7 [.one (.ro 0 (.recs 2 L))] [] = some (.one (.bool true), []) := by
  by_cases hL : L.length ≤ 100
  · have hL1 : ¬ ((100 : Int) < L.length) := by omega
    have hL2 : ¬ (100 < L.length) := by omega
    obtain ⟨env, ws, all, e, g0, g3, g4, h, hN, hlen, hv⟩ := loop7a L hL hw L.length 0 [] [] KK (by omega) holds0 (by simp [isN]) rfl rfl (by rw [KK_eq]; omega)
    have hpb := pBits_le hw
    obtain ⟨out, e37', ho⟩ := f37 1 all hN (by omega)
    have e37 : ∀ t, F37 [.one (.ro t (.ints .i64 all))] [] = some (.one (.row 0), [.rows (.ints .u8 ws)]) := fun t => by
      obtain ⟨out, e, ho⟩ := f37 t all hN (by omega)
      have : out = ws := leB_inj ho.isB h.isB (by rw [ho.len, h.len, hlen]) (by rw [ho.val, h.val, hv])
      rw [this] at e
      exact e
    have e36 := f36 ws (pBits L : Nat)
    have e34 := f34 ws (pBits L : Nat) (by rw [h.len]; omega)
    have e26 := fun t => f26 t ws (by rw [h.len]; omega)
    obtain ⟨env2, e2, k4, k8⟩ := loop7c L hL hw ws all h L.length 0 KK (by omega) (by rw [KK_eq]; omega)
    have hwl := h.len
    have e30 := f30 ws (pBits L) (by omega) (by omega)
    have hr1 : (pBits L : Int).tmod 8 = ((pBits L % 8 : Nat) : Int) := by rw [Int.tmod_eq_emod_of_nonneg (by omega)]; omega
    have hr2 : IntKind.i64.wrap (8 - ((pBits L % 8 : Nat) : Int)) = ((8 - pBits L % 8 : Nat) : Int) := by rw [i64_in _ (by omega)]; omega
    have hr3 : ((8 - pBits L % 8 : Nat) : Int).tmod 8 = ((8 * ws.length - pBits L : Nat) : Int) := by rw [Int.tmod_eq_emod_of_nonneg (by omega)]; omega
    have z : ((0 : Nat) : Int) = 0 := rfl
    simp only [canon7a, List.take_zero, pBits, z] at e
    simp only [canon7c, List.take_zero, pBits, z] at e2
    simp only [bufHp, z, List.cons_append, List.nil_append] at e36 e34 e26 e30
    generalize ((8 * ws.length - pBits L : Nat) : Int) = q at *
    generalize ((8 - pBits L % 8 : Nat) : Int) = r at *
    generalize ((pBits L % 8 : Nat) : Int) = r0 at *
    have hlen' : (all.length : Int) = (pBits L : Int) := by omega
    generalize (pBits L : Int) = c at *
    clear h ho hwl hv hlen hpb hN e37'
    simp -implicitDefEqProofs [F7, c7, upd, h25, hL, hL1, hL2, RC.len, e, g0, g3, g4, e36, e34, e37, e26, e2, k4, k8, e30, hlen', hr1, hr2, hr3]
  · have hL1 : (100 : Int) < L.length := by omega
    have hL2 : 100 < L.length := by omega
    simp -implicitDefEqProofs [F7, c7, upd, h25, hL1, hL2, RC.len]
end Go.X.Try
