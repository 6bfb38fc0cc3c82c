import Derived.Test.YtejcknhmobnbeaaBc
set_option maxRecDepth 100000
set_option linter.unusedSimpArgs false
namespace Go.X.Try
open Go.IntWalk
/-- Of pieces one behind the other: how many bits, and their number. -/
def pBits : List (List Sc) → Nat
  | [] => 0
  | [.int _ _, .int _ n] :: L => (if 0 ≤ n ∧ n ≤ 32 then n.toNat else 0) + pBits L
  | _ :: L => pBits L
def pVal : List (List Sc) → Nat
  | [] => 0
  | [.int _ v, .int _ n] :: L => if 0 ≤ n ∧ n ≤ 32 then v.toNat % 2 ^ n.toNat + 2 ^ n.toNat * pVal L else pVal L
  | _ :: L => pVal L
theorem piece_of {z : List Sc} (h : okFields [.int .u32, .int .i64] z) : ∃ v n, z = [.int .u32 v, .int .i64 n] ∧ 0 ≤ v ∧ v < 4294967296 := by
  match z, h with
  | [a, b], ⟨ha, hb, _⟩ =>
    cases a <;> simp only [FK.ok] at ha
    cases b <;> simp only [FK.ok] at hb
    obtain ⟨rfl, hw⟩ := ha
    obtain ⟨rfl, _⟩ := hb
    refine ⟨_, _, rfl, ?_⟩
    simp [Lit.wf, IntKind.min, IntKind.max, IntKind.signed, IntKind.bits] at hw
    omega
section
variable {L : List (List Sc)} (hw : ∀ z ∈ L, okFields [.int .u32, .int .i64] z)
include hw
theorem pBits_append (M : List (List Sc)) : pBits (L ++ M) = pBits L + pBits M := by
  induction L with
  | nil => simp [pBits]
  | cons z L ih =>
    obtain ⟨v, n, rfl, _⟩ := piece_of (hw z (by simp))
    simp only [List.cons_append, pBits, ih (fun x hx => hw x (List.mem_cons_of_mem _ hx))]
    omega
theorem pVal_append (M : List (List Sc)) : pVal (L ++ M) = pVal L + 2 ^ pBits L * pVal M := by
  induction L with
  | nil => simp [pVal, pBits]
  | cons z L ih =>
    obtain ⟨v, n, rfl, _⟩ := piece_of (hw z (by simp))
    simp only [List.cons_append, pVal, pBits, ih (fun x hx => hw x (List.mem_cons_of_mem _ hx))]
    split
    · rw [Nat.pow_add, Nat.mul_add, Nat.mul_assoc, Nat.add_assoc]
    · rw [Nat.zero_add]
theorem pVal_lt : pVal L < 2 ^ pBits L := by
  induction L with
  | nil => simp [pVal, pBits]
  | cons z L ih =>
    obtain ⟨v, n, rfl, _⟩ := piece_of (hw z (by simp))
    have h := ih (fun x hx => hw x (List.mem_cons_of_mem _ hx))
    simp only [pVal, pBits]
    split
    · rw [Nat.pow_add]
      have h1 : v.toNat % 2 ^ n.toNat < 2 ^ n.toNat := Nat.mod_lt _ (Nat.two_pow_pos _)
      have h2 : 2 ^ n.toNat * (pVal L + 1) ≤ 2 ^ n.toNat * 2 ^ pBits L := Nat.mul_le_mul_left _ h
      rw [Nat.mul_add, Nat.mul_one] at h2
      omega
    · rw [Nat.zero_add]; exact h
theorem pBits_le : pBits L ≤ 32 * L.length := by
  induction L with
  | nil => simp [pBits]
  | cons z L ih =>
    obtain ⟨v, n, rfl, _⟩ := piece_of (hw z (by simp))
    have h := ih (fun x hx => hw x (List.mem_cons_of_mem _ hx))
    simp only [pBits, List.length_cons]
    split <;> omega
end
/-- A piece that may be. -/
def okPiece (z : List Sc) : Prop := ∃ (u n : Nat), z = [.int .u32 u, .int .i64 n] ∧ u < 2 ^ 32 ∧ n ≤ 32
theorem okPiece.fields {z : List Sc} (h : okPiece z) : okFields [.int .u32, .int .i64] z := by
  obtain ⟨u, n, rfl, hu, hn⟩ := h
  refine ⟨⟨rfl, ?_⟩, ⟨rfl, ?_⟩, trivial⟩
  · simp [Lit.wf, IntKind.min, IntKind.max, IntKind.signed, IntKind.bits]; omega
  · simp [Lit.wf, IntKind.min, IntKind.max, IntKind.signed, IntKind.bits]; omega
theorem take_snoc {α : Type} {L : List α} {i : Nat} (h : i < L.length) : L.take (i + 1) = L.take i ++ [L[i]] := (List.take_append_getElem h).symm
def canon5a (L : List (List Sc)) (i : Int) (ws : List Int) (c : Int) (all : List Int) (kept : List (List Sc)) : St :=
  ⟨[(3, .one (.ptr 0 0)), (4, .one (.row 2)), (5, .one (.row 3)), (21, .one (.ro 0 (.recs 2 L))), (22, .one (.int .i64 L.length)), (23, .one (.int .i64 i))], [.ro 0 (.recs 2 L)], [.cells none [.row 1, .int .i64 c], .rows (.ints .u8 ws), .rows (.ints .i64 all), .rows (.recs 2 kept)]⟩
theorem body5a (L kept : List (List Sc)) (i : Nat) (v n c : Int) (ws all : List Int) (hi : i < L.length) (hL : L.length ≤ 100) (hd : L[i]?.getD [] = [.int .u32 v, .int .i64 n])
    (e25 : F25 [.one (.ptr 0 0), .one (.int .u32 v), .one (.int .i64 n)] (bufHp (some 0) ws c) = some (.one (.bool false), bufHp (some 0) ws c)) :
    ∃ st1, evC T5 KK b5x0 (canon5a L i ws c all kept) = some (.norm, st1) ∧ St.head [3, 4, 5, 21, 22, 23] st1 = canon5a L (i + 1 : Nat) ws c all kept := by
  have hd' : L[i] = [.int .u32 v, .int .i64 n] := by rw [List.getElem?_eq_getElem hi] at hd; exact hd
  have hi2 : (i : Int) < L.length := by omega
  have w : IntKind.i64.wrap ((i : Int) + 1) = (i : Int) + 1 := i64_in _ (by omega)
  simp only [bufHp] at e25
  simp -implicitDefEqProofs [b5x0, canon5a, upd, hi, hi2, hd, hd', w, e25, RC.len, RC.size, RC.elem, takeE]
theorem body5b (L kept : List (List Sc)) (i : Nat) (v n c c' : Int) (ws ws' all add : List Int) (hi : i < L.length) (hL : L.length ≤ 100) (hd : L[i]?.getD [] = [.int .u32 v, .int .i64 n])
    (e25 : F25 [.one (.ptr 0 0), .one (.int .u32 v), .one (.int .i64 n)] (bufHp (some 0) ws c) = some (.one (.bool true), bufHp (some 0) ws' c'))
    (e26 : F26 [.one (.int .u32 v), .one (.int .i64 n)] [] = some (.one (.row 0), [.rows (.ints .i64 add)])) (hm : (all.length + add.length) * 8 ≤ 140737488355328) (hm2 : (kept.length + 1) * 16 ≤ 140737488355328) :
    ∃ st1, evC T5 KK b5x0 (canon5a L i ws c all kept) = some (.norm, st1) ∧ St.head [3, 4, 5, 21, 22, 23] st1 = canon5a L (i + 1 : Nat) ws' c' (all ++ add) (kept ++ [[.int .u32 v, .int .i64 n]]) := by
  have hd' : L[i] = [.int .u32 v, .int .i64 n] := by rw [List.getElem?_eq_getElem hi] at hd; exact hd
  have hi2 : (i : Int) < L.length := by omega
  have w : IntKind.i64.wrap ((i : Int) + 1) = (i : Int) + 1 := i64_in _ (by omega)
  simp only [bufHp] at e25
  simp -implicitDefEqProofs [b5x0, canon5a, upd, hi, hi2, hd, hd', w, e25, e26, hm, hm2, RC.len, RC.size, RC.elem, RC.app, RC.ofElems, takeE]
theorem end5a (L kept : List (List Sc)) (i : Nat) (ws : List Int) (c : Int) (all : List Int) (hi : L.length ≤ i) :
    ∃ env, evC T5 KK b5x0 (canon5a L i ws c all kept) = some (.exit 0, ⟨env, [.ro 0 (.recs 2 L)], [.cells none [.row 1, .int .i64 c], .rows (.ints .u8 ws), .rows (.ints .i64 all), .rows (.recs 2 kept)]⟩) ∧ getT 3 env = .one (.ptr 0 0) ∧ getT 4 env = .one (.row 2) ∧ getT 5 env = .one (.row 3) := by
  have hi2 : ¬ (i : Int) < L.length := by omega
  simp -implicitDefEqProofs [b5x0, canon5a, upd, hi2]
theorem loop5a (L : List (List Sc)) (hL : L.length ≤ 100) (hw : ∀ z ∈ L, okFields [.int .u32, .int .i64] z) : ∀ (j i : Nat) (ws all : List Int) (kept : List (List Sc)) (K : Nat), i + j = L.length → kept.length ≤ i → (∀ z ∈ kept, okPiece z) → Holds ws (pBits kept) (pVal kept) → isN all → all.length = pBits kept → leN all = pVal kept → j < K →
    ∃ env ws' all' kept', loopH (evC T5 KK b5x0) [3, 4, 5, 21, 22, 23] K (canon5a L i ws (pBits kept : Nat) all kept) = some (.exit 0, ⟨env, [.ro 0 (.recs 2 L)], [.cells none [.row 1, .int .i64 (pBits kept' : Nat)], .rows (.ints .u8 ws'), .rows (.ints .i64 all'), .rows (.recs 2 kept')]⟩) ∧ getT 3 env = .one (.ptr 0 0) ∧ getT 4 env = .one (.row 2) ∧ getT 5 env = .one (.row 3) ∧
      kept'.length ≤ L.length ∧ (∀ z ∈ kept', okPiece z) ∧ Holds ws' (pBits kept') (pVal kept') ∧ isN all' ∧ all'.length = pBits kept' ∧ leN all' = pVal kept'
  | 0, i, ws, all, kept, K, hi, hk, hok, h, hN, hlen, hv, hK => by
    obtain ⟨env, e, g⟩ := end5a L kept i ws (pBits kept : Nat) all (by omega)
    exact ⟨env, ws, all, kept, loopH_exit e, g.1, g.2.1, g.2.2, by omega, hok, h, hN, hlen, hv⟩
  | j + 1, i, ws, all, kept, K, hi, hk, hok, h, hN, hlen, hv, hK => by
    have hlt : i < L.length := by omega
    have hg : L[i]?.getD [] = L[i] := by rw [List.getElem?_eq_getElem hlt]; rfl
    have hkf : ∀ z ∈ kept, okFields [.int .u32, .int .i64] z := fun z hz => (hok z hz).fields
    have hpb := pBits_le hkf
    obtain ⟨v, n, hz, hv0, hv1⟩ := piece_of (hw L[i] (List.getElem_mem hlt))
    rw [hz] at hg
    by_cases hn : 0 ≤ n ∧ n ≤ 32
    · obtain ⟨m, rfl⟩ : ∃ m : Nat, n = m := ⟨n.toNat, by omega⟩
      obtain ⟨u, rfl⟩ : ∃ u : Nat, v = u := ⟨v.toNat, by omega⟩
      obtain ⟨ws', e25, h'⟩ := f25 u m _ _ ws h (by omega) (by omega) (by omega)
      have e26 := f26 u m (by omega) (by omega)
      obtain ⟨st1, e1, e2⟩ := body5b L kept i u m _ _ ws ws' all (ofN u m) hlt hL hg e25 e26 (by rw [ofN_length]; omega) (by omega)
      have hB1 : pBits (kept ++ [[.int .u32 (u : Int), .int .i64 (m : Int)]]) = pBits kept + m := by
        rw [pBits_append hkf]
        simp only [pBits, if_pos hn, Int.toNat_natCast, Nat.add_zero]
      have hV1 : pVal (kept ++ [[.int .u32 (u : Int), .int .i64 (m : Int)]]) = pVal kept + 2 ^ pBits kept * (u % 2 ^ m) := by
        rw [pVal_append hkf]
        simp only [pVal, if_pos hn, Int.toNat_natCast, Nat.mul_zero, Nat.add_zero]
      rw [Nat.mul_comm, ← hB1, ← hV1] at h'
      rw [← hB1] at e2
      obtain ⟨env, ws2, all2, kept2, e, rest⟩ := loop5a L hL hw j (i + 1) ws' (all ++ ofN u m) _ (K - 1) (by omega) (by rw [List.length_append, List.length_cons, List.length_nil]; omega) (fun z hz => by
          rcases List.mem_append.1 hz with hz | hz
          · exact hok z hz
          · simp only [List.mem_cons, List.not_mem_nil, or_false] at hz
            exact ⟨u, m, hz, by omega, by omega⟩) h' (fun x hx => by
          rcases List.mem_append.1 hx with hx | hx
          · exact hN x hx
          · exact ofN_isN m u x hx) (by rw [List.length_append, ofN_length, hlen, hB1]) (by rw [leN_append, hv, hlen, leN_ofN, hV1]) (by omega)
      exact ⟨env, ws2, all2, kept2, by rw [loopH_norm e1 (by omega), e2]; exact e, rest⟩
    · have e25 := f25a v n (pBits kept : Nat) ws (by omega)
      obtain ⟨st1, e1, e2⟩ := body5a L kept i v n _ ws all hlt hL hg e25
      obtain ⟨env, ws2, all2, kept2, e, rest⟩ := loop5a L hL hw j (i + 1) ws all kept (K - 1) (by omega) (by omega) hok h hN hlen hv (by omega)
      exact ⟨env, ws2, all2, kept2, by rw [loopH_norm e1 (by omega), e2]; exact e, rest⟩
def canon5c (L kept : List (List Sc)) (out : List Int) (i m : Int) : St :=
  ⟨[(5, .one (.row 0)), (9, .one (.ptr 1 0)), (11, .one (.int .i64 i))], [.ro 0 (.recs 2 L)], [.rows (.recs 2 kept), .cells none [.row 2, .int .i64 m], .rows (.ints .u8 out)]⟩
theorem body5c (L kept : List (List Sc)) (out add : List Int) (i : Nat) (i' m m' v n x : Int) (hi : i < kept.length) (hd : kept[i]?.getD [] = [.int .u32 v, .int .i64 n]) (ei : IntKind.i64.wrap ((i : Int) - 1) = i')
    (e32 : F32 [.one (.ptr 0 0), .one (.int .i64 n)] (bufHp (some 0) out m) = some (tup2 x true, bufHp (some 0) out m'))
    (e26 : F26 [.one (.int .u32 v), .one (.int .i64 n)] [] = some (.one (.row 0), [.rows (.ints .i64 add)])) (e33 : ∀ t, F33 [.one (.ro t (.ints .i64 add))] [] = some (.one (.int .u32 x), [])) :
    ∃ st1, evC T5 KK b5x1 (canon5c L kept out i m) = some (.norm, st1) ∧ St.head [5, 9, 11] st1 = canon5c L kept out i' m' := by
  have hd' : kept[i] = [.int .u32 v, .int .i64 n] := by rw [List.getElem?_eq_getElem hi] at hd; exact hd
  have hi2 : (i : Int) < kept.length := by omega
  have hi0 : (0 : Int) ≤ i := by omega
  simp only [bufHp, tup2] at e32
  simp -implicitDefEqProofs [b5x1, canon5c, upd, hi, hi2, hi0, hd, hd', ei, e32, e26, e33, RC.len, RC.size, RC.get, RC.elem, takeE]
theorem end5c (L kept : List (List Sc)) (out : List Int) (i m : Int) (hi : i < 0) :
    ∃ env, evC T5 KK b5x1 (canon5c L kept out i m) = some (.exit 2, ⟨env, [.ro 0 (.recs 2 L)], [.rows (.recs 2 kept), .cells none [.row 2, .int .i64 m], .rows (.ints .u8 out)]⟩) ∧ getT 9 env = .one (.ptr 1 0) := by
  have hi2 : ¬ (0 : Int) ≤ i := by omega
  simp -implicitDefEqProofs [b5x1, canon5c, upd, hi2]
theorem loop5c (L kept : List (List Sc)) (out : List Int) (hok : ∀ z ∈ kept, okPiece z) (hl : kept.length ≤ 100) (h : Holds out (pBits kept + 1) (pVal kept + 2 ^ pBits kept)) : ∀ (i K : Nat), i ≤ kept.length → i < K →
    ∃ env, loopH (evC T5 KK b5x1) [5, 9, 11] K (canon5c L kept out ((i : Int) - 1) (pBits (kept.take i) : Nat)) = some (.exit 2, ⟨env, [.ro 0 (.recs 2 L)], [.rows (.recs 2 kept), .cells none [.row 2, .int .i64 0], .rows (.ints .u8 out)]⟩) ∧ getT 9 env = .one (.ptr 1 0)
  | 0, K, hi, hK => by
    obtain ⟨env, e, g⟩ := end5c L kept out (((0 : Nat) : Int) - 1) (pBits (kept.take 0) : Nat) (by omega)
    exact ⟨env, loopH_exit e, g⟩
  | i + 1, K, hi, hK => by
    have hkf : ∀ z ∈ kept, okFields [.int .u32, .int .i64] z := fun z hz => (hok z hz).fields
    have hlt : i < kept.length := by omega
    have hg : kept[i]?.getD [] = kept[i] := by rw [List.getElem?_eq_getElem hlt]; rfl
    obtain ⟨u, n, hz, hu, hn⟩ := hok kept[i] (List.getElem_mem hlt)
    have hwt : ∀ z ∈ kept.take i, okFields [.int .u32, .int .i64] z := fun z hz => hkf z (List.mem_of_mem_take hz)
    have hn' : 0 ≤ (n : Int) ∧ (n : Int) ≤ 32 := by omega
    have hpb := pBits_le hkf
    have hB1 : pBits (kept.take (i + 1)) = pBits (kept.take i) + n := by
      rw [take_snoc hlt, pBits_append hwt, hz]
      simp only [pBits, if_pos hn', Int.toNat_natCast, Nat.add_zero]
    have hBt : pBits kept = pBits (kept.take i) + (n + pBits (kept.drop (i + 1))) := by
      have := pBits_append hwt (kept.drop i)
      rw [List.take_append_drop, List.drop_eq_getElem_cons hlt, hz] at this
      simp only [pBits, if_pos hn', Int.toNat_natCast] at this
      exact this
    have hVt : pVal kept = pVal (kept.take i) + 2 ^ pBits (kept.take i) * (u % 2 ^ n + 2 ^ n * pVal (kept.drop (i + 1))) := by
      have := pVal_append hwt (kept.drop i)
      rw [List.take_append_drop, List.drop_eq_getElem_cons hlt, hz] at this
      simp only [pVal, if_pos hn', Int.toNat_natCast] at this
      exact this
    have hlt2 := pVal_lt hwt
    have hval : leB out / 2 ^ pBits (kept.take i) % 2 ^ n = u % 2 ^ n := by
      have e2 : 2 ^ pBits kept = 2 ^ pBits (kept.take i) * (2 ^ n * 2 ^ pBits (kept.drop (i + 1))) := by rw [hBt, Nat.pow_add, Nat.pow_add]
      rw [h.val, e2, hVt, Nat.add_assoc, ← Nat.mul_add, Nat.add_mul_div_left _ _ (Nat.two_pow_pos _), Nat.div_eq_of_lt hlt2, Nat.zero_add, Nat.add_assoc, ← Nat.mul_add, Nat.add_mul_mod_self_left, Nat.mod_mod]
    have hl8 : out.length ≤ 100000 := by rw [h.len]; omega
    have e32 := f32 out (pBits (kept.take (i + 1))) n h.isB hl8 (by rw [h.len, hB1]; omega) hn (by omega)
    rw [hB1, Nat.add_sub_cancel, hval, ← hB1] at e32
    rw [hz] at hg
    have e26 := f26 u n hu hn
    have e33 : ∀ t, F33 [.one (.ro t (.ints .i64 (ofN u n)))] [] = some (.one (.int .u32 ((u % 2 ^ n : Nat) : Int)), []) := fun t => by
      have := f33 t (ofN u n) (ofN_isN n u) (by rw [ofN_length]; omega)
      rw [leN_ofN] at this
      exact this
    obtain ⟨st1, e1, e2⟩ := body5c L kept out (ofN u n) i ((i : Int) - 1) _ _ u n _ hlt hg (by rw [i64_in _ (by omega)]) e32 e26 e33
    obtain ⟨env, e, g⟩ := loop5c L kept out hok hl h i (K - 1) (by omega) (by omega)
    have hc : ((i + 1 : Nat) : Int) - 1 = (i : Int) := by omega
    rw [hc]
    exact ⟨env, by rw [loopH_norm e1 (by omega), e2]; exact e, g⟩
/-- Sealed bytes have a last one that is not 0. -/
theorem sealed_last {out : List Int} {c N : Nat} (h : Holds out (c + 1) (N + 2 ^ c)) (hN : N < 2 ^ c) : ∃ b, out.getLast? = some b ∧ b ≠ 0 ∧ bl (leB out) = c + 1 := by
  obtain ⟨hB, hlen, hval, hlt⟩ := h
  have hp : 0 < out.length := by omega
  have h0 : out ≠ [] := List.length_pos_iff.1 hp
  refine ⟨out.getLast h0, List.getLast?_eq_some_getLast h0, fun hb => ?_, ?_⟩
  · have hl := List.getLast?_eq_some_getLast h0
    rw [hb, List.getLast?_eq_getElem?] at hl
    have hat := leB_at hB hl
    have hq : leB out / 2 ^ (8 * (out.length - 1)) < 256 := by
      rw [Nat.div_lt_iff_lt_mul (Nat.two_pow_pos _)]
      have e1 : 2 ^ (8 * out.length) = 256 * 2 ^ (8 * (out.length - 1)) := by
        rw [show 8 * out.length = 8 + 8 * (out.length - 1) by omega, Nat.pow_add]
      have := leB_lt hB
      omega
    rw [Nat.mod_eq_of_lt hq] at hat
    have hz : leB out / 2 ^ (8 * (out.length - 1)) = 0 := hat
    have hz2 := (Nat.div_eq_zero_iff_lt (Nat.two_pow_pos _)).1 hz
    have hle : 2 ^ (8 * (out.length - 1)) ≤ 2 ^ c := Nat.pow_le_pow_right (by omega) (by omega)
    omega
  · exact bl_unique (by omega) (by rw [hval]; exact hlt)
theorem law5 (L : List (List Sc)) (_ : L.length ≤ maxLen) (hw : ∀ z ∈ L, okFields [.int .u32, .int .i64] z) : F5 [.one (.ro 0 (.recs 2 L))] [] = some (.one (.bool true), []) := by
  by_cases hL : L.length ≤ 100
  · have hL1 : ¬ ((100 : Int) < L.length) := by omega
    have hL2 : ¬ (100 < L.length) := by omega
    obtain ⟨env, ws, all, kept, e, g3, g4, g5, hkl, hok, h, hN, hlen, hv⟩ := loop5a L hL hw L.length 0 [] [] [] KK (by omega) (Nat.le_refl _) (by simp) holds0 (by simp [isN]) rfl rfl (by rw [KK_eq]; omega)
    have hkf : ∀ z ∈ kept, okFields [.int .u32, .int .i64] z := fun z hz => (hok z hz).fields
    have hpb := pBits_le hkf
    obtain ⟨out, e27, ho⟩ := f27 ws _ _ h (by omega)
    obtain ⟨b, hb1, hb2, hbl⟩ := sealed_last ho h.lt
    have hbl2 := bl_leB ho.isB hb1 hb2
    have hbb : 0 < bl b.toNat := by
      have := ho.isB b (List.mem_of_getLast? hb1)
      exact (bl_pos (n := b.toNat) (by omega)).2.2
    have hol := ho.len
    have e28 := fun t => f28 t out b ho.isB hb1 hb2 (by omega)
    have hq : 8 * (out.length - 1) + (bl b.toNat - 1) = pBits kept := by omega
    rw [hq] at e28
    have e29 : ∀ t, F29 [.one (.ro t (.ints .i64 all))] [] = some (.one (.row 0), [.rows (.ints .u8 out)]) := fun t => by
      obtain ⟨out', e, ho'⟩ := f29 t all hN (by omega)
      have : out' = out := leB_inj ho'.isB ho.isB (by rw [ho'.len, ho.len, hlen]) (by rw [ho'.val, ho.val, hv, hlen])
      rw [this] at e
      exact e
    have e30 := f30 out (pBits kept : Nat)
    have e30z := f30 out 0
    have e31 := f31 ws (pBits kept : Nat)
    obtain ⟨env2, e2, k9⟩ := loop5c L kept out hok (by omega) ho kept.length KK (Nat.le_refl _) (by rw [KK_eq]; omega)
    rw [List.take_length] at e2
    have e32z := f32a out 0 1 (.inr (.inr (by omega)))
    have w : IntKind.i64.wrap ((kept.length : Int) - 1) = (kept.length : Int) - 1 := i64_in _ (by omega)
    have z : ((0 : Nat) : Int) = 0 := rfl
    have hlen' : (all.length : Int) = (pBits kept : Int) := by omega
    simp only [canon5a, pBits, z] at e
    simp only [canon5c] at e2
    simp only [bufHp, tup2, List.cons_append, List.nil_append] at e27 e28 e30 e30z e31 e32z
    generalize (pBits kept : Int) = c at *
    clear h ho hq hol hbb hbl2 hbl hpb hlen hv hN
    simp -implicitDefEqProofs [F5, c5, upd, h24, hL, hL1, hL2, RC.len, e, g3, g4, g5, e27, e28, e29, e30, e30z, e31, e2, k9, e32z, w, hlen']
  · have hL1 : (100 : Int) < L.length := by omega
    have hL2 : 100 < L.length := by omega
    simp -implicitDefEqProofs [F5, c5, upd, h24, hL1, hL2, RC.len]
end Go.X.Try
