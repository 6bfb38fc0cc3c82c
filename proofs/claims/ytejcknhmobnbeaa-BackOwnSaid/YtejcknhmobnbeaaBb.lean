import Derived.Test.YtejcknhmobnbeaaBa
import Derived.Test.YtejcknhmobnbeaaAx
set_option maxRecDepth 100000
set_option linter.unusedSimpArgs false
namespace Go.X.Try
open Go.IntWalk
theorem f27z (bs : List Int) (c : Nat) (hl : bs.length ≤ 90000) (hc : c = 8 * bs.length) : F27 [.one (.ptr 0 0)] (bufHp (some 0) bs c) = some (.one (.row 2), bufHp (some 0) bs c ++ [.rows (.ints .u8 (bs ++ [1]))]) := by
  have e64 := f64 bs c (by omega)
  have e31 := f31 bs c
  have ea : bitsI .and .i64 (c : Int) 7 = 0 := by rw [and7_i64 (by omega)]; omega
  have ei : shrI .i64 (c : Int) 3 = bs.length := by rw [show (3 : Int) = ((3 : Nat) : Int) from rfl, shr_in (by simp only [IntKind.bits]; omega), show (2 : Nat) ^ 3 = 8 from rfl]; omega
  have s1 : shlI .u8 1 0 = 1 := by decide
  have s2 : bitsI .or .u8 0 1 = 1 := by decide
  have hm : bs.length + 1 ≤ 140737488355328 := by omega
  have hb1 : (bs.length : Int) < (bs.length : Int) + 1 := by omega
  simp only [bufHp, List.cons_append, List.nil_append] at e64 e31
  generalize (c : Int) = C at *
  simp -implicitDefEqProofs [F27, c27, upd, bufHp, e64, e31, ea, ei, s1, s2, hm, hb1, RC.len, RC.size, RC.get, RC.set, RC.app, RC.ofElems]
theorem f27s (bs : List Int) (c : Nat) (a s x y : Int) (i : Nat) (ea : bitsI .and .i64 (c : Int) 7 = a) (ha : ¬ a = 0) (ha0 : ¬ a < 0) (ei : shrI .i64 (c : Int) 3 = i) (hi : i < bs.length) (hx : bs[i]?.getD 0 = x) (es : shlI .u8 1 a = s) (ey : bitsI .or .u8 x s = y) (hl : bs.length ≤ 90000) :
    F27 [.one (.ptr 0 0)] (bufHp (some 0) bs c) = some (.one (.row 2), bufHp (some 0) bs c ++ [.rows (.ints .u8 (bs.set i y))]) := by
  have e64 := f64 bs c (by omega)
  have e31 := f31 bs c
  have hx' : bs[i] = x := by rw [List.getElem?_eq_getElem hi] at hx; exact hx
  have hi2 : (i : Int) < bs.length := by omega
  simp only [bufHp, List.cons_append, List.nil_append] at e64 e31
  generalize (c : Int) = C at *
  simp -implicitDefEqProofs [F27, c27, upd, bufHp, e64, e31, ea, ha, ha0, ei, hi, hi2, hx, hx', es, ey, RC.len, RC.size, RC.get, RC.set, RC.app, RC.ofElems]
theorem f27 (bs : List Int) (c N : Nat) (h : Holds bs c N) (hc : c ≤ 700000) : ∃ out, F27 [.one (.ptr 0 0)] (bufHp (some 0) bs c) = some (.one (.row 2), bufHp (some 0) bs c ++ [.rows (.ints .u8 out)]) ∧ Holds out (c + 1) (N + 2 ^ c) := by
  obtain ⟨hB, hlen, hval, hlt⟩ := h
  have hp : 2 ^ (c + 1) = 2 * 2 ^ c := by rw [Nat.pow_succ]; omega
  by_cases h0 : c % 8 = 0
  · refine ⟨_, f27z bs c (by omega) (by omega), isB_append hB (isB_one (by omega)), ?_, ?_, by omega⟩
    · rw [List.length_append, List.length_cons, List.length_nil]; omega
    · rw [leB_append, hval, show 8 * bs.length = c by omega]; simp [leB]
  · obtain ⟨a, ha⟩ : ∃ a, a = c % 8 := ⟨_, rfl⟩
    obtain ⟨q, hq⟩ : ∃ q, q = c / 8 := ⟨_, rfl⟩
    have hql : q < bs.length := by omega
    obtain ⟨b, hbi⟩ : ∃ b, bs[q]? = some b := ⟨_, List.getElem?_eq_getElem hql⟩
    have hbr := hB b (List.mem_of_getElem? hbi)
    obtain ⟨β, rfl⟩ : ∃ β : Nat, b = β := ⟨b.toNat, by omega⟩
    have hβ := leB_at hB hbi
    rw [hval, Int.toNat_natCast] at hβ
    have hβa : β < 2 ^ a := by
      rw [← hβ]
      refine Nat.lt_of_le_of_lt (Nat.mod_le _ _) ?_
      rw [Nat.div_lt_iff_lt_mul (Nat.two_pow_pos _), ← Nat.pow_add, show a + 8 * q = c by omega]
      exact hlt
    have hp7 : 2 ^ a ≤ 2 ^ 7 := Nat.pow_le_pow_right (by omega) (by omega)
    have es : shlI .u8 1 (a : Int) = ((1 * 2 ^ a : Nat) : Int) := shl_in (k := .u8) (x := 1) rfl (by simp only [IntKind.bits]; omega) (by simp only [IntKind.bits]; omega)
    have ey : bitsI .or .u8 (β : Int) ((1 * 2 ^ a : Nat) : Int) = ((β + 1 * 2 ^ a : Nat) : Int) := or_add rfl hβa (by simp only [IntKind.bits]; omega)
    refine ⟨_, f27s bs c a _ β _ q (by rw [and7_i64 (by omega), ← ha]) (by omega) (by omega) (by rw [show (3 : Int) = ((3 : Nat) : Int) from rfl, shr_in (by simp only [IntKind.bits]; omega), show (2 : Nat) ^ 3 = 8 from rfl, ← hq]) hql (by rw [hbi]; rfl) es ey (by omega), ?_, ?_, ?_, by omega⟩
    · intro x hx
      rcases List.mem_or_eq_of_mem_set hx with hx | hx
      · exact hB x hx
      · subst hx
        generalize (2 : Nat) ^ a = P at hp7 hβa ⊢
        omega
    · rw [List.length_set]; omega
    · have := leB_set (d := 1 * 2 ^ a) hB hbi
      rw [hval, Nat.one_mul, ← Nat.pow_add, show a + 8 * q = c by omega] at this
      rw [← this, Nat.one_mul]
      congr 2
theorem f29 (t : Nat) (l : List Int) (hN : isN l) (hl : l.length ≤ 80000) : ∃ out, F29 [.one (.ro t (.ints .i64 l))] [] = some (.one (.row 0), [.rows (.ints .u8 out)]) ∧ Holds out (l.length + 1) (leN l + 2 ^ l.length) := by
  have hN1 : isN (l ++ [1]) := fun x hx => by
    rcases List.mem_append.1 hx with hx | hx
    · exact hN x hx
    · simp only [List.mem_cons, List.not_mem_nil, or_false] at hx
      exact .inr hx
  have hlen1 : (l ++ [1]).length = l.length + 1 := by simp
  obtain ⟨out, e, ho⟩ := f65 0 (l ++ [1]) hN1 (by rw [hlen1]; omega)
  refine ⟨out, ?_, ?_⟩
  · have hm : (l.length + 1) * 8 ≤ 140737488355328 := by omega
    have hm2 : l.length * 8 ≤ 140737488355328 := by omega
    simp -implicitDefEqProofs [F29, c29, upd, e, hm, hm2, RC.len, RC.size, RC.app, RC.ofElems]
  · rw [hlen1, leN_append] at ho
    simpa [leN] using ho
def canon34 (t : Nat) (bs l : List Int) (k : Int) : St := ⟨[(4, .one (.row 0)), (5, .one (.int .i64 k))], [.ro t (.ints .u8 bs)], [.rows (.ints .i64 l)]⟩
theorem body34 (t : Nat) (bs l : List Int) (k : Nat) (k' : Int) (hk : k < l.length) (hb : l[k]?.getD 0 = 0) (ek : IntKind.i64.wrap ((k : Int) - 1) = k') :
    ∃ st1, evC T34 KK b34x0 (canon34 t bs l k) = some (.norm, st1) ∧ St.head [4, 5] st1 = canon34 t bs l k' := by
  have hb' : l[k] = 0 := by rw [List.getElem?_eq_getElem hk] at hb; exact hb
  have hk2 : (k : Int) < l.length := by omega
  simp -implicitDefEqProofs [b34x0, canon34, upd, hk, hk2, hb, hb', ek, RC.len, RC.size, RC.get]
theorem end34 (t : Nat) (bs l : List Int) (k : Nat) (hk : k < l.length) (hb : l[k]?.getD 0 = 1) :
    ∃ env, evC T34 KK b34x0 (canon34 t bs l k) = some (.exit 0, ⟨env, [.ro t (.ints .u8 bs)], [.rows (.ints .i64 l)]⟩) ∧ getT 4 env = .one (.row 0) ∧ getT 5 env = .one (.int .i64 k) := by
  have hb' : l[k] = 1 := by rw [List.getElem?_eq_getElem hk] at hb; exact hb
  have hk2 : (k : Int) < l.length := by omega
  simp -implicitDefEqProofs [b34x0, canon34, upd, hk, hk2, hb, hb', RC.len, RC.size, RC.get]
theorem loop34 (t : Nat) (bs l : List Int) (hN : isN l) (hl : l.length ≤ 800000) (hpos : 0 < leN l) : ∀ (k K : Nat), k < l.length → leN l < 2 ^ (k + 1) → k < K →
    ∃ env, loopH (evC T34 KK b34x0) [4, 5] K (canon34 t bs l k) = some (.exit 0, ⟨env, [.ro t (.ints .u8 bs)], [.rows (.ints .i64 l)]⟩) ∧ getT 4 env = .one (.row 0) ∧ getT 5 env = .one (.int .i64 (bl (leN l) - 1 : Nat)) ∧ bl (leN l) - 1 < l.length
  | k, K, hk, hlt, hK => by
    have hb := hN l[k] (List.getElem_mem hk)
    have hg : l[k]?.getD 0 = l[k] := by rw [List.getElem?_eq_getElem hk]; rfl
    have hat := leN_at hN (List.getElem?_eq_getElem hk)
    have hp : 2 ^ (k + 1) = 2 ^ k * 2 := Nat.pow_succ 2 k
    have hp0 := Nat.two_pow_pos k
    have hq : leN l / 2 ^ k < 2 := by rw [Nat.div_lt_iff_lt_mul hp0]; omega
    rcases hb with hb | hb
    · rw [hb] at hat hg
      have hq0 : leN l / 2 ^ k = 0 := by
        simp only [Int.toNat_zero] at hat
        generalize leN l / 2 ^ k = Q at hat hq ⊢
        omega
      have hlt2 : leN l < 2 ^ k := (Nat.div_eq_zero_iff_lt hp0).1 hq0
      cases k with
      | zero => omega
      | succ k =>
        obtain ⟨st1, e1, e2⟩ := body34 t bs l (k + 1) k hk hg (by rw [i64_in _ (by omega)]; omega)
        obtain ⟨env, e, g⟩ := loop34 t bs l hN hl hpos k (K - 1) (by omega) hlt2 (by omega)
        exact ⟨env, by rw [loopH_norm e1 (by omega), e2]; exact e, g⟩
    · rw [hb] at hat hg
      have hq1 : leN l / 2 ^ k = 1 := by
        have h1 : (1 : Int).toNat = 1 := rfl
        rw [h1] at hat
        generalize leN l / 2 ^ k = Q at hat hq ⊢
        omega
      have hge : 2 ^ k ≤ leN l := by
        have := Nat.div_mul_le_self (leN l) (2 ^ k)
        rw [hq1] at this
        omega
      have hbl := bl_unique hge hlt
      obtain ⟨env, e, g4, g5⟩ := end34 t bs l k hk hg
      exact ⟨env, loopH_exit e, g4, by rw [hbl, Nat.add_sub_cancel]; exact g5, by omega⟩
theorem f34z (t : Nat) (bs : List Int) (h : bs = [] ∨ bs.getLast? = some 0) (hl : bs.length ≤ 90000) : F34 [.one (.ro t (.ints .u8 bs))] [] = some (.tup [.one (.row 0), .one (.bool false)], [.rows (.ints .i64 [])]) := by
  by_cases h0 : bs = []
  · subst h0
    simp -implicitDefEqProofs [F34, c34, upd, RC.len]
  · have hp : 0 < bs.length := List.length_pos_iff.2 h0
    have hlast : bs.getLast? = some 0 := h.resolve_left h0
    rw [List.getLast?_eq_getElem?] at hlast
    have w : IntKind.i64.wrap ((bs.length : Int) - 1) = ((bs.length - 1 : Nat) : Int) := by rw [i64_in _ (by omega)]; omega
    have hi : ((bs.length - 1 : Nat) : Int) < bs.length := by omega
    have hi2 : bs.length - 1 < bs.length := by omega
    have hb : bs[bs.length - 1]?.getD 0 = 0 := by rw [hlast]; rfl
    have hb' : bs[bs.length - 1] = 0 := by rw [List.getElem?_eq_getElem hi2] at hb; exact hb
    have hn : ¬ ((bs.length : Int) = 0) := by omega
    simp -implicitDefEqProofs [F34, c34, upd, h0, hn, w, hi, hi2, hb, hb', RC.len, RC.size, RC.get]
/-- Bytes whose last one is not 0: how long their number is. -/
theorem bl_leB {bs : List Int} {b : Int} (hB : isB bs) (h : bs.getLast? = some b) (hb0 : b ≠ 0) : bl (leB bs) = 8 * (bs.length - 1) + bl b.toNat ∧ 0 < leB bs := by
  have h0 : bs ≠ [] := by rintro rfl; simp at h
  have hp : 0 < bs.length := List.length_pos_iff.2 h0
  rw [List.getLast?_eq_getElem?] at h
  have hbr := hB b (List.mem_of_getElem? h)
  have hat := leB_at hB h
  have hlt := leB_lt hB
  have hq : leB bs / 2 ^ (8 * (bs.length - 1)) < 256 := by
    rw [Nat.div_lt_iff_lt_mul (Nat.two_pow_pos _)]
    have : 2 ^ (8 * bs.length) = 256 * 2 ^ (8 * (bs.length - 1)) := by
      rw [show 8 * bs.length = 8 + 8 * (bs.length - 1) by omega, Nat.pow_add]
    omega
  rw [Nat.mod_eq_of_lt hq] at hat
  have hge : 2 ^ (8 * (bs.length - 1)) ≤ leB bs := by
    have := Nat.div_mul_le_self (leB bs) (2 ^ (8 * (bs.length - 1)))
    rw [hat] at this
    have h1 : 1 * 2 ^ (8 * (bs.length - 1)) ≤ b.toNat * 2 ^ (8 * (bs.length - 1)) := Nat.mul_le_mul_right _ (by omega)
    omega
  have := Nat.two_pow_pos (8 * (bs.length - 1))
  exact ⟨by rw [bl_div _ hge, hat], by omega⟩
theorem f34 (t : Nat) (bs : List Int) (b : Int) (hB : isB bs) (h : bs.getLast? = some b) (hb0 : b ≠ 0) (hl : bs.length ≤ 10000) :
    ∃ A, F34 [.one (.ro t (.ints .u8 bs))] [] = some (.tup [.one (.view 0 0 (bl (leB bs) - 1)), .one (.bool true)], [.rows (.ints .i64 A)]) ∧ isN A ∧ leN A = leB bs ∧ bl (leB bs) - 1 < A.length ∧ A.length = 8 * bs.length := by
  have h0 : bs ≠ [] := by rintro rfl; simp at h
  have hp : 0 < bs.length := List.length_pos_iff.2 h0
  have hbl := bl_leB hB h hb0
  obtain ⟨A, e67, hN, hlen, hv⟩ := f67 0 bs hB (by omega)
  obtain ⟨env, e, g4, g5, hbk⟩ := loop34 t bs A hN (by omega) (by rw [hv]; exact hbl.2) (A.length - 1) KK (by omega) (by rw [show A.length - 1 + 1 = A.length by omega]; exact leN_lt hN) (by rw [KK_eq]; omega)
  rw [hv] at g5 hbk
  rw [List.getLast?_eq_getElem?] at h
  have w : IntKind.i64.wrap ((bs.length : Int) - 1) = ((bs.length - 1 : Nat) : Int) := by rw [i64_in _ (by omega)]; omega
  have wA : IntKind.i64.wrap ((A.length : Int) - 1) = ((A.length - 1 : Nat) : Int) := by rw [i64_in _ (by omega)]; omega
  have hi : ((bs.length - 1 : Nat) : Int) < bs.length := by omega
  have hi2 : bs.length - 1 < bs.length := by omega
  have hb : bs[bs.length - 1]?.getD 0 = b := by rw [h]; rfl
  have hb' : bs[bs.length - 1] = b := by rw [List.getElem?_eq_getElem hi2] at hb; exact hb
  have hn : ¬ ((bs.length : Int) = 0) := by omega
  refine ⟨A, ?_, hN, hv, hbk, hlen⟩
  have hbk1 : ((bl (leB bs) - 1 : Nat) : Int) ≤ A.length := by omega
  have hbk2 : bl (leB bs) - 1 ≤ A.length := by omega
  simp only [canon34] at e
  have wb : ¬ (b == 0) = true := by simpa using hb0
  generalize bl (leB bs) - 1 = q at *
  simp -implicitDefEqProofs [F34, c34, upd, h0, hn, w, wA, hi, hi2, hb, hb', hb0, e67, e, g4, g5, hbk1, hbk2, RC.len, RC.size, RC.get]
end Go.X.Try
