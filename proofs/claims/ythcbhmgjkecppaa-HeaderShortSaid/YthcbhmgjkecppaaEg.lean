import Derived.Test.YthcbhmgjkecppaaEd
set_option maxRecDepth 100000
set_option linter.unusedSimpArgs false
namespace Go.X.Try
open Go.IntWalk
def canon73 (t : Nat) (l : List Int) (i : Int) (out : List Int) : St :=
  ⟨[(0, .one (.ro t (.ints .i64 l))), (3, .one (.row 0)), (4, .one (.int .i64 i))], [.ro t (.ints .i64 l)], [.rows (.ints .u8 out)]⟩
theorem body73a (t : Nat) (l : List Int) (i : Nat) (out : List Int) (hi : i < l.length) (hl : l.length ≤ 100000) (ho : out.length ≤ 100000) (ea : (i : Int).tmod 8 = 0) (hb : l[i]?.getD 0 = 0) :
    ∃ st1, evC T73 KK b73x0 (canon73 t l i out) = some (.norm, st1) ∧ St.head [0, 3, 4] st1 = canon73 t l (i + 1 : Nat) (out ++ [0]) := by
  have hb' : l[i] = 0 := by rw [List.getElem?_eq_getElem hi] at hb; exact hb
  have hi2 : (i : Int) < l.length := by omega
  have w : IntKind.i64.wrap ((i : Int) + 1) = (i : Int) + 1 := i64_in _ (by omega)
  have hm : out.length + 1 ≤ 140737488355328 := by omega
  simp -implicitDefEqProofs [b73x0, canon73, upd, hi, hi2, ea, hb, hb', hm, w, RC.len, RC.size, RC.get, RC.app, RC.ofElems]
theorem body73b (t : Nat) (l : List Int) (i : Nat) (out : List Int) (hi : i < l.length) (hl : l.length ≤ 100000) (ho : out.length ≤ 100000) (ea : (i : Int).tmod 8 = 0) (hb : l[i]?.getD 0 = 1) (eq : IntKind.i64.wrap ((i : Int) / 8) = out.length) :
    ∃ st1, evC T73 KK b73x0 (canon73 t l i out) = some (.norm, st1) ∧ St.head [0, 3, 4] st1 = canon73 t l (i + 1 : Nat) (out ++ [1]) := by
  have hb' : l[i] = 1 := by rw [List.getElem?_eq_getElem hi] at hb; exact hb
  have hi2 : (i : Int) < l.length := by omega
  have w : IntKind.i64.wrap ((i : Int) + 1) = (i : Int) + 1 := i64_in _ (by omega)
  have hm : out.length + 1 ≤ 140737488355328 := by omega
  have hb1 : (out.length : Int) < (out.length : Int) + 1 := by omega
  have s1 : shlI .u8 1 0 = 1 := by decide
  have s2 : bitsI .or .u8 0 1 = 1 := by decide
  simp -implicitDefEqProofs [b73x0, canon73, upd, hi, hi2, ea, hb, hb', hm, hb1, w, eq, s1, s2, RC.len, RC.size, RC.get, RC.set, RC.app, RC.ofElems]
theorem body73c (t : Nat) (l : List Int) (i : Nat) (a : Int) (out : List Int) (hi : i < l.length) (hl : l.length ≤ 100000) (ho : out.length ≤ 100000) (ea : (i : Int).tmod 8 = a) (ha : ¬ a = 0) (hb : l[i]?.getD 0 = 0) :
    ∃ st1, evC T73 KK b73x0 (canon73 t l i out) = some (.norm, st1) ∧ St.head [0, 3, 4] st1 = canon73 t l (i + 1 : Nat) out := by
  have hb' : l[i] = 0 := by rw [List.getElem?_eq_getElem hi] at hb; exact hb
  have hi2 : (i : Int) < l.length := by omega
  have w : IntKind.i64.wrap ((i : Int) + 1) = (i : Int) + 1 := i64_in _ (by omega)
  simp -implicitDefEqProofs [b73x0, canon73, upd, hi, hi2, ea, ha, hb, hb', w, RC.len, RC.size, RC.get]
theorem body73d (t : Nat) (l : List Int) (i q : Nat) (a s x y : Int) (out : List Int) (hi : i < l.length) (hl : l.length ≤ 100000) (ho : out.length ≤ 100000) (ea : (i : Int).tmod 8 = a) (ha : ¬ a = 0) (ha0 : ¬ a < 0) (hb : l[i]?.getD 0 = 1) (eq : IntKind.i64.wrap ((i : Int) / 8) = q) (hq : q < out.length) (hx : out[q]?.getD 0 = x) (es : shlI .u8 1 a = s) (ey : bitsI .or .u8 x s = y) :
    ∃ st1, evC T73 KK b73x0 (canon73 t l i out) = some (.norm, st1) ∧ St.head [0, 3, 4] st1 = canon73 t l (i + 1 : Nat) (out.set q y) := by
  have hb' : l[i] = 1 := by rw [List.getElem?_eq_getElem hi] at hb; exact hb
  have hx' : out[q] = x := by rw [List.getElem?_eq_getElem hq] at hx; exact hx
  have hi2 : (i : Int) < l.length := by omega
  have hq2 : (q : Int) < out.length := by omega
  have w : IntKind.i64.wrap ((i : Int) + 1) = (i : Int) + 1 := i64_in _ (by omega)
  simp -implicitDefEqProofs [b73x0, canon73, upd, hi, hi2, hq, hq2, ea, ha, ha0, hb, hb', hx, hx', eq, es, ey, w, RC.len, RC.size, RC.get, RC.set]
theorem end73 (t : Nat) (l : List Int) (i : Nat) (out : List Int) (hi : l.length ≤ i) :
    ∃ env, evC T73 KK b73x0 (canon73 t l i out) = some (.exit 0, ⟨env, [.ro t (.ints .i64 l)], [.rows (.ints .u8 out)]⟩) ∧ getT 3 env = .one (.row 0) := by
  have hi2 : ¬ (i : Int) < l.length := by omega
  simp -implicitDefEqProofs [b73x0, canon73, upd, hi2, RC.len]
theorem step73 (t : Nat) (l : List Int) (i N : Nat) (out : List Int) (hN : isN l) (hi : i < l.length) (hl : l.length ≤ 100000) (h : Holds out i N) :
    ∃ st1 out', evC T73 KK b73x0 (canon73 t l i out) = some (.norm, st1) ∧ St.head [0, 3, 4] st1 = canon73 t l (i + 1 : Nat) out' ∧ Holds out' (i + 1) (N + l[i].toNat * 2 ^ i) := by
  obtain ⟨hB, hlen, hval, hlt⟩ := h
  have hg : l[i]?.getD 0 = l[i] := by rw [List.getElem?_eq_getElem hi]; rfl
  have hm : (i : Int).tmod 8 = ((i % 8 : Nat) : Int) := by rw [Int.tmod_eq_emod_of_nonneg (by omega)]; omega
  have hd : IntKind.i64.wrap ((i : Int) / 8) = ((i / 8 : Nat) : Int) := by
    rw [i64_in _ (by omega)]; omega
  have hp : 2 ^ (i + 1) = 2 * 2 ^ i := by rw [Nat.pow_succ]; omega
  rcases hN l[i] (List.getElem_mem hi) with hb | hb <;> rw [hb] at hg ⊢
  · by_cases ha : i % 8 = 0
    · obtain ⟨st1, e1, e2⟩ := body73a t l i out hi hl (by omega) (by rw [hm, ha]; rfl) hg
      refine ⟨st1, _, e1, e2, ⟨?_, ?_, ?_, ?_⟩⟩
      · intro x hx
        rcases List.mem_append.1 hx with hx | hx
        · exact hB x hx
        · simp only [List.mem_cons, List.not_mem_nil, or_false] at hx
          omega
      · rw [List.length_append, List.length_cons, List.length_nil]; omega
      · rw [leB_append, hval]; simp [leB]
      · simp only [Int.toNat_zero, Nat.zero_mul]; omega
    · obtain ⟨st1, e1, e2⟩ := body73c t l i _ out hi hl (by omega) hm (by omega) hg
      refine ⟨st1, _, e1, e2, ⟨hB, by omega, ?_, ?_⟩⟩
      · rw [hval]; simp
      · simp only [Int.toNat_zero, Nat.zero_mul]; omega
  · have one : (1 : Int).toNat = 1 := rfl
    rw [one, Nat.one_mul]
    by_cases ha : i % 8 = 0
    · obtain ⟨st1, e1, e2⟩ := body73b t l i out hi hl (by omega) (by rw [hm, ha]; rfl) hg (by rw [hd]; omega)
      refine ⟨st1, _, e1, e2, ⟨?_, ?_, ?_, ?_⟩⟩
      · intro x hx
        rcases List.mem_append.1 hx with hx | hx
        · exact hB x hx
        · simp only [List.mem_cons, List.not_mem_nil, or_false] at hx
          omega
      · rw [List.length_append, List.length_cons, List.length_nil]; omega
      · rw [leB_append, hval, show 8 * out.length = i by omega]; simp [leB]
      · omega
    · obtain ⟨a, ha'⟩ : ∃ a, a = i % 8 := ⟨_, rfl⟩
      obtain ⟨q, hq⟩ : ∃ q, q = i / 8 := ⟨_, rfl⟩
      rw [← ha'] at hm ha
      rw [← hq] at hd
      have hql : q < out.length := by omega
      obtain ⟨b, hbi⟩ : ∃ b, out[q]? = some b := ⟨_, List.getElem?_eq_getElem hql⟩
      have hbr := hB b (List.mem_of_getElem? hbi)
      obtain ⟨β, rfl⟩ : ∃ β : Nat, b = β := ⟨b.toNat, by omega⟩
      have hβ := leB_at hB hbi
      rw [hval, Int.toNat_natCast] at hβ
      have hβa : β < 2 ^ a := by
        rw [← hβ]
        refine Nat.lt_of_le_of_lt (Nat.mod_le _ _) ?_
        rw [Nat.div_lt_iff_lt_mul (Nat.two_pow_pos _), ← Nat.pow_add, show a + 8 * q = i by omega]
        exact hlt
      have hp7 : 2 ^ a ≤ 2 ^ 7 := Nat.pow_le_pow_right (by omega) (by omega)
      have es : shlI .u8 1 (a : Int) = ((1 * 2 ^ a : Nat) : Int) := shl_in (k := .u8) (x := 1) rfl (by simp only [IntKind.bits]; omega) (by simp only [IntKind.bits]; omega)
      have ey : bitsI .or .u8 (β : Int) ((1 * 2 ^ a : Nat) : Int) = ((β + 1 * 2 ^ a : Nat) : Int) := or_add rfl hβa (by simp only [IntKind.bits]; omega)
      obtain ⟨st1, e1, e2⟩ := body73d t l i q a _ β _ out hi hl (by omega) hm (by omega) (by omega) hg hd hql (by rw [hbi]; rfl) es ey
      refine ⟨st1, _, e1, e2, ⟨?_, ?_, ?_, ?_⟩⟩
      · intro x hx
        rcases List.mem_or_eq_of_mem_set hx with hx | hx
        · exact hB x hx
        · subst hx
          generalize (2 : Nat) ^ a = P at hp7 hβa ⊢
          omega
      · rw [List.length_set]; omega
      · have := leB_set (d := 1 * 2 ^ a) hB hbi
        rw [hval, Nat.one_mul, ← Nat.pow_add, show a + 8 * q = i by omega] at this
        rw [← this, Nat.one_mul]
        congr 2
      · omega
theorem loop73 (t : Nat) (l : List Int) (hN : isN l) (hl : l.length ≤ 90000) : ∀ (j i : Nat) (out : List Int) (K : Nat), i + j = l.length → Holds out i (leN (l.take i)) → j < K →
    ∃ env out', loopH (evC T73 KK b73x0) [0, 3, 4] K (canon73 t l i out) = some (.exit 0, ⟨env, [.ro t (.ints .i64 l)], [.rows (.ints .u8 out')]⟩) ∧ getT 3 env = .one (.row 0) ∧ Holds out' l.length (leN l)
  | 0, i, out, K, hi, h, hK => by
    obtain rfl : i = l.length := by omega
    obtain ⟨env, e, g⟩ := end73 t l l.length out (Nat.le_refl _)
    rw [List.take_length] at h
    exact ⟨env, out, loopH_exit e, g, h⟩
  | j + 1, i, out, K, hi, h, hK => by
    have hlt : i < l.length := by omega
    obtain ⟨st1, out', e1, e2, h'⟩ := step73 t l i _ out hN hlt (by omega) h
    have hv : leN (l.take (i + 1)) = leN (l.take i) + l[i].toNat * 2 ^ i := by
      rw [← List.take_append_getElem hlt, leN_append, List.length_take, Nat.min_eq_left (by omega)]
      simp [leN, Nat.mul_comm]
    rw [← hv] at h'
    obtain ⟨env, out2, e, g, r⟩ := loop73 t l hN hl j (i + 1) out' (K - 1) (by omega) h' (by omega)
    exact ⟨env, out2, by rw [loopH_norm e1 (by omega), e2]; exact e, g, r⟩
theorem f73 (t : Nat) (l : List Int) (hN : isN l) (hl : l.length ≤ 90000) : ∃ out, F73 [.one (.ro t (.ints .i64 l))] [] = some (.one (.row 0), [.rows (.ints .u8 out)]) ∧ Holds out l.length (leN l) := by
  obtain ⟨env, out, e, g, r⟩ := loop73 t l hN hl l.length 0 [] KK (by omega) holds0 (by rw [KK_eq]; omega)
  have z : ((0 : Nat) : Int) = 0 := rfl
  simp only [canon73, z] at e
  refine ⟨out, ?_, r⟩
  simp -implicitDefEqProofs [F73, c73, upd, e, g]
end Go.X.Try
