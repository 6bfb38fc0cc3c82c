import Derived.Test.YthcbhmgjkecppaaEb
set_option maxRecDepth 100000
set_option linter.unusedSimpArgs false
namespace Go.X.Try
open Go.IntWalk
def canon67 (v0 n0 v n : Int) (bs : List Int) (c : Int) : St :=
  ⟨[(0, .one (.ptr 0 0)), (1, .one (.int .u32 v)), (2, .one (.int .i64 n))], [.ptr 0 0, .int .u32 v0, .int .i64 n0], bufHp (some 0) bs c⟩
theorem body67z (v0 n0 v n c e k q mk p r y v' c' n' : Int) (bs : List Int) (hn : 0 < n) (hk : k = if e < n then e else n) (hk0 : ¬ k < 0) (hm : bs.length + 1 ≤ 100000)
    (ea : bitsI .and .i64 c 7 = 0) (ee : IntKind.i64.wrap 8 = e) (eq : shlI .u32 1 k = q) (emk : IntKind.u32.wrap (q - 1) = mk) (ep : bitsI .and .u32 v mk = p) (epc : IntKind.u8.wrap p = p) (er : shlI .u8 p 0 = r) (ey : bitsI .or .u8 0 r = y)
    (ev : shrI .u32 v k = v') (ec : IntKind.i64.wrap (c + k) = c') (en : IntKind.i64.wrap (n - k) = n') :
    ∃ st1, evC T67 KK b67x0 (canon67 v0 n0 v n bs c) = some (.norm, st1) ∧ St.head [0, 1, 2] st1 = canon67 v0 n0 v' n' (bs ++ [y]) c' := by
  have hm' : bs.length + 1 ≤ 140737488355328 := by omega
  have w : IntKind.i64.wrap (bs.length : Int) = bs.length := i64_in _ (by omega)
  have hb1 : (bs.length : Int) < (bs.length : Int) + 1 := by omega
  by_cases hc : e < n
  · rw [if_pos hc] at hk
    subst hk
    simp -implicitDefEqProofs [b67x0, canon67, bufHp, upd, hn, hc, hk0, hm', hb1, ea, ee, eq, emk, ep, epc, er, ey, ev, ec, en, w, RC.len, RC.size, RC.get, RC.set, RC.app, RC.ofElems]
  · rw [if_neg hc] at hk
    subst hk
    have en0 : IntKind.i64.wrap 0 = n' := by rw [← en]; congr 1; omega
    simp -implicitDefEqProofs [b67x0, canon67, bufHp, upd, hn, hc, hk0, hm', hb1, ea, ee, eq, emk, ep, epc, er, ey, ev, ec, en, en0, w, RC.len, RC.size, RC.get, RC.set, RC.app, RC.ofElems]
theorem body67s (v0 n0 v n c a e k q mk p r x y v' c' n' : Int) (i : Nat) (bs : List Int) (hn : 0 < n) (hk : k = if e < n then e else n) (hk0 : ¬ k < 0) (ha : ¬ a = 0) (ha0 : ¬ a < 0) (hi : i < bs.length) (hx : bs[i]?.getD 0 = x)
    (ea : bitsI .and .i64 c 7 = a) (ee : IntKind.i64.wrap (8 - a) = e) (ei : IntKind.i64.wrap ((bs.length : Int) - 1) = i) (eq : shlI .u32 1 k = q) (emk : IntKind.u32.wrap (q - 1) = mk) (ep : bitsI .and .u32 v mk = p) (epc : IntKind.u8.wrap p = p) (er : shlI .u8 p a = r) (ey : bitsI .or .u8 x r = y)
    (ev : shrI .u32 v k = v') (ec : IntKind.i64.wrap (c + k) = c') (en : IntKind.i64.wrap (n - k) = n') :
    ∃ st1, evC T67 KK b67x0 (canon67 v0 n0 v n bs c) = some (.norm, st1) ∧ St.head [0, 1, 2] st1 = canon67 v0 n0 v' n' (bs.set i y) c' := by
  have hx' : bs[i] = x := by rw [List.getElem?_eq_getElem hi] at hx; exact hx
  have hi2 : (i : Int) < bs.length := by omega
  by_cases hc : e < n
  · rw [if_pos hc] at hk
    subst hk
    simp -implicitDefEqProofs [b67x0, canon67, bufHp, upd, hn, hc, hk0, ha, ha0, hi, hi2, hx, hx', ea, ee, ei, eq, emk, ep, epc, er, ey, ev, ec, en, RC.len, RC.size, RC.get, RC.set, RC.app, RC.ofElems]
  · rw [if_neg hc] at hk
    subst hk
    have en0 : IntKind.i64.wrap 0 = n' := by rw [← en]; congr 1; omega
    simp -implicitDefEqProofs [b67x0, canon67, bufHp, upd, hn, hc, hk0, ha, ha0, hi, hi2, hx, hx', ea, ee, ei, eq, emk, ep, epc, er, ey, ev, ec, en, en0, RC.len, RC.size, RC.get, RC.set, RC.app, RC.ofElems]
theorem end67 (v0 n0 v n c : Int) (bs : List Int) (hn : ¬ 0 < n) :
    ∃ env, evC T67 KK b67x0 (canon67 v0 n0 v n bs c) = some (.exit 0, ⟨env, [.ptr 0 0, .int .u32 v0, .int .i64 n0], bufHp (some 0) bs c⟩) := by
  simp -implicitDefEqProofs [b67x0, canon67, upd, hn]
/-- What a writer holds: c bits, the number N. -/
structure Holds (bs : List Int) (c N : Nat) : Prop where
  isB : isB bs
  len : bs.length = (c + 7) / 8
  val : leB bs = N
  lt : N < 2 ^ c
theorem u8_mask {v k : Nat} (hk : k ≤ 8) : v % 2 ^ k < 256 := by
  have e1 : v % 2 ^ k < 2 ^ k := Nat.mod_lt _ (Nat.two_pow_pos k)
  have e2 : 2 ^ k ≤ 2 ^ 8 := Nat.pow_le_pow_right (n := 2) (by omega) hk
  omega
theorem shl1_u32 {k : Nat} (hk : k ≤ 8) : shlI .u32 1 (k : Int) = ((2 ^ k : Nat) : Int) := by
  have hpk : (2 : Nat) ^ k ≤ 2 ^ 8 := Nat.pow_le_pow_right (by omega) (by omega)
  have := shl_in (k := .u32) (x := 1) (n := k) rfl (by simp only [IntKind.bits]; omega) (by simp only [IntKind.bits]; omega)
  rw [Nat.one_mul] at this
  exact this
theorem mask_u32 {k : Nat} (hk : k ≤ 8) : IntKind.u32.wrap (((2 ^ k : Nat) : Int) - 1) = ((2 ^ k - 1 : Nat) : Int) := by
  have hpk : (2 : Nat) ^ k ≤ 2 ^ 8 := Nat.pow_le_pow_right (by omega) (by omega)
  have hp0 := Nat.two_pow_pos k
  generalize (2 : Nat) ^ k = P at hpk hp0 ⊢
  rw [u32_in _ (by omega)]; omega
theorem step67 (v0 n0 : Int) (v n c N : Nat) (bs : List Int) (h : Holds bs c N) (hn : 0 < n) (hn2 : n ≤ 32) (hv : v < 2 ^ 32) (hc : c ≤ 700000) :
    ∃ st1 bs' k, evC T67 KK b67x0 (canon67 v0 n0 v n bs c) = some (.norm, st1) ∧ St.head [0, 1, 2] st1 = canon67 v0 n0 (v / 2 ^ k : Nat) (n - k : Nat) bs' (c + k : Nat) ∧ Holds bs' (c + k) (N + v % 2 ^ k * 2 ^ c) ∧ 0 < k ∧ k ≤ n := by
  obtain ⟨hB, hlen, hval, hlt⟩ := h
  obtain ⟨a, ha⟩ : ∃ a, a = c % 8 := ⟨_, rfl⟩
  obtain ⟨k, hk⟩ : ∃ k, k = if 8 - a < n then 8 - a else n := ⟨_, rfl⟩
  have hk1 : 0 < k ∧ a + k ≤ 8 ∧ k ≤ n := by subst hk; split <;> omega
  have hkI : (k : Int) = if ((8 - a : Nat) : Int) < (n : Int) then ((8 - a : Nat) : Int) else n := by
    rw [hk]
    by_cases d : 8 - a < n
    · rw [if_pos d, if_pos (by omega)]
    · rw [if_neg d, if_neg (by omega)]
  have hp : v % 2 ^ k < 256 := u8_mask (by omega)
  have hpk : v % 2 ^ k < 2 ^ k := Nat.mod_lt _ (Nat.two_pow_pos k)
  have ea : bitsI .and .i64 (c : Int) 7 = (a : Int) := by rw [and7_i64 (by omega), ← ha]
  have ee : IntKind.i64.wrap (8 - (a : Int)) = ((8 - a : Nat) : Int) := by rw [i64_in _ (by omega)]; omega
  have ep := mask_and (k := .u32) (x := v) (n := k) rfl (by simp only [IntKind.bits]; omega) (by simp only [IntKind.bits]; omega)
  have epc : IntKind.u8.wrap ((v % 2 ^ k : Nat) : Int) = ((v % 2 ^ k : Nat) : Int) := by
    generalize v % 2 ^ k = p at hp ⊢
    exact u8_in _ (by omega)
  have ev : shrI .u32 (v : Int) (k : Int) = ((v / 2 ^ k : Nat) : Int) := shr_in (by simp only [IntKind.bits]; omega)
  have ec : IntKind.i64.wrap ((c : Int) + k) = ((c + k : Nat) : Int) := by rw [i64_in _ (by omega)]; omega
  have en : IntKind.i64.wrap ((n : Int) - k) = ((n - k : Nat) : Int) := by rw [i64_in _ (by omega)]; omega
  have hpa : v % 2 ^ k * 2 ^ a < 256 := by
    have e1 : v % 2 ^ k * 2 ^ a < 2 ^ k * 2 ^ a := Nat.mul_lt_mul_of_pos_right hpk (Nat.two_pow_pos a)
    rw [← Nat.pow_add] at e1
    have e2 : 2 ^ (k + a) ≤ 2 ^ 8 := Nat.pow_le_pow_right (n := 2) (by omega) (by omega)
    omega
  have hlt' : N + v % 2 ^ k * 2 ^ c < 2 ^ (c + k) := by
    have e1 : (v % 2 ^ k + 1) * 2 ^ c ≤ 2 ^ k * 2 ^ c := Nat.mul_le_mul_right _ hpk
    rw [← Nat.pow_add, Nat.add_mul, Nat.one_mul, Nat.add_comm k c] at e1
    omega
  have er : shlI .u8 ((v % 2 ^ k : Nat) : Int) (a : Int) = ((v % 2 ^ k * 2 ^ a : Nat) : Int) := shl_in rfl (by simp only [IntKind.bits]; omega) (by simp only [IntKind.bits]; exact hpa)
  by_cases h0 : a = 0
  · subst h0
    have ey : bitsI .or .u8 0 ((v % 2 ^ k * 2 ^ 0 : Nat) : Int) = ((v % 2 ^ k * 2 ^ 0 : Nat) : Int) := by
      have := or_add (k := .u8) (x := 0) (y := v % 2 ^ k) (n := 0) rfl (by omega) (by simp only [IntKind.bits]; rw [Nat.zero_add]; exact hpa)
      rw [Nat.zero_add] at this
      exact this
    have ee0 : IntKind.i64.wrap 8 = ((8 - 0 : Nat) : Int) := by rw [i64_in _ (by omega)]; rfl
    obtain ⟨st1, e1, e2⟩ := body67z v0 n0 v n c (8 - 0 : Nat) k (2 ^ k : Nat) (2 ^ k - 1 : Nat) (v % 2 ^ k : Nat) (v % 2 ^ k * 2 ^ 0 : Nat) (v % 2 ^ k * 2 ^ 0 : Nat) (v / 2 ^ k : Nat) (c + k : Nat) (n - k : Nat) bs (by omega) hkI (by omega) (by omega) ea ee0 (shl1_u32 (by omega)) (mask_u32 (by omega)) ep epc er ey ev ec en
    refine ⟨st1, _, k, e1, e2, ⟨?_, ?_, ?_, hlt'⟩, hk1.1, hk1.2.2⟩
    · intro x hx
      rcases List.mem_append.1 hx with hx | hx
      · exact hB x hx
      · simp only [List.mem_cons, List.not_mem_nil, or_false] at hx
        subst hx
        rw [Nat.pow_zero, Nat.mul_one]
        generalize v % 2 ^ k = p at hp ⊢
        omega
    · rw [List.length_append, List.length_cons, List.length_nil]; omega
    · rw [leB_append, hval, show 8 * bs.length = c by omega]
      simp only [leB, Int.toNat_natCast, Nat.pow_zero, Nat.mul_one, Nat.mul_zero, Nat.add_zero]
      rw [Nat.mul_comm]
  · obtain ⟨i, hi⟩ : ∃ i, i = c / 8 := ⟨_, rfl⟩
    have hca : c = 8 * i + a := by omega
    have hil : i < bs.length := by omega
    obtain ⟨b, hbi⟩ : ∃ b, bs[i]? = some b := ⟨_, List.getElem?_eq_getElem hil⟩
    have hbr := hB b (List.mem_of_getElem? hbi)
    obtain ⟨β, rfl⟩ : ∃ β : Nat, b = β := ⟨b.toNat, by omega⟩
    have hβ := leB_at hB hbi
    rw [hval, Int.toNat_natCast] at hβ
    have hβa : β < 2 ^ a := by
      rw [← hβ]
      refine Nat.lt_of_le_of_lt (Nat.mod_le _ _) ?_
      rw [Nat.div_lt_iff_lt_mul (Nat.two_pow_pos _), ← Nat.pow_add, show a + 8 * i = c by omega]
      exact hlt
    have hy : β + v % 2 ^ k * 2 ^ a < 256 := by
      have e1 : (v % 2 ^ k + 1) * 2 ^ a ≤ 2 ^ k * 2 ^ a := Nat.mul_le_mul_right _ hpk
      have e2 : 2 ^ (k + a) ≤ 2 ^ 8 := Nat.pow_le_pow_right (n := 2) (by omega) (by omega)
      rw [← Nat.pow_add, Nat.add_mul, Nat.one_mul] at e1
      omega
    have ey : bitsI .or .u8 (β : Int) ((v % 2 ^ k * 2 ^ a : Nat) : Int) = ((β + v % 2 ^ k * 2 ^ a : Nat) : Int) := or_add rfl hβa (by simp only [IntKind.bits]; exact hy)
    obtain ⟨st1, e1, e2⟩ := body67s v0 n0 v n c a (8 - a : Nat) k (2 ^ k : Nat) (2 ^ k - 1 : Nat) (v % 2 ^ k : Nat) (v % 2 ^ k * 2 ^ a : Nat) β (β + v % 2 ^ k * 2 ^ a : Nat) (v / 2 ^ k : Nat) (c + k : Nat) (n - k : Nat) i bs (by omega) hkI (by omega) (by omega) (by omega) hil (by rw [hbi]; rfl) ea ee (by rw [i64_in _ (by omega)]; omega) (shl1_u32 (by omega)) (mask_u32 (by omega)) ep epc er ey ev ec en
    refine ⟨st1, _, k, e1, e2, ⟨?_, ?_, ?_, hlt'⟩, hk1.1, hk1.2.2⟩
    · intro x hx
      rcases List.mem_or_eq_of_mem_set hx with hx | hx
      · exact hB x hx
      · subst hx
        generalize β + v % 2 ^ k * 2 ^ a = y at hy ⊢
        omega
    · rw [List.length_set]; omega
    · have := leB_set (d := v % 2 ^ k * 2 ^ a) hB hbi
      rw [hval, Nat.mul_assoc, ← Nat.pow_add, show a + 8 * i = c by omega] at this
      rw [← this]
      congr 2
theorem loop67 (v0 n0 : Int) : ∀ (n v c N : Nat) (bs : List Int) (K : Nat), Holds bs c N → n ≤ 32 → v < 2 ^ 32 → c + n ≤ 700000 → n < K →
    ∃ env bs', loopH (evC T67 KK b67x0) [0, 1, 2] K (canon67 v0 n0 v n bs c) = some (.exit 0, ⟨env, [.ptr 0 0, .int .u32 v0, .int .i64 n0], bufHp (some 0) bs' (c + n : Nat)⟩) ∧ Holds bs' (c + n) (N + v % 2 ^ n * 2 ^ c) := by
  intro n
  induction n using Nat.strongRecOn with
  | ind n ih =>
  intro v c N bs K h hn hv hc hK
  by_cases h0 : 0 < n
  · obtain ⟨st1, bs', k, e1, e2, h', hk0, hkn⟩ := step67 v0 n0 v n c N bs h h0 hn hv (by omega)
    obtain ⟨env, bs2, e, h2⟩ := ih (n - k) (by omega) (v / 2 ^ k) (c + k) _ bs' (K - 1) h' (by omega) (Nat.lt_of_le_of_lt (Nat.div_le_self _ _) hv) (by omega) (by omega)
    rw [show c + k + (n - k) = c + n by omega] at e h2
    refine ⟨env, bs2, by rw [loopH_norm e1 (by omega), e2]; exact e, ?_⟩
    have hm := mod_more v k (n - k)
    rw [show k + (n - k) = n by omega] at hm
    rw [hm, Nat.add_mul, Nat.mul_assoc, ← Nat.pow_add, show k + c = c + k by omega, ← Nat.add_assoc]
    exact h2
  · obtain rfl : n = 0 := by omega
    obtain ⟨env, e⟩ := end67 v0 n0 v (0 : Nat) c bs (by omega)
    refine ⟨env, bs, loopH_exit e, ?_⟩
    rw [Nat.pow_zero, Nat.mod_one, Nat.zero_mul]
    exact h
theorem f67a (v n c : Int) (bs : List Int) (h : n < 0 ∨ 32 < n) : F67 [.one (.ptr 0 0), .one (.int .u32 v), .one (.int .i64 n)] (bufHp (some 0) bs c) = some (.one (.bool false), bufHp (some 0) bs c) := by
  have e97 := f97b n h
  simp -implicitDefEqProofs [F67, c67, upd, bufHp, e97]
theorem f67 (v n c N : Nat) (bs : List Int) (h : Holds bs c N) (hn : n ≤ 32) (hv : v < 2 ^ 32) (hc : c + n ≤ 700000) :
    ∃ bs', F67 [.one (.ptr 0 0), .one (.int .u32 v), .one (.int .i64 n)] (bufHp (some 0) bs c) = some (.one (.bool true), bufHp (some 0) bs' (c + n : Nat)) ∧ Holds bs' (c + n) (N + v % 2 ^ n * 2 ^ c) := by
  have e97 := f97a (n : Int) (by omega)
  obtain ⟨env, bs', e, h'⟩ := loop67 v n n v c N bs KK h hn hv hc (by rw [KK_eq]; omega)
  refine ⟨bs', ?_, h'⟩
  simp only [canon67, bufHp] at e
  generalize ((c + n : Nat) : Int) = c' at *
  simp -implicitDefEqProofs [F67, c67, upd, bufHp, e97, e]
theorem f72 (bs : List Int) (c : Int) (h : bs.length ≤ 100000) : F72 [.one (.ptr 0 0)] (bufHp (some 0) bs c) = some (.one (.row 2), bufHp (some 0) bs c ++ [.rows (.ints .u8 bs)]) := by
  have hm : bs.length ≤ 140737488355328 := by omega
  simp -implicitDefEqProofs [F72, c72, upd, bufHp, hm, RC.len, RC.size, RC.app]
theorem f69 (bs : List Int) (c : Int) : F69 [.one (.ptr 0 0)] (bufHp (some 0) bs c) = some (.one (.int .i64 c), bufHp (some 0) bs c) := by
  simp -implicitDefEqProofs [F69, c69, upd, bufHp]
end Go.X.Try
