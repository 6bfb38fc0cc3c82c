import Derived.Test.YtejcknhmobnbeaaEg
import Derived.Test.YtejcknhmobnbeaaW2
set_option maxRecDepth 100000
set_option linter.unusedSimpArgs false
namespace Go.X.Try
open Go.IntWalk
theorem f30n : F30 [.one .nilp] [] = some (.one (.int .i64 0), []) := by
  simp -implicitDefEqProofs [F30, c30, upd]
theorem f30 (bs : List Int) (n : Int) : F30 [.one (.ptr 0 0)] (bufHp (some 0) bs n) = some (.one (.int .i64 n), bufHp (some 0) bs n) := by
  simp -implicitDefEqProofs [F30, c30, upd, bufHp]
theorem f66 (bs : List Int) (n at_ i a s w b : Int) (ei : shrI .i64 at_ 3 = i) (hi0 : 0 ≤ i) (hi : i < bs.length) (hb : bs[i.toNat]?.getD 0 = b) (ea : bitsI .and .i64 at_ 7 = a) (ha : ¬ a < 0) (es : shrI .u8 b a = s) (ec : IntKind.u32.wrap s = s) (ew : bitsI .and .u32 s 1 = w) :
    F66 [.one (.ptr 0 0), .one (.int .i64 at_)] (bufHp (some 0) bs n) = some (.one (.int .u32 w), bufHp (some 0) bs n) := by
  have hb' : bs[i.toNat]'(by omega) = b := by rw [List.getElem?_eq_getElem (by omega)] at hb; exact hb
  simp -implicitDefEqProofs [F66, c66, upd, bufHp, ei, hi0, hi, hb, hb', ea, ha, es, ec, ew, RC.len, RC.size, RC.get]
theorem bit66 (bs : List Int) (n : Int) (at_ : Nat) (hB : isB bs) (hl : bs.length ≤ 100000) (h : at_ < 8 * bs.length) : F66 [.one (.ptr 0 0), .one (.int .i64 at_)] (bufHp (some 0) bs n) = some (.one (.int .u32 ((leB bs / 2 ^ at_ % 2 : Nat) : Int)), bufHp (some 0) bs n) := by
  obtain ⟨a, ha⟩ : ∃ a, a = at_ % 8 := ⟨_, rfl⟩
  obtain ⟨i, hi⟩ : ∃ i, i = at_ / 8 := ⟨_, rfl⟩
  have hib : i < bs.length := by omega
  obtain ⟨b, hbi⟩ : ∃ b, bs[i]? = some b := ⟨_, List.getElem?_eq_getElem hib⟩
  have hbr := hB b (List.mem_of_getElem? hbi)
  obtain ⟨β, rfl⟩ : ∃ β : Nat, b = β := ⟨b.toNat, by omega⟩
  have hβ := leB_at hB hbi
  rw [Int.toNat_natCast] at hβ
  have hs1 : β / 2 ^ a < 256 := Nat.lt_of_le_of_lt (Nat.div_le_self _ _) (by omega)
  have ec : IntKind.u32.wrap ((β / 2 ^ a : Nat) : Int) = ((β / 2 ^ a : Nat) : Int) := by
    generalize β / 2 ^ a = s1 at hs1 ⊢
    exact u32_in _ (by omega)
  have hv : β / 2 ^ a % 2 = leB bs / 2 ^ at_ % 2 := by
    have := byte_bits (N := leB bs) (i := i) (a := a) (k := 1) (by omega)
    rw [hβ, show 8 * i + a = at_ by omega] at this
    exact this
  have ew : bitsI .and .u32 ((β / 2 ^ a : Nat) : Int) 1 = ((leB bs / 2 ^ at_ % 2 : Nat) : Int) := by
    rw [← hv]
    exact mask_and (k := .u32) (n := 1) rfl (by simp only [IntKind.bits]; omega) (by simp only [IntKind.bits]; omega)
  exact f66 bs n at_ i a _ _ β (by rw [show (3 : Int) = ((3 : Nat) : Int) from rfl, shr_in (by simp only [IntKind.bits]; omega), show (2 : Nat) ^ 3 = 8 from rfl, ← hi]) (by omega) (by omega) (by rw [Int.toNat_natCast, hbi]; rfl) (by rw [and7_i64 (by omega), ← ha]) (by omega) (shr_in (by simp only [IntKind.bits]; omega)) ec ew
def canon32 (n0 v i : Int) (bs : List Int) (n : Int) : St :=
  ⟨[(0, .one (.ptr 0 0)), (6, .one (.int .u32 v)), (25, .one (.int .i64 n0)), (26, .one (.int .i64 i))], [.ptr 0 0, .int .i64 n0], bufHp (some 0) bs n⟩
theorem body32 (n0 v i n n' w s v' i' : Int) (bs : List Int) (hi : i < n0) (en : IntKind.i64.wrap (n - 1) = n') (es : shlI .u32 v 1 = s) (ev : bitsI .or .u32 s w = v') (ei : IntKind.i64.wrap (i + 1) = i')
    (e66 : F66 [.one (.ptr 0 0), .one (.int .i64 n')] (bufHp (some 0) bs n') = some (.one (.int .u32 w), bufHp (some 0) bs n')) :
    ∃ st1, evC T32 KK b32x0 (canon32 n0 v i bs n) = some (.norm, st1) ∧ St.head [0, 6, 25, 26] st1 = canon32 n0 v' i' bs n' := by
  simp only [bufHp] at e66
  simp -implicitDefEqProofs [b32x0, canon32, bufHp, upd, hi, en, es, ev, ei, e66]
theorem end32 (n0 v i n : Int) (bs : List Int) (hi : ¬ i < n0) :
    ∃ env, evC T32 KK b32x0 (canon32 n0 v i bs n) = some (.exit 0, ⟨env, [.ptr 0 0, .int .i64 n0], bufHp (some 0) bs n⟩) ∧ getT 6 env = .one (.int .u32 v) := by
  simp -implicitDefEqProofs [b32x0, canon32, upd, hi]
theorem loop32 (bs : List Int) (n0 m : Nat) (hB : isB bs) (hl : bs.length ≤ 100000) (hm : m ≤ 8 * bs.length) (hn : n0 ≤ 32) (hnm : n0 ≤ m) : ∀ (j i : Nat) (K : Nat), i + j = n0 → j < K →
    ∃ env, loopH (evC T32 KK b32x0) [0, 6, 25, 26] K (canon32 n0 (leB bs / 2 ^ (m - i) % 2 ^ i : Nat) i bs (m - i : Nat)) = some (.exit 0, ⟨env, [.ptr 0 0, .int .i64 n0], bufHp (some 0) bs (m - n0 : Nat)⟩) ∧ getT 6 env = .one (.int .u32 (leB bs / 2 ^ (m - n0) % 2 ^ n0 : Nat))
  | 0, i, K, hi, hK => by
    obtain rfl : i = n0 := by omega
    obtain ⟨env, e, g⟩ := end32 i (leB bs / 2 ^ (m - i) % 2 ^ i : Nat) i (m - i : Nat) bs (by omega)
    exact ⟨env, loopH_exit e, g⟩
  | j + 1, i, K, hi, hK => by
    have hv : leB bs / 2 ^ (m - i) % 2 ^ i < 2 ^ i := Nat.mod_lt _ (Nat.two_pow_pos i)
    have hp : 2 ^ i ≤ 2 ^ 31 := Nat.pow_le_pow_right (by omega) (by omega)
    have hstep : leB bs / 2 ^ (m - (i + 1)) % 2 ^ (i + 1) = leB bs / 2 ^ (m - (i + 1)) % 2 + leB bs / 2 ^ (m - i) % 2 ^ i * 2 := by
      have := mod_more (leB bs / 2 ^ (m - (i + 1))) 1 i
      rw [Nat.add_comm 1 i, Nat.div_div_eq_div_mul, ← Nat.pow_add, show m - (i + 1) + 1 = m - i by omega, Nat.pow_one] at this
      exact this
    have hbit : leB bs / 2 ^ (m - (i + 1)) % 2 < 2 ^ 1 := Nat.mod_lt _ (by omega)
    have e66 := bit66 bs ((m - (i + 1) : Nat) : Int) (m - (i + 1)) hB hl (by omega)
    generalize hV : leB bs / 2 ^ (m - i) % 2 ^ i = V at *
    generalize hW : leB bs / 2 ^ (m - (i + 1)) % 2 = Wb at *
    have es : shlI .u32 (V : Int) 1 = ((V * 2 : Nat) : Int) := by
      have := shl_in (k := .u32) (x := V) (n := 1) rfl (by simp only [IntKind.bits]; omega) (by simp only [IntKind.bits]; omega)
      simpa using this
    have ev : bitsI .or .u32 ((V * 2 : Nat) : Int) (Wb : Int) = ((Wb + V * 2 : Nat) : Int) := by
      have h1 := bitsI_or (k := .u32) (x := V * 2) (y := Wb) rfl (by simp only [IntKind.bits]; omega) (by simp only [IntKind.bits]; omega)
      have h2 := Nat.shiftLeft_add_eq_or_of_lt hbit V
      rw [Nat.shiftLeft_eq, Nat.pow_one] at h2
      rw [h1, ← h2, Nat.add_comm]
    obtain ⟨st1, e1, e2⟩ := body32 n0 V i (m - i : Nat) (m - (i + 1) : Nat) Wb (V * 2 : Nat) (Wb + V * 2 : Nat) (i + 1 : Nat) bs (by omega) (by rw [i64_in _ (by omega)]; omega) es ev (by rw [i64_in _ (by omega)]; omega) e66
    obtain ⟨env, e, g⟩ := loop32 bs n0 m hB hl hm hn hnm j (i + 1) (K - 1) (by omega) (by omega)
    refine ⟨env, ?_, g⟩
    rw [loopH_norm e1 (by omega), e2, ← hstep]
    exact e
def tup2 (v : Int) (ok : Bool) : AV := .tup [.one (.int .u32 v), .one (.bool ok)]
theorem f32n (n : Int) : F32 [.one .nilp, .one (.int .i64 n)] [] = some (tup2 0 false, []) := by
  simp -implicitDefEqProofs [F32, c32, upd, tup2]
theorem f32a (bs : List Int) (m n : Int) (h : n < 0 ∨ 32 < n ∨ m < n) : F32 [.one (.ptr 0 0), .one (.int .i64 n)] (bufHp (some 0) bs m) = some (tup2 0 false, bufHp (some 0) bs m) := by
  by_cases h1 : n < 0
  · simp -implicitDefEqProofs [F32, c32, upd, tup2, bufHp, h1]
  · by_cases h2 : 32 < n
    · simp -implicitDefEqProofs [F32, c32, upd, tup2, bufHp, h1, h2]
    · have h3 : m < n := by omega
      simp -implicitDefEqProofs [F32, c32, upd, tup2, bufHp, h1, h2, h3]
theorem f32 (bs : List Int) (m n : Nat) (hB : isB bs) (hl : bs.length ≤ 100000) (hm : m ≤ 8 * bs.length) (hn : n ≤ 32) (hnm : n ≤ m) : F32 [.one (.ptr 0 0), .one (.int .i64 n)] (bufHp (some 0) bs m) = some (tup2 (leB bs / 2 ^ (m - n) % 2 ^ n : Nat) true, bufHp (some 0) bs (m - n : Nat)) := by
  obtain ⟨env, e, g⟩ := loop32 bs n m hB hl hm hn hnm n 0 KK (by omega) (by rw [KK_eq]; omega)
  have z : ((0 : Nat) : Int) = 0 := rfl
  have h1 : ¬ (n : Int) < 0 := by omega
  have h2 : ¬ (32 : Int) < n := by omega
  have h2' : ¬ 32 < n := by omega
  have h3 : ¬ (m : Int) < n := by omega
  have h3' : ¬ m < n := by omega
  simp only [canon32, bufHp, Nat.pow_zero, Nat.mod_one, Nat.sub_zero, z] at e
  generalize ((leB bs / 2 ^ (m - n) % 2 ^ n : Nat) : Int) = v at *
  generalize ((m - n : Nat) : Int) = m' at *
  simp -implicitDefEqProofs [F32, c32, upd, tup2, bufHp, h1, h2, h2', hn, h3, h3', e, g]
theorem f28z (t : Nat) (bs : List Int) (h : bs = [] ∨ bs.getLast? = some 0) (hl : bs.length ≤ 100000) : F28 [.one (.ro t (.ints .u8 bs))] [] = some (.tup [.one .nilp, .one (.bool false)], []) := by
  by_cases h0 : bs = []
  · subst h0
    simp -implicitDefEqProofs [F28, c28, upd, RC.len]
  · have hp : 0 < bs.length := List.length_pos_iff.2 h0
    have hlast : bs.getLast? = some 0 := h.resolve_left h0
    rw [List.getLast?_eq_getElem?] at hlast
    have w : IntKind.i64.wrap ((bs.length : Int) - 1) = ((bs.length - 1 : Nat) : Int) := by rw [i64_in _ (by omega)]; omega
    have hi : ((bs.length - 1 : Nat) : Int) < bs.length := by omega
    have hi2 : bs.length - 1 < bs.length := by omega
    have hb : bs[bs.length - 1]?.getD 0 = 0 := by rw [hlast]; rfl
    have hb' : bs[bs.length - 1] = 0 := by rw [List.getElem?_eq_getElem hi2] at hb; exact hb
    have hn : ¬ ((bs.length : Int) = 0) := by omega
    simp -implicitDefEqProofs [F28, c28, upd, h0, hn, w, hi, hi2, hb, hb', RC.len, RC.size, RC.get]
theorem f28 (t : Nat) (bs : List Int) (b : Int) (hB : isB bs) (h : bs.getLast? = some b) (hb0 : b ≠ 0) (hl : bs.length ≤ 100000) : F28 [.one (.ro t (.ints .u8 bs))] [] = some (.tup [.one (.ptr 0 0), .one (.bool true)], bufHp none bs (8 * (bs.length - 1) + (bl b.toNat - 1) : Nat)) := by
  have h0 : bs ≠ [] := by rintro rfl; simp at h
  have hp : 0 < bs.length := List.length_pos_iff.2 h0
  rw [List.getLast?_eq_getElem?] at h
  have hbr := hB b (List.mem_of_getElem? h)
  have w : IntKind.i64.wrap ((bs.length : Int) - 1) = ((bs.length - 1 : Nat) : Int) := by rw [i64_in _ (by omega)]; omega
  have hi : ((bs.length - 1 : Nat) : Int) < bs.length := by omega
  have hi2 : bs.length - 1 < bs.length := by omega
  have hb : bs[bs.length - 1]?.getD 0 = b := by rw [h]; rfl
  have hb' : bs[bs.length - 1] = b := by rw [List.getElem?_eq_getElem hi2] at hb; exact hb
  have hn : ¬ ((bs.length : Int) = 0) := by omega
  have wb : IntKind.u32.wrap b = b := u32_in _ (by omega)
  have e60 := e60 b hbr.1 (by omega)
  obtain ⟨h1, h2, h3⟩ := bl_pos (n := b.toNat) (by omega)
  have hbl := bl_le (n := b.toNat) (k := 8) (by omega)
  have wt : IntKind.i64.wrap ((bl b.toNat : Int) - 1) = ((bl b.toNat - 1 : Nat) : Int) := by rw [i64_in _ (by omega)]; omega
  have w8 : IntKind.i64.wrap (8 * ((bs.length - 1 : Nat) : Int)) = ((8 * (bs.length - 1) : Nat) : Int) := by rw [i64_in _ (by omega)]; omega
  have ws : IntKind.i64.wrap (((8 * (bs.length - 1) : Nat) : Int) + ((bl b.toNat - 1 : Nat) : Int)) = ((8 * (bs.length - 1) + (bl b.toNat - 1) : Nat) : Int) := by rw [i64_in _ (by omega)]; omega
  have hm : bs.length ≤ 140737488355328 := by omega
  generalize ((8 * (bs.length - 1) + (bl b.toNat - 1) : Nat) : Int) = q at *
  generalize ((8 * (bs.length - 1) : Nat) : Int) = q1 at *
  generalize ((bl b.toNat - 1 : Nat) : Int) = q2 at *
  simp -implicitDefEqProofs [F28, c28, upd, bufHp, h0, hn, w, hi, hi2, hb, hb', hb0, wb, e60, wt, w8, ws, hm, RC.len, RC.size, RC.get, RC.app]
end Go.X.Try
