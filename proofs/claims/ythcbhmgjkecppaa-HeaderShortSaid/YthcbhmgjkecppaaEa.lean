import Derived.Test.YthcbhmgjkecppaaB1
import Derived.Test.YthcbhmgjkecppaaAw
set_option maxRecDepth 100000
set_option linter.unusedSimpArgs false
namespace Go.X.Try
open Go.IntWalk
def bufHp (g : Option Nat) (bs : List Int) (n : Int) : List Ob := [.cells g [.row 1, .int .i64 n], .rows (.ints .u8 bs)]
theorem f97a (n : Int) (h : 0 ≤ n ∧ n ≤ 32) : F97 [.one (.int .i64 n)] [] = some (.one (.bool true), []) := by
  obtain ⟨h1, h2⟩ := h
  simp -implicitDefEqProofs [F97, c97, h1, h2]
theorem f97b (n : Int) (h : n < 0 ∨ 32 < n) : F97 [.one (.int .i64 n)] [] = some (.one (.bool false), []) := by
  by_cases h1 : 0 ≤ n
  · have h2 : ¬ n ≤ 32 := by omega
    simp -implicitDefEqProofs [F97, c97, h1, h2]
  · simp -implicitDefEqProofs [F97, c97, h1]
theorem f48 (t : Nat) (bs : List Int) (h : bs.length ≤ 100000) : F48 [.one (.ro t (.ints .u8 bs))] [] = some (.one (.ptr 0 0), bufHp none bs 0) := by
  have hm : bs.length ≤ 140737488355328 := by omega
  simp -implicitDefEqProofs [F48, c48, bufHp, hm, RC.len, RC.size, RC.app]
theorem f53n : F53 [.one .nilp] [] = some (.one (.int .i64 0), []) := by
  simp -implicitDefEqProofs [F53, c53]
theorem f53 (bs : List Int) (at_ : Nat) (h : bs.length ≤ 100000) (ha : at_ ≤ 8 * bs.length) : F53 [.one (.ptr 0 0)] (bufHp (some 0) bs at_) = some (.one (.int .i64 (8 * bs.length - at_ : Nat)), bufHp (some 0) bs at_) := by
  have w1 : IntKind.i64.wrap (8 * (bs.length : Int)) = 8 * bs.length := i64_in _ (by omega)
  have w2 : IntKind.i64.wrap (8 * (bs.length : Int) - at_) = ((8 * bs.length - at_ : Nat) : Int) := by rw [i64_in _ (by omega)]; omega
  simp -implicitDefEqProofs [F53, c53, bufHp, RC.len, w1, w2]
def canon75 (n v got : Int) (bs : List Int) (at_ : Int) : St :=
  ⟨[(0, .one (.ptr 0 0)), (1, .one (.int .i64 n)), (6, .one (.int .u32 v)), (7, .one (.int .i64 got))], [.ptr 0 0, .int .i64 n], bufHp (some 0) bs at_⟩
theorem body75 (n v got at_ : Int) (bs : List Int) (a m e k i β s1 q mk p r v' got' at' : Int) (c : k = if e < m then e else m) (hgn : got < n)
    (ea : bitsI .and .i64 at_ 7 = a) (em : IntKind.i64.wrap (n - got) = m) (ee : IntKind.i64.wrap (8 - a) = e) (ei : shrI .i64 at_ 3 = i) (hi : i < bs.length) (hi0 : 0 ≤ i) (hβ : bs[i.toNat]?.getD 0 = β) (ha0 : ¬ a < 0) (hk0 : ¬ k < 0) (hg0 : ¬ got < 0)
    (es : shrI .u8 β a = s1) (ec : IntKind.u32.wrap s1 = s1) (eq : shlI .u32 1 k = q) (emk : IntKind.u32.wrap (q - 1) = mk) (ep : bitsI .and .u32 s1 mk = p) (er : shlI .u32 p got = r) (ev : bitsI .or .u32 v r = v') (eg : IntKind.i64.wrap (got + k) = got') (eat : IntKind.i64.wrap (at_ + k) = at') :
    ∃ st1, evC T75 KK b75x0 (canon75 n v got bs at_) = some (.norm, st1) ∧ St.head [0, 1, 6, 7] st1 = canon75 n v' got' bs at' := by
  have hβ' : bs[i.toNat]'(by omega) = β := by rw [List.getElem?_eq_getElem (by omega)] at hβ; exact hβ
  by_cases hc : e < m
  · rw [if_pos hc] at c
    subst c
    simp -implicitDefEqProofs [b75x0, canon75, bufHp, upd, hgn, ea, em, ee, ei, hi, hi0, hβ, hβ', ha0, hk0, hg0, hc, es, ec, eq, emk, ep, er, ev, eg, eat, RC.len, RC.size, RC.get]
  · rw [if_neg hc] at c
    subst c
    simp -implicitDefEqProofs [b75x0, canon75, bufHp, upd, hgn, ea, em, ee, ei, hi, hi0, hβ, hβ', ha0, hk0, hg0, hc, es, ec, eq, emk, ep, er, ev, eg, eat, RC.len, RC.size, RC.get]
theorem end75 (n v got at_ : Int) (bs : List Int) (hgn : ¬ got < n) :
    ∃ env, evC T75 KK b75x0 (canon75 n v got bs at_) = some (.exit 0, ⟨env, [.ptr 0 0, .int .i64 n], bufHp (some 0) bs at_⟩) ∧ getT 6 env = .one (.int .u32 v) := by
  simp -implicitDefEqProofs [b75x0, canon75, upd, hgn]
/-- The bits of a byte, and those below. -/
theorem take_step {N at0 got k β a i : Nat} (hat : at0 + got = 8 * i + a) (hak : a + k ≤ 8) (hβ : N / 2 ^ (8 * i) % 256 = β) : N / 2 ^ at0 % 2 ^ got + β / 2 ^ a % 2 ^ k * 2 ^ got = N / 2 ^ at0 % 2 ^ (got + k) := by
  rw [mod_more, Nat.div_div_eq_div_mul, ← Nat.pow_add, hat, ← byte_bits hak, hβ]
theorem loop75 (n : Nat) (bs : List Int) (at0 : Nat) (hb : isB bs) (hn : n ≤ 32) (hle : at0 + n ≤ 8 * bs.length) (hl : bs.length ≤ 100000) : ∀ (j got : Nat) (K : Nat), got + j = n → j < K →
    ∃ env, loopH (evC T75 KK b75x0) [0, 1, 6, 7] K (canon75 n ((leB bs / 2 ^ at0 % 2 ^ got : Nat) : Int) got bs (at0 + got : Nat)) = some (.exit 0, ⟨env, [.ptr 0 0, .int .i64 n], bufHp (some 0) bs (at0 + n : Nat)⟩) ∧ getT 6 env = .one (.int .u32 ((leB bs / 2 ^ at0 % 2 ^ n : Nat) : Int)) := by
  intro j
  induction j using Nat.strongRecOn with
  | ind j ih =>
  intro got K hj hK
  by_cases hlt : got < n
  · obtain ⟨a, ha⟩ : ∃ a, a = (at0 + got) % 8 := ⟨_, rfl⟩
    obtain ⟨i, hi⟩ : ∃ i, i = (at0 + got) / 8 := ⟨_, rfl⟩
    obtain ⟨k, hk⟩ : ∃ k, k = if 8 - a < n - got then 8 - a else n - got := ⟨_, rfl⟩
    have hat : at0 + got = 8 * i + a := by omega
    have hk1 : 0 < k ∧ a + k ≤ 8 ∧ got + k ≤ n := by subst hk; split <;> omega
    have hib : i < bs.length := by omega
    obtain ⟨b, hbi⟩ : ∃ b, bs[i]? = some b := ⟨_, List.getElem?_eq_getElem hib⟩
    have hbr := hb b (List.mem_of_getElem? hbi)
    obtain ⟨β, rfl⟩ : ∃ β : Nat, b = β := ⟨b.toNat, by omega⟩
    have hβ := leB_at hb hbi
    simp only [Int.toNat_natCast] at hβ
    have hv : leB bs / 2 ^ at0 % 2 ^ got < 2 ^ got := Nat.mod_lt _ (Nat.two_pow_pos got)
    have hstep := take_step (N := leB bs) (k := k) hat hk1.2.1 hβ
    have hlim : leB bs / 2 ^ at0 % 2 ^ (got + k) < 2 ^ 32 := Nat.lt_of_lt_of_le (Nat.mod_lt _ (Nat.two_pow_pos _)) (Nat.pow_le_pow_right (by omega) (by omega))
    have hs1 : β / 2 ^ a < 256 := Nat.lt_of_le_of_lt (Nat.div_le_self _ _) (by omega)
    have hpk : (2 : Nat) ^ k ≤ 2 ^ 8 := Nat.pow_le_pow_right (by omega) (by omega)
    have hp0 := Nat.two_pow_pos k
    have hr0 : leB bs / 2 ^ at0 % 2 ^ got + β / 2 ^ a % 2 ^ k * 2 ^ got < 2 ^ 32 := by rw [hstep]; exact hlim
    have hr : β / 2 ^ a % 2 ^ k * 2 ^ got < 2 ^ 32 := Nat.lt_of_le_of_lt (Nat.le_add_left _ _) hr0
    have eq1 : shlI .u32 1 (k : Int) = ((2 ^ k : Nat) : Int) := by
      have := shl_in (k := .u32) (x := 1) (n := k) rfl (by simp only [IntKind.bits]; omega) (by simp only [IntKind.bits]; omega)
      rw [Nat.one_mul] at this
      exact this
    have emk : IntKind.u32.wrap (((2 ^ k : Nat) : Int) - 1) = ((2 ^ k - 1 : Nat) : Int) := by
      generalize (2 : Nat) ^ k = P at hpk hp0 ⊢
      rw [u32_in _ (by omega)]; omega
    have ec : IntKind.u32.wrap ((β / 2 ^ a : Nat) : Int) = ((β / 2 ^ a : Nat) : Int) := by
      generalize β / 2 ^ a = s1 at hs1 ⊢
      exact u32_in _ (by omega)
    obtain ⟨st1, e1, e2⟩ := body75 n ((leB bs / 2 ^ at0 % 2 ^ got : Nat) : Int) got (at0 + got : Nat) bs a (n - got : Nat) (8 - a : Nat) k i β (β / 2 ^ a : Nat) (2 ^ k : Nat) (2 ^ k - 1 : Nat) (β / 2 ^ a % 2 ^ k : Nat) (β / 2 ^ a % 2 ^ k * 2 ^ got : Nat) ((leB bs / 2 ^ at0 % 2 ^ (got + k) : Nat) : Int) (got + k : Nat) (at0 + (got + k) : Nat)
      (by rw [hk]; by_cases c : 8 - a < n - got
          · rw [if_pos c, if_pos (by omega)]
          · rw [if_neg c, if_neg (by omega)])
      (by omega) (by rw [and7_i64 (by omega), ← ha]) (by rw [i64_in _ (by omega)]; omega) (by rw [i64_in _ (by omega)]; omega)
      (by rw [show (3 : Int) = ((3 : Nat) : Int) from rfl, shr_in (by simp only [IntKind.bits]; omega), show (2 : Nat) ^ 3 = 8 from rfl, ← hi]) (by omega) (by omega) (by rw [Int.toNat_natCast, hbi]; rfl) (by omega) (by omega) (by omega)
      (shr_in (by simp only [IntKind.bits]; omega)) ec eq1 emk
      (mask_and rfl (by simp only [IntKind.bits]; omega) (by simp only [IntKind.bits]; omega)) (shl_in rfl (by simp only [IntKind.bits]; omega) (by simp only [IntKind.bits]; exact hr))
      (by rw [← hstep]; exact or_add rfl hv (by simp only [IntKind.bits]; exact hr0)) (by rw [i64_in _ (by omega)]; omega) (by rw [i64_in _ (by omega)]; omega)
    obtain ⟨env, e, g⟩ := ih (j - k) (by omega) (got + k) (K - 1) (by omega) (by omega)
    exact ⟨env, by rw [loopH_norm e1 (by omega), e2]; exact e, g⟩
  · obtain rfl : got = n := by omega
    obtain ⟨env, e, g⟩ := end75 got ((leB bs / 2 ^ at0 % 2 ^ got : Nat) : Int) got (at0 + got : Nat) bs (by omega)
    exact ⟨env, loopH_exit e, g⟩
def tup2 (v : Int) (ok : Bool) : AV := .tup [.one (.int .u32 v), .one (.bool ok)]
theorem f75n (n : Int) : F75 [.one .nilp, .one (.int .i64 n)] [] = some (tup2 0 false, []) := by
  simp -implicitDefEqProofs [F75, c75, upd, tup2]
theorem f75a (bs : List Int) (at_ : Nat) (n : Int) (h : n < 0 ∨ 32 < n) : F75 [.one (.ptr 0 0), .one (.int .i64 n)] (bufHp (some 0) bs at_) = some (tup2 0 false, bufHp (some 0) bs at_) := by
  have e97 := f97b n h
  simp -implicitDefEqProofs [F75, c75, upd, tup2, bufHp, e97]
theorem f75b (bs : List Int) (at_ : Nat) (n : Int) (h : 0 ≤ n ∧ n ≤ 32) (hl : bs.length ≤ 100000) (ha : at_ ≤ 8 * bs.length) (hn : (8 * bs.length - at_ : Nat) < n) : F75 [.one (.ptr 0 0), .one (.int .i64 n)] (bufHp (some 0) bs at_) = some (tup2 0 false, bufHp (some 0) bs at_) := by
  have e97 := f97a n h
  have e53 := f53 bs at_ hl ha
  simp only [bufHp] at e53
  generalize ((8 * bs.length - at_ : Nat) : Int) = q at *
  simp -implicitDefEqProofs [F75, c75, upd, tup2, bufHp, e97, e53, hn]
theorem f75 (bs : List Int) (at_ n : Nat) (hb : isB bs) (h : n ≤ 32) (hl : bs.length ≤ 100000) (hn : at_ + n ≤ 8 * bs.length) : F75 [.one (.ptr 0 0), .one (.int .i64 n)] (bufHp (some 0) bs at_) = some (tup2 ((leB bs / 2 ^ at_ % 2 ^ n : Nat) : Int) true, bufHp (some 0) bs (at_ + n : Nat)) := by
  have e97 := f97a (n : Int) (by omega)
  have e53 := f53 bs at_ hl (by omega)
  obtain ⟨env, e, g⟩ := loop75 n bs at_ hb h hn hl n 0 KK (by omega) (by rw [KK_eq]; omega)
  have z : ((0 : Nat) : Int) = 0 := rfl
  have hq : ¬ ((8 * bs.length - at_ : Nat) : Int) < (n : Int) := by omega
  simp only [canon75, bufHp, Nat.pow_zero, Nat.mod_one, z, Nat.add_zero] at e e53
  generalize ((8 * bs.length - at_ : Nat) : Int) = q at *
  generalize ((leB bs / 2 ^ at_ % 2 ^ n : Nat) : Int) = v at *
  generalize ((at_ + n : Nat) : Int) = at' at *
  simp -implicitDefEqProofs [F75, c75, upd, tup2, bufHp, e97, e53, hq, e, g]
end Go.X.Try
