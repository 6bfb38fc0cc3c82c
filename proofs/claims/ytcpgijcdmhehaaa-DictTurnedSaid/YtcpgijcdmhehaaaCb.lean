import Derived.Test.YtcpgijcdmhehaaaCa
set_option maxRecDepth 100000
set_option linter.unusedSimpArgs false
namespace Go.X.Try
open Go.IntWalk
def canon53 (v i : Int) (l : List Int) : St := ⟨[(0, .one (.ptr 0 0)), (3, .one (.int .u64 v)), (7, .one (.int .i64 i))], [.ptr 0 0], rHp (some 0) l false⟩
/-- There is no byte. -/
theorem body53a (v i : Int) (hi : i < 10) :
    ∃ env, evC T53 KK b53x0 (canon53 v i []) = some (.ret, ⟨env, [.ptr 0 0], rHp (some 0) [] true⟩) ∧ getT 2 env = .one (.int .u64 0) := by
  have e51 := f51s [] 1 (by simp)
  simp only [rHp, ofBytes_nil] at e51
  simp -implicitDefEqProofs [b53x0, canon53, rHp, upd, hi, e51, ofBytes_nil]
section
variable (v i b c : Int) (l : List Int) (e51 : F51 [.one (.ptr 0 0), .one (.int .i64 1)] (rHp (some 0) (b :: l) false) = some (.one (.str (ofBytes [b])), rHp (some 0) l false)) (ht : toBytes (ofBytes [b]) = [b]) (ec : IntKind.u64.wrap b = b)
include e51 ht ec
/-- A byte that may not be. -/
theorem body53b (hi : i < 10) (hbad : i = 9 ∧ 1 < b ∨ 0 < i ∧ b = 0) :
    ∃ env, evC T53 KK b53x0 (canon53 v i (b :: l)) = some (.exit 0, ⟨env, [.ptr 0 0], rHp (some 0) l false⟩) ∧ getT 0 env = .one (.ptr 0 0) := by
  simp only [rHp] at e51
  have hs := size_ofBytes [b]
  have he := emptyS [b]
  by_cases h9 : i = 9
  · subst h9
    by_cases h1 : 1 < b
    · simp -implicitDefEqProofs [b53x0, canon53, rHp, upd, e51, ht, ec, hs, he, h1]
    · have hb : b = 0 := by omega
      subst hb
      simp -implicitDefEqProofs [b53x0, canon53, rHp, upd, e51, ht, ec, hs, he]
  · have h0 : 0 < i := by omega
    have hb : b = 0 := by omega
    subst hb
    simp -implicitDefEqProofs [b53x0, canon53, rHp, upd, hi, e51, ht, ec, hs, he, h9, h0]
/-- The last byte. -/
theorem body53c (m s p v' : Int) (hi : i < 10) (hi0 : 0 ≤ i) (hok : ¬ (i = 9 ∧ 1 < b) ∧ ¬ (0 < i ∧ b = 0)) (hlt : b < 128) (em : bitsI .and .u64 b 127 = m) (es : IntKind.i64.wrap (7 * i) = s) (hs0 : ¬ s < 0) (ep : shlI .u64 m s = p) (ev : bitsI .or .u64 v p = v') :
    ∃ env, evC T53 KK b53x0 (canon53 v i (b :: l)) = some (.ret, ⟨env, [.ptr 0 0], rHp (some 0) l false⟩) ∧ getT 2 env = .one (.int .u64 v') := by
  simp only [rHp] at e51
  have hs := size_ofBytes [b]
  have he := emptyS [b]
  by_cases h9 : i = 9
  · subst h9
    have h1 : ¬ 1 < b := by omega
    have hb : ¬ b = 0 := by omega
    simp only [show (7 : Int) * 9 = 63 from rfl] at es
    simp -implicitDefEqProofs [b53x0, canon53, rHp, upd, e51, ht, ec, hs, he, h1, hb, em, es, hs0, ep, ev, hlt]
  · by_cases h0 : 0 < i
    · have hb : ¬ b = 0 := by omega
      simp -implicitDefEqProofs [b53x0, canon53, rHp, upd, hi, e51, ht, ec, hs, he, h9, h0, hb, em, es, hs0, ep, ev, hlt]
    · have hi : i = 0 := by omega
      subst hi
      simp only [Int.mul_zero] at es
      simp -implicitDefEqProofs [b53x0, canon53, rHp, upd, e51, ht, ec, hs, he, em, es, hs0, ep, ev, hlt]
/-- A byte, and more behind it. -/
theorem body53d (m s p v' i' : Int) (hi : i < 10) (hi0 : 0 ≤ i) (hok : ¬ (i = 9 ∧ 1 < b)) (hlt : 128 ≤ b) (em : bitsI .and .u64 b 127 = m) (es : IntKind.i64.wrap (7 * i) = s) (hs0 : ¬ s < 0) (ep : shlI .u64 m s = p) (ev : bitsI .or .u64 v p = v') (ei : IntKind.i64.wrap (i + 1) = i') :
    ∃ st1, evC T53 KK b53x0 (canon53 v i (b :: l)) = some (.norm, st1) ∧ St.head [0, 3, 7] st1 = canon53 v' i' l := by
  simp only [rHp] at e51
  have hs := size_ofBytes [b]
  have he := emptyS [b]
  have h9 : ¬ i = 9 := by omega
  have hb : ¬ b = 0 := by omega
  have hlt' : ¬ b < 128 := by omega
  by_cases h0 : 0 < i
  · simp -implicitDefEqProofs [b53x0, canon53, rHp, upd, hi, e51, ht, ec, hs, he, h9, h0, hb, em, es, hs0, ep, ev, ei, hlt', hlt]
  · have hi : i = 0 := by omega
    subst hi
    simp only [Int.mul_zero, Int.zero_add] at es ei
    simp -implicitDefEqProofs [b53x0, canon53, rHp, upd, e51, ht, ec, hs, he, em, es, hs0, ep, ev, ei, hlt', hlt]
end
/-- The number in groups at the beginning, and what stands behind. -/
def gdec : Nat → Nat → List Int → Option (Nat × List Int)
  | _, _, [] => none
  | i, v, b :: l => if i = 9 ∧ 1 < b ∨ 0 < i ∧ b = 0 then none else if b < 128 then some (v + b.toNat % 128 * 2 ^ (7 * i), l) else gdec (i + 1) (v + b.toNat % 128 * 2 ^ (7 * i)) l
theorem gdec_grp (l : List Int) (a : Nat) : ∀ (i v : Nat), i ≤ 9 → a * 2 ^ (7 * i) < 2 ^ 64 → (i = 0 ∨ 0 < a) → gdec i v (grp a ++ l) = some (v + a * 2 ^ (7 * i), l) := by
  induction a using Nat.strongRecOn with
  | ind a ih =>
  intro i v hi ha h0
  by_cases h : a < 128
  · rw [grp_lt h]
    simp only [List.cons_append, List.nil_append, gdec, Int.toNat_natCast]
    rw [if_neg, if_pos (by omega), Nat.mod_eq_of_lt h]
    rintro (⟨rfl, h1⟩ | ⟨h1, h2⟩)
    · omega
    · omega
  · rw [grp_ge h]
    have h9 : i ≠ 9 := by
      rintro rfl
      omega
    have hp : 2 ^ (7 * (i + 1)) = 128 * 2 ^ (7 * i) := by rw [Nat.mul_add, Nat.pow_add]; omega
    have hle : a / 128 * (128 * 2 ^ (7 * i)) ≤ a * 2 ^ (7 * i) := by
      rw [← Nat.mul_assoc]
      exact Nat.mul_le_mul_right _ (by omega)
    simp only [List.cons_append, gdec, Int.toNat_natCast]
    rw [if_neg (by omega), if_neg (by omega), ih (a / 128) (by omega) (i + 1) _ (by omega) (by rw [hp]; omega) (.inr (by omega)), hp]
    congr 2
    have e1 : (a % 128 + 128) % 128 = a % 128 := by omega
    rw [e1, ← Nat.mul_assoc, Nat.add_assoc, ← Nat.add_mul]
    congr 2
    omega
theorem and127 {b : Int} (h : 0 ≤ b ∧ b < 256) : bitsI .and .u64 b 127 = ((b.toNat % 128 : Nat) : Int) := by
  obtain ⟨n, rfl⟩ : ∃ n : Nat, b = n := ⟨b.toNat, by omega⟩
  have := mask_and (k := .u64) (x := n) (n := 7) rfl (by simp only [IntKind.bits]; omega) (by simp only [IntKind.bits]; omega)
  simpa using this
theorem loop53 : ∀ (l : List Int) (i v : Nat) (K : Nat), isB l → l.length ≤ 90000 → i ≤ 9 → v < 2 ^ (7 * i) → 12 ≤ i + K →
    match gdec i v l with
    | some (u, rest) => ∃ env, loopH (evC T53 KK b53x0) [0, 3, 7] K (canon53 v i l) = some (.ret, ⟨env, [.ptr 0 0], rHp (some 0) rest false⟩) ∧ getT 2 env = .one (.int .u64 (u : Nat))
    | none => (∃ env, loopH (evC T53 KK b53x0) [0, 3, 7] K (canon53 v i l) = some (.ret, ⟨env, [.ptr 0 0], rHp (some 0) [] true⟩) ∧ getT 2 env = .one (.int .u64 0)) ∨ (∃ env rest, loopH (evC T53 KK b53x0) [0, 3, 7] K (canon53 v i l) = some (.exit 0, ⟨env, [.ptr 0 0], rHp (some 0) rest false⟩) ∧ getT 0 env = .one (.ptr 0 0))
  | [], i, v, K, _, _, hi, _, hK => by
    simp only [gdec]
    obtain ⟨env, e, g⟩ := body53a v i (by omega)
    exact .inl ⟨env, loopH_ret e, g⟩
  | b :: l, i, v, K, hB, hl, hi, hv, hK => by
    have hb := hB b (by simp)
    have hl' : l.length ≤ 90000 := by simp only [List.length_cons] at hl; omega
    have e51 := f51 (b :: l) 1 1 rfl (by simp) (by simp only [List.length_cons] at hl ⊢; omega)
    simp only [List.take_succ_cons, List.take_zero, List.drop_succ_cons, List.drop_zero] at e51
    have ht := toBytes_ofBytes (isB_one hb)
    have ec : IntKind.u64.wrap b = b := u64_in _ (by omega)
    have es : IntKind.i64.wrap (7 * (i : Int)) = ((7 * i : Nat) : Int) := by rw [i64_in _ (by omega)]; omega
    simp only [gdec]
    by_cases hbad : i = 9 ∧ 1 < b ∨ 0 < i ∧ b = 0
    · rw [if_pos hbad]
      obtain ⟨env, e, g⟩ := body53b v i b l e51 ht ec (by omega) (by omega)
      exact .inr ⟨env, l, loopH_exit e, g⟩
    · rw [if_neg hbad]
      have hfit : v + b.toNat % 128 * 2 ^ (7 * i) < 2 ^ 64 := by
        rcases Nat.lt_or_ge i 9 with h9 | h9
        · have e1 : (b.toNat % 128 + 1) * 2 ^ (7 * i) ≤ 128 * 2 ^ (7 * i) := Nat.mul_le_mul_right _ (by omega)
          have e2 : 128 * 2 ^ (7 * i) = 2 ^ (7 * i + 7) := by rw [Nat.pow_add]; omega
          have e3 : 2 ^ (7 * i + 7) ≤ 2 ^ 64 := Nat.pow_le_pow_right (by omega) (by omega)
          rw [Nat.add_mul, Nat.one_mul] at e1
          omega
        · obtain rfl : i = 9 := by omega
          have : b.toNat ≤ 1 := by omega
          have e1 : b.toNat % 128 * 2 ^ (7 * 9) ≤ 1 * 2 ^ (7 * 9) := Nat.mul_le_mul_right _ (by omega)
          omega
      have ep : shlI .u64 ((b.toNat % 128 : Nat) : Int) ((7 * i : Nat) : Int) = ((b.toNat % 128 * 2 ^ (7 * i) : Nat) : Int) := shl_in rfl (by simp only [IntKind.bits]; omega) (by simp only [IntKind.bits]; omega)
      have ev : bitsI .or .u64 (v : Int) ((b.toNat % 128 * 2 ^ (7 * i) : Nat) : Int) = ((v + b.toNat % 128 * 2 ^ (7 * i) : Nat) : Int) := or_add rfl hv (by simp only [IntKind.bits]; exact hfit)
      by_cases hlt : b < 128
      · rw [if_pos hlt]
        obtain ⟨env, e, g⟩ := body53c v i b l e51 ht ec _ _ _ _ (by omega) (by omega) (by omega) hlt (and127 hb) es (by omega) ep ev
        exact ⟨env, loopH_ret e, g⟩
      · rw [if_neg hlt]
        have hi9 : i ≠ 9 := by omega
        have hv' : v + b.toNat % 128 * 2 ^ (7 * i) < 2 ^ (7 * (i + 1)) := by
          have e1 : (b.toNat % 128 + 1) * 2 ^ (7 * i) ≤ 128 * 2 ^ (7 * i) := Nat.mul_le_mul_right _ (by omega)
          rw [Nat.add_mul, Nat.one_mul] at e1
          rw [Nat.mul_add, Nat.pow_add]
          omega
        obtain ⟨st1, e1, e2⟩ := body53d v i b l e51 ht ec _ _ _ _ ((i + 1 : Nat) : Int) (by omega) (by omega) (by omega) (by omega) (and127 hb) es (by omega) ep ev (by rw [i64_in _ (by omega)]; omega)
        have hK2 : 1 < K := by omega
        have next := loop53 l (i + 1) (v + b.toNat % 128 * 2 ^ (7 * i)) (K - 1) hB.tail hl' (by omega) hv' (by omega)
        cases hg : gdec (i + 1) (v + b.toNat % 128 * 2 ^ (7 * i)) l with
        | none =>
          rw [hg] at next
          simp only at next ⊢
          rcases next with ⟨env, e, g⟩ | ⟨env, rest, e, g⟩
          · exact .inl ⟨env, by rw [loopH_norm e1 hK2, e2]; exact e, g⟩
          · exact .inr ⟨env, rest, by rw [loopH_norm e1 hK2, e2]; exact e, g⟩
        | some p =>
          obtain ⟨u, rest⟩ := p
          rw [hg] at next
          simp only at next ⊢
          obtain ⟨env, e, g⟩ := next
          exact ⟨env, by rw [loopH_norm e1 hK2, e2]; exact e, g⟩
/-- What a reader of groups answers, and what is left. -/
def gAns (l : List Int) : Nat × List Int × Bool := match gdec 0 0 l with
  | some (v, rest) => (v, rest, false)
  | none => (0, [], true)
theorem f53 (l : List Int) (hB : isB l) (hl : l.length ≤ 90000) : F53 [.one (.ptr 0 0)] (rHp (some 0) l false) = some (.one (.int .u64 (gAns l).1), rHp (some 0) (gAns l).2.1 (gAns l).2.2) := by
  have h := loop53 l 0 0 KK hB hl (by omega) (by simp) (by rw [KK_eq]; omega)
  have z : ((0 : Nat) : Int) = 0 := rfl
  unfold gAns
  cases hg : gdec 0 0 l with
  | none =>
    rw [hg] at h
    simp only [canon53, rHp, z] at h ⊢
    rcases h with ⟨env, e, g⟩ | ⟨env, rest, e, g⟩
    · simp -implicitDefEqProofs [F53, c53, upd, e, g, ofBytes_nil]
    · have e79 := f79 rest false
      simp only [rHp] at e79
      simp -implicitDefEqProofs [F53, c53, upd, e, g, e79, ofBytes_nil]
  | some p =>
    obtain ⟨u, rest⟩ := p
    rw [hg] at h
    simp only [canon53, rHp, z] at h ⊢
    obtain ⟨env, e, g⟩ := h
    simp -implicitDefEqProofs [F53, c53, upd, e, g]
theorem f53b (l : List Int) : F53 [.one (.ptr 0 0)] (rHp (some 0) l true) = some (.one (.int .u64 0), rHp (some 0) [] true) := by
  have e51 := f51b l 1
  have body : ∃ env, evC T53 KK b53x0 ⟨[(0, .one (.ptr 0 0)), (3, .one (.int .u64 0)), (7, .one (.int .i64 0))], [.ptr 0 0], rHp (some 0) l true⟩ = some (.ret, ⟨env, [.ptr 0 0], rHp (some 0) [] true⟩) ∧ getT 2 env = .one (.int .u64 0) := by
    simp only [rHp, ofBytes_nil] at e51 ⊢
    simp -implicitDefEqProofs [b53x0, upd, e51]
  obtain ⟨env, e, g⟩ := body
  have e' := loopH_ret (live := [0, 3, 7]) (k := KK) e
  simp only [rHp] at e' ⊢
  simp -implicitDefEqProofs [F53, c53, upd, e', g]
theorem f53n : F53 [.one .nilp] [] = some (.one (.int .u64 0), []) := by
  have e51 := f51n 1
  have body : ∃ env, evC T53 KK b53x0 ⟨[(0, .one .nilp), (3, .one (.int .u64 0)), (7, .one (.int .i64 0))], [.nilp], []⟩ = some (.ret, ⟨env, [.nilp], []⟩) ∧ getT 2 env = .one (.int .u64 0) := by
    simp -implicitDefEqProofs [b53x0, upd, e51]
  obtain ⟨env, e, g⟩ := body
  have e' := loopH_ret (live := [0, 3, 7]) (k := KK) e
  simp -implicitDefEqProofs [F53, c53, upd, e', g]
end Go.X.Try
