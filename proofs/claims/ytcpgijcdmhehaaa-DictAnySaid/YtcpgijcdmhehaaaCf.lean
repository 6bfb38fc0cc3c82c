import Derived.Test.YtcpgijcdmhehaaaCd
set_option maxRecDepth 100000
set_option linter.unusedSimpArgs false
namespace Go.X.Try
open Go.IntWalk
/-! ### the document's reading of groups -/
theorem gdec_inv : ∀ (l : List Int) (i v u : Nat) (r : List Int), isB l → i ≤ 9 → gdec i v l = some (u, r) → ∃ a, l = grp a ++ r ∧ u = v + a * 2 ^ (7 * i) ∧ (i = 0 ∨ 0 < a)
  | [], _, _, _, _, _, _, h => by simp [gdec] at h
  | b :: l, i, v, u, r, hB, hi, h => by
    have hb := hB b (by simp)
    simp only [gdec] at h
    by_cases hbad : i = 9 ∧ 1 < b ∨ 0 < i ∧ b = 0
    · rw [if_pos hbad] at h; cases h
    · rw [if_neg hbad] at h
      by_cases hlt : b < 128
      · rw [if_pos hlt] at h
        simp only [Option.some.injEq, Prod.mk.injEq] at h
        refine ⟨b.toNat, ?_, ?_, by omega⟩
        · rw [grp_lt (by omega), ← h.2]
          have : ((b.toNat : Nat) : Int) = b := by omega
          rw [this]; rfl
        · rw [← h.1, Nat.mod_eq_of_lt (by omega)]
      · rw [if_neg hlt] at h
        obtain ⟨a, hl, hu, ha⟩ := gdec_inv l (i + 1) _ u r hB.tail (by omega) h
        have ha' : 0 < a := by omega
        refine ⟨b.toNat % 128 + 128 * a, ?_, ?_, .inr (by omega)⟩
        · rw [grp_ge (by omega), hl]
          have e1 : (b.toNat % 128 + 128 * a) / 128 = a := by omega
          have e2 : (((b.toNat % 128 + 128 * a) % 128 + 128 : Nat) : Int) = b := by omega
          rw [e1, e2]; rfl
        · have hp : 2 ^ (7 * (i + 1)) = 128 * 2 ^ (7 * i) := by rw [Nat.mul_add, Nat.pow_add]; omega
          rw [hu, hp, Nat.add_mul, Nat.mul_comm 128 a, Nat.mul_assoc, Nat.add_assoc]
/-- How many bytes at the beginning are of 128 and more. -/
def lead : List Int → Nat
  | [] => 0
  | b :: l => if 128 ≤ b then lead l + 1 else 0
theorem lead_le : ∀ l : List Int, lead l ≤ l.length
  | [] => Nat.le_refl _
  | b :: l => by
    have := lead_le l
    simp only [lead, List.length_cons]; split <;> omega
theorem lead_ge : ∀ (l : List Int) (i : Nat), i < lead l → ∃ b, l[i]? = some b ∧ 128 ≤ b
  | [], i, h => by simp [lead] at h
  | b :: l, i, h => by
    simp only [lead] at h
    split at h
    · rename_i hb
      cases i with
      | zero => exact ⟨b, rfl, hb⟩
      | succ i => simpa using lead_ge l i (by omega)
    · omega
theorem lead_at : ∀ l : List Int, lead l < l.length → ∃ b, l[lead l]? = some b ∧ b < 128
  | [], h => by simp at h
  | b :: l, h => by
    simp only [lead] at h ⊢
    split
    · rename_i hb
      rw [if_pos hb] at h
      simpa using lead_at l (by simpa using h)
    · exact ⟨b, rfl, by omega⟩
theorem lead_grp (l : List Int) (a : Nat) : lead (grp a ++ l) + 1 = (grp a).length := by
  induction a using Nat.strongRecOn with
  | ind a ih =>
  by_cases h : a < 128
  · rw [grp_lt h]
    simp only [List.cons_append, List.nil_append, lead]
    rw [if_neg (by omega)]; rfl
  · rw [grp_ge h]
    simp only [List.cons_append, lead, List.length_cons]
    rw [if_pos (by omega), ih (a / 128) (by omega)]
theorem grp_at (a : Nat) : ∀ (i : Nat) (b : Int), (grp a)[i]? = some b → b.toNat % 128 = a / 128 ^ i % 128 ∧ a / 128 ^ (grp a).length = 0 := by
  induction a using Nat.strongRecOn with
  | ind a ih =>
  intro i b hb
  by_cases h : a < 128
  · rw [grp_lt h] at hb ⊢
    cases i with
    | zero =>
      simp only [List.getElem?_cons_zero, Option.some.injEq] at hb
      subst hb
      simp only [List.length_cons, List.length_nil]
      omega
    | succ i => simp at hb
  · rw [grp_ge h] at hb ⊢
    have hlast : ∃ b', (grp (a / 128))[0]? = some b' := by
      have := grp_pos (a / 128)
      exact ⟨_, List.getElem?_eq_getElem (by omega)⟩
    obtain ⟨b', hb'⟩ := hlast
    have h0 := (ih (a / 128) (by omega) 0 b' hb').2
    have hlen : a / 128 ^ ((grp (a / 128)).length + 1) = 0 := by
      rw [Nat.pow_succ, Nat.mul_comm, ← Nat.div_div_eq_div_mul]
      exact h0
    cases i with
    | zero =>
      simp only [List.getElem?_cons_zero, Option.some.injEq] at hb
      subst hb
      exact ⟨by simp only [Nat.pow_zero, Nat.div_one]; omega, hlen⟩
    | succ i =>
      simp only [List.getElem?_cons_succ] at hb
      have := (ih (a / 128) (by omega) i b hb).1
      refine ⟨?_, hlen⟩
      rw [this, Nat.pow_succ, Nat.mul_comm, Nat.div_div_eq_div_mul]
def canon58a (l : List Int) (n : Int) : St := ⟨[(0, .one (.str (ofBytes l))), (4, .one (.int .i64 n))], [.str (ofBytes l)], []⟩
theorem body58a (l : List Int) (n : Nat) (b : Int) (hl : l.length ≤ 90000) (ht : toBytes (ofBytes l) = l) (hn : n < l.length) (hb : l[n]?.getD 0 = b) (hge : 128 ≤ b) :
    ∃ st1, evC T58 KK b58x0 (canon58a l n) = some (.norm, st1) ∧ St.head [0, 4] st1 = canon58a l (n + 1 : Nat) := by
  have hb' : l[n] = b := by rw [List.getElem?_eq_getElem hn] at hb; exact hb
  have hn2 : (n : Int) < l.length := by omega
  have w : IntKind.i64.wrap ((n : Int) + 1) = (n : Int) + 1 := i64_in _ (by omega)
  have e3 := size_ofBytes l
  simp -implicitDefEqProofs [b58x0, canon58a, upd, ht, hn, hn2, hb, hb', hge, w, e3]
theorem end58a (l : List Int) (n : Nat) (b : Int) (ht : toBytes (ofBytes l) = l) (h : l.length ≤ n ∨ n < l.length ∧ l[n]?.getD 0 = b ∧ b < 128) :
    ∃ env, evC T58 KK b58x0 (canon58a l n) = some (.exit 0, ⟨env, [.str (ofBytes l)], []⟩) ∧ getT 0 env = .one (.str (ofBytes l)) ∧ getT 4 env = .one (.int .i64 n) := by
  have e3 := size_ofBytes l
  rcases h with h | ⟨hn, hb, hlt⟩
  · have hn2 : ¬ (n : Int) < l.length := by omega
    simp -implicitDefEqProofs [b58x0, canon58a, upd, hn2, e3]
  · have hb' : l[n] = b := by rw [List.getElem?_eq_getElem hn] at hb; exact hb
    have hn2 : (n : Int) < l.length := by omega
    have hge : ¬ 128 ≤ b := by omega
    simp -implicitDefEqProofs [b58x0, canon58a, upd, ht, hn, hn2, hb, hb', hge, e3]
theorem loop58a (l : List Int) (hB : isB l) (hl : l.length ≤ 90000) : ∀ (j n K : Nat), n + j = lead l → j < K →
    ∃ env, loopH (evC T58 KK b58x0) [0, 4] K (canon58a l n) = some (.exit 0, ⟨env, [.str (ofBytes l)], []⟩) ∧ getT 0 env = .one (.str (ofBytes l)) ∧ getT 4 env = .one (.int .i64 (lead l : Nat))
  | 0, n, K, hn, hK => by
    obtain rfl : n = lead l := by omega
    have hle := lead_le l
    by_cases hlt : lead l < l.length
    · obtain ⟨b, hb, hb2⟩ := lead_at l hlt
      obtain ⟨env, e, g⟩ := end58a l (lead l) b (toBytes_ofBytes hB) (.inr ⟨hlt, by rw [hb]; rfl, hb2⟩)
      exact ⟨env, loopH_exit e, g⟩
    · obtain ⟨env, e, g⟩ := end58a l (lead l) 0 (toBytes_ofBytes hB) (.inl (by omega))
      exact ⟨env, loopH_exit e, g⟩
  | j + 1, n, K, hn, hK => by
    have hle := lead_le l
    obtain ⟨b, hb, hb2⟩ := lead_ge l n (by omega)
    obtain ⟨st1, e1, e2⟩ := body58a l n b hl (toBytes_ofBytes hB) (by omega) (by rw [hb]; rfl) hb2
    obtain ⟨env, e, g⟩ := loop58a l hB hl j (n + 1) (K - 1) (by omega) (by omega)
    exact ⟨env, by rw [loopH_norm e1 (by omega), e2]; exact e, g⟩
def canon58b (l : List Int) (n v i : Int) : St := ⟨[(0, .one (.str (ofBytes l))), (4, .one (.int .i64 n)), (5, .one (.int .u64 v)), (6, .one (.int .i64 i))], [.str (ofBytes l)], []⟩
theorem body58b (l : List Int) (n v v' i' b r p : Int) (i : Nat) (ht : toBytes (ofBytes l) = l) (hi : i < l.length) (hb : l[i]?.getD 0 = b) (hv : ¬ 144115188075855871 < v) (em : IntKind.u64.wrap (v * 128) = p) (er : b.tmod 128 = r) (ew : IntKind.u64.wrap r = r) (ev : IntKind.u64.wrap (p + r) = v') (ei : IntKind.i64.wrap ((i : Int) - 1) = i') :
    ∃ st1, evC T58 KK b58x1 (canon58b l n v i) = some (.norm, st1) ∧ St.head [0, 4, 5, 6] st1 = canon58b l n v' i' := by
  have hb' : l[i] = b := by rw [List.getElem?_eq_getElem hi] at hb; exact hb
  have hi2 : (i : Int) < l.length := by omega
  have hi0 : (0 : Int) ≤ i := by omega
  have e3 := size_ofBytes l
  simp -implicitDefEqProofs [b58x1, canon58b, upd, ht, hi, hi2, hi0, hb, hb', hv, em, er, ew, ev, ei, e3]
theorem over40b (l : List Int) (n v : Int) (i : Nat) (hv : 144115188075855871 < v) :
    ∃ env, evC T58 KK b58x1 (canon58b l n v i) = some (.ret, ⟨env, [.str (ofBytes l)], []⟩) ∧ getT 2 env = .one (.int .u64 0) ∧ getT 3 env = .one (.int .i64 0) := by
  have hi0 : (0 : Int) ≤ i := by omega
  simp -implicitDefEqProofs [b58x1, canon58b, upd, hi0, hv]
theorem end58b (l : List Int) (n v i : Int) (hi : i < 0) :
    ∃ env, evC T58 KK b58x1 (canon58b l n v i) = some (.exit 2, ⟨env, [.str (ofBytes l)], []⟩) ∧ getT 0 env = .one (.str (ofBytes l)) ∧ getT 4 env = .one (.int .i64 n) ∧ getT 5 env = .one (.int .u64 v) := by
  have h : ¬ 0 ≤ i := by omega
  simp -implicitDefEqProofs [b58x1, canon58b, upd, h]
/-- The number of the first j bytes less of what stands above them in v; or it is too great. -/
theorem loop58b (l : List Int) (n : Int) (hB : isB l) (hl : l.length ≤ 90000) : ∀ (j v K : Nat), j ≤ l.length → v < 2 ^ 64 → j < K →
    (∃ env u, loopH (evC T58 KK b58x1) [0, 4, 5, 6] K (canon58b l n v ((j : Int) - 1)) = some (.exit 2, ⟨env, [.str (ofBytes l)], []⟩) ∧ getT 0 env = .one (.str (ofBytes l)) ∧ getT 4 env = .one (.int .i64 n) ∧ getT 5 env = .one (.int .u64 (u : Nat)) ∧ u < 2 ^ 64 ∧ (∀ a, a / 128 ^ j = v → (∀ i b, i < j → l[i]? = some b → b.toNat % 128 = a / 128 ^ i % 128) → u = a)) ∨
    (∃ env, loopH (evC T58 KK b58x1) [0, 4, 5, 6] K (canon58b l n v ((j : Int) - 1)) = some (.ret, ⟨env, [.str (ofBytes l)], []⟩) ∧ getT 2 env = .one (.int .u64 0) ∧ getT 3 env = .one (.int .i64 0) ∧ (∀ a, a < 2 ^ 64 → a / 128 ^ j = v → ¬ (∀ i b, i < j → l[i]? = some b → b.toNat % 128 = a / 128 ^ i % 128)))
  | 0, v, K, hj, hv, hK => by
    obtain ⟨env, e, g0, g4, g5⟩ := end58b l n v (((0 : Nat) : Int) - 1) (by omega)
    refine .inl ⟨env, v, loopH_exit e, g0, g4, g5, hv, fun a ha _ => ?_⟩
    rw [← ha, Nat.pow_zero, Nat.div_one]
  | j + 1, v, K, hj, hv, hK => by
    have hc : ((j + 1 : Nat) : Int) - 1 = (j : Int) := by omega
    rw [hc]
    have hlt : j < l.length := by omega
    have hb := hB l[j] (List.getElem_mem hlt)
    have hg : l[j]?.getD 0 = l[j] := by rw [List.getElem?_eq_getElem hlt]; rfl
    have hsome : l[j]? = some l[j] := List.getElem?_eq_getElem hlt
    by_cases ho : 144115188075855871 < v
    · obtain ⟨env, e, g2, g3⟩ := over40b l n v j (by omega)
      refine .inr ⟨env, loopH_ret e, g2, g3, fun a ha hav _ => ?_⟩
      have h1 : a / 128 ^ (j + 1) ≤ a / 128 := Nat.div_le_div_left (by rw [Nat.pow_succ]; have := Nat.pow_le_pow_right (n := 128) (by omega) (Nat.zero_le j); omega) (by omega)
      omega
    · obtain ⟨st1, e1, e2⟩ := body58b l n v (v * 128 + l[j].toNat % 128 : Nat) ((j : Int) - 1) l[j] (l[j].toNat % 128 : Nat) (v * 128 : Nat) j (toBytes_ofBytes hB) hlt hg (by omega) (by rw [u64_in _ (by omega)]; omega) (by rw [Int.tmod_eq_emod_of_nonneg hb.1]; omega) (u64_in _ (by omega)) (by rw [u64_in _ (by omega)]; omega) (by rw [i64_in _ (by omega)])
      have hstep : ∀ a, a / 128 ^ (j + 1) = v → (∀ i b, i < j + 1 → l[i]? = some b → b.toNat % 128 = a / 128 ^ i % 128) → a / 128 ^ j = v * 128 + l[j].toNat % 128 := fun a ha hbs => by
        have h1 := hbs j l[j] (by omega) hsome
        rw [Nat.pow_succ, ← Nat.div_div_eq_div_mul] at ha
        omega
      rcases loop58b l n hB hl j (v * 128 + l[j].toNat % 128) (K - 1) (by omega) (by omega) (by omega) with ⟨env, u, e, g0, g4, g5, hu, hspec⟩ | ⟨env, e, g2, g3, hspec⟩
      · exact .inl ⟨env, u, by rw [loopH_norm e1 (by omega), e2]; exact e, g0, g4, g5, hu, fun a ha hbs => hspec a (hstep a ha hbs) fun i b hi hib => hbs i b (by omega) hib⟩
      · exact .inr ⟨env, by rw [loopH_norm e1 (by omega), e2]; exact e, g2, g3, fun a ha hav hbs => hspec a ha (hstep a hav hbs) fun i b hi hib => hbs i b (by omega) hib⟩
def tupF (v n : Int) : AV := .tup [.one (.int .u64 v), .one (.int .i64 n)]
theorem f40_some (l : List Int) (u : Nat) (r : List Int) (hB : isB l) (hl : l.length ≤ 80000) (h : l = grp u ++ r) (hu : u < 2 ^ 64) : F58 [.one (.str (ofBytes l))] [] = some (tupF u (grp u).length, []) := by
  have h10 := grp_ten hu
  have hpos := grp_pos u
  have hlead : lead l + 1 = (grp u).length := by rw [h]; exact lead_grp r u
  have hlen : l.length = (grp u).length + r.length := by rw [h, List.length_append]
  obtain ⟨env, e, g0, g4⟩ := loop58a l hB (by omega) (lead l) 0 KK (by omega) (by rw [KK_eq]; omega)
  have hbytes : ∀ i b, i < lead l + 1 → l[i]? = some b → b.toNat % 128 = u / 128 ^ i % 128 := fun i b hi hb => by
    rw [h, List.getElem?_append_left (by omega)] at hb
    exact (grp_at u i b hb).1
  have hzero : u / 128 ^ (lead l + 1) = 0 := by
    obtain ⟨b, hb⟩ : ∃ b, (grp u)[0]? = some b := ⟨_, List.getElem?_eq_getElem (by omega)⟩
    rw [hlead]
    exact (grp_at u 0 b hb).2
  rcases loop58b l (lead l : Nat) hB (by omega) (lead l + 1) 0 KK (by omega) (by omega) (by rw [KK_eq]; omega) with ⟨env2, u', e2, k0, k4, k5, hu', hspec⟩ | ⟨env2, e2, k2, k3, hspec⟩
  · have huu := hspec u hzero hbytes
    subst huu
    have e80 := f80 u' hu
    have z : ((0 : Nat) : Int) = 0 := rfl
    have hc : ((lead l + 1 : Nat) : Int) - 1 = (lead l : Int) := by omega
    have e3 := size_ofBytes l
    have n1 : ¬ ((lead l : Int) = (l.length : Int)) := by omega
    have n2 : ¬ ((9 : Int) < (lead l : Int)) := by omega
    have n2' : ¬ (9 < lead l) := by omega
    have n1' : ¬ (lead l = l.length) := by omega
    have w : IntKind.i64.wrap ((lead l : Int) + 1) = ((grp u').length : Int) := by rw [i64_in _ (by omega)]; omega
    have hle : ((grp u').length : Int) ≤ (l.length : Int) := by omega
    have hle' : (grp u').length ≤ l.length := by omega
    have ex := ofBytes_extract l 0 (grp u').length
    have htake : (l.drop 0).take ((grp u').length - 0) = grp u' := by rw [List.drop_zero, Nat.sub_zero, h, List.take_left' rfl]
    rw [htake] at ex
    rw [hc, z] at e2
    simp only [canon58a, z] at e
    simp only [canon58b] at e2
    generalize (lead l : Int) = q at *
    generalize grp u' = G at *
    simp -implicitDefEqProofs [F58, c58, upd, e, g0, g4, e3, n1, n1', n2, n2', e2, k0, k4, k5, e80, w, hle, hle', ex, tupF]
  · exact absurd hbytes (hspec u hu hzero)
theorem f40_none (l : List Int) (hB : isB l) (hl : l.length ≤ 80000) (h : ∀ u r, u < 2 ^ 64 → l ≠ grp u ++ r) : F58 [.one (.str (ofBytes l))] [] = some (tupF 0 0, []) := by
  obtain ⟨env, e, g0, g4⟩ := loop58a l hB (by omega) (lead l) 0 KK (by omega) (by have := lead_le l; rw [KK_eq]; omega)
  have hle := lead_le l
  have z : ((0 : Nat) : Int) = 0 := rfl
  have e3 := size_ofBytes l
  simp only [canon58a, z] at e
  by_cases n1 : lead l = l.length
  · have n1i : (lead l : Int) = (l.length : Int) := by omega
    rw [n1i] at g4
    simp -implicitDefEqProofs [F58, c58, upd, e, g0, g4, e3, tupF]
  · have n1i : ¬ ((lead l : Int) = (l.length : Int)) := by omega
    by_cases n2 : 9 < lead l
    · have n2i : (9 : Int) < (lead l : Int) := by omega
      simp -implicitDefEqProofs [F58, c58, upd, e, g0, g4, e3, n1, n1i, n2, n2i, tupF]
    · have n2i : ¬ ((9 : Int) < (lead l : Int)) := by omega
      have hc : ((lead l + 1 : Nat) : Int) - 1 = (lead l : Int) := by omega
      rcases loop58b l (lead l : Nat) hB (by omega) (lead l + 1) 0 KK (by omega) (by omega) (by rw [KK_eq]; omega) with ⟨env2, u, e2, k0, k4, k5, hu, _⟩ | ⟨env2, e2, k2, k3, _⟩
      · have e80 := f80 u hu
        have w : IntKind.i64.wrap ((lead l : Int) + 1) = ((lead l + 1 : Nat) : Int) := by rw [i64_in _ (by omega)]; omega
        have hle1 : ((lead l + 1 : Nat) : Int) ≤ (l.length : Int) := by omega
        have hle1' : lead l + 1 ≤ l.length := by omega
        have ex := ofBytes_extract l 0 (lead l + 1)
        rw [List.drop_zero, Nat.sub_zero] at ex
        have hne : ((ofBytes (grp u)).toList == (ofBytes (l.take (lead l + 1))).toList) = false := by
          rw [eqS (grp_isB u) (isB_take _ hB)]
          refine decide_eq_false fun c => h u (l.drop (lead l + 1)) hu ?_
          rw [c, List.take_append_drop]
        have hne2 : ¬ ((ofBytes (grp u)).toList = (ofBytes (l.take (lead l + 1))).toList) := fun c => by rw [c] at hne; simp at hne
        rw [hc, z] at e2
        simp only [canon58b] at e2
        generalize hq : lead l + 1 = q at *
        generalize (lead l : Int) = q0 at *
        simp -implicitDefEqProofs [F58, c58, upd, e, g0, g4, e3, n1, n1i, n2, n2i, e2, k0, k4, k5, e80, w, hle1, hle1', ex, hne, hne2, tupF]
      · rw [hc, z] at e2
        simp only [canon58b] at e2
        simp -implicitDefEqProofs [F58, c58, upd, e, g0, g4, e3, n1, n1i, n2, n2i, e2, k2, k3, tupF]
end Go.X.Try
