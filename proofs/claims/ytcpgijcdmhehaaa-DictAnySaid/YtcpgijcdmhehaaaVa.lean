import Derived.Test.YtcpgijcdmhehaaaCf
import Derived.Test.YtcpgijcdmhehaaaD3
set_option maxRecDepth 100000
set_option linter.unusedSimpArgs false
namespace Go.X.Try
open Go.IntWalk
theorem leB_fixB : ∀ n v, leB (fixB v n) = v % 256 ^ n
  | 0, v => by simp [fixB, leB, Nat.mod_one]
  | n + 1, v => by
    simp only [fixB, leB, leB_fixB n, Int.toNat_natCast]
    rw [Nat.pow_succ, Nat.mul_comm (256 ^ n) 256, Nat.mod_mul]
theorem fixB_leB : ∀ {l : List Int}, isB l → fixB (leB l) l.length = l
  | [], _ => rfl
  | b :: l, h => by
    have hb := h b (by simp)
    have ih := fixB_leB h.tail
    simp only [leB, List.length_cons, fixB]
    have e1 : ((((b.toNat + 256 * leB l) % 256 : Nat)) : Int) = b := by omega
    have e2 : (b.toNat + 256 * leB l) / 256 = leB l := by omega
    rw [e1, e2, ih]
/-- The sum of a text. -/
def sumL (l : List Int) : Int := sfin (l.foldl sstep 7640891576956012808) l.length
theorem xor_range (x y : Int) : 0 ≤ bitsI .xor .u64 x y ∧ bitsI .xor .u64 x y < 18446744073709551616 := by
  have h := u64_range ((BitVec.ofInt IntKind.u64.bits x ^^^ BitVec.ofInt IntKind.u64.bits y).toNat)
  simp only [bitsI]
  omega
theorem sumL_range (l : List Int) : 0 ≤ sumL l ∧ sumL l < 18446744073709551616 := xor_range _ _
/-- A dictionary's bytes. -/
def dictB (l : List Int) : List Int := [80, 68] ++ fixB (sumL l).toNat 8 ++ (grp l.length ++ l)
/-- What bytes are as a dictionary, and the error. -/
def dictD (l : List Int) : List Int × Int :=
  if l.length < 10 ∨ ¬ l.take 2 = [80, 68] then ([], 3)
  else match gdec 0 0 (l.drop 10) with
  | none => ([], 3)
  | some (n, r) => if 256 < n then ([], 5) else if ¬ r.length = n then ([], 3) else if ¬ (leB ((l.drop 2).take 8) : Int) = sumL r then ([], 4) else (r, 0)
theorem dictB_isB {l : List Int} (h : isB l) : isB (dictB l) := by
  unfold dictB
  refine isB_append (isB_append ?_ (fixB_isB _ _)) (isB_append (grp_isB _) h)
  intro x hx
  simp at hx
  omega
theorem dictB_length (l : List Int) : (dictB l).length = 10 + (grp l.length).length + l.length := by
  unfold dictB
  simp only [List.length_append, List.length_cons, List.length_nil, fixB_length]
  omega
theorem dictB_take (l : List Int) : (dictB l).take 2 = [80, 68] := by
  unfold dictB; simp
theorem dictB_mid (l : List Int) : ((dictB l).drop 2).take 8 = fixB (sumL l).toNat 8 := by
  unfold dictB
  rw [List.append_assoc]
  exact List.take_left' (fixB_length _ _)
theorem dictB_end (l : List Int) : (dictB l).drop 10 = grp l.length ++ l := by
  unfold dictB
  rw [List.drop_left' (by simp [fixB_length])]
theorem dict_back {l : List Int} (hl : l.length ≤ 256) : dictD (dictB l) = (l, 0) := by
  have hs := sumL_range l
  have hp := grp_pos l.length
  unfold dictD
  rw [if_neg (by rw [dictB_length, dictB_take]; rintro (h | h); omega; exact h rfl), dictB_end, gdec_grp l l.length 0 0 (by omega) (by rw [Nat.mul_zero, Nat.pow_zero, Nat.mul_one]; omega) (.inl rfl)]
  simp only [Nat.mul_zero, Nat.pow_zero, Nat.mul_one, Nat.zero_add]
  rw [if_neg (by omega), if_neg (fun c => c trivial), if_neg]
  rw [dictB_mid, leB_fixB, Nat.mod_eq_of_lt (by omega)]
  omega
theorem dict_any {l r : List Int} (hB : isB l) (h : dictD l = (r, 0)) : dictB r = l ∧ r.length ≤ 256 ∧ isB r := by
  unfold dictD at h
  split at h
  · simp at h
  · rename_i h0
    split at h
    · simp at h
    · rename_i n r' hg
      split at h
      · simp at h
      · split at h
        · simp at h
        · split at h
          · simp at h
          · rename_i h1 h2 h3
            simp only [Prod.mk.injEq, and_true] at h
            subst h
            have h0' : 10 ≤ l.length ∧ l.take 2 = [80, 68] := by
              constructor
              · exact Nat.le_of_not_lt fun c => h0 (.inl c)
              · exact Classical.not_not.1 fun c => h0 (.inr c)
            obtain ⟨a, ha, hu, _⟩ := gdec_inv (l.drop 10) 0 0 n r' (isB_drop 10 hB) (by omega) hg
            simp only [Nat.mul_zero, Nat.pow_zero, Nat.mul_one, Nat.zero_add] at hu
            subst hu
            have hn : r'.length = n := Classical.not_not.1 h2
            have hsum : (leB ((l.drop 2).take 8) : Int) = sumL r' := Classical.not_not.1 h3
            have hmid : fixB (sumL r').toNat 8 = (l.drop 2).take 8 := by
              rw [← hsum, Int.toNat_natCast]
              have := fixB_leB (isB_take 8 (isB_drop 2 hB))
              rwa [List.length_take, List.length_drop, Nat.min_eq_left (by omega)] at this
            refine ⟨?_, by omega, ?_⟩
            · unfold dictB
              rw [hmid, hn, ← ha, ← h0'.2]
              have e1 : l.drop 10 = (l.drop 2).drop 8 := by rw [List.drop_drop]
              rw [e1, List.append_assoc, List.take_append_drop, List.take_append_drop]
            · have := isB_drop 10 hB
              rw [ha] at this
              exact fun x hx => this x (List.mem_append.2 (.inr hx))
theorem set_ne {l : List Int} {k : Nat} {x : Int} (hk : k < l.length) (hx : l[k]? ≠ some x) : l.set k x ≠ l := fun h => by
  have := congrArg (fun m => m[k]?) h
  simp only [List.getElem?_set_self hk] at this
  exact hx this.symm
theorem isB_set {l : List Int} {k : Nat} {x : Int} (h : isB l) (hx : 0 ≤ x ∧ x < 256) : isB (l.set k x) := fun y hy => by
  rcases List.mem_or_eq_of_mem_set hy with h' | rfl
  · exact h y h'
  · exact hx
theorem dict_turned {l : List Int} (hB : isB l) (hl : l.length ≤ 256) {k : Nat} {x : Int} (hk : (2 ≤ k ∧ k < 10) ∨ (10 + (grp l.length).length ≤ k ∧ k < (dictB l).length)) (hx : (dictB l)[k]? ≠ some x) (hx2 : 0 ≤ x ∧ x < 256) :
    dictD ((dictB l).set k x) = ([], 4) ∨ ∃ t, dictD ((dictB l).set k x) = (t, 0) ∧ t ≠ l ∧ isB t ∧ sumL t = sumL l := by
  have hs := sumL_range l
  have hp := grp_pos l.length
  have hlen := dictB_length l
  have htake : ((dictB l).set k x).take 2 = [80, 68] := by
    rw [List.take_set_of_le (by omega), dictB_take]
  rcases hk with hk | hk
  · left
    have hdrop : ((dictB l).set k x).drop 10 = grp l.length ++ l := by
      rw [List.drop_set_of_lt (by omega), dictB_end]
    have hmid : (((dictB l).set k x).drop 2).take 8 = (fixB (sumL l).toNat 8).set (k - 2) x := by
      rw [List.drop_set, if_neg (by omega), List.take_set, dictB_mid]
    have hne : (fixB (sumL l).toNat 8).set (k - 2) x ≠ fixB (sumL l).toNat 8 := by
      refine set_ne (by rw [fixB_length]; omega) ?_
      rw [← dictB_mid, List.getElem?_take_of_lt (by omega), List.getElem?_drop, show 2 + (k - 2) = k by omega]
      exact hx
    unfold dictD
    rw [if_neg (by rw [List.length_set, hlen, htake]; rintro (h | h); omega; exact h rfl), hdrop, gdec_grp l l.length 0 0 (by omega) (by rw [Nat.mul_zero, Nat.pow_zero, Nat.mul_one]; omega) (.inl rfl)]
    simp only [Nat.mul_zero, Nat.pow_zero, Nat.mul_one, Nat.zero_add]
    rw [if_neg (by omega), if_neg (fun c => c trivial), if_pos]
    rw [hmid]
    intro h
    apply hne
    refine leB_inj (isB_set (fixB_isB _ _) hx2) (fixB_isB _ _) (by rw [List.length_set]) ?_
    rw [leB_fixB, Nat.mod_eq_of_lt (by omega)]
    omega
  · have hk2 : k < 10 + (grp l.length).length + l.length := by omega
    have hdrop : ((dictB l).set k x).drop 10 = grp l.length ++ l.set (k - 10 - (grp l.length).length) x := by
      rw [List.drop_set, if_neg (by omega), dictB_end, List.set_append, if_neg (by omega)]
    have hmid : (((dictB l).set k x).drop 2).take 8 = fixB (sumL l).toNat 8 := by
      rw [List.drop_set, if_neg (by omega), List.take_set_of_le (by omega), dictB_mid]
    have hne : l.set (k - 10 - (grp l.length).length) x ≠ l := by
      refine set_ne (by omega) ?_
      intro h
      apply hx
      have e : (dictB l)[k]? = ((dictB l).drop 10)[k - 10]? := by rw [List.getElem?_drop, show 10 + (k - 10) = k by omega]
      rw [e, dictB_end, List.getElem?_append_right (by omega)]
      exact h
    have hd : dictD ((dictB l).set k x) = if ¬ (leB (fixB (sumL l).toNat 8) : Int) = sumL (l.set (k - 10 - (grp l.length).length) x) then ([], 4) else (l.set (k - 10 - (grp l.length).length) x, 0) := by
      unfold dictD
      rw [if_neg (by rw [List.length_set, hlen, htake]; rintro (h | h); omega; exact h rfl), hdrop, gdec_grp _ l.length 0 0 (by omega) (by rw [Nat.mul_zero, Nat.pow_zero, Nat.mul_one]; omega) (.inl rfl)]
      simp only [Nat.mul_zero, Nat.pow_zero, Nat.mul_one, Nat.zero_add]
      rw [if_neg (by omega), if_neg (by rw [List.length_set]; exact fun c => c rfl), hmid]
    rw [hd]
    by_cases he : (leB (fixB (sumL l).toNat 8) : Int) = sumL (l.set (k - 10 - (grp l.length).length) x)
    · right
      refine ⟨_, if_neg (fun c => c he), hne, isB_set hB hx2, ?_⟩
      rw [← he, leB_fixB, Nat.mod_eq_of_lt (by omega)]
      omega
    · left
      exact if_pos he
end Go.X.Try
