import Derived.Deep.Slices
import Derived.Deep.Fields
import Derived.ChangeSame
import Derived.SizedLaws
import Derived.Test.YtnbmmdkcmgdpdaaZ3
set_option linter.unusedVariables false
set_option linter.unusedSimpArgs false
set_option linter.unusedSectionVars false
set_option maxRecDepth 100000
namespace Go.X
def sn (i k i' k' : Nat) : Prop := k' < i' ∧ (i' < i ∨ (i' = i ∧ k' < k))
def upd19 (t w : List Int) (i k : Nat) : List Int := if w.length < lcp (t.drop i) (t.drop k) ∨ (lcp (t.drop i) (t.drop k) = w.length ∧ 0 < lcp (t.drop i) (t.drop k) ∧ lx ((t.drop i).take (lcp (t.drop i) (t.drop k))) w = true) then (t.drop i).take (lcp (t.drop i) (t.drop k)) else w
structure BestP (t : List Int) (i k : Nat) (w : List Int) : Prop where
  wB : isB w
  wl : w.length ≤ t.length
  is : w = [] ∨ ∃ i' k', sn i k i' k' ∧ i' < t.length ∧ 0 < w.length ∧ lcp (t.drop i') (t.drop k') = w.length ∧ w = (t.drop i').take w.length
  le : ∀ i' k', sn i k i' k' → i' < t.length → lcp (t.drop i') (t.drop k') ≤ w.length
  lt : ∀ i' k', sn i k i' k' → i' < t.length → 0 < w.length → lcp (t.drop i') (t.drop k') = w.length → lx ((t.drop i').take w.length) w = false
theorem BestP.step {t w : List Int} {i k : Nat} (hB : isB t) (h : BestP t i k w) (hk : k < i) (hi : i < t.length) : BestP t i (k + 1) (upd19 t w i k) := by
  have hle := (lcp_le (t.drop i) (t.drop k)).1
  rw [List.length_drop] at hle
  have hlen : ((t.drop i).take (lcp (t.drop i) (t.drop k))).length = lcp (t.drop i) (t.drop k) := by rw [List.length_take, List.length_drop]; omega
  have sp : ∀ i' k', sn i (k + 1) i' k' ↔ sn i k i' k' ∨ (i' = i ∧ k' = k) := by
    intro i' k'; unfold sn; omega
  unfold upd19
  generalize hn : lcp (t.drop i) (t.drop k) = n at *
  split
  · rename_i hc
    have hnw : w.length ≤ n := by omega
    refine ⟨isB_take _ (isB_drop _ hB), by omega, ?_, fun i' k' hs hi' => ?_, fun i' k' hs hi' h0 he => ?_⟩
    · by_cases h0 : n = 0
      · left; exact List.eq_nil_of_length_eq_zero (by omega)
      · right
        exact ⟨i, k, (sp i k).2 (.inr ⟨rfl, rfl⟩), hi, by omega, by omega, by rw [hlen]⟩
    · rw [hlen]
      rcases (sp i' k').1 hs with hs | ⟨rfl, rfl⟩
      · have := h.le i' k' hs hi'; omega
      · omega
    · rw [hlen] at he ⊢
      rcases (sp i' k').1 hs with hs | ⟨rfl, rfl⟩
      · have h1 := h.le i' k' hs hi'
        rcases hc with hc | ⟨c1, c2, c3⟩
        · omega
        · have h2 := h.lt i' k' hs hi' (by omega) (by omega)
          rw [← c1] at h2
          cases h3 : lx ((t.drop i').take n) ((t.drop i).take n) with
          | false => rfl
          | true => rw [lx_trans h3 c3] at h2; cases h2
      · exact lx_irrefl _
  · rename_i hc
    refine ⟨h.wB, h.wl, ?_, fun i' k' hs hi' => ?_, fun i' k' hs hi' h0 he => ?_⟩
    · rcases h.is with h1 | ⟨i', k', h1, h2⟩
      · exact .inl h1
      · exact .inr ⟨i', k', (sp i' k').2 (.inl h1), h2⟩
    · rcases (sp i' k').1 hs with hs | ⟨rfl, rfl⟩
      · exact h.le i' k' hs hi'
      · rcases Nat.lt_or_ge w.length n with h1 | h1
        · exact absurd (.inl h1) hc
        · omega
    · rcases (sp i' k').1 hs with hs | ⟨rfl, rfl⟩
      · exact h.lt i' k' hs hi' h0 he
      · rw [hn] at he
        cases h3 : lx ((t.drop i').take w.length) w with
        | false => rfl
        | true => exact absurd (.inr ⟨he, by omega, by rw [he]; exact h3⟩) hc
theorem BestP.next {t w : List Int} {i : Nat} (h : BestP t i i w) : BestP t (i + 1) 0 w := by
  have sp : ∀ i' k', sn (i + 1) 0 i' k' ↔ sn i i i' k' := by intro i' k'; unfold sn; omega
  refine ⟨h.wB, h.wl, ?_, fun i' k' hs => h.le i' k' ((sp i' k').1 hs), fun i' k' hs => h.lt i' k' ((sp i' k').1 hs)⟩
  rcases h.is with h1 | ⟨i', k', h1, h2⟩
  · exact .inl h1
  · exact .inr ⟨i', k', (sp i' k').2 h1, h2⟩
theorem BestP.first (t : List Int) : BestP t 0 0 [] := ⟨nofun, by simp, .inl rfl, fun i' k' hs => by unfold sn at hs; omega, fun i' k' hs => by unfold sn at hs; omega⟩
theorem BestP.whole {t w : List Int} (h : BestP t t.length 0 w) : Best t w := by
  have sp : ∀ i' k', k' < i' → i' < t.length → sn t.length 0 i' k' := by intro i' k'; unfold sn; omega
  refine ⟨?_, fun i k h1 h2 => h.le i k (sp i k h1 h2) h2, fun i k h1 h2 => h.lt i k (sp i k h1 h2) h2⟩
  rcases h.is with h1 | ⟨i', k', h1, h2, h3⟩
  · exact .inl h1
  · exact .inr ⟨i', k', h1.1, h2, h3⟩
end Go.X
namespace Go.X.Try
open Go.IntWalk Go.Proofs
def k19a (s : ByteArray) (w : List Int) (i k n : Nat) : St := ⟨[(0, .one (.str s)), (4, .one (.str (ofBytes w))), (5, .one (.int .i64 i)), (6, .one (.int .i64 k)), (7, .one (.int .i64 n))], [.str s], []⟩
theorem loop19a (s : ByteArray) (w : List Int) (i k : Nat) (hn : s.size ≤ 1000) (hi : i < s.size) (hk : k < i) :
    ∃ env, loopH (evC T19 KK b19x0) [0, 4, 5, 6, 7] KK (k19a s w i k 0) = some (.exit 4, ⟨env, [.str s], []⟩) ∧ getT 0 env = .one (.str s) ∧ getT 4 env = .one (.str (ofBytes w)) ∧ getT 5 env = .one (.int .i64 i) ∧ getT 6 env = .one (.int .i64 k) ∧ getT 7 env = .one (.int .i64 (lcp ((toBytes s).drop i) ((toBytes s).drop k) : Nat)) := by
  have hK := KK_eq
  have hl := size_toBytes s
  have hle := lcp_le ((toBytes s).drop i) ((toBytes s).drop k)
  rw [List.length_drop, List.length_drop] at hle
  have L := fun m hm => lcp_at (t := toBytes s) (a := i) (b := k) (m := m) (by omega) (by omega) hm
  obtain ⟨N, hN⟩ : ∃ N, lcp ((toBytes s).drop i) ((toBytes s).drop k) = N := ⟨_, rfl⟩
  rw [hN] at L hle ⊢
  have hbody : ∀ m, m < N → ∃ st1, evC T19 KK b19x0 (k19a s w i k m) = some (.norm, st1) ∧ St.head [0, 4, 5, 6, 7] st1 = k19a s w i k (m + 1) := by
    intro m hm
    obtain ⟨q1, q2, q3⟩ := (L m (by omega)).1 hm
    have w2 : IntKind.i64.wrap ((i : Int) + m) = i + m := i64_in _ (by omega)
    have w3 : IntKind.i64.wrap ((k : Int) + m) = k + m := i64_in _ (by omega)
    have w4 : IntKind.i64.wrap ((m : Int) + 1) = m + 1 := i64_in _ (by omega)
    have c3 : (i : Int) + m < s.size := by omega
    have c4 : (k : Int) + m < s.size := by omega
    have p3 : (0 : Int) ≤ (i : Int) + m := by omega
    have p4 : (0 : Int) ≤ (k : Int) + m := by omega
    have n3 : ((i : Int) + m).toNat = i + m := by omega
    have n4 : ((k : Int) + m).toNat = k + m := by omega
    have x3 : (toBytes s)[i + m]?.getD 0 = (toBytes s).getD (i + m) 0 := by simp [List.getD]
    have x4 : (toBytes s)[k + m]?.getD 0 = (toBytes s).getD (k + m) 0 := by simp [List.getD]
    rw [← q3] at x4
    generalize (toBytes s).getD (i + m) 0 = z at *
    simp -implicitDefEqProofs [b19x0, k19a, upd, w2, w3, w4, c3, c4, n3, n4, p3, p4, x3, x4]
  have hend : ∃ env, evC T19 KK b19x0 (k19a s w i k N) = some (.exit 4, ⟨env, [.str s], []⟩) ∧ getT 0 env = .one (.str s) ∧ getT 4 env = .one (.str (ofBytes w)) ∧ getT 5 env = .one (.int .i64 i) ∧ getT 6 env = .one (.int .i64 k) ∧ getT 7 env = .one (.int .i64 N) := by
    have q := (L N (by omega)).2 rfl
    have w2 : IntKind.i64.wrap ((i : Int) + N) = i + N := i64_in _ (by omega)
    have w3 : IntKind.i64.wrap ((k : Int) + N) = k + N := i64_in _ (by omega)
    have p3 : (0 : Int) ≤ (i : Int) + N := by omega
    have p4 : (0 : Int) ≤ (k : Int) + N := by omega
    have n3 : ((i : Int) + N).toNat = i + N := by omega
    have n4 : ((k : Int) + N).toNat = k + N := by omega
    by_cases hab : (i : Int) + N < s.size
    · have hc : (k : Int) + N < s.size := by omega
      have hq := q (by omega) (by omega)
      have x3 : (toBytes s)[i + N]?.getD 0 = (toBytes s).getD (i + N) 0 := by simp [List.getD]
      have x4 : (toBytes s)[k + N]?.getD 0 = (toBytes s).getD (k + N) 0 := by simp [List.getD]
      generalize (toBytes s).getD (i + N) 0 = z at *
      generalize (toBytes s).getD (k + N) 0 = z' at *
      simp -implicitDefEqProofs [b19x0, k19a, upd, hab, hc, w2, w3, n3, n4, p3, p4, x3, x4, hq]
    · simp -implicitDefEqProofs [b19x0, k19a, upd, hab, w2, w3]
  obtain ⟨env, he, g⟩ := hend
  have el := loopUp (body := evC T19 KK b19x0) (live := [0, 4, 5, 6, 7]) (canon := k19a s w i k) (n := N) (x := 4) hbody he (by omega)
  exact ⟨env, el, g⟩
def k19b (s : ByteArray) (w : List Int) (i k : Nat) : St := ⟨[(0, .one (.str s)), (4, .one (.str (ofBytes w))), (5, .one (.int .i64 i)), (6, .one (.int .i64 k))], [.str s], []⟩
@[simp 2000] theorem sk19_44 (env : Env) (rts : List SV) (hp : List Ob) : evIs T19 [⟨(some 45), (some (44, false)), (.mv (.tmp 7))⟩, ⟨(some 46), (some (44, false)), (.mv (.tmp 4))⟩, ⟨(some 47), (some (44, false)), (.lenS (.tmp 46))⟩, ⟨(some 48), (some (44, false)), (.bin .eql (.tmp 45) (.tmp 47))⟩, ⟨(some 49), (some (44, false)), (.mv (.tmp 48))⟩, ⟨(some 50), (some (49, true)), (.mv (.tmp 7))⟩, ⟨(some 51), (some (49, true)), (.bin .gtr (.tmp 50) (.const (.one (.int .i64 0))))⟩, ⟨(some 52), (some (44, false)), (.pick (.tmp 49) (.tmp 51) (.const (.one (.bool false))))⟩, ⟨(some 53), (some (44, false)), (.mv (.tmp 52))⟩, ⟨(some 54), (some (53, true)), (.mv (.tmp 0))⟩, ⟨(some 55), (some (53, true)), (.mv (.tmp 5))⟩, ⟨(some 56), (some (53, true)), (.mv (.tmp 5))⟩, ⟨(some 57), (some (53, true)), (.mv (.tmp 7))⟩, ⟨(some 58), (some (53, true)), (.bin .add (.tmp 56) (.tmp 57))⟩, ⟨(some 59), (some (53, true)), (.cutS (.tmp 54) (some (.tmp 55)) (some (.tmp 58)))⟩, ⟨(some 60), (some (53, true)), (.mv (.tmp 4))⟩, ⟨(some 61), (some (53, true)), (.bin .lss (.tmp 59) (.tmp 60))⟩, ⟨(some 62), (some (44, false)), (.pick (.tmp 53) (.tmp 61) (.const (.one (.bool false))))⟩, ⟨(some 63), none, (.pick (.tmp 44) (.const (.one (.bool true))) (.tmp 62))⟩] ⟨(44, .one (.bool true)) :: env, rts, hp⟩ = evIs T19 [⟨(some 50), (some (49, true)), (.mv (.tmp 7))⟩, ⟨(some 51), (some (49, true)), (.bin .gtr (.tmp 50) (.const (.one (.int .i64 0))))⟩, ⟨(some 52), (some (44, false)), (.pick (.tmp 49) (.tmp 51) (.const (.one (.bool false))))⟩, ⟨(some 53), (some (44, false)), (.mv (.tmp 52))⟩, ⟨(some 54), (some (53, true)), (.mv (.tmp 0))⟩, ⟨(some 55), (some (53, true)), (.mv (.tmp 5))⟩, ⟨(some 56), (some (53, true)), (.mv (.tmp 5))⟩, ⟨(some 57), (some (53, true)), (.mv (.tmp 7))⟩, ⟨(some 58), (some (53, true)), (.bin .add (.tmp 56) (.tmp 57))⟩, ⟨(some 59), (some (53, true)), (.cutS (.tmp 54) (some (.tmp 55)) (some (.tmp 58)))⟩, ⟨(some 60), (some (53, true)), (.mv (.tmp 4))⟩, ⟨(some 61), (some (53, true)), (.bin .lss (.tmp 59) (.tmp 60))⟩, ⟨(some 62), (some (44, false)), (.pick (.tmp 53) (.tmp 61) (.const (.one (.bool false))))⟩, ⟨(some 63), none, (.pick (.tmp 44) (.const (.one (.bool true))) (.tmp 62))⟩] ⟨(49, .tup []) :: (48, .tup []) :: (47, .tup []) :: (46, .tup []) :: (45, .tup []) :: (44, .one (.bool true)) :: env, rts, hp⟩ := rfl
@[simp 2000] theorem sk19_49 (env : Env) (rts : List SV) (hp : List Ob) : evIs T19 [⟨(some 50), (some (49, true)), (.mv (.tmp 7))⟩, ⟨(some 51), (some (49, true)), (.bin .gtr (.tmp 50) (.const (.one (.int .i64 0))))⟩, ⟨(some 52), (some (44, false)), (.pick (.tmp 49) (.tmp 51) (.const (.one (.bool false))))⟩, ⟨(some 53), (some (44, false)), (.mv (.tmp 52))⟩, ⟨(some 54), (some (53, true)), (.mv (.tmp 0))⟩, ⟨(some 55), (some (53, true)), (.mv (.tmp 5))⟩, ⟨(some 56), (some (53, true)), (.mv (.tmp 5))⟩, ⟨(some 57), (some (53, true)), (.mv (.tmp 7))⟩, ⟨(some 58), (some (53, true)), (.bin .add (.tmp 56) (.tmp 57))⟩, ⟨(some 59), (some (53, true)), (.cutS (.tmp 54) (some (.tmp 55)) (some (.tmp 58)))⟩, ⟨(some 60), (some (53, true)), (.mv (.tmp 4))⟩, ⟨(some 61), (some (53, true)), (.bin .lss (.tmp 59) (.tmp 60))⟩, ⟨(some 62), (some (44, false)), (.pick (.tmp 53) (.tmp 61) (.const (.one (.bool false))))⟩, ⟨(some 63), none, (.pick (.tmp 44) (.const (.one (.bool true))) (.tmp 62))⟩] ⟨(49, .one (.bool false)) :: env, rts, hp⟩ = evIs T19 [⟨(some 52), (some (44, false)), (.pick (.tmp 49) (.tmp 51) (.const (.one (.bool false))))⟩, ⟨(some 53), (some (44, false)), (.mv (.tmp 52))⟩, ⟨(some 54), (some (53, true)), (.mv (.tmp 0))⟩, ⟨(some 55), (some (53, true)), (.mv (.tmp 5))⟩, ⟨(some 56), (some (53, true)), (.mv (.tmp 5))⟩, ⟨(some 57), (some (53, true)), (.mv (.tmp 7))⟩, ⟨(some 58), (some (53, true)), (.bin .add (.tmp 56) (.tmp 57))⟩, ⟨(some 59), (some (53, true)), (.cutS (.tmp 54) (some (.tmp 55)) (some (.tmp 58)))⟩, ⟨(some 60), (some (53, true)), (.mv (.tmp 4))⟩, ⟨(some 61), (some (53, true)), (.bin .lss (.tmp 59) (.tmp 60))⟩, ⟨(some 62), (some (44, false)), (.pick (.tmp 53) (.tmp 61) (.const (.one (.bool false))))⟩, ⟨(some 63), none, (.pick (.tmp 44) (.const (.one (.bool true))) (.tmp 62))⟩] ⟨(51, .tup []) :: (50, .tup []) :: (49, .one (.bool false)) :: env, rts, hp⟩ := rfl
@[simp 2000] theorem sk19_44b (env : Env) (rts : List SV) (hp : List Ob) : evIs T19 [⟨(some 52), (some (44, false)), (.pick (.tmp 49) (.tmp 51) (.const (.one (.bool false))))⟩, ⟨(some 53), (some (44, false)), (.mv (.tmp 52))⟩, ⟨(some 54), (some (53, true)), (.mv (.tmp 0))⟩, ⟨(some 55), (some (53, true)), (.mv (.tmp 5))⟩, ⟨(some 56), (some (53, true)), (.mv (.tmp 5))⟩, ⟨(some 57), (some (53, true)), (.mv (.tmp 7))⟩, ⟨(some 58), (some (53, true)), (.bin .add (.tmp 56) (.tmp 57))⟩, ⟨(some 59), (some (53, true)), (.cutS (.tmp 54) (some (.tmp 55)) (some (.tmp 58)))⟩, ⟨(some 60), (some (53, true)), (.mv (.tmp 4))⟩, ⟨(some 61), (some (53, true)), (.bin .lss (.tmp 59) (.tmp 60))⟩, ⟨(some 62), (some (44, false)), (.pick (.tmp 53) (.tmp 61) (.const (.one (.bool false))))⟩, ⟨(some 63), none, (.pick (.tmp 44) (.const (.one (.bool true))) (.tmp 62))⟩] ⟨(44, .one (.bool true)) :: env, rts, hp⟩ = evIs T19 [⟨(some 54), (some (53, true)), (.mv (.tmp 0))⟩, ⟨(some 55), (some (53, true)), (.mv (.tmp 5))⟩, ⟨(some 56), (some (53, true)), (.mv (.tmp 5))⟩, ⟨(some 57), (some (53, true)), (.mv (.tmp 7))⟩, ⟨(some 58), (some (53, true)), (.bin .add (.tmp 56) (.tmp 57))⟩, ⟨(some 59), (some (53, true)), (.cutS (.tmp 54) (some (.tmp 55)) (some (.tmp 58)))⟩, ⟨(some 60), (some (53, true)), (.mv (.tmp 4))⟩, ⟨(some 61), (some (53, true)), (.bin .lss (.tmp 59) (.tmp 60))⟩, ⟨(some 62), (some (44, false)), (.pick (.tmp 53) (.tmp 61) (.const (.one (.bool false))))⟩, ⟨(some 63), none, (.pick (.tmp 44) (.const (.one (.bool true))) (.tmp 62))⟩] ⟨(53, .tup []) :: (52, .tup []) :: (44, .one (.bool true)) :: env, rts, hp⟩ := rfl
@[simp 2000] theorem sk19_53 (env : Env) (rts : List SV) (hp : List Ob) : evIs T19 [⟨(some 54), (some (53, true)), (.mv (.tmp 0))⟩, ⟨(some 55), (some (53, true)), (.mv (.tmp 5))⟩, ⟨(some 56), (some (53, true)), (.mv (.tmp 5))⟩, ⟨(some 57), (some (53, true)), (.mv (.tmp 7))⟩, ⟨(some 58), (some (53, true)), (.bin .add (.tmp 56) (.tmp 57))⟩, ⟨(some 59), (some (53, true)), (.cutS (.tmp 54) (some (.tmp 55)) (some (.tmp 58)))⟩, ⟨(some 60), (some (53, true)), (.mv (.tmp 4))⟩, ⟨(some 61), (some (53, true)), (.bin .lss (.tmp 59) (.tmp 60))⟩, ⟨(some 62), (some (44, false)), (.pick (.tmp 53) (.tmp 61) (.const (.one (.bool false))))⟩, ⟨(some 63), none, (.pick (.tmp 44) (.const (.one (.bool true))) (.tmp 62))⟩] ⟨(53, .one (.bool false)) :: env, rts, hp⟩ = evIs T19 [⟨(some 62), (some (44, false)), (.pick (.tmp 53) (.tmp 61) (.const (.one (.bool false))))⟩, ⟨(some 63), none, (.pick (.tmp 44) (.const (.one (.bool true))) (.tmp 62))⟩] ⟨(61, .tup []) :: (60, .tup []) :: (59, .tup []) :: (58, .tup []) :: (57, .tup []) :: (56, .tup []) :: (55, .tup []) :: (54, .tup []) :: (53, .one (.bool false)) :: env, rts, hp⟩ := rfl
set_option maxHeartbeats 8000000 in
theorem body19b (s : ByteArray) (w : List Int) (i k : Nat) (hn : s.size ≤ 1000) (hi : i < s.size) (hk : k < i) (hw : isB w) (hwl : w.length ≤ s.size) : ∃ st1, evC T19 KK b19x1 (k19b s w i k) = some (.norm, st1) ∧ St.head [0, 4, 5, 6] st1 = k19b s (upd19 (toBytes s) w i k) i (k + 1) := by
  have hl := size_toBytes s
  obtain ⟨env, el, g0, g4, g5, g6, g7⟩ := loop19a s w i k hn hi hk
  have hle := (lcp_le ((toBytes s).drop i) ((toBytes s).drop k)).1
  rw [List.length_drop] at hle
  unfold upd19
  generalize lcp ((toBytes s).drop i) ((toBytes s).drop k) = n at *
  have eX : s.extract i (i + n) = ofBytes (((toBytes s).drop i).take n) := by rw [ext_mid]; congr 2; omega
  have eL : Go.Op.bytesLess (ofBytes (((toBytes s).drop i).take n)).toList (ofBytes w).toList = lx (((toBytes s).drop i).take n) w := less_lx (isB_take _ (isB_drop _ (isB_toBytes s))) hw
  have sw : (ofBytes w).size = w.length := size_ofBytes w
  have c1 : (k : Int) < i := by omega
  have c2 : (i : Int) ≤ (i : Int) + n := by omega
  have c3 : (i : Int) + n ≤ s.size := by omega
  have n1 : ((i : Int) + n).toNat = i + n := by omega
  have w1 : IntKind.i64.wrap ((i : Int) + n) = i + n := i64_in _ (by omega)
  have w2 : IntKind.i64.wrap ((k : Int) + 1) = k + 1 := i64_in _ (by omega)
  generalize ((toBytes s).drop i).take n = u at *
  simp only [k19a, Int.natCast_zero] at el
  by_cases h1 : w.length < n
  · have d1 : (w.length : Int) < n := by omega
    rw [if_pos (.inl h1)]
    simp -implicitDefEqProofs [b19x1, k19b, upd, el, g0, g4, g5, g6, g7, eX, sw, c1, c2, c3, n1, w1, w2, d1, h1]
  · have d1 : ¬ (w.length : Int) < n := by omega
    by_cases h2 : n = w.length
    · subst h2
      have d2 : ((w.length : Int) == w.length) = true := by simp
      by_cases h3 : 0 < w.length
      · have d3 : (0 : Int) < w.length := by omega
        have d4 : decide ((0 : Int) < w.length) = true := decide_eq_true d3
        cases h4 : lx u w with
        | true =>
          rw [h4] at eL
          rw [if_pos (.inr ⟨rfl, h3, rfl⟩)]
          simp -implicitDefEqProofs (maxSteps := 8000000) [b19x1, k19b, upd, el, g0, g4, g5, g6, g7, eX, eL, sw, c1, c2, c3, n1, w1, w2, d2, d3, h3]
        | false =>
          rw [h4] at eL
          rw [if_neg (by rintro (h | ⟨_, _, h⟩); exact h1 h; cases h)]
          simp -implicitDefEqProofs (maxSteps := 8000000) [b19x1, k19b, upd, el, g0, g4, g5, g6, g7, eX, eL, sw, c1, c2, c3, n1, w1, w2, d2, d3, h3]
      · have d3 : ¬ (0 : Int) < w.length := by omega
        have h5 : w = [] := List.eq_nil_of_length_eq_zero (by omega)
        subst h5
        rw [if_neg (by rintro (h | ⟨_, h, _⟩); exact h1 h; exact h3 h)]
        simp only [List.length_nil, Int.natCast_zero] at g7 sw
        simp -implicitDefEqProofs (maxSteps := 8000000) [b19x1, k19b, upd, el, g0, g4, g5, g6, g7, sw, c1, w2]
    · have d2 : ((n : Int) == w.length) = false := by simp; omega
      rw [if_neg (by rintro (h | ⟨h, _, _⟩); exact h1 h; exact h2 h)]
      simp -implicitDefEqProofs (maxSteps := 8000000) [b19x1, k19b, upd, el, g0, g4, g5, g6, g7, sw, c1, w2, d1, d2, h1, h2]
end Go.X.Try
namespace Go.X
def Mc (a b : List Int) (i : Nat) : Nat → Nat
  | 0 => 0
  | k + 1 => max (Mc a b i k) (lcp (a.drop i) (b.drop k))
theorem Mc_le (a b : List Int) (i : Nat) : ∀ k, Mc a b i k ≤ a.length - i
  | 0 => Nat.zero_le _
  | k + 1 => by
    have h1 := Mc_le a b i k
    have h2 := (lcp_le (a.drop i) (b.drop k)).1
    rw [List.length_drop] at h2
    simp only [Mc]; omega
theorem Mc_ge {a b : List Int} {i : Nat} : ∀ {k k' : Nat}, k' < k → lcp (a.drop i) (b.drop k') ≤ Mc a b i k
  | k + 1, k', h => by
    simp only [Mc]
    by_cases e : k' = k
    · subst e; omega
    · have := Mc_ge (a := a) (b := b) (i := i) (show k' < k by omega); omega
theorem Mc_is {a b : List Int} {i : Nat} : ∀ {k : Nat}, 0 < Mc a b i k → ∃ k', k' < k ∧ lcp (a.drop i) (b.drop k') = Mc a b i k
  | 0, h => by simp [Mc] at h
  | k + 1, h => by
    simp only [Mc] at *
    by_cases e : Mc a b i k ≤ lcp (a.drop i) (b.drop k)
    · exact ⟨k, by omega, by omega⟩
    · obtain ⟨k', h1, h2⟩ := Mc_is (a := a) (b := b) (i := i) (k := k) (by omega)
      exact ⟨k', by omega, by omega⟩
def stepM (a : List Int) (i m : Nat) (st : List Int × Nat) : List Int × Nat := if st.1.length < m then ((a.drop i).take m, i) else st
def cmi (a b : List Int) : Nat → List Int × Nat
  | 0 => ([], 0)
  | i + 1 => stepM a i (Mc a b i b.length) (cmi a b i)
theorem take_len {a : List Int} {i m : Nat} (h : m ≤ a.length - i) : ((a.drop i).take m).length = m := by rw [List.length_take, List.length_drop]; omega
theorem stepM_step (a b : List Int) (i k : Nat) (st : List Int × Nat) : stepM a i (lcp (a.drop i) (b.drop k)) (stepM a i (Mc a b i k) st) = stepM a i (Mc a b i (k + 1)) st := by
  have h1 := Mc_le a b i k
  have h2 := (lcp_le (a.drop i) (b.drop k)).1
  rw [List.length_drop] at h2
  have h3 : Mc a b i (k + 1) = max (Mc a b i k) (lcp (a.drop i) (b.drop k)) := rfl
  rw [h3]
  generalize Mc a b i k = M at *
  generalize lcp (a.drop i) (b.drop k) = n at *
  obtain ⟨w, p⟩ := st
  have pos : ∀ m : Nat, w.length < m → stepM a i m (w, p) = ((a.drop i).take m, i) := fun m h => if_pos h
  have neg : ∀ m : Nat, ¬ w.length < m → stepM a i m (w, p) = (w, p) := fun m h => if_neg h
  by_cases c1 : w.length < M
  · rw [pos M c1, pos (max M n) (by omega)]
    by_cases c2 : M < n
    · have : stepM a i n ((a.drop i).take M, i) = ((a.drop i).take n, i) := if_pos (show ((a.drop i).take M).length < n by rw [take_len h1]; exact c2)
      rw [this, show max M n = n by omega]
    · have : stepM a i n ((a.drop i).take M, i) = ((a.drop i).take M, i) := if_neg (show ¬ ((a.drop i).take M).length < n by rw [take_len h1]; exact c2)
      rw [this, show max M n = M by omega]
  · rw [neg M c1]
    by_cases c2 : w.length < n
    · rw [pos n c2, pos (max M n) (by omega), show max M n = n by omega]
    · rw [neg n c2, neg (max M n) (by omega)]
theorem stepM_ok {a : List Int} (hB : isB a) {i m : Nat} {st : List Int × Nat} (hm : m ≤ a.length - i) (h : isB st.1 ∧ st.1.length ≤ a.length ∧ st.2 ≤ a.length) (hi : i ≤ a.length) : isB (stepM a i m st).1 ∧ (stepM a i m st).1.length ≤ a.length ∧ (stepM a i m st).2 ≤ a.length := by
  unfold stepM
  split
  · exact ⟨isB_take _ (isB_drop _ hB), by rw [take_len hm]; omega, hi⟩
  · exact h
theorem cmi_ok {a b : List Int} (hB : isB a) : ∀ i, i ≤ a.length → isB (cmi a b i).1 ∧ (cmi a b i).1.length ≤ a.length ∧ (cmi a b i).2 ≤ a.length
  | 0, _ => ⟨nofun, by simp [cmi], Nat.zero_le _⟩
  | i + 1, h => stepM_ok hB (Mc_le a b i b.length) (cmi_ok hB i (by omega)) (by omega)
theorem lcp2_at {ta tb : List Int} {a b m : Nat} (hm : m ≤ lcp (ta.drop a) (tb.drop b)) :
    (m < lcp (ta.drop a) (tb.drop b) → a + m < ta.length ∧ b + m < tb.length ∧ ta.getD (a + m) 0 = tb.getD (b + m) 0) ∧
    (m = lcp (ta.drop a) (tb.drop b) → a + m < ta.length → b + m < tb.length → ta.getD (a + m) 0 ≠ tb.getD (b + m) 0) := by
  have hl := lcp_le (ta.drop a) (tb.drop b)
  rw [List.length_drop, List.length_drop] at hl
  have g : ∀ (t : List Int) c, (t.drop c).getD m 0 = t.getD (c + m) 0 := fun t c => by simp [List.getD, List.getElem?_drop]
  refine ⟨fun h => ⟨by omega, by omega, ?_⟩, fun h h1 h2 => ?_⟩
  · have := lcp_same h; rwa [g, g] at this
  · have := lcp_stop (x := ta.drop a) (y := tb.drop b) (by rw [List.length_drop]; omega) (by rw [List.length_drop]; omega)
    rw [← h, g, g] at this; exact this
end Go.X
namespace Go.X.Try
open Go.IntWalk Go.Proofs
def k21a (s u : ByteArray) (w : List Int) (p i k n : Nat) : St := ⟨[(0, .one (.str s)), (1, .one (.str u)), (6, .one (.str (ofBytes w))), (7, .one (.int .i64 p)), (8, .one (.int .i64 i)), (9, .one (.int .i64 k)), (10, .one (.int .i64 n))], [.str s, .str u], []⟩
theorem loop21a (s u : ByteArray) (w : List Int) (p i k : Nat) (hn : s.size ≤ 1000) (hnu : u.size ≤ 1000) (hi : i < s.size) (hk : k < u.size) :
    ∃ env, loopH (evC T21 KK b21x0) [0, 1, 6, 7, 8, 9, 10] KK (k21a s u w p i k 0) = some (.exit 4, ⟨env, [.str s, .str u], []⟩) ∧ getT 0 env = .one (.str s) ∧ getT 1 env = .one (.str u) ∧ getT 6 env = .one (.str (ofBytes w)) ∧ getT 7 env = .one (.int .i64 p) ∧ getT 8 env = .one (.int .i64 i) ∧ getT 9 env = .one (.int .i64 k) ∧ getT 10 env = .one (.int .i64 (lcp ((toBytes s).drop i) ((toBytes u).drop k) : Nat)) := by
  have hK := KK_eq
  have hl := size_toBytes s
  have hlu := size_toBytes u
  have hle := lcp_le ((toBytes s).drop i) ((toBytes u).drop k)
  rw [List.length_drop, List.length_drop] at hle
  have L := fun m hm => lcp2_at (ta := toBytes s) (tb := toBytes u) (a := i) (b := k) (m := m) hm
  obtain ⟨N, hN⟩ : ∃ N, lcp ((toBytes s).drop i) ((toBytes u).drop k) = N := ⟨_, rfl⟩
  rw [hN] at L hle ⊢
  have hbody : ∀ m, m < N → ∃ st1, evC T21 KK b21x0 (k21a s u w p i k m) = some (.norm, st1) ∧ St.head [0, 1, 6, 7, 8, 9, 10] st1 = k21a s u w p i k (m + 1) := by
    intro m hm
    obtain ⟨q1, q2, q3⟩ := (L m (by omega)).1 hm
    have w2 : IntKind.i64.wrap ((i : Int) + m) = i + m := i64_in _ (by omega)
    have w3 : IntKind.i64.wrap ((k : Int) + m) = k + m := i64_in _ (by omega)
    have w4 : IntKind.i64.wrap ((m : Int) + 1) = m + 1 := i64_in _ (by omega)
    have c3 : (i : Int) + m < s.size := by omega
    have c4 : (k : Int) + m < u.size := by omega
    have p3 : (0 : Int) ≤ (i : Int) + m := by omega
    have p4 : (0 : Int) ≤ (k : Int) + m := by omega
    have n3 : ((i : Int) + m).toNat = i + m := by omega
    have n4 : ((k : Int) + m).toNat = k + m := by omega
    have x3 : (toBytes s)[i + m]?.getD 0 = (toBytes s).getD (i + m) 0 := by simp [List.getD]
    have x4 : (toBytes u)[k + m]?.getD 0 = (toBytes u).getD (k + m) 0 := by simp [List.getD]
    rw [← q3] at x4
    generalize (toBytes s).getD (i + m) 0 = z at *
    simp -implicitDefEqProofs [b21x0, k21a, upd, w2, w3, w4, c3, c4, n3, n4, p3, p4, x3, x4]
  have hend : ∃ env, evC T21 KK b21x0 (k21a s u w p i k N) = some (.exit 4, ⟨env, [.str s, .str u], []⟩) ∧ getT 0 env = .one (.str s) ∧ getT 1 env = .one (.str u) ∧ getT 6 env = .one (.str (ofBytes w)) ∧ getT 7 env = .one (.int .i64 p) ∧ getT 8 env = .one (.int .i64 i) ∧ getT 9 env = .one (.int .i64 k) ∧ getT 10 env = .one (.int .i64 N) := by
    have q := (L N (by omega)).2 rfl
    have w2 : IntKind.i64.wrap ((i : Int) + N) = i + N := i64_in _ (by omega)
    have w3 : IntKind.i64.wrap ((k : Int) + N) = k + N := i64_in _ (by omega)
    have p3 : (0 : Int) ≤ (i : Int) + N := by omega
    have p4 : (0 : Int) ≤ (k : Int) + N := by omega
    have n3 : ((i : Int) + N).toNat = i + N := by omega
    have n4 : ((k : Int) + N).toNat = k + N := by omega
    by_cases hab : (i : Int) + N < s.size
    · by_cases hc : (k : Int) + N < u.size
      · have hq := q (by omega) (by omega)
        have x3 : (toBytes s)[i + N]?.getD 0 = (toBytes s).getD (i + N) 0 := by simp [List.getD]
        have x4 : (toBytes u)[k + N]?.getD 0 = (toBytes u).getD (k + N) 0 := by simp [List.getD]
        generalize (toBytes s).getD (i + N) 0 = z at *
        generalize (toBytes u).getD (k + N) 0 = z' at *
        simp -implicitDefEqProofs [b21x0, k21a, upd, hab, hc, w2, w3, n3, n4, p3, p4, x3, x4, hq]
      · simp -implicitDefEqProofs [b21x0, k21a, upd, hab, hc, w2, w3]
    · simp -implicitDefEqProofs [b21x0, k21a, upd, hab, w2, w3]
  obtain ⟨env, he, g⟩ := hend
  have el := loopUp (body := evC T21 KK b21x0) (live := [0, 1, 6, 7, 8, 9, 10]) (canon := k21a s u w p i k) (n := N) (x := 4) hbody he (by omega)
  exact ⟨env, el, g⟩
def k21b (s u : ByteArray) (st : List Int × Nat) (i k : Nat) : St := ⟨[(0, .one (.str s)), (1, .one (.str u)), (6, .one (.str (ofBytes st.1))), (7, .one (.int .i64 st.2)), (8, .one (.int .i64 i)), (9, .one (.int .i64 k))], [.str s, .str u], []⟩
theorem body21b (s u : ByteArray) (st : List Int × Nat) (i k : Nat) (hn : s.size ≤ 1000) (hnu : u.size ≤ 1000) (hi : i < s.size) (hk : k < u.size) (hw : st.1.length ≤ s.size) : ∃ st1, evC T21 KK b21x1 (k21b s u st i k) = some (.norm, st1) ∧ St.head [0, 1, 6, 7, 8, 9] st1 = k21b s u (stepM (toBytes s) i (lcp ((toBytes s).drop i) ((toBytes u).drop k)) st) i (k + 1) := by
  obtain ⟨w, p⟩ := st
  have hl := size_toBytes s
  obtain ⟨env, el, g0, g1, g6, g7, g8, g9, g10⟩ := loop21a s u w p i k hn hnu hi hk
  have hle := (lcp_le ((toBytes s).drop i) ((toBytes u).drop k)).1
  rw [List.length_drop] at hle
  unfold stepM
  generalize lcp ((toBytes s).drop i) ((toBytes u).drop k) = n at *
  have eX : s.extract i (i + n) = ofBytes (((toBytes s).drop i).take n) := by rw [ext_mid]; congr 2; omega
  have sw : (ofBytes w).size = w.length := size_ofBytes w
  have c1 : (k : Int) < u.size := by omega
  have c2 : (i : Int) ≤ (i : Int) + n := by omega
  have c3 : (i : Int) + n ≤ s.size := by omega
  have n1 : ((i : Int) + n).toNat = i + n := by omega
  have w1 : IntKind.i64.wrap ((i : Int) + n) = i + n := i64_in _ (by omega)
  have w2 : IntKind.i64.wrap ((k : Int) + 1) = k + 1 := i64_in _ (by omega)
  generalize ((toBytes s).drop i).take n = x at *
  simp only [k21a, Int.natCast_zero] at el
  by_cases h1 : w.length < n
  · have d1 : (w.length : Int) < n := by omega
    rw [if_pos h1]
    simp -implicitDefEqProofs [b21x1, k21b, upd, el, g0, g1, g6, g7, g8, g9, g10, eX, sw, c1, c2, c3, n1, w1, w2, d1, h1]
  · have d1 : ¬ (w.length : Int) < n := by omega
    rw [if_neg h1]
    simp -implicitDefEqProofs [b21x1, k21b, upd, el, g0, g1, g6, g7, g8, g9, g10, sw, c1, w2, d1, h1]
end Go.X.Try
namespace Go.X
theorem found_iff {ta tb : List Int} {ys : List Nat} {i m x y : Nat} (sa : IsSA tb ys) (hi : i + m < ta.length) (F : Found tb ys ((ta.drop i).take (m + 1)) x y) : x = y ↔ Mc ta tb i tb.length ≤ m := by
  have hlen : ((ta.drop i).take (m + 1)).length = m + 1 := by rw [List.length_take, List.length_drop]; omega
  have hc := F.count sa
  have hle := F.le
  have key : (∃ k, k < tb.length ∧ pfx (tb.drop k) ((ta.drop i).take (m + 1)) = true) ↔ m < Mc ta tb i tb.length := by
    constructor
    · rintro ⟨k, hk, h⟩
      have h2 := Mc_ge (a := ta) (b := tb) (i := i) hk
      have h3 : m + 1 ≤ lcp (ta.drop i) (tb.drop k) := by
        have h4 := pfx_len h
        rw [hlen] at h4
        simp only [pfx, decide_eq_true_eq, hlen] at h
        exact lcp_ge_of_take (by rw [List.length_drop]; omega) (by rw [List.length_drop]; omega) h.symm
      omega
    · intro h
      obtain ⟨k, hk, e⟩ := Mc_is (a := ta) (b := tb) (i := i) (k := tb.length) (by omega)
      refine ⟨k, hk, ?_⟩
      simp only [pfx, decide_eq_true_eq, hlen]
      exact (lcp_take (by omega)).symm
  have h0 : (places tb ((ta.drop i).take (m + 1))).length = 0 ↔ ¬ ∃ k, k < tb.length ∧ pfx (tb.drop k) ((ta.drop i).take (m + 1)) = true := by
    rw [List.length_eq_zero_iff]
    simp only [places, List.filter_eq_nil_iff, List.mem_range]
    constructor
    · rintro h ⟨k, hk, e⟩; exact h k hk e
    · intro h k hk e; exact h ⟨k, hk, e⟩
  rw [key] at h0
  have e1 : x = y ↔ (places tb ((ta.drop i).take (m + 1))).length = 0 := by
    clear key h0 F
    generalize (places tb ((ta.drop i).take (m + 1))).length = L at *
    omega
  rw [e1, h0]
  exact Nat.not_lt
end Go.X
namespace Go.X.Try
open Go.IntWalk Go.Proofs
theorem loop21b (s u : ByteArray) (st : List Int × Nat) (i : Nat) (hn : s.size ≤ 1000) (hnu : u.size ≤ 1000) (hi : i < s.size) (hok : isB st.1 ∧ st.1.length ≤ (toBytes s).length ∧ st.2 ≤ (toBytes s).length) :
    ∃ env, loopH (evC T21 KK b21x1) [0, 1, 6, 7, 8, 9] KK (k21b s u st i 0) = some (.exit 2, ⟨env, [.str s, .str u], []⟩) ∧ getT 0 env = .one (.str s) ∧ getT 1 env = .one (.str u) ∧ getT 6 env = .one (.str (ofBytes (stepM (toBytes s) i (Mc (toBytes s) (toBytes u) i (toBytes u).length) st).1)) ∧ getT 7 env = .one (.int .i64 (stepM (toBytes s) i (Mc (toBytes s) (toBytes u) i (toBytes u).length) st).2) ∧ getT 8 env = .one (.int .i64 i) := by
  have hK := KK_eq
  have hl := size_toBytes s
  have hlu := size_toBytes u
  have hbody : ∀ k, k < u.size → ∃ st1, evC T21 KK b21x1 (k21b s u (stepM (toBytes s) i (Mc (toBytes s) (toBytes u) i k) st) i k) = some (.norm, st1) ∧ St.head [0, 1, 6, 7, 8, 9] st1 = k21b s u (stepM (toBytes s) i (Mc (toBytes s) (toBytes u) i (k + 1)) st) i (k + 1) := by
    intro k hk
    have h1 := stepM_ok (isB_toBytes s) (Mc_le (toBytes s) (toBytes u) i k) hok (by omega)
    rw [← stepM_step]
    exact body21b s u _ i k hn hnu hi hk (by omega)
  have z : stepM (toBytes s) i (Mc (toBytes s) (toBytes u) i 0) st = st := by simp [stepM, Mc]
  rw [hlu]
  obtain ⟨env, he, g⟩ : ∃ env, evC T21 KK b21x1 (k21b s u (stepM (toBytes s) i (Mc (toBytes s) (toBytes u) i u.size) st) i u.size) = some (.exit 2, ⟨env, [.str s, .str u], []⟩) ∧ getT 0 env = .one (.str s) ∧ getT 1 env = .one (.str u) ∧ getT 6 env = .one (.str (ofBytes (stepM (toBytes s) i (Mc (toBytes s) (toBytes u) i u.size) st).1)) ∧ getT 7 env = .one (.int .i64 (stepM (toBytes s) i (Mc (toBytes s) (toBytes u) i u.size) st).2) ∧ getT 8 env = .one (.int .i64 i) := by
    generalize stepM (toBytes s) i (Mc (toBytes s) (toBytes u) i u.size) st = st'
    obtain ⟨w, p⟩ := st'
    simp -implicitDefEqProofs [b21x1, k21b, upd]
  have el := loopUp (body := evC T21 KK b21x1) (live := [0, 1, 6, 7, 8, 9]) (canon := fun k => k21b s u (stepM (toBytes s) i (Mc (toBytes s) (toBytes u) i k) st) i k) (n := u.size) (x := 2) hbody he (by omega)
  rw [z] at el
  exact ⟨env, el, g⟩
def k21c (s u : ByteArray) (st : List Int × Nat) (i : Nat) : St := ⟨[(0, .one (.str s)), (1, .one (.str u)), (6, .one (.str (ofBytes st.1))), (7, .one (.int .i64 st.2)), (8, .one (.int .i64 i))], [.str s, .str u], []⟩
theorem f21 (s u : ByteArray) (hn : s.size ≤ 1000) (hnu : u.size ≤ 1000) : F21 [.one (.str s), .one (.str u)] [] = some (.tup [.one (.str (ofBytes (cmi (toBytes s) (toBytes u) s.size).1)), .one (.int .i64 (cmi (toBytes s) (toBytes u) s.size).2)], []) := by
  have hK := KK_eq
  have hl := size_toBytes s
  have hbody : ∀ i, i < s.size → ∃ st1, evC T21 KK b21x2 (k21c s u (cmi (toBytes s) (toBytes u) i) i) = some (.norm, st1) ∧ St.head [0, 1, 6, 7, 8] st1 = k21c s u (cmi (toBytes s) (toBytes u) (i + 1)) (i + 1) := by
    intro i hi
    obtain ⟨env, el, g0, g1, g6, g7, g8⟩ := loop21b s u (cmi (toBytes s) (toBytes u) i) i hn hnu hi (cmi_ok (isB_toBytes s) i (by omega))
    have e : cmi (toBytes s) (toBytes u) (i + 1) = stepM (toBytes s) i (Mc (toBytes s) (toBytes u) i (toBytes u).length) (cmi (toBytes s) (toBytes u) i) := rfl
    rw [e]
    generalize stepM (toBytes s) i (Mc (toBytes s) (toBytes u) i (toBytes u).length) (cmi (toBytes s) (toBytes u) i) = st' at *
    generalize cmi (toBytes s) (toBytes u) i = st at *
    obtain ⟨w, p⟩ := st
    obtain ⟨w', p'⟩ := st'
    have c1 : (i : Int) < s.size := by omega
    have w1 : IntKind.i64.wrap ((i : Int) + 1) = i + 1 := i64_in _ (by omega)
    simp only [k21b, Int.natCast_zero] at el g6 g7
    simp -implicitDefEqProofs [b21x2, k21c, upd, c1, w1, el, g0, g1, g6, g7, g8]
  obtain ⟨env, he, g6, g7⟩ : ∃ env, evC T21 KK b21x2 (k21c s u (cmi (toBytes s) (toBytes u) s.size) s.size) = some (.exit 0, ⟨env, [.str s, .str u], []⟩) ∧ getT 6 env = .one (.str (ofBytes (cmi (toBytes s) (toBytes u) s.size).1)) ∧ getT 7 env = .one (.int .i64 (cmi (toBytes s) (toBytes u) s.size).2) := by
    generalize cmi (toBytes s) (toBytes u) s.size = st
    obtain ⟨w, p⟩ := st
    simp -implicitDefEqProofs [b21x2, k21c, upd]
  have el := loopUp (body := evC T21 KK b21x2) (live := [0, 1, 6, 7, 8]) (canon := fun i => k21c s u (cmi (toBytes s) (toBytes u) i) i) (n := s.size) (x := 0) hbody he (by omega)
  generalize cmi (toBytes s) (toBytes u) s.size = st at *
  obtain ⟨w, p⟩ := st
  simp only [k21c, cmi, ofBytes_nil, Int.natCast_zero] at el g6 g7
  simp -implicitDefEqProofs [F21, c21, upd, el, g6, g7]
def k20a (s u : ByteArray) (ys : List Nat) (al : List Int) (st : List Int × Nat) (i : Nat) : St := ⟨[(0, .one (.str s)), (6, .one (.ptr 0 0)), (7, .one (.str (ofBytes st.1))), (8, .one (.int .i64 st.2)), (9, .one (.int .i64 i)), (25, .one (.int .i64 s.size)), (26, .one (.int .i64 i))], [.str s, .str u], arr none u ys al⟩
def arr' (s : ByteArray) (ys : List Nat) (al : List Int) : List Ob := [.cells none [.str s, .row 3, .row 4], .dead, .dead, .rows none (.ints .i64 (ci ys)), .rows none (.ints .i64 al)]
theorem body20a (s u : ByteArray) (ys : List Nat) (w : List Int) (p i : Nat) (hn : s.size ≤ 1000) (hnu : u.size ≤ 1000) (sa : IsSA (toBytes u) ys) (hi : i + w.length < s.size) :
    (Mc (toBytes s) (toBytes u) i (toBytes u).length ≤ w.length ∧ ∃ env, evC T20 KK b20x0 (k20a s u ys (alL (toBytes u) ys) (w, p) i) = some (.exit 2, ⟨env, [.str s, .str u], arr' u ys (alL (toBytes u) ys)⟩) ∧ getT 0 env = .one (.str s) ∧ getT 6 env = .one (.ptr 0 0) ∧ getT 7 env = .one (.str (ofBytes w)) ∧ getT 8 env = .one (.int .i64 p) ∧ getT 25 env = .one (.int .i64 s.size) ∧ getT 26 env = .one (.int .i64 i)) ∨
    (w.length < Mc (toBytes s) (toBytes u) i (toBytes u).length ∧ ∃ st1, evC T20 KK b20x0 (k20a s u ys (alL (toBytes u) ys) (w, p) i) = some (.norm, st1) ∧ St.head [0, 6, 7, 8, 9, 25, 26] st1 = k20a s u ys (alL (toBytes u) ys) (((toBytes s).drop i).take (w.length + 1), i) i) := by
  have hl := size_toBytes s
  obtain ⟨x, y, F, e14⟩ := f14 (some 0) u (s.extract i (i + w.length + 1)) ys (alL (toBytes u) ys) hnu sa
  have hq : toBytes (s.extract i (i + w.length + 1)) = ((toBytes s).drop i).take (w.length + 1) := by rw [toBytes_mid, show i + w.length + 1 - i = w.length + 1 by omega]
  rw [hq] at F
  have eX : s.extract i (i + w.length + 1) = ofBytes (((toBytes s).drop i).take (w.length + 1)) := by rw [← hq, ofBytes_toBytes]
  have key := found_iff (ta := toBytes s) (m := w.length) sa (by omega) F
  have sw : (ofBytes w).size = w.length := size_ofBytes w
  rw [eX] at e14
  generalize ((toBytes s).drop i).take (w.length + 1) = q at *
  generalize alL (toBytes u) ys = al at *
  have c1 : (i : Int) + w.length < s.size := by omega
  have c2 : (i : Int) ≤ (i : Int) + w.length + 1 := by omega
  have c3 : (i : Int) + w.length + 1 ≤ s.size := by omega
  have n1 : ((i : Int) + w.length + 1).toNat = i + w.length + 1 := by omega
  have w1 : IntKind.i64.wrap ((i : Int) + w.length) = i + w.length := i64_in _ (by omega)
  have w2 : IntKind.i64.wrap ((i : Int) + w.length + 1) = i + w.length + 1 := i64_in _ (by omega)
  simp only [arr] at e14
  by_cases h : x = y
  · left
    refine ⟨key.1 h, ?_⟩
    subst h
    simp -implicitDefEqProofs [b20x0, k20a, arr, arr', upd, sw, c1, c2, c3, n1, w1, w2, eX, e14]
  · right
    refine ⟨by have := fun h2 => h (key.2 h2); omega, ?_⟩
    have d1 : ¬ (x : Int) = y := by omega
    simp -implicitDefEqProofs [b20x0, k20a, arr, upd, sw, c1, c2, c3, n1, w1, w2, eX, e14, h, d1]
theorem loop20a (s u : ByteArray) (ys : List Nat) (i : Nat) (hn : s.size ≤ 1000) (hnu : u.size ≤ 1000) (sa : IsSA (toBytes u) ys) (hi : i < s.size) : ∀ (m KF : Nat) (w : List Int) (p : Nat), Mc (toBytes s) (toBytes u) i (toBytes u).length - w.length ≤ m → m + 1 < KF → w.length ≤ s.size →
    ∃ env hp', (hp' = arr none u ys (alL (toBytes u) ys) ∨ hp' = arr' u ys (alL (toBytes u) ys)) ∧ loopH (evC T20 KK b20x0) [0, 6, 7, 8, 9, 25, 26] KF (k20a s u ys (alL (toBytes u) ys) (w, p) i) = some (.exit 2, ⟨env, [.str s, .str u], hp'⟩) ∧ getT 0 env = .one (.str s) ∧ getT 6 env = .one (.ptr 0 0) ∧ getT 7 env = .one (.str (ofBytes (stepM (toBytes s) i (Mc (toBytes s) (toBytes u) i (toBytes u).length) (w, p)).1)) ∧ getT 8 env = .one (.int .i64 (stepM (toBytes s) i (Mc (toBytes s) (toBytes u) i (toBytes u).length) (w, p)).2) ∧ getT 25 env = .one (.int .i64 s.size) ∧ getT 26 env = .one (.int .i64 i) := by
  have hl := size_toBytes s
  have hM := Mc_le (toBytes s) (toBytes u) i (toBytes u).length
  intro m
  induction m with
  | zero =>
    intro KF w p hm hF hw
    have e0 : stepM (toBytes s) i (Mc (toBytes s) (toBytes u) i (toBytes u).length) (w, p) = (w, p) := if_neg (show ¬ w.length < _ by omega)
    rw [e0]
    by_cases h : i + w.length < s.size
    · rcases body20a s u ys w p i hn hnu sa h with ⟨_, env, e1, e2⟩ | ⟨h2, _⟩
      · exact ⟨env, _, .inr rfl, loopH_exit e1, e2⟩
      · omega
    · have c1 : ¬ (i : Int) + w.length < s.size := by omega
      have w1 : IntKind.i64.wrap ((i : Int) + w.length) = i + w.length := i64_in _ (by omega)
      have sw : (ofBytes w).size = w.length := size_ofBytes w
      obtain ⟨env, e1, e2⟩ : ∃ env, evC T20 KK b20x0 (k20a s u ys (alL (toBytes u) ys) (w, p) i) = some (.exit 2, ⟨env, [.str s, .str u], arr none u ys (alL (toBytes u) ys)⟩) ∧ getT 0 env = .one (.str s) ∧ getT 6 env = .one (.ptr 0 0) ∧ getT 7 env = .one (.str (ofBytes w)) ∧ getT 8 env = .one (.int .i64 p) ∧ getT 25 env = .one (.int .i64 s.size) ∧ getT 26 env = .one (.int .i64 i) := by
        generalize alL (toBytes u) ys = al at *
        simp -implicitDefEqProofs [b20x0, k20a, arr, upd, sw, c1, w1]
      exact ⟨env, _, .inl rfl, loopH_exit e1, e2⟩
  | succ m ih =>
    intro KF w p hm hF hw
    by_cases h3 : Mc (toBytes s) (toBytes u) i (toBytes u).length - w.length ≤ m
    · exact ih KF w p h3 (by omega) hw
    · have h : i + w.length < s.size := by omega
      rcases body20a s u ys w p i hn hnu sa h with ⟨h2, _⟩ | ⟨h2, st1, e1, e2⟩
      · omega
      · have hlen : (((toBytes s).drop i).take (w.length + 1)).length = w.length + 1 := take_len (by omega)
        obtain ⟨env, hp', e0, e3, e4⟩ := ih (KF - 1) (((toBytes s).drop i).take (w.length + 1)) i (by omega) (by omega) (by omega)
        have e5 : stepM (toBytes s) i (Mc (toBytes s) (toBytes u) i (toBytes u).length) (((toBytes s).drop i).take (w.length + 1), i) = stepM (toBytes s) i (Mc (toBytes s) (toBytes u) i (toBytes u).length) (w, p) := by
          have r : stepM (toBytes s) i (Mc (toBytes s) (toBytes u) i (toBytes u).length) (w, p) = (((toBytes s).drop i).take (Mc (toBytes s) (toBytes u) i (toBytes u).length), i) := if_pos h2
          rw [r]
          by_cases h4 : w.length + 1 < Mc (toBytes s) (toBytes u) i (toBytes u).length
          · exact if_pos (show (((toBytes s).drop i).take (w.length + 1)).length < _ by rw [hlen]; exact h4)
          · have r2 : stepM (toBytes s) i (Mc (toBytes s) (toBytes u) i (toBytes u).length) (((toBytes s).drop i).take (w.length + 1), i) = (((toBytes s).drop i).take (w.length + 1), i) := if_neg (show ¬ (((toBytes s).drop i).take (w.length + 1)).length < _ by rw [hlen]; exact h4)
            rw [r2, show Mc (toBytes s) (toBytes u) i (toBytes u).length = w.length + 1 by omega]
        rw [e5] at e4
        exact ⟨env, hp', e0, by rw [loopH_norm e1 (by omega), e2]; exact e3, e4⟩
def k20c (s u : ByteArray) (ys : List Nat) (al : List Int) (st : List Int × Nat) (i : Nat) : St := ⟨[(0, .one (.str s)), (6, .one (.ptr 0 0)), (7, .one (.str (ofBytes st.1))), (8, .one (.int .i64 st.2)), (25, .one (.int .i64 s.size)), (26, .one (.int .i64 i))], [.str s, .str u], arr none u ys al⟩
theorem f20 (s u : ByteArray) (hn : s.size ≤ 400) (hnu : u.size ≤ 400) : F20 [.one (.str s), .one (.str u)] [] = some (.tup [.one (.str (ofBytes (cmi (toBytes s) (toBytes u) s.size).1)), .one (.int .i64 (cmi (toBytes s) (toBytes u) s.size).2)], []) := by
  have hK := KK_eq
  have hl := size_toBytes s
  obtain ⟨ys, sa, e7⟩ := f7 u (by omega)
  have hbody : ∀ i, i < s.size → ∃ st1, evC T20 KK b20x1 (k20c s u ys (alL (toBytes u) ys) (cmi (toBytes s) (toBytes u) i) i) = some (.norm, st1) ∧ St.head [0, 6, 7, 8, 25, 26] st1 = k20c s u ys (alL (toBytes u) ys) (cmi (toBytes s) (toBytes u) (i + 1)) (i + 1) := by
    intro i hi
    have ok := cmi_ok (a := toBytes s) (b := toBytes u) (isB_toBytes s) i (by omega)
    have hM := Mc_le (toBytes s) (toBytes u) i (toBytes u).length
    obtain ⟨env, hp', hh, el, g0, g6, g7, g8, g25, g26⟩ := loop20a s u ys i (by omega) (by omega) sa hi (Mc (toBytes s) (toBytes u) i (toBytes u).length) KK (cmi (toBytes s) (toBytes u) i).1 (cmi (toBytes s) (toBytes u) i).2 (by omega) (by omega) (by omega)
    have e : cmi (toBytes s) (toBytes u) (i + 1) = stepM (toBytes s) i (Mc (toBytes s) (toBytes u) i (toBytes u).length) (cmi (toBytes s) (toBytes u) i) := rfl
    rw [e]
    have e2 : ((cmi (toBytes s) (toBytes u) i).1, (cmi (toBytes s) (toBytes u) i).2) = cmi (toBytes s) (toBytes u) i := rfl
    rw [e2] at el g7 g8
    generalize stepM (toBytes s) i (Mc (toBytes s) (toBytes u) i (toBytes u).length) (cmi (toBytes s) (toBytes u) i) = st' at *
    generalize cmi (toBytes s) (toBytes u) i = st at *
    obtain ⟨w, p⟩ := st
    obtain ⟨w', p'⟩ := st'
    generalize alL (toBytes u) ys = al at *
    have c1 : (i : Int) < s.size := by omega
    have w1 : IntKind.i64.wrap ((i : Int) + 1) = i + 1 := i64_in _ (by omega)
    rcases hh with rfl | rfl
    · simp only [k20a, arr] at el g7 g8
      simp -implicitDefEqProofs [b20x1, k20c, arr, upd, c1, w1, el, g0, g6, g7, g8, g25, g26]
    · simp only [k20a, arr, arr'] at el g7 g8
      simp -implicitDefEqProofs [b20x1, k20c, arr, upd, c1, w1, el, g0, g6, g7, g8, g25, g26]
  obtain ⟨env, he, g7, g8⟩ : ∃ env, evC T20 KK b20x1 (k20c s u ys (alL (toBytes u) ys) (cmi (toBytes s) (toBytes u) s.size) s.size) = some (.exit 0, ⟨env, [.str s, .str u], arr none u ys (alL (toBytes u) ys)⟩) ∧ getT 7 env = .one (.str (ofBytes (cmi (toBytes s) (toBytes u) s.size).1)) ∧ getT 8 env = .one (.int .i64 (cmi (toBytes s) (toBytes u) s.size).2) := by
    generalize cmi (toBytes s) (toBytes u) s.size = st
    obtain ⟨w, p⟩ := st
    simp -implicitDefEqProofs [b20x1, k20c, arr, upd]
  have el := loopUp (body := evC T20 KK b20x1) (live := [0, 6, 7, 8, 25, 26]) (canon := fun i => k20c s u ys (alL (toBytes u) ys) (cmi (toBytes s) (toBytes u) i) i) (n := s.size) (x := 0) hbody he (by omega)
  have x0 := ext_all s
  have x1 := ext_all u
  have d0 : ¬ (400 : Int) < s.size := by omega
  have d1 : ¬ (400 : Int) < u.size := by omega
  generalize cmi (toBytes s) (toBytes u) s.size = st at *
  generalize alL (toBytes u) ys = al at *
  obtain ⟨w, p⟩ := st
  simp only [k20c, cmi, arr, ofBytes_nil, Int.natCast_zero] at el g7 g8
  simp only [arr] at e7
  simp -implicitDefEqProofs [F20, c20, upd, x0, x1, d0, d1, e7, el, g7, g8]
theorem loop19b (s : ByteArray) (i : Nat) (hn : s.size ≤ 1000) (hi : i < s.size) : ∀ (m KF k : Nat) (w : List Int), k + m = i → m + 1 < KF → BestP (toBytes s) i k w →
    ∃ w' env, BestP (toBytes s) i i w' ∧ loopH (evC T19 KK b19x1) [0, 4, 5, 6] KF (k19b s w i k) = some (.exit 2, ⟨env, [.str s], []⟩) ∧ getT 0 env = .one (.str s) ∧ getT 4 env = .one (.str (ofBytes w')) ∧ getT 5 env = .one (.int .i64 i) := by
  have hl := size_toBytes s
  intro m
  induction m with
  | zero =>
    intro KF k w hk hF B
    obtain rfl : k = i := by omega
    obtain ⟨env, e1, e2⟩ : ∃ env, evC T19 KK b19x1 (k19b s w k k) = some (.exit 2, ⟨env, [.str s], []⟩) ∧ getT 0 env = .one (.str s) ∧ getT 4 env = .one (.str (ofBytes w)) ∧ getT 5 env = .one (.int .i64 k) := by
      simp -implicitDefEqProofs [b19x1, k19b, upd]
    exact ⟨w, env, B, loopH_exit e1, e2⟩
  | succ m ih =>
    intro KF k w hk hF B
    obtain ⟨st1, e1, e2⟩ := body19b s w i k hn hi (by omega) B.wB (by have := B.wl; omega)
    obtain ⟨w', env, q1, q2, q3⟩ := ih (KF - 1) (k + 1) _ (by omega) (by omega) (B.step (isB_toBytes s) (by omega) (by omega))
    exact ⟨w', env, q1, by rw [loopH_norm e1 (by omega), e2]; exact q2, q3⟩
def k19c (s : ByteArray) (w : List Int) (i : Nat) : St := ⟨[(0, .one (.str s)), (4, .one (.str (ofBytes w))), (5, .one (.int .i64 i))], [.str s], []⟩
theorem loop19c (s : ByteArray) (hn : s.size ≤ 1000) : ∀ (m KF i : Nat) (w : List Int), i + m = s.size → m + 1 < KF → BestP (toBytes s) i 0 w →
    ∃ w' env, BestP (toBytes s) s.size 0 w' ∧ loopH (evC T19 KK b19x2) [0, 4, 5] KF (k19c s w i) = some (.exit 0, ⟨env, [.str s], []⟩) ∧ getT 0 env = .one (.str s) ∧ getT 4 env = .one (.str (ofBytes w')) := by
  have hK := KK_eq
  intro m
  induction m with
  | zero =>
    intro KF i w hi hF B
    obtain rfl : i = s.size := by omega
    obtain ⟨env, e1, e2⟩ : ∃ env, evC T19 KK b19x2 (k19c s w s.size) = some (.exit 0, ⟨env, [.str s], []⟩) ∧ getT 0 env = .one (.str s) ∧ getT 4 env = .one (.str (ofBytes w)) := by
      simp -implicitDefEqProofs [b19x2, k19c, upd]
    exact ⟨w, env, B, loopH_exit e1, e2⟩
  | succ m ih =>
    intro KF i w hi hF B
    obtain ⟨w1, env1, B1, el, g0, g4, g5⟩ := loop19b s i hn (by omega) i KK 0 w (by omega) (by omega) B
    obtain ⟨st1, e1, e2⟩ : ∃ st1, evC T19 KK b19x2 (k19c s w i) = some (.norm, st1) ∧ St.head [0, 4, 5] st1 = k19c s w1 (i + 1) := by
      have c1 : (i : Int) < s.size := by omega
      have w1' : IntKind.i64.wrap ((i : Int) + 1) = i + 1 := i64_in _ (by omega)
      simp only [k19b, Int.natCast_zero] at el
      simp -implicitDefEqProofs [b19x2, k19c, upd, c1, w1', el, g0, g4, g5]
    obtain ⟨w', env, q1, q2, q3⟩ := ih (KF - 1) (i + 1) w1 (by omega) (by omega) B1.next
    exact ⟨w', env, q1, by rw [loopH_norm e1 (by omega), e2]; exact q2, q3⟩
theorem f19 (s : ByteArray) (hn : s.size ≤ 1000) : ∃ w, Best (toBytes s) w ∧ F19 [.one (.str s)] [] = some (.tup [.one (.int .i64 (if w = [] then 0 else (places (toBytes s) w).getD 0 0 : Nat)), .one (.int .i64 (w.length : Nat))], []) := by
  have hK := KK_eq
  have hl := size_toBytes s
  obtain ⟨w, env, B, el, g0, g4⟩ := loop19c s hn s.size KK 0 [] (by omega) (by omega) (BestP.first _)
  have B2 : Best (toBytes s) w := by rw [← hl] at B; exact B.whole
  have sw : (ofBytes w).size = w.length := size_ofBytes w
  refine ⟨w, B2, ?_⟩
  simp only [k19c, ofBytes_nil, Int.natCast_zero] at el
  by_cases h : w = []
  · subst h
    simp only [ofBytes_nil] at g4
    simp -implicitDefEqProofs [F19, c19, upd, el, g0, g4]
  · have e0 := eqS0 w
    rw [show decide (w = []) = false by simp [h]] at e0
    have e00 : ¬ (ofBytes w).toList = [] := by rw [toL_ofBytes]; simpa using h
    have hwl := B.wl
    have e13 := f13 s (ofBytes w) hn (by rw [sw]; omega)
    rw [toBytes_ofBytes B.wB] at e13
    have pp : 0 < (places (toBytes s) w).length := by
      rcases B2.is with h1 | ⟨i, k, h1, h2, h3, h4, h5⟩
      · exact absurd h1 h
      · have hle := (lcp_le ((toBytes s).drop i) ((toBytes s).drop k)).1
        rw [List.length_drop, h4] at hle
        rw [h5]; exact places_pos h2 hle
    have v2 : (RC.ints .i64 (ci (places (toBytes s) w))).get 0 0 = some (.int .i64 ((places (toBytes s) w).getD 0 0 : Nat)) := by simp only [RC.get, if_true]; rw [ci_getD]
    have lp : (ci (places (toBytes s) w)).length = (places (toBytes s) w).length := ci_length _
    rw [if_neg h]
    generalize places (toBytes s) w = pl at *
    generalize pl.getD 0 0 = p0 at *
    have c1 : (0 : Int) < pl.length := by omega
    simp -implicitDefEqProofs [F19, c19, upd, el, g0, g4, e0, e00, e13, v2, lp, pp, c1, sw, RC.len, RC.size]
theorem f18n : F18 [.one .nilp] [] = some (.tup [.one (.int .i64 0), .one (.int .i64 0)], []) := by
  have e := f9n
  simp -implicitDefEqProofs [F18, c18, upd, e]
theorem law5c (a b : ByteArray) : F5 [.one (.str a), .one (.str b)] [] = some (.one (.bool true), []) := by
  by_cases h : (120 : Int) < a.size
  · simp -implicitDefEqProofs [F5, c5, upd, f6, h]
  by_cases h2 : (120 : Int) < b.size
  · simp -implicitDefEqProofs [F5, c5, upd, f6, h, h2]
  have hn : a.size ≤ 1000 := by omega
  obtain ⟨ys, sa, e7⟩ := f7 a hn
  obtain ⟨P, N, L, e18⟩ := f18 (some 0) a ys hn sa
  obtain ⟨w, B, e19⟩ := f19 a hn
  obtain ⟨r1, r2⟩ := B.lgst sa L
  rw [← r2, r1] at e19
  have e20 := f20 a b (by omega) (by omega)
  have e21 := f21 a b hn (by omega)
  have e9 := f9n
  have e18n := f18n
  have e14 := f14n a
  have e16 := f16n b
  have eq1 : ((ofBytes (cmi (toBytes a) (toBytes b) a.size).1).toList == (ofBytes (cmi (toBytes a) (toBytes b) a.size).1).toList) = true := by simp
  generalize alL (toBytes a) ys = al at *
  generalize ofBytes (cmi (toBytes a) (toBytes b) a.size).1 = x at *
  generalize (cmi (toBytes a) (toBytes b) a.size).2 = y at *
  simp only [arr] at e7 e18
  simp -implicitDefEqProofs [F5, c5, upd, f6, h, h2, e7, e18, e19, e20, e21, e9, e18n, e14, e16, RC.len]
theorem law5 {p1 p2 : Prop} (a b : ByteArray) (_ : p1) (_ : p2) : F5 [.one (.str a), .one (.str b)] [] = some (.one (.bool true), []) := law5c a b
end Go.X.Try
namespace Go.X
open Go.RowKit Go.ChangeShapes Go.ChangeAt Go.WideShapes Go.Deep
theorem list_of {α : Type} {p : Nat → α → Prop} : ∀ (n : Nat), (∀ i, i < n → ∃ a, p i a) → ∃ zs : List α, zs.length = n ∧ ∀ (i : Nat) (a : α), zs[i]? = some a → p i a
  | 0, _ => ⟨[], rfl, fun i a h => by simp at h⟩
  | n + 1, h => by
    obtain ⟨zs, hl, hz⟩ := list_of n (fun i hi => h i (by omega))
    obtain ⟨a, ha⟩ := h n (by omega)
    refine ⟨zs ++ [a], by simp [hl], fun i b hb => ?_⟩
    by_cases hi : i < n
    · rw [List.getElem?_append_left (by omega)] at hb
      exact hz i b hb
    · have hlt := (List.getElem?_eq_some_iff.1 hb).1
      simp only [List.length_append, List.length_cons, List.length_nil] at hlt
      have hin : i = n := by omega
      subst hin
      rw [← hl, List.getElem?_concat_length] at hb
      simp only [Option.some.injEq] at hb
      subst hb
      exact ha
theorem flat_at {α β : Type} {g : α → List β} {s : Nat} {u : β} : ∀ {zs : List α} {j : Nat}, (∀ a ∈ zs, (g a).length = s) → (zs.flatMap g)[j]? = some u → ∃ i r a, j = i * s + r ∧ r < s ∧ zs[i]? = some a ∧ (g a)[r]? = some u
  | [], j, _, h => by simp at h
  | a :: zs, j, hs, h => by
    have ha := hs a (by simp)
    rw [List.flatMap_cons] at h
    by_cases hj : j < s
    · rw [List.getElem?_append_left (by omega)] at h
      exact ⟨0, j, a, by simp, hj, rfl, h⟩
    · rw [List.getElem?_append_right (by omega), ha] at h
      obtain ⟨i, r, b, h1, h2, h3, h4⟩ := flat_at (zs := zs) (fun b hb => hs b (by simp [hb])) h
      exact ⟨i + 1, r, b, by rw [Nat.add_mul]; omega, h2, by simpa using h3, h4⟩
section
variable {H : Type} {enc : TypeId × Value → H} {P : Program} {W : World} {spare : Nat → Bool} {held : Bool}
theorem open_ro {α : Type} (enc' : α → List Sc) (mkc : List α → RC) (Q : α → Prop) {t e : TypeId} {v : Value} {d : DataW H} {ps : List MemPlace} {r : Reach} {b0 : Nat}
    (hsz : ∀ a, Q a → (enc' a).length = P.cellsOf e) (hv : ∀ zs, (mkc zs).vals = zs.flatMap fun a => (enc' a).map Sc.val) (hl : ∀ zs, (mkc zs).len = zs.length)
    (hw : ∀ zs, (∀ a ∈ zs, Q a) → (mkc zs).wf) (hel : ∀ (fuel : Nat) (cs : List Value) (x : DataW H × List MemPlace), DataW.trod enc P W 0 spare held fuel e cs = some x → ∃ a, cs = (enc' a).map Sc.val ∧ Q a)
    (ht : P.underlying t = some (.slice e)) (hpos : 0 < P.cellsOf e) (hval : Value.okWide P W r b0 t v) (h : DataW.Trod enc P W 0 spare held t v d ps) :
    ∃ (zs : List α) (a : Option Addr) (cap b : Nat), v = .slice a (mkc zs).len cap ∧ (mkc zs).len ≤ cap ∧ zs.length ≤ maxLen ∧ (∀ z ∈ zs, Q z) ∧ ∀ (τ : Nat → Nat) (u : Nat), τ u = b → (cx0 P W τ).reads u (mkc zs) a := by
  obtain ⟨a, len, cap, rfl⟩ := okWide_slice ht hval
  obtain ⟨fuel, hf⟩ := h
  rcases open_slice ht hf with ⟨hcs, hx⟩ | ⟨a, len, cap, m, n, D, Pl, hcs, _, hlc, hm, hmm, hx, hi⟩
  · simp [Value.cells] at hcs
    obtain ⟨rfl, rfl, rfl⟩ := hcs
    refine ⟨[], none, 0, 0, by rw [hl]; rfl, by rw [hl]; exact Nat.le_refl _, by simp, by simp, fun τ u _ => ⟨hw [] (by simp), fun h0 => ?_⟩⟩
    rw [hl] at h0
    simp at h0
  · simp [Value.cells] at hcs
    obtain ⟨rfl, rfl, rfl⟩ := hcs
    have hmle : len ≤ m := by rw [hmm]; split <;> omega
    obtain ⟨zs, hzl, hz⟩ := list_of (p := fun i z => W.cells? 0 (a.add (i * P.cellsOf e)) (P.cellsOf e) = some ((enc' z).map Sc.val) ∧ Q z) len (fun i hilt => by
      obtain ⟨cs', h1, h2⟩ := hi i (by omega)
      obtain ⟨z, rfl, hq⟩ := hel _ _ _ h2
      exact ⟨z, h1, hq⟩)
    have hQ : ∀ z ∈ zs, Q z := fun z hm => by
      obtain ⟨i, hi'⟩ := List.getElem?_of_mem hm
      exact (hz i z hi').2
    obtain ⟨b, o, spot⟩ := a
    have spotOf : 0 < len → spot = none := fun h0 => by
      have h1 := hz 0 _ (List.getElem?_eq_getElem (by omega))
      obtain ⟨_, hcl, hat⟩ := World.cells?_some h1.1
      have h2 := hat 0 hpos
      rw [List.getElem?_eq_getElem (by rw [hcl]; exact hpos)] at h2
      simpa [Addr.add] using World.cell?_spot h2
    refine ⟨zs, some ⟨b, o, spot⟩, cap, b, by rw [hl, hzl], by rw [hl]; omega, by omega, hQ, fun τ u hu => ⟨hw zs hQ, fun h0 => ?_⟩⟩
    rw [hl, hzl] at h0
    have hsp := spotOf h0
    subst hsp
    have hcell : ∀ j v, (mkc zs).vals[j]? = some v → W.cell? ⟨b, o + j, none⟩ = some v := fun j v hj => by
      rw [hv] at hj
      obtain ⟨i, q, z, rfl, hq, hzi, hqv⟩ := flat_at (s := P.cellsOf e) (fun z hzm => by rw [List.length_map]; exact hsz z (hQ z hzm)) hj
      obtain ⟨h1, _⟩ := hz i z hzi
      obtain ⟨_, _, hat⟩ := World.cells?_some h1
      have h2 := hat q hq
      rw [hqv] at h2
      rw [← h2, Go.WideShapes.add_plain, Go.WideShapes.add_plain, Nat.add_assoc]
    refine ⟨b, o, rfl, fun hown => ?_, hu, hcell⟩
    rcases hown with hS | hge
    · exact hS
    · have h1 := hz 0 _ (List.getElem?_eq_getElem (by omega))
      obtain ⟨_, hcl, hat⟩ := World.cells?_some h1.1
      have h2 := hat 0 hpos
      rw [List.getElem?_eq_getElem (by rw [hcl]; exact hpos)] at h2
      have h3 : b < W.heap.size := by simpa [Addr.add] using World.block_lt_of_cell? W _ h2
      simp only [cx0] at hge
      omega
def isU8 (x : Int) : Prop := 0 ≤ x ∧ x < 256
theorem open_ro_ints {k : IntKind} {t e : TypeId} {v : Value} {d : DataW H} {ps : List MemPlace} {r : Reach} {b0 : Nat} (ht : P.underlying t = some (.slice e)) (he : P.underlying e = some (.int k)) (hc : P.cellsOf e = 1)
    (hval : Value.okWide P W r b0 t v) (h : DataW.Trod enc P W 0 spare held t v d ps) :
    ∃ (zs : List Int) (a : Option Addr) (cap b : Nat), v = .slice a (RC.ints k zs).len cap ∧ (RC.ints k zs).len ≤ cap ∧ zs.length ≤ maxLen ∧ (∀ z ∈ zs, (Lit.int k z).wf = true) ∧ ∀ (τ : Nat → Nat) (u : Nat), τ u = b → (cx0 P W τ).reads u (.ints k zs) a := by
  refine open_ro (fun z => [.int k z]) (RC.ints k) (fun z => (Lit.int k z).wf = true) (fun a _ => by rw [hc]; rfl) (fun zs => ?_) (fun zs => rfl) (fun zs _ => trivial) (fun fuel cs x hx => ?_) ht (by omega) hval h
  · simp only [RC.vals, List.map_cons, List.map_nil, Sc.val]
    induction zs with
    | nil => rfl
    | cons z zs ih => simp [ih]
  · obtain ⟨n, rfl, _, hw⟩ := DataW.trod_int he hx
    exact ⟨n, rfl, hw⟩
theorem open_ro_strs {t e : TypeId} {v : Value} {d : DataW H} {ps : List MemPlace} {r : Reach} {b0 : Nat} (ht : P.underlying t = some (.slice e)) (he : P.underlying e = some .string) (hc : P.cellsOf e = 1)
    (hval : Value.okWide P W r b0 t v) (h : DataW.Trod enc P W 0 spare held t v d ps) :
    ∃ (zs : List ByteArray) (a : Option Addr) (cap b : Nat), v = .slice a (RC.strs zs).len cap ∧ (RC.strs zs).len ≤ cap ∧ zs.length ≤ maxLen ∧ (∀ z ∈ zs, z.size ≤ maxLen) ∧ ∀ (τ : Nat → Nat) (u : Nat), τ u = b → (cx0 P W τ).reads u (.strs zs) a := by
  refine open_ro (fun z => [.str z]) RC.strs (fun z => z.size ≤ maxLen) (fun a _ => by rw [hc]; rfl) (fun zs => ?_) (fun zs => rfl) (fun zs _ => trivial) (fun fuel cs x hx => ?_) ht (by omega) hval h
  · simp only [RC.vals, List.map_cons, List.map_nil, Sc.val]
    induction zs with
    | nil => rfl
    | cons z zs ih => simp [ih]
  · obtain ⟨n, rfl, _, hw⟩ := DataW.trod_string he hx
    exact ⟨n, rfl, hw⟩
theorem open_ro_bools {t e : TypeId} {v : Value} {d : DataW H} {ps : List MemPlace} {r : Reach} {b0 : Nat} (ht : P.underlying t = some (.slice e)) (he : P.underlying e = some .bool) (hc : P.cellsOf e = 1)
    (hval : Value.okWide P W r b0 t v) (h : DataW.Trod enc P W 0 spare held t v d ps) :
    ∃ (zs : List Bool) (a : Option Addr) (cap b : Nat), v = .slice a (RC.bools zs).len cap ∧ (RC.bools zs).len ≤ cap ∧ zs.length ≤ maxLen ∧ (∀ z ∈ zs, True) ∧ ∀ (τ : Nat → Nat) (u : Nat), τ u = b → (cx0 P W τ).reads u (.bools zs) a := by
  refine open_ro (fun z => [.bool z]) RC.bools (fun _ => True) (fun a _ => by rw [hc]; rfl) (fun zs => ?_) (fun zs => rfl) (fun zs _ => trivial) (fun fuel cs x hx => ?_) ht (by omega) hval h
  · simp only [RC.vals, List.map_cons, List.map_nil, Sc.val]
    induction zs with
    | nil => rfl
    | cons z zs ih => simp [ih]
  · obtain ⟨n, rfl, _⟩ := DataW.trod_bool he hx
    exact ⟨n, rfl, trivial⟩
theorem open_ro_recs (n : Nat) (Q : List Sc → Prop) {t e : TypeId} {v : Value} {d : DataW H} {ps : List MemPlace} {r : Reach} {b0 : Nat} (hn : 0 < n) (hQ : ∀ l, Q l → l.length = n)
    (hel : ∀ (fuel : Nat) (cs : List Value) (x : DataW H × List MemPlace), DataW.trod enc P W 0 spare held fuel e cs = some x → ∃ a : List Sc, cs = a.map Sc.val ∧ Q a)
    (ht : P.underlying t = some (.slice e)) (hc : P.cellsOf e = n) (hval : Value.okWide P W r b0 t v) (h : DataW.Trod enc P W 0 spare held t v d ps) :
    ∃ (zs : List (List Sc)) (a : Option Addr) (cap b : Nat), v = .slice a (RC.recs n zs).len cap ∧ (RC.recs n zs).len ≤ cap ∧ zs.length ≤ maxLen ∧ (∀ z ∈ zs, Q z) ∧ ∀ (τ : Nat → Nat) (u : Nat), τ u = b → (cx0 P W τ).reads u (.recs n zs) a :=
  open_ro id (RC.recs n) Q (fun a ha => by rw [hc]; exact hQ a ha) (fun zs => rfl) (fun zs => rfl) (fun zs hz => ⟨hn, fun l hl => hQ l (hz l hl)⟩) hel ht (by omega) hval h
inductive FK where
  | int (k : IntKind)
  | str
  | bool
def FK.ok : FK → Sc → Prop
  | .int k, .int j x => j = k ∧ (Lit.int k x).wf = true
  | .str, .str s => s.size ≤ maxLen
  | .bool, .bool _ => True
  | _, _ => False
def FK.is (P : Program) (t : TypeId) : FK → Bool
  | .int k => match P.underlying t with
    | some (.int j) => decide (j = k)
    | _ => false
  | .str => match P.underlying t with
    | some .string => true
    | _ => false
  | .bool => match P.underlying t with
    | some .bool => true
    | _ => false
def okFields : List FK → List Sc → Prop
  | [], [] => True
  | k :: ks, c :: cs => k.ok c ∧ okFields ks cs
  | _, _ => False
theorem okFields_length : ∀ {ks : List FK} {l : List Sc}, okFields ks l → l.length = ks.length
  | [], [], _ => rfl
  | [], _ :: _, h => h.elim
  | _ :: _, [], h => h.elim
  | k :: ks, c :: cs, h => by simp [okFields_length h.2]
theorem okFields_of : ∀ {ks : List FK} {l : List Sc}, l.length = ks.length → (∀ (j : Nat) (k : FK) (c : Sc), ks[j]? = some k → l[j]? = some c → k.ok c) → okFields ks l
  | [], [], _, _ => trivial
  | [], _ :: _, h, _ => by simp at h
  | _ :: _, [], h, _ => by simp at h
  | k :: ks, c :: cs, h, hf => ⟨hf 0 k c rfl rfl, okFields_of (by simpa using h) fun j k' c' h1 h2 => hf (j + 1) k' c' (by simpa using h1) (by simpa using h2)⟩
theorem open_fk {fuel : Nat} {t : TypeId} {cs : List Value} {x : DataW H × List MemPlace} (k : FK) (hk : k.is P t = true) (h : DataW.trod enc P W 0 spare held fuel t cs = some x) : ∃ c : Sc, cs = [c.val] ∧ k.ok c := by
  cases k with
  | int k =>
    simp only [FK.is] at hk
    split at hk
    · rename_i j hu
      simp only [decide_eq_true_eq] at hk
      subst hk
      obtain ⟨n, rfl, _, hw⟩ := DataW.trod_int hu h
      exact ⟨.int _ n, rfl, rfl, hw⟩
    · cases hk
  | str =>
    simp only [FK.is] at hk
    split at hk
    · rename_i hu
      obtain ⟨n, rfl, _, hw⟩ := DataW.trod_string hu h
      exact ⟨.str n, rfl, hw⟩
    · cases hk
  | bool =>
    simp only [FK.is] at hk
    split at hk
    · rename_i hu
      obtain ⟨n, rfl, _⟩ := DataW.trod_bool hu h
      exact ⟨.bool n, rfl, trivial⟩
    · cases hk
def fieldsAre (P : Program) (fs : Array Field) (ks : List FK) : Bool := fs.size == ks.length && (fs.toList.zip ks).all fun p => p.2.is P p.1.type
theorem open_fields {e : TypeId} {fs : Array Field} {fuel : Nat} {cs : List Value} {x : DataW H × List MemPlace} (he : P.underlying e = some (.struct fs)) (hone : oneCellFields P fs = true) (hC : P.cellsOf e = fs.size) (ks : List FK) (hks : fieldsAre P fs ks = true)
    (h : DataW.trod enc P W 0 spare held fuel e cs = some x) : ∃ l : List Sc, cs = l.map Sc.val ∧ okFields ks l := by
  obtain ⟨ys, n', hn', hy, hlen, hyl, hf⟩ := DataW.trod_struct he h
  simp only [fieldsAre, Bool.and_eq_true, beq_iff_eq] at hks
  obtain ⟨hsz, hall⟩ := hks
  have hcl : cs.length = fs.size := by rw [hlen]; exact hC
  have each : ∀ j, j < fs.size → ∃ c : Sc, cs[j]? = some c.val ∧ ∀ k, ks[j]? = some k → k.ok c := fun j hj => by
    have hfj : fs[j]? = some fs[j] := Array.getElem?_eq_getElem hj
    obtain ⟨ho, hk⟩ := hone_of hone j fs[j] hfj
    have h1 := hf j fs[j] hfj
    rw [ho, hk] at h1
    have hone' : (cs.drop j).take 1 = [cs[j]'(by omega)] := by
      rw [List.drop_eq_getElem_cons (by omega)]
      rfl
    rw [hone'] at h1
    have hys : ys[j]? = some (ys[j]'(by omega)) := List.getElem?_eq_getElem (by omega)
    have hkj : ks[j]? = some (ks[j]'(by omega)) := List.getElem?_eq_getElem (by omega)
    have hmem : (fs[j], ks[j]'(by omega)) ∈ fs.toList.zip ks := by
      refine List.mem_of_getElem? (i := j) ?_
      rw [List.getElem?_zip_eq_some]
      exact ⟨by simp, hkj⟩
    obtain ⟨c, hc, hok⟩ := open_fk _ (List.all_eq_true.1 hall _ hmem) (h1.trans hys)
    simp only [List.cons.injEq, and_true] at hc
    refine ⟨c, by rw [List.getElem?_eq_getElem (by omega), hc], fun k hk' => ?_⟩
    rw [hkj] at hk'
    simp only [Option.some.injEq] at hk'
    rw [← hk']
    exact hok
  obtain ⟨l, hl, hall'⟩ := list_of (p := fun j c => cs[j]? = some (Sc.val c) ∧ ∀ k, ks[j]? = some k → k.ok c) fs.size each
  refine ⟨l, ?_, okFields_of (by omega) fun j k c h1 h2 => (hall' j c h2).2 k h1⟩
  refine List.ext_getElem? fun j => ?_
  by_cases hj : j < l.length
  · have := (hall' j _ (List.getElem?_eq_getElem hj)).1
    rw [this, List.getElem?_map, List.getElem?_eq_getElem hj]
    rfl
  · rw [List.getElem?_eq_none (by omega), List.getElem?_eq_none (by rw [List.length_map]; omega)]
theorem open_arr {n : Nat} {k : IntKind} {t e : TypeId} {v : Value} {d : DataW H} {ps : List MemPlace} {r : Reach} {b0 : Nat} (ht : P.underlying t = some (.array n e)) (he : P.underlying e = some (.int k)) (hc : P.cellsOf e = 1) (hT : P.cellsOf t = n)
    (hval : Value.okWide P W r b0 t v) (h : DataW.Trod enc P W 0 spare held t v d ps) :
    ∃ zs : List Int, zs.length = n ∧ v = .agg (zs.map (Value.int k)).toArray ∧ ∀ z ∈ zs, (Lit.int k z).wf = true := by
  obtain ⟨cs, rfl, hsz⟩ : ∃ cs, v = .agg cs ∧ cs.size = P.cellsOf t := by
    simp only [Value.okWide, ht] at hval
    cases v <;> simp_all
  obtain ⟨fuel, hf⟩ := h
  obtain ⟨xs, m, _, _, _, hxl, hg⟩ := DataW.trod_array ht hf
  obtain ⟨l⟩ := cs
  simp only [List.size_toArray] at hsz
  rw [hT] at hsz
  obtain ⟨zs, hl, hz⟩ := list_of (p := fun i z => l[i]? = some (Value.int k z) ∧ (Lit.int k z).wf = true) n fun i hi => by
    have h1 := hg i hi
    rw [hc, Nat.mul_one] at h1
    have hli : i < l.length := by omega
    have h2 : ((Value.agg l.toArray).cells.toList.drop i).take 1 = [l[i]] := by
      simp only [Value.cells]
      rw [List.drop_eq_getElem_cons hli]
      rfl
    rw [h2, List.getElem?_eq_getElem (by omega : i < xs.length)] at h1
    obtain ⟨z, hz1, _, hz2⟩ := DataW.trod_int he h1
    simp only [List.cons.injEq, and_true] at hz1
    exact ⟨z, by rw [List.getElem?_eq_getElem hli, hz1], hz2⟩
  refine ⟨zs, hl, ?_, fun z hm => ?_⟩
  · congr 2
    refine List.ext_getElem? fun j => ?_
    by_cases hj : j < zs.length
    · rw [(hz j _ (List.getElem?_eq_getElem hj)).1, List.getElem?_map, List.getElem?_eq_getElem hj]
      rfl
    · rw [List.getElem?_eq_none (by omega), List.getElem?_eq_none (by rw [List.length_map]; omega)]
  · obtain ⟨j, hj⟩ := List.getElem?_of_mem hm
    exact (hz j z hj).2
theorem open_struct {fs : Array Field} {t : TypeId} {v : Value} {d : DataW H} {ps : List MemPlace} {r : Reach} {b0 : Nat} (ht : P.underlying t = some (.struct fs)) (hone : oneCellFields P fs = true) (hC : P.cellsOf t = fs.size) (ks : List FK) (hks : fieldsAre P fs ks = true)
    (hval : Value.okWide P W r b0 t v) (h : DataW.Trod enc P W 0 spare held t v d ps) : ∃ l : List Sc, v = .agg (l.map Sc.val).toArray ∧ okFields ks l := by
  obtain ⟨cs, rfl, hsz⟩ : ∃ cs, v = .agg cs ∧ cs.size = P.cellsOf t := by
    simp only [Value.okWide, ht] at hval
    cases v <;> simp_all
  obtain ⟨fuel, hf⟩ := h
  obtain ⟨l, hl, hok⟩ := open_fields ht hone hC ks hks hf
  refine ⟨l, ?_, hok⟩
  obtain ⟨cs⟩ := cs
  simp only [Value.cells] at hl
  rw [hl]
theorem vrl_scs {C : Cx} {n : Nat} {ρ : Nat → RV} : ∀ l : List Sc, VRL C n ρ (l.map Sc.sv) (l.map Sc.val)
  | [] => .nil
  | .int k x :: l => .cons _ _ _ _ (.int k x) (vrl_scs l)
  | .bool b :: l => .cons _ _ _ _ (.bool b) (vrl_scs l)
  | .str s :: l => .cons _ _ _ _ (.str s) (vrl_scs l)
theorem struct_string {fs : Array Field} {t : TypeId} {cs : List Value} {d : DataW H} {ps : List MemPlace} (ht : P.underlying t = some (.struct fs)) (hone : oneCellFields P fs = true)
    (h : DataW.Trod enc P W 0 spare held t (.agg cs.toArray) d ps) {j : Nat} {f : Field} {s : ByteArray} (hf : fs[j]? = some f) (hu : P.underlying f.type = some .string) (hs : cs[j]? = some (.string s)) : s.size ∈ d.weights P t := by
  obtain ⟨fuel, hx⟩ := h
  obtain ⟨xs, n', hn', hy, hlen, hyl, hfs⟩ := DataW.trod_struct ht hx
  simp only [Prod.mk.injEq] at hy
  obtain ⟨rfl, _⟩ := hy
  obtain ⟨ho, hk⟩ := hone_of hone j f hf
  have h1 := hfs j f hf
  have hj : j < cs.length := by
    rcases Nat.lt_or_ge j cs.length with h | h
    · exact h
    · rw [List.getElem?_eq_none h] at hs; cases hs
  have hone' : ((Value.agg cs.toArray).cells.toList.drop j).take 1 = [.string s] := by
    simp only [Value.cells]
    rw [List.drop_eq_getElem_cons hj]
    rw [List.getElem?_eq_getElem hj] at hs
    simp only [Option.some.injEq] at hs
    rw [hs]
    rfl
  rw [ho, hk, hone'] at h1
  have hjx : j < xs.length := by
    rw [hyl]
    rcases Nat.lt_or_ge j fs.size with h | h
    · exact h
    · rw [Array.getElem?_eq_none h] at hf; cases hf
  rw [List.getElem?_eq_getElem hjx] at h1
  obtain ⟨s', e1, e2, _⟩ := DataW.trod_string hu h1
  simp only [List.cons.injEq, Value.string.injEq, and_true] at e1
  subst e1
  simp only [DataW.weights, ht]
  refine DataW.weights_mem_each (t := f.type) (d := .lit (.string s.data.toList)) (j := j) ?_ ?_ _ ?_
  · rw [List.getElem?_map, Array.getElem?_toList, hf]; rfl
  · rw [List.getElem?_map, List.getElem?_eq_getElem hjx, e2]; rfl
  · simp only [DataW.weights, List.mem_singleton]
    exact (Array.length_toList).symm
theorem vrl_ints {C : Cx} {n : Nat} {ρ : Nat → RV} (k : IntKind) : ∀ zs : List Int, VRL C n ρ (zs.map (SV.int k)) (zs.map (Value.int k))
  | [] => .nil
  | z :: zs => .cons _ _ _ _ (.int k z) (vrl_ints k zs)
end
end Go.X
