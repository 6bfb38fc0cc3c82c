import Derived.Test.YtejcknhmobnbeaaSd
import Derived.Test.YtejcknhmobnbeaaSf
import Derived.Test.YtejcknhmobnbeaaAx
set_option maxRecDepth 100000
set_option linter.unusedSimpArgs false
set_option linter.unusedVariables false
namespace Go.X.Try
open Go.IntWalk
theorem sumL_ge {x : Int} {l : List Int} (h : okN (x :: l) = true) : 0 ≤ x ∧ x ≤ sumL (x :: l) ∧ okN l = true := by
  simp only [okN, Bool.and_eq_true, decide_eq_true_eq] at h
  have := sumL_nonneg h.2
  exact ⟨h.1.1, by simp only [sumL]; omega, h.2⟩
theorem shl9 {log : Int} (h : 5 ≤ log ∧ log ≤ 9) : shlI .i64 1 log = ((2 ^ log.toNat : Nat) : Int) := by
  have hp2 := pow9 h
  have hmin : Nat.min log.toNat 64 = log.toNat := Nat.min_eq_left (by omega)
  have : shlI .i64 1 log = IntKind.i64.wrap (1 * 2 ^ Nat.min log.toNat 64) := rfl
  rw [this, hmin, Int.one_mul]
  have e2 : (2 : Int) ^ log.toNat = ((2 ^ log.toNat : Nat) : Int) := by push_cast; rfl
  rw [e2]
  exact i64_in _ (by omega)
theorem fair_parts {l : List Int} {log : Int} (h : fairB l log = true) : (5 ≤ log ∧ log ≤ 9) ∧ l.length ≤ 256 ∧ okN l = true ∧ sumL l = ((2 ^ log.toNat : Nat) : Int) := by
  unfold fairB at h
  simp only [Bool.and_eq_true, decide_eq_true_eq] at h
  exact ⟨⟨h.1.1, h.1.2.1⟩, h.1.2.2, h.2.1, h.2.2⟩
theorem nats_sum : ∀ {l : List Int}, okN l = true → ((natsOf l).sum : Int) = sumL l
  | [], _ => rfl
  | x :: l, h => by
    obtain ⟨p1, p2, p3⟩ := sumL_ge h
    have := nats_sum p3
    simp only [natsOf, List.map_cons, List.sum_cons, sumL] at this ⊢
    omega
theorem nats_back : ∀ {l : List Int}, okN l = true → (natsOf l).map (fun (n : Nat) => (n : Int)) = l
  | [], _ => rfl
  | x :: l, h => by
    obtain ⟨p1, p2, p3⟩ := sumL_ge h
    simp only [natsOf, List.map_cons] at *
    rw [show ((x.toNat : Nat) : Int) = x by omega]
    have := nats_back p3
    simp only [natsOf] at this
    rw [this]
/-- What a share is: a log of 5 to 9, up to 256 numbers, with that sum. -/
structure Shr (l : List Int) (L : Nat) (sh : List Nat) : Prop where
  lo : 5 ≤ L
  hi : L ≤ 9
  len : sh.length ≤ 256
  eq : l = sh.map fun (n : Nat) => (n : Int)
  sum : sh.sum = 2 ^ L
theorem shr_of {l : List Int} {log : Int} (h : fairB l log = true) : ∃ L : Nat, log = L ∧ Shr l L (natsOf l) := by
  obtain ⟨h1, h2, h3, h4⟩ := fair_parts h
  refine ⟨log.toNat, by omega, by omega, by omega, by rw [natsOf_length]; omega, (nats_back h3).symm, ?_⟩
  have := nats_sum h3
  rw [h4] at this
  exact_mod_cast this
theorem Shr.size {l : List Int} {L : Nat} {sh : List Nat} (S : Shr l L sh) : 32 ≤ 2 ^ L ∧ 2 ^ L ≤ 512 :=
  ⟨(Nat.pow_le_pow_right (n := 2) (by omega) S.lo : 2 ^ 5 ≤ _), (Nat.pow_le_pow_right (n := 2) (by omega) S.hi : _ ≤ 2 ^ 9)⟩
def ci (o : List Nat) : List Int := o.map fun (n : Nat) => (n : Int)
theorem ci_length (o : List Nat) : (ci o).length = o.length := by simp [ci]
theorem ci_set (o : List Nat) (a s : Nat) : (ci o).set a (s : Int) = ci (o.set a s) := by simp [ci, List.map_set]
theorem ci_get {o : List Nat} {i n : Nat} (h : o[i]? = some n) : (ci o)[i]? = some (n : Int) := by simp [ci, h]
theorem and_mask {x L : Nat} (hx : x < 2 ^ 60) (hL : L ≤ 9) : bitsI .and .i64 (x : Int) ((2 ^ L - 1 : Nat) : Int) = ((x % 2 ^ L : Nat) : Int) := by
  have : 2 ^ L ≤ 2 ^ 9 := Nat.pow_le_pow_right (by omega) hL
  rw [bitsI_and_i64 (by omega) (by omega), Nat.and_two_pow_sub_one_eq_mod]
theorem mapM_rep {α β : Type} {f : α → Option β} {a : α} {b : β} (h : f a = some b) : ∀ n : Nat, List.mapM f (List.replicate n a) = some (List.replicate n b)
  | 0 => rfl
  | n + 1 => by rw [List.replicate_succ, List.mapM_cons, h, mapM_rep h n]; rfl
theorem mks_ints (k : IntKind) (n : Nat) : RC.ofElems (.ints k []) (List.replicate n [Sc.int k 0]) = some (.ints k (List.replicate n 0)) := by
  simp only [RC.ofElems]
  rw [mapM_rep (b := (0 : Int))]
  · rfl
  · simp
theorem mks_recs (n m : Nat) (z : List Sc) (h : z.length = m) : RC.ofElems (.recs m []) (List.replicate n z) = some (.recs m (List.replicate n z)) := by
  simp only [RC.ofElems]
  rw [if_pos]
  simp [h]
/-! ### the symbols of the places -/
def canon59i (t : Nat) (l : List Int) (size step s n at_ k : Int) (out : List Int) : St :=
  ⟨[(1, .one (.int .i64 size)), (5, .one (.row 0)), (6, .one (.int .i64 step)), (7, .one (.int .i64 at_)), (8, .one (.int .i64 s)), (18, .one (.ro t (.ints .i64 l))), (19, .one (.int .i64 l.length)), (20, .one (.int .i64 s)), (25, .one (.int .i64 n)), (26, .one (.int .i64 k))],
    [.ro t (.ints .i64 l), .int .i64 size], [.rows (.ints .u8 out)]⟩
theorem body59i (t : Nat) (l : List Int) (size step s n k k' v m at' : Int) (at_ : Nat) (out : List Int) (hk : k < n) (ha : at_ < out.length) (ws : IntKind.u8.wrap s = s) (wv : IntKind.i64.wrap ((at_ : Int) + step) = v) (wm : IntKind.i64.wrap (size - 1) = m) (hb : bitsI .and .i64 v m = at') (wk : IntKind.i64.wrap (k + 1) = k') :
    ∃ st1, evC T59 KK b59x0 (canon59i t l size step s n at_ k out) = some (.norm, st1) ∧ St.head [1, 5, 6, 7, 8, 18, 19, 20, 25, 26] st1 = canon59i t l size step s n at' k' (out.set at_ s) := by
  have ha' : (at_ : Int) < out.length := by omega
  simp -implicitDefEqProofs [b59x0, canon59i, upd, hk, ha, ha', ws, wv, wm, hb, wk, RC.len, RC.size, RC.set]
theorem end59i (t : Nat) (l : List Int) (size step s n at_ k : Int) (out : List Int) (hk : ¬ k < n) :
    evC T59 KK b59x0 (canon59i t l size step s n at_ k out) = some (.exit 2, ⟨(27, .one (.bool false)) :: (canon59i t l size step s n at_ k out).env, (canon59i t l size step s n at_ k out).rts, (canon59i t l size step s n at_ k out).hp⟩) := by
  simp -implicitDefEqProofs [b59x0, canon59i, upd, hk]
theorem loop59i (t : Nat) (l : List Int) {L : Nat} (hL : L ≤ 9) (step s n : Nat) (hs : s < 256) (hst : step ≤ 2000) : ∀ (j k at_ : Nat) (out : List Nat) (K : Nat), k + j = n → n ≤ 512 → at_ < 2 ^ L → out.length = 2 ^ L → j < K →
    loopH (evC T59 KK b59x0) [1, 5, 6, 7, 8, 18, 19, 20, 25, 26] K (canon59i t l (2 ^ L : Nat) step s n at_ k (ci out)) =
      some (.exit 2, ⟨(27, .one (.bool false)) :: (canon59i t l (2 ^ L : Nat) step s n (place (2 ^ L) step out at_ (List.replicate j s)).2 n (ci (place (2 ^ L) step out at_ (List.replicate j s)).1)).env, (canon59i t l (2 ^ L : Nat) step s n 0 0 []).rts, [.rows (.ints .u8 (ci (place (2 ^ L) step out at_ (List.replicate j s)).1))]⟩)
  | 0, k, at_, out, K, hj, hn, ha, ho, hK => by
    obtain rfl : k = n := by omega
    rw [loopH_exit (end59i t l _ _ _ _ _ _ _ (by omega))]
    simp only [List.replicate_zero, place]
    rfl
  | j + 1, k, at_, out, K, hj, hn, ha, ho, hK => by
    have hp : 2 ^ L ≤ 2 ^ 9 := Nat.pow_le_pow_right (by omega) hL
    have hp0 := Nat.two_pow_pos L
    have wm : IntKind.i64.wrap (((2 ^ L : Nat) : Int) - 1) = ((2 ^ L - 1 : Nat) : Int) := by rw [i64_in _ (by omega)]; omega
    have hb := and_mask (x := at_ + step) (L := L) (by omega) hL
    obtain ⟨st1, e1, e2⟩ := body59i t l (2 ^ L : Nat) step s n k ((k + 1 : Nat) : Int) ((at_ + step : Nat) : Int) _ _ at_ (ci out) (by omega) (by rw [ci_length]; omega) (u8_in _ (by omega)) (by rw [i64_in _ (by omega)]; omega) wm hb (by rw [i64_in _ (by omega)]; omega)
    rw [loopH_norm e1 (by omega), e2, ci_set]
    rw [loop59i t l hL step s n hs hst j (k + 1) ((at_ + step) % 2 ^ L) (out.set at_ s) (K - 1) (by omega) hn (Nat.mod_lt _ hp0) (by simpa using ho) (by omega)]
    simp only [List.replicate_succ, place]
def canon59 (t : Nat) (l : List Int) (size step at_ i : Int) (out : List Int) : St :=
  ⟨[(1, .one (.int .i64 size)), (5, .one (.row 0)), (6, .one (.int .i64 step)), (7, .one (.int .i64 at_)), (18, .one (.ro t (.ints .i64 l))), (19, .one (.int .i64 l.length)), (20, .one (.int .i64 i))],
    [.ro t (.ints .i64 l), .int .i64 size], [.rows (.ints .u8 out)]⟩
theorem body59 (t : Nat) (l : List Int) (size step n at_ at' i' : Int) (i : Nat) (out out' : List Int) (hi : i < l.length) (hn : l[i]? = some n) (wi : IntKind.i64.wrap ((i : Int) + 1) = i')
    (e : loopH (evC T59 KK b59x0) [1, 5, 6, 7, 8, 18, 19, 20, 25, 26] KK (canon59i t l size step i n at_ 0 out) = some (.exit 2, ⟨(27, .one (.bool false)) :: (canon59i t l size step i n at' n out').env, (canon59i t l size step i n 0 0 []).rts, [.rows (.ints .u8 out')]⟩)) :
    ∃ st1, evC T59 KK b59x1 (canon59 t l size step at_ i out) = some (.norm, st1) ∧ St.head [1, 5, 6, 7, 18, 19, 20] st1 = canon59 t l size step at' i' out' := by
  have hii : (i : Int) < l.length := by omega
  have hn' : ∀ hh, l[i]'hh = n := fun hh => by rw [List.getElem?_eq_getElem hh] at hn; simpa using hn
  simp only [canon59i] at e
  simp -implicitDefEqProofs [b59x1, canon59, upd, hi, hii, hn, hn', wi, e, RC.len, RC.size, RC.get]
theorem end59 (t : Nat) (l : List Int) (size step at_ i : Int) (out : List Int) (hi : ¬ i < l.length) :
    ∃ env, evC T59 KK b59x1 (canon59 t l size step at_ i out) = some (.exit 0, ⟨env, (canon59 t l size step at_ i out).rts, [.rows (.ints .u8 out)]⟩) ∧ getT 5 env = .one (.row 0) := by
  simp -implicitDefEqProofs [b59x1, canon59, upd, hi]
theorem loop59 (t : Nat) (l : List Int) (sh : List Nat) {L : Nat} (S : Shr l L sh) (step : Nat) (hst : step ≤ 2000) : ∀ (j i at_ : Nat) (out : List Nat) (K : Nat), i + j = sh.length → at_ < 2 ^ L → out.length = 2 ^ L → j < K →
    ∃ env, loopH (evC T59 KK b59x1) [1, 5, 6, 7, 18, 19, 20] K (canon59 t l (2 ^ L : Nat) step at_ i (ci out)) = some (.exit 0, ⟨env, [.ro t (.ints .i64 l), .int .i64 (2 ^ L : Nat)], [.rows (.ints .u8 (ci (place (2 ^ L) step out at_ (runs i (sh.drop i))).1))]⟩) ∧ getT 5 env = .one (.row 0)
  | 0, i, at_, out, K, hj, ha, ho, hK => by
    have hl : l.length = sh.length := by rw [S.eq]; simp
    obtain ⟨env, e, g⟩ := end59 t l (2 ^ L : Nat) step at_ i (ci out) (by omega)
    rw [List.drop_eq_nil_of_le (by omega)]
    simp only [runs, place]
    exact ⟨env, loopH_exit e, g⟩
  | j + 1, i, at_, out, K, hj, ha, ho, hK => by
    have hl : l.length = sh.length := by rw [S.eq]; simp
    have hlen := S.len
    have hi : i < sh.length := by omega
    have hg : l[i]? = some ((sh[i] : Nat) : Int) := by rw [S.eq]; simp [hi]
    have hle : sh[i] ≤ 512 := by
      have h1 := fstS_succ hi
      have h2 := fstS_le sh (i + 1)
      have := S.sum
      have := S.size
      omega
    have hpos := Nat.two_pow_pos L
    have ein := loop59i t l S.hi step i sh[i] (by omega) hst sh[i] 0 at_ out KK (by omega) hle ha ho (by rw [KK_eq]; omega)
    obtain ⟨st1, e1, e2⟩ := body59 t l (2 ^ L : Nat) step _ at_ _ ((i + 1 : Nat) : Int) i (ci out) _ (by omega) hg (by rw [i64_in _ (by omega)]; omega) ein
    have ha' := place_at (step := step) hpos (List.replicate sh[i] i) out at_ ha
    obtain ⟨env, q1, q2⟩ := loop59 t l sh S step hst j (i + 1) (place (2 ^ L) step out at_ (List.replicate sh[i] i)).2 (place (2 ^ L) step out at_ (List.replicate sh[i] i)).1 (K - 1) (by omega) ha'.2 (by rw [place_length]; exact ho) (by omega)
    refine ⟨env, ?_, q2⟩
    rw [loopH_norm e1 (by omega), e2, q1, List.drop_eq_getElem_cons hi]
    simp only [runs, place_append]
theorem f59 (t : Nat) (l : List Int) (sh : List Nat) {L : Nat} (S : Shr l L sh) : F59 [.one (.ro t (.ints .i64 l)), .one (.int .i64 (2 ^ L : Nat))] [] = some (.one (.row 0), [.rows (.ints .u8 (ci (symOf sh)))]) := by
  have hp := S.size
  obtain ⟨env, e, g⟩ := loop59 t l sh S (2 ^ L / 2 + 2 ^ L / 8 + 3) (by omega) sh.length 0 0 (List.replicate (2 ^ L) 0) KK (by omega) (by omega) (by simp) (by rw [KK_eq]; have := S.len; omega)
  have hsym : (place (2 ^ L) (2 ^ L / 2 + 2 ^ L / 8 + 3) (List.replicate (2 ^ L) 0) 0 (runs 0 (sh.drop 0))).1 = symOf sh := by
    unfold symOf; rw [S.sum]; rfl
  rw [hsym] at e
  have e1 : shrI .i64 ((2 ^ L : Nat) : Int) 1 = ((2 ^ L / 2 : Nat) : Int) := shr_in (k := .i64) (x := 2 ^ L) (n := 1) (by decide)
  have e3 : shrI .i64 ((2 ^ L : Nat) : Int) 3 = ((2 ^ L / 8 : Nat) : Int) := shr_in (k := .i64) (x := 2 ^ L) (n := 3) (by decide)
  have cz : ci (List.replicate (2 ^ L) 0) = List.replicate (2 ^ L) 0 := by simp [ci]
  rw [cz] at e
  generalize hsz : 2 ^ L = sz at *
  have w1 : IntKind.i64.wrap (((sz / 2 : Nat) : Int) + ((sz / 8 : Nat) : Int)) = ((sz / 2 + sz / 8 : Nat) : Int) := by rw [i64_in _ (by omega)]; omega
  have w2 : IntKind.i64.wrap (((sz / 2 + sz / 8 : Nat) : Int) + 3) = ((sz / 2 + sz / 8 + 3 : Nat) : Int) := by rw [i64_in _ (by omega)]; omega
  have hm : (sz : Int) ≤ 140737488355328 := by omega
  have z : ((0 : Nat) : Int) = 0 := rfl
  generalize ((sz / 2 : Nat) : Int) = s2 at *
  generalize ((sz / 8 : Nat) : Int) = s8 at *
  generalize ((sz / 2 + sz / 8 : Nat) : Int) = s28 at *
  generalize ((sz / 2 + sz / 8 + 3 : Nat) : Int) = st at *
  simp only [canon59, z] at e
  simp -implicitDefEqProofs [F59, c59, upd, e, g, e1, e3, w1, w2, hm, mks_ints, RC.len]
end Go.X.Try
