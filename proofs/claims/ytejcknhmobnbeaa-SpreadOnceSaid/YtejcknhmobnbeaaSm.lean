import Derived.Test.YtejcknhmobnbeaaSl
set_option maxRecDepth 100000
set_option linter.unusedSimpArgs false
set_option linter.unusedVariables false
namespace Go.X.Try
open Go.IntWalk
/-! ### the document's table: the symbols -/
def symCs (o : List Nat) : List (List Sc) := o.map fun (s : Nat) => [Sc.int .u8 (s : Int), .int .i64 0, .int .i64 0]
theorem symCs_length (o : List Nat) : (symCs o).length = o.length := by simp [symCs]
theorem symCs_set (o : List Nat) (a s : Nat) : (symCs o).set a [.int .u8 (s : Int), .int .i64 0, .int .i64 0] = symCs (o.set a s) := by simp [symCs, List.map_set]
def canon37a (t : Nat) (l : List Int) (L size at_ s k : Int) (cs : List (List Sc)) : St :=
  ⟨[(0, .one (.ro t (.ints .i64 l))), (1, .one (.int .i64 L)), (5, .one (.int .i64 size)), (6, .one (.row 0)), (7, .one (.int .i64 at_)), (8, .one (.int .i64 s)), (9, .one (.int .i64 k))],
    [.ro t (.ints .i64 l), .int .i64 L], [.rows (.recs 3 cs)]⟩
theorem body37a (t : Nat) (l : List Int) (L size n k k' h8 h2 v v2 v3 at' s0 : Int) (at_ s : Nat) (cs : List (List Sc)) (hs : l[s]? = some n) (hk : k < n) (ha : cs[at_]? = some [.int .u8 s0, .int .i64 0, .int .i64 0]) (ws : IntKind.u8.wrap (s : Int) = s) (w2 : IntKind.i64.wrap (size.tdiv 2) = h2) (w8 : IntKind.i64.wrap (size.tdiv 8) = h8)
    (wv : IntKind.i64.wrap ((at_ : Int) + h2) = v) (wv2 : IntKind.i64.wrap (v + h8) = v2) (wv3 : IntKind.i64.wrap (v2 + 3) = v3) (hsz : ¬ size = 0) (hm : v3.tmod size = at') (wk : IntKind.i64.wrap (k + 1) = k') :
    ∃ st1, evC T37 KK b37x0 (canon37a t l L size at_ s k cs) = some (.norm, st1) ∧ St.head [0, 1, 5, 6, 7, 8, 9] st1 = canon37a t l L size at' s k' (cs.set at_ [.int .u8 (s : Int), .int .i64 0, .int .i64 0]) := by
  have l1 := (List.getElem?_eq_some_iff.1 hs).1
  have l2 := (List.getElem?_eq_some_iff.1 ha).1
  have l1i : (s : Int) < l.length := by omega
  have l2i : (at_ : Int) < cs.length := by omega
  have hs' : ∀ hh, l[s]'hh = n := fun hh => by rw [List.getElem?_eq_getElem hh] at hs; simpa using hs
  have ha' : ∀ hh, cs[at_]'hh = [Sc.int .u8 s0, .int .i64 0, .int .i64 0] := fun hh => by rw [List.getElem?_eq_getElem hh] at ha; simpa using ha
  simp -implicitDefEqProofs [b37x0, canon37a, upd, l1, l2, l1i, l2i, hs, hs', hk, ha, ha', ws, w2, w8, wv, wv2, wv3, hsz, hm, wk, RC.len, RC.size, RC.get, RC.set]
theorem end37a (t : Nat) (l : List Int) (L size n at_ k : Int) (s : Nat) (cs : List (List Sc)) (hs : l[s]? = some n) (hk : ¬ k < n) :
    ∃ env, evC T37 KK b37x0 (canon37a t l L size at_ s k cs) = some (.exit 2, ⟨env, [.ro t (.ints .i64 l), .int .i64 L], [.rows (.recs 3 cs)]⟩) ∧ getT 0 env = .one (.ro t (.ints .i64 l)) ∧ getT 1 env = .one (.int .i64 L) ∧ getT 5 env = .one (.int .i64 size) ∧ getT 6 env = .one (.row 0) ∧ getT 7 env = .one (.int .i64 at_) ∧ getT 8 env = .one (.int .i64 s) := by
  have l1 := (List.getElem?_eq_some_iff.1 hs).1
  have l1i : (s : Int) < l.length := by omega
  have hs' : ∀ hh, l[s]'hh = n := fun hh => by rw [List.getElem?_eq_getElem hh] at hs; simpa using hs
  simp -implicitDefEqProofs [b37x0, canon37a, upd, l1, l1i, hs, hs', hk, RC.len, RC.size, RC.get]
theorem loop37a (t : Nat) (l : List Int) {L : Nat} (hL : 5 ≤ L ∧ L ≤ 9) (s n : Nat) (hs : s < 256) (hg : l[s]? = some (n : Int)) : ∀ (j k at_ : Nat) (out : List Nat) (K : Nat), k + j = n → n ≤ 512 → at_ < 2 ^ L → out.length = 2 ^ L → j < K →
    ∃ env, loopH (evC T37 KK b37x0) [0, 1, 5, 6, 7, 8, 9] K (canon37a t l L (2 ^ L : Nat) at_ s k (symCs out)) =
      some (.exit 2, ⟨env, [.ro t (.ints .i64 l), .int .i64 L], [.rows (.recs 3 (symCs (place (2 ^ L) (2 ^ L / 2 + 2 ^ L / 8 + 3) out at_ (List.replicate j s)).1))]⟩) ∧
      getT 0 env = .one (.ro t (.ints .i64 l)) ∧ getT 1 env = .one (.int .i64 L) ∧ getT 5 env = .one (.int .i64 (2 ^ L : Nat)) ∧ getT 6 env = .one (.row 0) ∧ getT 7 env = .one (.int .i64 (place (2 ^ L) (2 ^ L / 2 + 2 ^ L / 8 + 3) out at_ (List.replicate j s)).2) ∧ getT 8 env = .one (.int .i64 s)
  | 0, k, at_, out, K, hj, hn, ha, ho, hK => by
    obtain rfl : k = n := by omega
    obtain ⟨env, e, g⟩ := end37a t l L (2 ^ L : Nat) _ at_ k s (symCs out) hg (by omega)
    simp only [List.replicate_zero, place]
    exact ⟨env, loopH_exit e, g⟩
  | j + 1, k, at_, out, K, hj, hn, ha, ho, hK => by
    have hp : 2 ^ L ≤ 2 ^ 9 := Nat.pow_le_pow_right (by omega) hL.2
    have hp0 := Nat.two_pow_pos L
    have t2 : IntKind.i64.wrap (((2 ^ L : Nat) : Int).tdiv 2) = ((2 ^ L / 2 : Nat) : Int) := by
      rw [show ((2 ^ L : Nat) : Int).tdiv 2 = ((2 ^ L / 2 : Nat) : Int) from (Int.ofNat_tdiv _ 2).symm]; exact i64_in _ (by omega)
    have t8 : IntKind.i64.wrap (((2 ^ L : Nat) : Int).tdiv 8) = ((2 ^ L / 8 : Nat) : Int) := by
      rw [show ((2 ^ L : Nat) : Int).tdiv 8 = ((2 ^ L / 8 : Nat) : Int) from (Int.ofNat_tdiv _ 8).symm]; exact i64_in _ (by omega)
    obtain ⟨s0, hs0⟩ : ∃ s0, out[at_]? = some s0 := ⟨_, List.getElem?_eq_getElem (by omega)⟩
    have hc : (symCs out)[at_]? = some [Sc.int .u8 (s0 : Int), .int .i64 0, .int .i64 0] := by simp [symCs, hs0]
    have hmod : (((at_ + (2 ^ L / 2 + 2 ^ L / 8 + 3) : Nat) : Int)).tmod ((2 ^ L : Nat) : Int) = (((at_ + (2 ^ L / 2 + 2 ^ L / 8 + 3)) % 2 ^ L : Nat) : Int) := (Int.ofNat_tmod _ _).symm
    obtain ⟨st1, e1, e2⟩ := body37a t l L (2 ^ L : Nat) n k ((k + 1 : Nat) : Int) _ _ ((at_ + 2 ^ L / 2 : Nat) : Int) ((at_ + 2 ^ L / 2 + 2 ^ L / 8 : Nat) : Int) ((at_ + (2 ^ L / 2 + 2 ^ L / 8 + 3) : Nat) : Int) _ s0 at_ s (symCs out) hg (by omega) hc (u8_in _ (by omega)) t2 t8
      (by rw [i64_in _ (by omega)]; omega) (by rw [i64_in _ (by omega)]; omega) (by rw [i64_in _ (by omega)]; omega) (by omega) hmod (by rw [i64_in _ (by omega)]; omega)
    obtain ⟨env, q1, q2⟩ := loop37a t l hL s n hs hg j (k + 1) ((at_ + (2 ^ L / 2 + 2 ^ L / 8 + 3)) % 2 ^ L) (out.set at_ s) (K - 1) (by omega) hn (Nat.mod_lt _ hp0) (by simpa using ho) (by omega)
    refine ⟨env, ?_, ?_⟩
    · rw [loopH_norm e1 (by omega), e2, symCs_set, q1]
      simp only [List.replicate_succ, place]
    · simp only [List.replicate_succ, place]; exact q2
def canon37b (t : Nat) (l : List Int) (L size at_ s : Int) (cs : List (List Sc)) : St :=
  ⟨[(0, .one (.ro t (.ints .i64 l))), (1, .one (.int .i64 L)), (5, .one (.int .i64 size)), (6, .one (.row 0)), (7, .one (.int .i64 at_)), (8, .one (.int .i64 s))],
    [.ro t (.ints .i64 l), .int .i64 L], [.rows (.recs 3 cs)]⟩
theorem body37b (t : Nat) (l : List Int) (L size at_ at' s' : Int) (s : Nat) (cs cs' : List (List Sc)) (env : Env) (hi : s < l.length) (wi : IntKind.i64.wrap ((s : Int) + 1) = s')
    (e : loopH (evC T37 KK b37x0) [0, 1, 5, 6, 7, 8, 9] KK (canon37a t l L size at_ s 0 cs) = some (.exit 2, ⟨env, [.ro t (.ints .i64 l), .int .i64 L], [.rows (.recs 3 cs')]⟩))
    (g0 : getT 0 env = .one (.ro t (.ints .i64 l))) (g1 : getT 1 env = .one (.int .i64 L)) (g5 : getT 5 env = .one (.int .i64 size)) (g6 : getT 6 env = .one (.row 0)) (g7 : getT 7 env = .one (.int .i64 at')) (g8 : getT 8 env = .one (.int .i64 s)) :
    ∃ st1, evC T37 KK b37x1 (canon37b t l L size at_ s cs) = some (.norm, st1) ∧ St.head [0, 1, 5, 6, 7, 8] st1 = canon37b t l L size at' s' cs' := by
  have hii : (s : Int) < l.length := by omega
  simp only [canon37a] at e
  simp -implicitDefEqProofs [b37x1, canon37b, upd, hi, hii, wi, e, g0, g1, g5, g6, g7, g8, RC.len]
theorem end37b (t : Nat) (l : List Int) (L size at_ s : Int) (cs : List (List Sc)) (hi : ¬ s < l.length) :
    ∃ env, evC T37 KK b37x1 (canon37b t l L size at_ s cs) = some (.exit 0, ⟨env, [.ro t (.ints .i64 l), .int .i64 L], [.rows (.recs 3 cs)]⟩) ∧ getT 0 env = .one (.ro t (.ints .i64 l)) ∧ getT 1 env = .one (.int .i64 L) ∧ getT 5 env = .one (.int .i64 size) ∧ getT 6 env = .one (.row 0) := by
  simp -implicitDefEqProofs [b37x1, canon37b, upd, hi, RC.len]
theorem loop37b (t : Nat) (l : List Int) (sh : List Nat) {L : Nat} (S : Shr l L sh) : ∀ (j i at_ : Nat) (out : List Nat) (K : Nat), i + j = sh.length → at_ < 2 ^ L → out.length = 2 ^ L → j < K →
    ∃ env, loopH (evC T37 KK b37x1) [0, 1, 5, 6, 7, 8] K (canon37b t l L (2 ^ L : Nat) at_ i (symCs out)) = some (.exit 0, ⟨env, [.ro t (.ints .i64 l), .int .i64 L], [.rows (.recs 3 (symCs (place (2 ^ L) (2 ^ L / 2 + 2 ^ L / 8 + 3) out at_ (runs i (sh.drop i))).1))]⟩) ∧
      getT 0 env = .one (.ro t (.ints .i64 l)) ∧ getT 1 env = .one (.int .i64 L) ∧ getT 5 env = .one (.int .i64 (2 ^ L : Nat)) ∧ getT 6 env = .one (.row 0)
  | 0, i, at_, out, K, hj, ha, ho, hK => by
    have hl : l.length = sh.length := by rw [S.eq]; simp
    obtain ⟨env, e, g⟩ := end37b t l L (2 ^ L : Nat) at_ i (symCs out) (by omega)
    rw [List.drop_eq_nil_of_le (by omega)]
    simp only [runs, place]
    exact ⟨env, loopH_exit e, g⟩
  | j + 1, i, at_, out, K, hj, ha, ho, hK => by
    have hl : l.length = sh.length := by rw [S.eq]; simp
    have hlen := S.len
    have hi : i < sh.length := by omega
    have hg : l[i]? = some ((sh[i] : Nat) : Int) := by rw [S.eq]; simp [hi]
    have hle : sh[i] ≤ 512 := by
      have h1 := fstS_succ hi
      have h2 := fstS_le sh (i + 1)
      have := S.sum
      have := S.size
      omega
    have hpos := Nat.two_pow_pos L
    obtain ⟨env0, ein, g0, g1, g5, g6, g7, g8⟩ := loop37a t l ⟨S.lo, S.hi⟩ i sh[i] (by omega) hg sh[i] 0 at_ out KK (by omega) hle ha ho (by rw [KK_eq]; omega)
    obtain ⟨st1, e1, e2⟩ := body37b t l L (2 ^ L : Nat) at_ _ ((i + 1 : Nat) : Int) i (symCs out) _ env0 (by omega) (by rw [i64_in _ (by omega)]; omega) ein g0 g1 g5 g6 g7 g8
    have ha' := place_at (step := 2 ^ L / 2 + 2 ^ L / 8 + 3) hpos (List.replicate sh[i] i) out at_ ha
    obtain ⟨env, q1, q2⟩ := loop37b t l sh S j (i + 1) _ (place (2 ^ L) (2 ^ L / 2 + 2 ^ L / 8 + 3) out at_ (List.replicate sh[i] i)).1 (K - 1) (by omega) ha'.2 (by rw [place_length]; exact ho) (by omega)
    refine ⟨env, ?_, q2⟩
    rw [loopH_norm e1 (by omega), e2, q1, List.drop_eq_getElem_cons hi]
    simp only [runs, place_append]
end Go.X.Try
