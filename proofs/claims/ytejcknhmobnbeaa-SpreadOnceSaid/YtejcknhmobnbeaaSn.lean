import Derived.Test.YtejcknhmobnbeaaSm
set_option maxRecDepth 100000
set_option linter.unusedSimpArgs false
set_option linter.unusedVariables false
namespace Go.X.Try
open Go.IntWalk
/-! ### the document's table: bits and bases -/
def canon37c (t : Nat) (l : List Int) (L size s x i : Int) (cs : List (List Sc)) : St :=
  ⟨[(0, .one (.ro t (.ints .i64 l))), (1, .one (.int .i64 L)), (5, .one (.int .i64 size)), (6, .one (.row 0)), (10, .one (.int .i64 s)), (11, .one (.int .i64 x)), (12, .one (.int .i64 i))],
    [.ro t (.ints .i64 l), .int .i64 L], [.rows (.recs 3 cs)]⟩
theorem skip37c (t : Nat) (l : List Int) (L size x n i' s0 c1 c2 : Int) (s i : Nat) (cs : List (List Sc)) (hs : l[s]? = some n) (hn : 0 < n) (hi : (i : Int) < size) (hc : cs[i]? = some [.int .u8 s0, .int .i64 c1, .int .i64 c2]) (ws : IntKind.i64.wrap s0 = s0) (hne : ¬ s0 = s) (wi : IntKind.i64.wrap ((i : Int) + 1) = i') :
    ∃ st1, evC T37 KK b37x2 (canon37c t l L size s x i cs) = some (.norm, st1) ∧ St.head [0, 1, 5, 6, 10, 11, 12] st1 = canon37c t l L size s x i' cs := by
  have l1 := (List.getElem?_eq_some_iff.1 hs).1
  have l2 := (List.getElem?_eq_some_iff.1 hc).1
  have l1i : (s : Int) < l.length := by omega
  have l2i : (i : Int) < cs.length := by omega
  have hs' : ∀ hh, l[s]'hh = n := fun hh => by rw [List.getElem?_eq_getElem hh] at hs; simpa using hs
  have hc' : ∀ hh, cs[i]'hh = [Sc.int .u8 s0, .int .i64 c1, .int .i64 c2] := fun hh => by rw [List.getElem?_eq_getElem hh] at hc; simpa using hc
  simp -implicitDefEqProofs [b37x2, canon37c, upd, l1, l2, l1i, l2i, hs, hs', hn, hi, hc, hc', ws, hne, wi, RC.len, RC.size, RC.get, RC.set]
theorem body37c (t : Nat) (l : List Int) (L size x n i' x' w b0 b p xp base c1 c2 : Int) (s i : Nat) (cs : List (List Sc)) (hs : l[s]? = some n) (hn : 0 < n) (hi : (i : Int) < size) (hc : cs[i]? = some [.int .u8 (s : Int), .int .i64 c1, .int .i64 c2]) (ws : IntKind.i64.wrap (s : Int) = s)
    (wu : IntKind.u32.wrap x = x) (e68 : F68 [.one (.int .u32 x)] [] = some (.one (.int .i64 w), [])) (wb0 : IntKind.i64.wrap (L - w) = b0) (wb : IntKind.i64.wrap (b0 + 1) = b) (e51 : F51 [.one (.int .i64 b)] [] = some (.one (.int .i64 p), [])) (wxp : IntKind.i64.wrap (x * p) = xp) (wbs : IntKind.i64.wrap (xp - size) = base)
    (wx : IntKind.i64.wrap (x + 1) = x') (wi : IntKind.i64.wrap ((i : Int) + 1) = i') :
    ∃ st1, evC T37 KK b37x2 (canon37c t l L size s x i cs) = some (.norm, st1) ∧ St.head [0, 1, 5, 6, 10, 11, 12] st1 = canon37c t l L size s x' i' (cs.set i [.int .u8 (s : Int), .int .i64 b, .int .i64 base]) := by
  have l1 := (List.getElem?_eq_some_iff.1 hs).1
  have l2 := (List.getElem?_eq_some_iff.1 hc).1
  have l1i : (s : Int) < l.length := by omega
  have l2i : (i : Int) < cs.length := by omega
  have hs' : ∀ hh, l[s]'hh = n := fun hh => by rw [List.getElem?_eq_getElem hh] at hs; simpa using hs
  have hc' : ∀ hh, cs[i]'hh = [Sc.int .u8 (s : Int), .int .i64 c1, .int .i64 c2] := fun hh => by rw [List.getElem?_eq_getElem hh] at hc; simpa using hc
  simp -implicitDefEqProofs [b37x2, canon37c, upd, l1, l2, l1i, l2i, hs, hs', hn, hi, hc, hc', ws, wu, e68, wb0, wb, e51, wxp, wbs, wx, wi, RC.len, RC.size, RC.get, RC.set]
theorem end37c (t : Nat) (l : List Int) (L size x n i : Int) (s : Nat) (cs : List (List Sc)) (hs : l[s]? = some n) (h : ¬ i < size ∨ ¬ 0 < n) :
    ∃ env, evC T37 KK b37x2 (canon37c t l L size s x i cs) = some (.exit 6, ⟨env, [.ro t (.ints .i64 l), .int .i64 L], [.rows (.recs 3 cs)]⟩) ∧ getT 0 env = .one (.ro t (.ints .i64 l)) ∧ getT 1 env = .one (.int .i64 L) ∧ getT 5 env = .one (.int .i64 size) ∧ getT 6 env = .one (.row 0) ∧ getT 10 env = .one (.int .i64 s) := by
  have l1 := (List.getElem?_eq_some_iff.1 hs).1
  have l1i : (s : Int) < l.length := by omega
  have hs' : ∀ hh, l[s]'hh = n := fun hh => by rw [List.getElem?_eq_getElem hh] at hs; simpa using hs
  by_cases h1 : i < size
  · have h2 : ¬ 0 < n := by rcases h with h | h; exact absurd h1 h; exact h
    simp -implicitDefEqProofs [b37x2, canon37c, upd, l1, l1i, hs, hs', h1, h2, RC.len, RC.size, RC.get]
  · simp -implicitDefEqProofs [b37x2, canon37c, upd, h1]
/-- The cells when the symbols below s are done, and of s the states below i. -/
def cellsAt (L : Nat) (sh : List Nat) (s i : Nat) : List (List Sc) := (List.range (2 ^ L)).map fun j => if (symOf sh).getD j 0 < s ∨ ((symOf sh).getD j 0 = s ∧ j < i) then cellSc L sh j else [.int .u8 (((symOf sh).getD j 0 : Nat) : Int), .int .i64 0, .int .i64 0]
theorem cellsAt_get (L : Nat) (sh : List Nat) (s i j : Nat) (h : j < 2 ^ L) : ∃ c1 c2 : Int, (cellsAt L sh s i)[j]? = some [.int .u8 (((symOf sh).getD j 0 : Nat) : Int), .int .i64 c1, .int .i64 c2] := by
  simp only [cellsAt, List.getElem?_map, List.getElem?_range h, Option.map_some]
  split
  · exact ⟨_, _, rfl⟩
  · exact ⟨_, _, rfl⟩
theorem cellsAt_skip {L : Nat} {sh : List Nat} {s i : Nat} (h : (symOf sh).getD i 0 ≠ s) : cellsAt L sh s (i + 1) = cellsAt L sh s i := by
  apply List.map_congr_left
  intro j _
  by_cases e : j = i
  · subst e
    have : ((symOf sh).getD j 0 < s ∨ ((symOf sh).getD j 0 = s ∧ j < j + 1)) ↔ ((symOf sh).getD j 0 < s ∨ ((symOf sh).getD j 0 = s ∧ j < j)) := by omega
    simp only [this]
  · have : (j < i + 1) ↔ j < i := by omega
    simp only [this]
theorem cellsAt_set {L : Nat} {sh : List Nat} {s i : Nat} (h : (symOf sh).getD i 0 = s) : (cellsAt L sh s i).set i (cellSc L sh i) = cellsAt L sh s (i + 1) := by
  apply List.ext_getElem (by simp [cellsAt])
  intro k h1 h2
  rw [List.getElem_set]
  simp only [cellsAt, List.getElem_map, List.getElem_range]
  by_cases e : i = k
  · subst e; rw [if_pos rfl, if_pos (.inr ⟨h, by omega⟩)]
  · rw [if_neg e]
    have : (k < i + 1) ↔ k < i := by omega
    simp only [this]
theorem cellsAt_next {L : Nat} {sh : List Nat} {s : Nat} : cellsAt L sh s (2 ^ L) = cellsAt L sh (s + 1) 0 := by
  apply List.map_congr_left
  intro j hj
  have hj := List.mem_range.1 hj
  have : ((symOf sh).getD j 0 < s ∨ ((symOf sh).getD j 0 = s ∧ j < 2 ^ L)) ↔ ((symOf sh).getD j 0 < s + 1 ∨ ((symOf sh).getD j 0 = s + 1 ∧ j < 0)) := by omega
  simp only [this]
theorem cellsAt_none {L : Nat} {sh : List Nat} {s : Nat} (h : ∀ j, j < 2 ^ L → (symOf sh).getD j 0 ≠ s) : cellsAt L sh s 0 = cellsAt L sh (s + 1) 0 := by
  apply List.map_congr_left
  intro j hj
  have hj := h j (List.mem_range.1 hj)
  have : ((symOf sh).getD j 0 < s ∨ ((symOf sh).getD j 0 = s ∧ j < 0)) ↔ ((symOf sh).getD j 0 < s + 1 ∨ ((symOf sh).getD j 0 = s + 1 ∧ j < 0)) := by omega
  simp only [this]
theorem getD_some {S : List Nat} {i s : Nat} (h : S[i]? = some s) : S.getD i 0 = s := by simp [List.getD, h]
theorem loop37c (t : Nat) (l : List Int) (sh : List Nat) {L : Nat} (S : Shr l L sh) (s n : Nat) (hs : sh[s]? = some n) (hn : 0 < n) : ∀ (j i : Nat) (K : Nat), i + j = 2 ^ L → j < K →
    ∃ env, loopH (evC T37 KK b37x2) [0, 1, 5, 6, 10, 11, 12] K (canon37c t l L (2 ^ L : Nat) s (n + ((symOf sh).take i).count s : Nat) i (cellsAt L sh s i)) = some (.exit 6, ⟨env, [.ro t (.ints .i64 l), .int .i64 L], [.rows (.recs 3 (cellsAt L sh (s + 1) 0))]⟩) ∧
      getT 0 env = .one (.ro t (.ints .i64 l)) ∧ getT 1 env = .one (.int .i64 L) ∧ getT 5 env = .one (.int .i64 (2 ^ L : Nat)) ∧ getT 6 env = .one (.row 0) ∧ getT 10 env = .one (.int .i64 s)
  | 0, i, K, hj, hK => by
    obtain rfl : i = 2 ^ L := by omega
    have hg : l[s]? = some (n : Int) := by rw [S.eq, List.getElem?_map, hs]; rfl
    obtain ⟨env, e, g⟩ := end37c t l L (2 ^ L : Nat) (n + ((symOf sh).take (2 ^ L)).count s : Nat) n (2 ^ L : Nat) s (cellsAt L sh s (2 ^ L)) hg (.inl (by omega))
    rw [cellsAt_next] at e ⊢
    exact ⟨env, loopH_exit e, g⟩
  | j + 1, i, K, hj, hK => by
    have hsz := S.size
    have hsl : (symOf sh).length = 2 ^ L := by rw [symOf_length, S.sum]
    have hi : i < (symOf sh).length := by omega
    have hlen := S.len
    have hsl2 := (List.getElem?_eq_some_iff.1 hs).1
    have hg : l[s]? = some (n : Int) := by rw [S.eq, List.getElem?_map, hs]; rfl
    obtain ⟨s', hs'⟩ : ∃ s', (symOf sh)[i]? = some s' := ⟨_, List.getElem?_eq_getElem hi⟩
    have hsD := getD_some hs'
    obtain ⟨c1, c2, hc⟩ := cellsAt_get L sh s i i (by omega)
    rw [hsD] at hc
    have hlt' := sym_lt S.sum S.lo hs'
    have hcs := count_take_succ (x := s) hi
    rw [show (symOf sh)[i] = s' from (List.getElem?_eq_some_iff.1 hs').2] at hcs
    by_cases e : s' = s
    · subst e
      rw [if_pos rfl] at hcs
      obtain ⟨n', hn', hy, hr, hnL⟩ := y_bd S.sum S.lo hs'
      rw [hs] at hn'; simp at hn'; subst hn'
      generalize hce : ((symOf sh).take i).count s' = c at *
      have hyb : yOf sh i < 2 ^ (L + 1) := by rw [Nat.pow_succ]; omega
      obtain ⟨b1, b2, b3, b4⟩ := cell_bd (L := L) (y := yOf sh i) (by omega) hyb
      have hL9 := S.hi
      have e68 := e68 ((n + c : Nat) : Int) (by omega) (by omega)
      rw [Int.toNat_natCast, ← hy] at e68
      have hb : bOf L sh i = L + 1 - bl (yOf sh i) := rfl
      have hbase : baseOf L sh i = yOf sh i * 2 ^ bOf L sh i - 2 ^ L := rfl
      rw [← hb] at b3 b4
      have hpw : 2 ^ (L + 1) ≤ 1024 := by rw [Nat.pow_succ]; omega
      have hmul : yOf sh i * 2 ^ bOf L sh i ≤ 1024 := by
        have : yOf sh i * 2 ^ bOf L sh i ≤ (yOf sh i + 1) * 2 ^ bOf L sh i := Nat.mul_le_mul_right _ (by omega)
        omega
      have e51 := e51 ((bOf L sh i : Nat) : Int) (by omega) (by omega)
      rw [Int.toNat_natCast] at e51
      have wxp : IntKind.i64.wrap (((yOf sh i : Nat) : Int) * ((2 ^ bOf L sh i : Nat) : Int)) = ((yOf sh i * 2 ^ bOf L sh i : Nat) : Int) := by
        rw [← Int.natCast_mul]; exact i64_in _ (by omega)
      obtain ⟨st1, q1, q2⟩ := body37c t l L (2 ^ L : Nat) ((yOf sh i : Nat) : Int) n ((i + 1 : Nat) : Int) ((n + (c + 1) : Nat) : Int) ((bl (yOf sh i) : Nat) : Int) ((L : Int) - bl (yOf sh i)) ((bOf L sh i : Nat) : Int) ((2 ^ bOf L sh i : Nat) : Int) _ ((baseOf L sh i : Nat) : Int) c1 c2 s' i (cellsAt L sh s' i) hg (by omega) (by omega) hc
        (i64_in _ (by omega)) (u32_in _ (by omega)) e68 (i64_in _ (by omega)) (by rw [i64_in _ (by omega)]; omega) e51 wxp (by rw [i64_in _ (by omega)]; omega) (by rw [i64_in _ (by omega)]; omega) (by rw [i64_in _ (by omega)]; omega)
      have ecell : [Sc.int .u8 (s' : Int), .int .i64 ((bOf L sh i : Nat) : Int), .int .i64 ((baseOf L sh i : Nat) : Int)] = cellSc L sh i := by simp [cellSc, List.getD, hs']
      rw [ecell, cellsAt_set hsD] at q2
      obtain ⟨env, r1, r2⟩ := loop37c t l sh S s' n hs hn j (i + 1) (K - 1) (by omega) (by omega)
      rw [hcs] at r1
      refine ⟨env, ?_, r2⟩
      rw [← hy, loopH_norm q1 (by omega), q2, r1]
    · rw [if_neg e] at hcs
      have hcs : ((symOf sh).take (i + 1)).count s = ((symOf sh).take i).count s := hcs
      obtain ⟨st1, q1, q2⟩ := skip37c t l L (2 ^ L : Nat) (n + ((symOf sh).take i).count s : Nat) n ((i + 1 : Nat) : Int) s' c1 c2 s i (cellsAt L sh s i) hg (by omega) (by omega) hc (i64_in _ (by omega)) (by omega) (by rw [i64_in _ (by omega)]; omega)
      obtain ⟨env, r1, r2⟩ := loop37c t l sh S s n hs hn j (i + 1) (K - 1) (by omega) (by omega)
      rw [hcs, cellsAt_skip (by rw [hsD]; exact e)] at r1
      refine ⟨env, ?_, r2⟩
      rw [loopH_norm q1 (by omega), q2, r1]
def canon37d (t : Nat) (l : List Int) (L size s : Int) (cs : List (List Sc)) : St :=
  ⟨[(0, .one (.ro t (.ints .i64 l))), (1, .one (.int .i64 L)), (5, .one (.int .i64 size)), (6, .one (.row 0)), (10, .one (.int .i64 s))],
    [.ro t (.ints .i64 l), .int .i64 L], [.rows (.recs 3 cs)]⟩
theorem body37d (t : Nat) (l : List Int) (L size n s' : Int) (s : Nat) (cs cs' : List (List Sc)) (env : Env) (hs : l[s]? = some n) (wi : IntKind.i64.wrap ((s : Int) + 1) = s')
    (e : loopH (evC T37 KK b37x2) [0, 1, 5, 6, 10, 11, 12] KK (canon37c t l L size s n 0 cs) = some (.exit 6, ⟨env, [.ro t (.ints .i64 l), .int .i64 L], [.rows (.recs 3 cs')]⟩))
    (g0 : getT 0 env = .one (.ro t (.ints .i64 l))) (g1 : getT 1 env = .one (.int .i64 L)) (g5 : getT 5 env = .one (.int .i64 size)) (g6 : getT 6 env = .one (.row 0)) (g10 : getT 10 env = .one (.int .i64 s)) :
    ∃ st1, evC T37 KK b37x3 (canon37d t l L size s cs) = some (.norm, st1) ∧ St.head [0, 1, 5, 6, 10] st1 = canon37d t l L size s' cs' := by
  have l1 := (List.getElem?_eq_some_iff.1 hs).1
  have l1i : (s : Int) < l.length := by omega
  have hs' : ∀ hh, l[s]'hh = n := fun hh => by rw [List.getElem?_eq_getElem hh] at hs; simpa using hs
  simp only [canon37c] at e
  simp -implicitDefEqProofs [b37x3, canon37d, upd, l1, l1i, hs, hs', wi, e, g0, g1, g5, g6, g10, RC.len, RC.size, RC.get]
theorem end37d (t : Nat) (l : List Int) (L size s : Int) (cs : List (List Sc)) (hi : ¬ s < l.length) :
    ∃ env, evC T37 KK b37x3 (canon37d t l L size s cs) = some (.exit 4, ⟨env, [.ro t (.ints .i64 l), .int .i64 L], [.rows (.recs 3 cs)]⟩) ∧ getT 6 env = .one (.row 0) := by
  simp -implicitDefEqProofs [b37x3, canon37d, upd, hi, RC.len]
theorem loop37d (t : Nat) (l : List Int) (sh : List Nat) {L : Nat} (S : Shr l L sh) : ∀ (j s : Nat) (K : Nat), s + j = sh.length → j < K →
    ∃ env, loopH (evC T37 KK b37x3) [0, 1, 5, 6, 10] K (canon37d t l L (2 ^ L : Nat) s (cellsAt L sh s 0)) = some (.exit 4, ⟨env, [.ro t (.ints .i64 l), .int .i64 L], [.rows (.recs 3 (cellsTo L sh (2 ^ L)))]⟩) ∧ getT 6 env = .one (.row 0)
  | 0, s, K, hj, hK => by
    have hl : l.length = sh.length := by rw [S.eq]; simp
    obtain rfl : s = sh.length := by omega
    obtain ⟨env, e, g⟩ := end37d t l L (2 ^ L : Nat) sh.length (cellsAt L sh sh.length 0) (by omega)
    have : cellsAt L sh sh.length 0 = cellsTo L sh (2 ^ L) := by
      apply List.map_congr_left
      intro j hj
      have hj := List.mem_range.1 hj
      have hsl : (symOf sh).length = 2 ^ L := by rw [symOf_length, S.sum]
      have h1 : (symOf sh)[j]? = some (symOf sh)[j] := List.getElem?_eq_getElem (by omega)
      have h2 := sym_lt S.sum S.lo h1
      rw [getD_some h1, if_pos (.inl h2), if_pos hj]
    rw [this] at e ⊢
    exact ⟨env, loopH_exit e, g⟩
  | j + 1, s, K, hj, hK => by
    have hl : l.length = sh.length := by rw [S.eq]; simp
    have hlen := S.len
    have hsz := S.size
    have hi : s < sh.length := by omega
    have hs : sh[s]? = some sh[s] := List.getElem?_eq_getElem hi
    have hg : l[s]? = some ((sh[s] : Nat) : Int) := by rw [S.eq]; simp [hi]
    have key : ∃ env, loopH (evC T37 KK b37x2) [0, 1, 5, 6, 10, 11, 12] KK (canon37c t l L (2 ^ L : Nat) s (sh[s] : Nat) (0 : Nat) (cellsAt L sh s 0)) = some (.exit 6, ⟨env, [.ro t (.ints .i64 l), .int .i64 L], [.rows (.recs 3 (cellsAt L sh (s + 1) 0))]⟩) ∧
      getT 0 env = .one (.ro t (.ints .i64 l)) ∧ getT 1 env = .one (.int .i64 L) ∧ getT 5 env = .one (.int .i64 (2 ^ L : Nat)) ∧ getT 6 env = .one (.row 0) ∧ getT 10 env = .one (.int .i64 s) := by
      rcases Nat.eq_zero_or_pos sh[s] with h0 | h0
      · obtain ⟨env, e, g⟩ := end37c t l L (2 ^ L : Nat) (sh[s] : Nat) (sh[s] : Nat) (0 : Nat) s (cellsAt L sh s 0) hg (.inr (by omega))
        have hno : ∀ j, j < 2 ^ L → (symOf sh).getD j 0 ≠ s := by
          intro j hj e
          have hsl : (symOf sh).length = 2 ^ L := by rw [symOf_length, S.sum]
          have h1 : (symOf sh)[j]? = some (symOf sh)[j] := List.getElem?_eq_getElem (by omega)
          rw [getD_some h1] at e
          rw [e] at h1
          have := rk_lt h1
          rw [sym_count S.sum S.lo, hs, h0] at this
          simp at this
        rw [cellsAt_none hno] at e
        rw [cellsAt_none hno]
        exact ⟨env, loopH_exit e, g⟩
      · have := loop37c t l sh S s sh[s] hs h0 (2 ^ L) 0 KK (by omega) (by rw [KK_eq]; omega)
        simpa using this
    obtain ⟨env0, ein, g0, g1, g5, g6, g10⟩ := key
    obtain ⟨st1, e1, e2⟩ := body37d t l L (2 ^ L : Nat) (sh[s] : Nat) ((s + 1 : Nat) : Int) s (cellsAt L sh s 0) _ env0 hg (by rw [i64_in _ (by omega)]; omega) ein g0 g1 g5 g6 g10
    obtain ⟨env, q1, q2⟩ := loop37d t l sh S j (s + 1) (K - 1) (by omega) (by omega)
    refine ⟨env, ?_, q2⟩
    rw [loopH_norm e1 (by omega), e2, q1]
theorem f37 (t : Nat) (l : List Int) (sh : List Nat) {L : Nat} (S : Shr l L sh) : F37 [.one (.ro t (.ints .i64 l)), .one (.int .i64 L)] [] = some (.one (.row 0), [.rows (.recs 3 (cellsTo L sh (2 ^ L)))]) := by
  have hsz := S.size
  have hlen := S.len
  have h5 := S.lo
  have h9 := S.hi
  have e51 := e51 (L : Int) (by omega) (by omega)
  rw [Int.toNat_natCast] at e51
  obtain ⟨env, ea, g0, g1, g5, g6⟩ := loop37b t l sh S sh.length 0 0 (List.replicate (2 ^ L) 0) KK (by omega) (by omega) (by simp) (by rw [KK_eq]; omega)
  obtain ⟨env2, eb, k6⟩ := loop37d t l sh S sh.length 0 KK (by omega) (by rw [KK_eq]; omega)
  have hsym : (place (2 ^ L) (2 ^ L / 2 + 2 ^ L / 8 + 3) (List.replicate (2 ^ L) 0) 0 (runs 0 (sh.drop 0))).1 = symOf sh := by
    unfold symOf; rw [S.sum]; rfl
  have hc0 : symCs (symOf sh) = cellsAt L sh 0 0 := by
    have hsl : (symOf sh).length = 2 ^ L := by rw [symOf_length, S.sum]
    apply List.ext_getElem (by simp [symCs, cellsAt, hsl])
    intro k h1 h2
    have hk : k < (symOf sh).length := by simpa [symCs] using h1
    simp [symCs, cellsAt, List.getD, List.getElem?_eq_getElem hk]
  have hz : symCs (List.replicate (2 ^ L) 0) = List.replicate (2 ^ L) [.int .u8 0, .int .i64 0, .int .i64 0] := by simp [symCs]
  rw [hsym, hc0, hz] at ea
  generalize cellsAt L sh 0 0 = cs0 at *
  generalize hcs : cellsTo L sh (2 ^ L) = cs at *
  generalize 2 ^ L = sz at *
  have n3 : (sz : Int) * 24 ≤ 140737488355328 := by omega
  have mk1 := fun n => mks_recs n 3 [.int .u8 0, .int .i64 0, .int .i64 0] rfl
  have z : ((0 : Nat) : Int) = 0 := rfl
  simp only [canon37b, canon37d, z] at ea eb
  simp -implicitDefEqProofs [F37, c37, upd, e51, ea, eb, g0, g1, g5, g6, k6, n3, mk1, RC.len, RC.size]
end Go.X.Try
