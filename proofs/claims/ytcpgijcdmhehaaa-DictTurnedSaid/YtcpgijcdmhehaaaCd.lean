import Derived.Test.YtcpgijcdmhehaaaCc
set_option maxRecDepth 100000
set_option linter.unusedSimpArgs false
namespace Go.X.Try
open Go.IntWalk
def sz (n : Int) : Nat := if n < 0 then 0 else if 8 < n then 8 else n.toNat
theorem sz_le (n : Int) : sz n ≤ 8 := by unfold sz; split; omega; split <;> omega
theorem f77 (n : Int) : F77 [.one (.int .i64 n)] [] = some (.one (.int .i64 (sz n)), []) := by
  unfold sz
  by_cases h : n < 0
  · simp -implicitDefEqProofs [F77, c77, upd, h]
  · by_cases h8 : 8 < n
    · simp -implicitDefEqProofs [F77, c77, upd, h, h8]
    · have e : ((n.toNat : Nat) : Int) = n := by omega
      simp -implicitDefEqProofs [F77, c77, upd, h, h8, e]
/-- A number in so many bytes. -/
def fixB : Nat → Nat → List Int
  | _, 0 => []
  | v, n + 1 => ((v % 256 : Nat) : Int) :: fixB (v / 256) n
theorem fixB_length : ∀ (n v : Nat), (fixB v n).length = n
  | 0, _ => rfl
  | n + 1, v => by simp [fixB, fixB_length n]
theorem fixB_isB : ∀ (n v : Nat), isB (fixB v n)
  | 0, _ => by simp [fixB, isB]
  | n + 1, v => fun b hb => by
    rcases List.mem_cons.1 hb with rfl | hb
    · omega
    · exact fixB_isB n _ b hb
def canon47 (v0 n0 v m i : Int) (bs : List Int) : St := ⟨[(0, .one (.ptr 0 0)), (1, .one (.int .u64 v)), (10, .one (.int .i64 m)), (11, .one (.int .i64 i))], [.ptr 0 0, .int .u64 v0, .int .i64 n0], wHp (some 0) bs⟩
theorem body47 (v0 n0 v m i b v' i' : Int) (bs : List Int) (hi : i < m) (eb : IntKind.u8.wrap v = b) (es : shrI .u64 v 8 = v') (ei : IntKind.i64.wrap (i + 1) = i') (hm : bs.length + 1 ≤ 140737488355328) :
    ∃ st1, evC T47 KK b47x0 (canon47 v0 n0 v m i bs) = some (.norm, st1) ∧ St.head [0, 1, 10, 11] st1 = canon47 v0 n0 v' m i' (bs ++ [b]) := by
  simp -implicitDefEqProofs [b47x0, canon47, wHp, upd, hi, eb, es, ei, hm, RC.len, RC.size, RC.app, RC.ofElems]
theorem end47 (v0 n0 v m i : Int) (bs : List Int) (hi : ¬ i < m) :
    ∃ env, evC T47 KK b47x0 (canon47 v0 n0 v m i bs) = some (.exit 0, ⟨env, [.ptr 0 0, .int .u64 v0, .int .i64 n0], wHp (some 0) bs⟩) ∧ getT 0 env = .one (.ptr 0 0) := by
  simp -implicitDefEqProofs [b47x0, canon47, upd, hi]
theorem loop47 (v0 n0 : Int) (m : Nat) (hm : m ≤ 8) : ∀ (j i v : Nat) (bs : List Int) (K : Nat), i + j = m → v < 2 ^ 64 → bs.length + j ≤ 100000 → j < K →
    ∃ env, loopH (evC T47 KK b47x0) [0, 1, 10, 11] K (canon47 v0 n0 v m i bs) = some (.exit 0, ⟨env, [.ptr 0 0, .int .u64 v0, .int .i64 n0], wHp (some 0) (bs ++ fixB v j)⟩) ∧ getT 0 env = .one (.ptr 0 0)
  | 0, i, v, bs, K, hi, hv, hl, hK => by
    obtain ⟨env, e, g⟩ := end47 v0 n0 v m i bs (by omega)
    exact ⟨env, by rw [loopH_exit e]; simp [fixB], g⟩
  | j + 1, i, v, bs, K, hi, hv, hl, hK => by
    obtain ⟨st1, e1, e2⟩ := body47 v0 n0 v m i (v % 256 : Nat) (v / 256 : Nat) (i + 1 : Nat) bs (by omega) (by rw [IntKind.wrap_u8]; omega) (shr_in (n := 8) (by simp only [IntKind.bits]; omega)) (by rw [i64_in _ (by omega)]; omega) (by omega)
    obtain ⟨env, e, g⟩ := loop47 v0 n0 m hm j (i + 1) (v / 256) (bs ++ [((v % 256 : Nat) : Int)]) (K - 1) (by omega) (by omega) (by rw [List.length_append, List.length_cons, List.length_nil]; omega) (by omega)
    exact ⟨env, by rw [loopH_norm e1 (by omega), e2, e]; simp [fixB], g⟩
theorem f47 (v : Nat) (n : Int) (bs : List Int) (hv : v < 2 ^ 64) (hl : bs.length ≤ 90000) : F47 [.one (.ptr 0 0), .one (.int .u64 v), .one (.int .i64 n)] (wHp (some 0) bs) = some (.one (.ptr 0 0), wHp (some 0) (bs ++ fixB v (sz n))) := by
  have h8 := sz_le n
  have e77 := f77 n
  obtain ⟨env, e, g⟩ := loop47 v n (sz n) h8 (sz n) 0 v bs KK (by omega) hv (by omega) (by rw [KK_eq]; omega)
  have z : ((0 : Nat) : Int) = 0 := rfl
  simp only [canon47, wHp, z] at e
  simp -implicitDefEqProofs [F47, c47, upd, wHp, e77, e, g]
def canon56 (v0 n0 v : Int) (l : List Int) (i : Int) : St := ⟨[(0, .one (.int .u64 v)), (1, .one (.int .i64 n0)), (5, .one (.str (ofBytes l))), (6, .one (.int .i64 i))], [.int .u64 v0, .int .i64 n0], []⟩
theorem body56 (v0 n0 v r b v' i i' : Int) (l : List Int) (hi : i < n0) (hi8 : i < 8) (er : v.tmod 256 = r) (eb : IntKind.u8.wrap r = b) (es : IntKind.u64.wrap (v.tdiv 256) = v') (ei : IntKind.i64.wrap (i + 1) = i') (hm : l.length + 1 ≤ 9223372036854775807) :
    ∃ st1, evC T56 KK b56x0 (canon56 v0 n0 v l i) = some (.norm, st1) ∧ St.head [0, 1, 5, 6] st1 = canon56 v0 n0 v' (l ++ [b]) i' := by
  have e1 := ofBytes_append l [b]
  have e2 := size_ofBytes [b]
  have e3 := size_ofBytes l
  simp -implicitDefEqProofs [b56x0, canon56, upd, hi, hi8, er, eb, es, ei, hm, e1, e2, e3, RC.len, RC.size, RC.app, RC.ofElems]
theorem end56 (v0 n0 v i : Int) (l : List Int) (hi : n0 ≤ i ∨ 8 ≤ i) :
    ∃ env, evC T56 KK b56x0 (canon56 v0 n0 v l i) = some (.exit 0, ⟨env, [.int .u64 v0, .int .i64 n0], []⟩) ∧ getT 5 env = .one (.str (ofBytes l)) := by
  by_cases h : i < n0
  · have h8 : ¬ i < 8 := by omega
    simp -implicitDefEqProofs [b56x0, canon56, upd, h, h8]
  · simp -implicitDefEqProofs [b56x0, canon56, upd, h]
theorem loop56 (v0 n0 : Int) : ∀ (j i v : Nat) (l : List Int) (K : Nat), i + j = sz n0 → v < 2 ^ 64 → l.length ≤ i → j < K →
    ∃ env, loopH (evC T56 KK b56x0) [0, 1, 5, 6] K (canon56 v0 n0 v l i) = some (.exit 0, ⟨env, [.int .u64 v0, .int .i64 n0], []⟩) ∧ getT 5 env = .one (.str (ofBytes (l ++ fixB v j)))
  | 0, i, v, l, K, hi, hv, hl, hK => by
    obtain ⟨env, e, g⟩ := end56 v0 n0 v i l (by unfold sz at hi; split at hi; omega; split at hi <;> omega)
    exact ⟨env, loopH_exit e, by rw [g]; simp [fixB]⟩
  | j + 1, i, v, l, K, hi, hv, hl, hK => by
    have h8 := sz_le n0
    have hlt : (i : Int) < n0 := by unfold sz at hi; split at hi; omega; split at hi <;> omega
    obtain ⟨st1, e1, e2⟩ := body56 v0 n0 v (v % 256 : Nat) (v % 256 : Nat) (v / 256 : Nat) i (i + 1 : Nat) l hlt (by omega) (by rw [Int.tmod_eq_emod_of_nonneg (by omega)]; omega) (u8_in _ (by omega)) (by rw [Int.tdiv_eq_ediv_of_nonneg (by omega), u64_in _ (by omega)]; omega) (by rw [i64_in _ (by omega)]; omega) (by omega)
    obtain ⟨env, e, g⟩ := loop56 v0 n0 j (i + 1) (v / 256) (l ++ [((v % 256 : Nat) : Int)]) (K - 1) (by omega) (by omega) (by rw [List.length_append, List.length_cons, List.length_nil]; omega) (by omega)
    exact ⟨env, by rw [loopH_norm e1 (by omega), e2]; exact e, by rw [g]; simp [fixB]⟩
theorem f56 (v : Nat) (n : Int) (hv : v < 2 ^ 64) : F56 [.one (.int .u64 v), .one (.int .i64 n)] [] = some (.one (.str (ofBytes (fixB v (sz n)))), []) := by
  have h8 := sz_le n
  obtain ⟨env, e, g⟩ := loop56 v n (sz n) 0 v [] KK (by omega) hv (Nat.le_refl _) (by rw [KK_eq]; omega)
  have z : ((0 : Nat) : Int) = 0 := rfl
  simp only [canon56, ofBytes_nil, z, List.nil_append] at e g
  simp -implicitDefEqProofs [F56, c56, upd, e, g]
def canon80 (v0 v : Int) (l : List Int) : St := ⟨[(0, .one (.int .u64 v)), (3, .one (.str (ofBytes l)))], [.int .u64 v0], []⟩
theorem body80 (v0 v r s b v' : Int) (l : List Int) (hv : 128 ≤ v) (er : v.tmod 128 = r) (es : IntKind.u64.wrap (r + 128) = s) (eb : IntKind.u8.wrap s = b) (ev : IntKind.u64.wrap (v.tdiv 128) = v') (hm : l.length + 1 ≤ 9223372036854775807) :
    ∃ st1, evC T80 KK b80x0 (canon80 v0 v l) = some (.norm, st1) ∧ St.head [0, 3] st1 = canon80 v0 v' (l ++ [b]) := by
  have e1 := ofBytes_append l [b]
  have e2 := size_ofBytes [b]
  have e3 := size_ofBytes l
  simp -implicitDefEqProofs [b80x0, canon80, upd, hv, er, es, eb, ev, hm, e1, e2, e3, RC.len, RC.size, RC.app, RC.ofElems]
theorem end80 (v0 v : Int) (l : List Int) (hv : ¬ 128 ≤ v) :
    ∃ env, evC T80 KK b80x0 (canon80 v0 v l) = some (.exit 0, ⟨env, [.int .u64 v0], []⟩) ∧ getT 0 env = .one (.int .u64 v) ∧ getT 3 env = .one (.str (ofBytes l)) := by
  simp -implicitDefEqProofs [b80x0, canon80, upd, hv]
theorem loop80 (v0 : Int) (v : Nat) : ∀ (l : List Int) (K : Nat), v < 2 ^ 64 → l.length ≤ 90000 → (grp v).length < K → (grp v).length + l.length ≤ 90000 →
    ∃ env l' u, loopH (evC T80 KK b80x0) [0, 3] K (canon80 v0 v l) = some (.exit 0, ⟨env, [.int .u64 v0], []⟩) ∧ getT 0 env = .one (.int .u64 (u : Nat)) ∧ getT 3 env = .one (.str (ofBytes l')) ∧ u < 128 ∧ l' ++ [(u : Int)] = l ++ grp v := by
  induction v using Nat.strongRecOn with
  | ind v ih =>
  intro l K hv hl hK hl2
  by_cases h : v < 128
  · obtain ⟨env, e, g0, g3⟩ := end80 v0 v l (by omega)
    exact ⟨env, l, v, loopH_exit e, g0, g3, h, by rw [grp_lt h]⟩
  · rw [grp_ge h] at hK hl2 ⊢
    simp only [List.length_cons] at hK hl2
    obtain ⟨st1, e1, e2⟩ := body80 v0 v (v % 128 : Nat) (v % 128 + 128 : Nat) (v % 128 + 128 : Nat) (v / 128 : Nat) l (by omega) (by rw [Int.tmod_eq_emod_of_nonneg (by omega)]; omega) (by rw [u64_in _ (by omega)]; omega) (u8_in _ (by omega)) (by rw [Int.tdiv_eq_ediv_of_nonneg (by omega), u64_in _ (by omega)]; omega) (by omega)
    obtain ⟨env, l', u, e, g0, g3, hu, hb⟩ := ih (v / 128) (by omega) (l ++ [((v % 128 + 128 : Nat) : Int)]) (K - 1) (by omega) (by rw [List.length_append, List.length_cons, List.length_nil]; omega) (by omega) (by rw [List.length_append, List.length_cons, List.length_nil]; omega)
    exact ⟨env, l', u, by rw [loopH_norm e1 (by omega), e2]; exact e, g0, g3, hu, by rw [hb]; simp⟩
theorem f80 (v : Nat) (hv : v < 2 ^ 64) : F80 [.one (.int .u64 v)] [] = some (.one (.str (ofBytes (grp v))), []) := by
  have h10 := grp_ten hv
  obtain ⟨env, l, u, e, g0, g3, hu, hb⟩ := loop80 v v [] KK hv (by simp) (by rw [KK_eq]; omega) (by simp only [List.length_nil]; omega)
  rw [List.nil_append] at hb
  have hl := congrArg List.length hb
  simp only [List.length_append, List.length_cons, List.length_nil] at hl
  have w : IntKind.u8.wrap (u : Int) = u := u8_in _ (by omega)
  have e1 := ofBytes_append l [(u : Int)]
  have e2 := size_ofBytes [(u : Int)]
  have e3 := size_ofBytes l
  have hm : l.length + 1 ≤ 9223372036854775807 := by omega
  simp only [canon80, ofBytes_nil] at e
  rw [← hb]
  clear hb hl
  simp -implicitDefEqProofs [F80, c80, upd, e, g0, g3, w, e1, e2, e3, hm, RC.ofElems]
theorem f57 (s : ByteArray) (hs : s.size ≤ 100000) : F57 [.one (.str s)] [] = some (.one (.str (ofBytes (grp s.size ++ toBytes s))), []) := by
  have w : IntKind.u64.wrap (s.size : Int) = s.size := u64_in _ (by omega)
  have e80 := f80 s.size (by omega)
  have h10 := grp_ten (v := s.size) (by omega)
  have e1 := ofBytes_append (grp s.size) (toBytes s)
  rw [ofBytes_toBytes] at e1
  have e3 := size_ofBytes (grp s.size)
  have hm : (grp s.size).length + s.size ≤ 9223372036854775807 := by omega
  simp -implicitDefEqProofs [F57, c57, upd, w, e80, e1, e3, hm]
def canon59 (l : List Int) (v i : Int) : St := ⟨[(0, .one (.str (ofBytes l))), (3, .one (.int .u64 v)), (4, .one (.int .i64 i))], [.str (ofBytes l)], []⟩
theorem body59 (l : List Int) (v i' m b s : Int) (i : Nat) (ht : toBytes (ofBytes l) = l) (hi : i < l.length) (hb : l[i]?.getD 0 = b) (em : IntKind.u64.wrap (v * 256) = m) (ew : IntKind.u64.wrap b = b) (es : IntKind.u64.wrap (m + b) = s) (ei : IntKind.i64.wrap ((i : Int) - 1) = i') :
    ∃ st1, evC T59 KK b59x0 (canon59 l v i) = some (.norm, st1) ∧ St.head [0, 3, 4] st1 = canon59 l s i' := by
  have hb' : l[i] = b := by rw [List.getElem?_eq_getElem hi] at hb; exact hb
  have e3 := size_ofBytes l
  have hi2 : (i : Int) < l.length := by omega
  have hi0 : (0 : Int) ≤ i := by omega
  simp -implicitDefEqProofs [b59x0, canon59, upd, ht, hi, hi2, hi0, hb, hb', em, ew, es, ei, e3]
theorem end59 (l : List Int) (v i : Int) (hi : i < 0) :
    ∃ env, evC T59 KK b59x0 (canon59 l v i) = some (.exit 0, ⟨env, [.str (ofBytes l)], []⟩) ∧ getT 3 env = .one (.int .u64 v) := by
  have h : ¬ 0 ≤ i := by omega
  simp -implicitDefEqProofs [b59x0, canon59, upd, h]
theorem loop59 (l : List Int) (hB : isB l) (hl : l.length ≤ 8) : ∀ (j K : Nat), j ≤ l.length → j < K →
    ∃ env, loopH (evC T59 KK b59x0) [0, 3, 4] K (canon59 l (leB (l.drop j) : Nat) ((j : Int) - 1)) = some (.exit 0, ⟨env, [.str (ofBytes l)], []⟩) ∧ getT 3 env = .one (.int .u64 (leB l : Nat))
  | 0, K, hj, hK => by
    obtain ⟨env, e, g⟩ := end59 l (leB (l.drop 0) : Nat) (((0 : Nat) : Int) - 1) (by omega)
    exact ⟨env, loopH_exit e, g⟩
  | j + 1, K, hj, hK => by
    have hlt : j < l.length := by omega
    have hd : l.drop j = l[j] :: l.drop (j + 1) := List.drop_eq_getElem_cons hlt
    have hb := hB l[j] (List.getElem_mem hlt)
    have hv := leB_lt (isB_drop (j + 1) hB)
    rw [List.length_drop] at hv
    have hv2 : leB (l.drop (j + 1)) < 2 ^ 56 := Nat.lt_of_lt_of_le hv (Nat.pow_le_pow_right (by omega) (by omega))
    have hs : leB (l.drop j) = l[j].toNat + 256 * leB (l.drop (j + 1)) := by rw [hd]; rfl
    have hg : l[j]?.getD 0 = l[j] := by rw [List.getElem?_eq_getElem hlt]; rfl
    obtain ⟨st1, e1, e2⟩ := body59 l (leB (l.drop (j + 1)) : Nat) ((j : Int) - 1) (256 * leB (l.drop (j + 1)) : Nat) l[j] (leB (l.drop j) : Nat) j (toBytes_ofBytes hB) hlt hg (by rw [u64_in _ (by omega)]; omega) (u64_in _ (by omega)) (by rw [u64_in _ (by omega)]; omega) (by rw [i64_in _ (by omega)])
    obtain ⟨env, e, g⟩ := loop59 l hB hl j (K - 1) (by omega) (by omega)
    have hc : ((j + 1 : Nat) : Int) - 1 = (j : Int) := by omega
    rw [hc]
    exact ⟨env, by rw [loopH_norm e1 (by omega), e2]; exact e, g⟩
theorem f59 (l : List Int) (hB : isB l) (hl : l.length ≤ 8) : F59 [.one (.str (ofBytes l))] [] = some (.one (.int .u64 (leB l : Nat)), []) := by
  obtain ⟨env, e, g⟩ := loop59 l hB hl l.length KK (Nat.le_refl _) (by rw [KK_eq]; omega)
  have w : IntKind.i64.wrap ((l.length : Int) - 1) = (l.length : Int) - 1 := i64_in _ (by omega)
  have z : ((0 : Nat) : Int) = 0 := rfl
  have e3 := size_ofBytes l
  rw [List.drop_length] at e
  simp only [canon59, leB, z] at e
  simp -implicitDefEqProofs [F59, c59, upd, e3, w, e, g]
/-! ### the reader's numbers in so many bytes -/
def canon52 (n0 : Int) (hp : List Ob) (l : List Int) (v i : Int) : St := ⟨[(5, .one (.int .u64 v)), (12, .one (.row 1)), (13, .one (.int .i64 l.length)), (14, .one (.int .i64 i))], [.ptr 0 0, .int .i64 n0], hp ++ [.rows (.ints .u8 l)]⟩
theorem body52 (n0 v s p v' i' b : Int) (x : ByteArray) (bad : Bool) (l : List Int) (i : Nat) (hi : i < l.length) (hb : l[i]?.getD 0 = b) (ec : IntKind.u64.wrap b = b) (es : IntKind.i64.wrap (8 * (i : Int)) = s) (hs : ¬ s < 0) (ep : shlI .u64 b s = p) (ev : bitsI .or .u64 v p = v') (ei : IntKind.i64.wrap ((i : Int) + 1) = i') :
    ∃ st1, evC T52 KK b52x0 (canon52 n0 [.cells (some 0) [.str x, .bool bad]] l v i) = some (.norm, st1) ∧ St.head [5, 12, 13, 14] st1 = canon52 n0 [.cells (some 0) [.str x, .bool bad]] l v' i' := by
  have hb' : l[i] = b := by rw [List.getElem?_eq_getElem hi] at hb; exact hb
  have hi2 : (i : Int) < l.length := by omega
  simp -implicitDefEqProofs [b52x0, canon52, upd, hi, hi2, hb, hb', ec, es, hs, ep, ev, ei, RC.len, RC.size, RC.get]
theorem end52 (n0 v i : Int) (x : ByteArray) (bad : Bool) (l : List Int) (hi : ¬ i < l.length) :
    ∃ env, evC T52 KK b52x0 (canon52 n0 [.cells (some 0) [.str x, .bool bad]] l v i) = some (.exit 0, ⟨env, [.ptr 0 0, .int .i64 n0], [.cells (some 0) [.str x, .bool bad], .rows (.ints .u8 l)]⟩) ∧ getT 5 env = .one (.int .u64 v) := by
  simp -implicitDefEqProofs [b52x0, canon52, upd, hi]
theorem leB_take {l : List Int} {i : Nat} (h : i < l.length) : leB (l.take (i + 1)) = leB (l.take i) + l[i].toNat * 2 ^ (8 * i) := by
  rw [← List.take_append_getElem h, leB_append, List.length_take, Nat.min_eq_left (by omega)]
  simp [leB, Nat.mul_comm]
theorem loop52 (n0 : Int) (x : ByteArray) (bad : Bool) (l : List Int) (hB : isB l) (hl : l.length ≤ 8) : ∀ (j i K : Nat), i + j = l.length → j < K →
    ∃ env, loopH (evC T52 KK b52x0) [5, 12, 13, 14] K (canon52 n0 [.cells (some 0) [.str x, .bool bad]] l (leB (l.take i) : Nat) i) = some (.exit 0, ⟨env, [.ptr 0 0, .int .i64 n0], [.cells (some 0) [.str x, .bool bad], .rows (.ints .u8 l)]⟩) ∧ getT 5 env = .one (.int .u64 (leB l : Nat))
  | 0, i, K, hi, hK => by
    obtain rfl : i = l.length := by omega
    obtain ⟨env, e, g⟩ := end52 n0 (leB (l.take l.length) : Nat) (l.length : Nat) x bad l (by omega)
    rw [List.take_length] at *
    exact ⟨env, loopH_exit e, g⟩
  | j + 1, i, K, hi, hK => by
    have hlt : i < l.length := by omega
    have hb := hB l[i] (List.getElem_mem hlt)
    have hg : l[i]?.getD 0 = l[i] := by rw [List.getElem?_eq_getElem hlt]; rfl
    obtain ⟨β, hβ⟩ : ∃ β : Nat, l[i] = β := ⟨l[i].toNat, by omega⟩
    rw [hβ] at hg hb
    have hv := leB_lt (isB_take i hB)
    rw [List.length_take, Nat.min_eq_left (by omega)] at hv
    have hstep := leB_take hlt
    rw [hβ, Int.toNat_natCast] at hstep
    have hfit : leB (l.take (i + 1)) < 2 ^ 64 := by
      have h1 := leB_lt (isB_take (i + 1) hB)
      rw [List.length_take, Nat.min_eq_left (by omega)] at h1
      exact Nat.lt_of_lt_of_le h1 (Nat.pow_le_pow_right (by omega) (by omega))
    rw [hstep] at hfit
    have ep : shlI .u64 (β : Int) ((8 * i : Nat) : Int) = ((β * 2 ^ (8 * i) : Nat) : Int) := shl_in rfl (by simp only [IntKind.bits]; omega) (by simp only [IntKind.bits]; omega)
    have ev : bitsI .or .u64 ((leB (l.take i) : Nat) : Int) ((β * 2 ^ (8 * i) : Nat) : Int) = ((leB (l.take i) + β * 2 ^ (8 * i) : Nat) : Int) := or_add rfl hv (by simp only [IntKind.bits]; exact hfit)
    rw [← hstep] at ev
    obtain ⟨st1, e1, e2⟩ := body52 n0 (leB (l.take i) : Nat) (8 * i : Nat) _ _ (i + 1 : Nat) β x bad l i hlt hg (u64_in _ (by omega)) (by rw [i64_in _ (by omega)]; omega) (by omega) ep ev (by rw [i64_in _ (by omega)]; omega)
    obtain ⟨env, e, g⟩ := loop52 n0 x bad l hB hl j (i + 1) (K - 1) (by omega) (by omega)
    exact ⟨env, by rw [loopH_norm e1 (by omega), e2]; exact e, g⟩
theorem f52x (n : Int) (l y r : List Int) (bad bad' : Bool) (hB : isB y) (hy : y.length ≤ 8)
    (e51 : F51 [.one (.ptr 0 0), .one (.int .i64 (sz n))] (rHp (some 0) l bad) = some (.one (.str (ofBytes y)), rHp (some 0) r bad')) :
    F52 [.one (.ptr 0 0), .one (.int .i64 n)] (rHp (some 0) l bad) = some (.one (.int .u64 (leB y : Nat)), rHp (some 0) r bad') := by
  have e77 := f77 n
  obtain ⟨env, e, g⟩ := loop52 n (ofBytes r) bad' y hB hy y.length 0 KK (by omega) (by rw [KK_eq]; omega)
  have z : ((0 : Nat) : Int) = 0 := rfl
  have ht := toBytes_ofBytes hB
  have hsz : (ofBytes y).size ≤ 140737488355328 := by rw [size_ofBytes]; omega
  simp only [canon52, leB, List.take_zero, z, List.cons_append, List.nil_append] at e
  simp only [rHp] at e51 ⊢
  simp -implicitDefEqProofs [F52, c52, upd, e77, e51, ht, hsz, e, g, RC.len]
theorem f52 (l : List Int) (n : Int) (hB : isB l) (hl : l.length ≤ 90000) : F52 [.one (.ptr 0 0), .one (.int .i64 n)] (rHp (some 0) l false) = some (.one (.int .u64 (leB (rAns l (sz n)).1 : Nat)), rHp (some 0) (rAns l (sz n)).2.1 (rAns l (sz n)).2.2) := by
  have h8 := sz_le n
  refine f52x n l _ _ _ _ ?_ ?_ (f51' l (sz n) hl)
  · unfold rAns; split
    · simp [isB]
    · exact isB_take _ hB
  · unfold rAns; split
    · simp
    · rw [List.length_take]; omega
theorem f52b (l : List Int) (n : Int) : F52 [.one (.ptr 0 0), .one (.int .i64 n)] (rHp (some 0) l true) = some (.one (.int .u64 0), rHp (some 0) [] true) :=
  f52x n l [] [] true true (by simp [isB]) (by simp) (f51b l (sz n))
end Go.X.Try
