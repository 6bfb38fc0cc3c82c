import Derived.Test.YthcbhmgjkecppaaEa
set_option maxRecDepth 100000
set_option linter.unusedSimpArgs false
namespace Go.X.Try
open Go.IntWalk
def canon74 (v n i : Int) (out : List Int) : St :=
  ⟨[(0, .one (.int .u32 v)), (1, .one (.int .i64 n)), (5, .one (.row 0)), (6, .one (.int .i64 i))], [.int .u32 v, .int .i64 n], [.rows (.ints .i64 out)]⟩
theorem body74 (v n i i' s r : Int) (out : List Int) (h : i < n) (hi0 : ¬ i < 0) (es : shrI .u32 v i = s) (ew : IntKind.i64.wrap s = s) (er : s.tmod 2 = r) (ei : IntKind.i64.wrap (i + 1) = i') (hm : (out.length + 1) * 8 ≤ 140737488355328) :
    ∃ st1, evC T74 KK b74x0 (canon74 v n i out) = some (.norm, st1) ∧ St.head [0, 1, 5, 6] st1 = canon74 v n i' (out ++ [r]) := by
  simp -implicitDefEqProofs [b74x0, canon74, upd, h, hi0, es, ew, er, ei, hm, RC.len, RC.size, RC.app, RC.ofElems]
theorem end74 (v n i : Int) (out : List Int) (h : ¬ i < n) :
    ∃ env, evC T74 KK b74x0 (canon74 v n i out) = some (.exit 0, ⟨env, [.int .u32 v, .int .i64 n], [.rows (.ints .i64 out)]⟩) ∧ getT 5 env = .one (.row 0) := by
  simp -implicitDefEqProofs [b74x0, canon74, upd, h]
theorem loop74 (v n : Nat) (hv : v < 2 ^ 32) (hn : n ≤ 32) : ∀ (j i : Nat) (K : Nat), i + j = n → j < K →
    ∃ env, loopH (evC T74 KK b74x0) [0, 1, 5, 6] K (canon74 v n i (ofN v i)) = some (.exit 0, ⟨env, [.int .u32 v, .int .i64 n], [.rows (.ints .i64 (ofN v n))]⟩) ∧ getT 5 env = .one (.row 0)
  | 0, i, K, hi, hK => by
    obtain rfl : i = n := by omega
    obtain ⟨env, e, g⟩ := end74 v i i (ofN v i) (by omega)
    exact ⟨env, loopH_exit e, g⟩
  | j + 1, i, K, hi, hK => by
    have hs : v / 2 ^ i < 2 ^ 32 := Nat.lt_of_le_of_lt (Nat.div_le_self _ _) hv
    have ew : IntKind.i64.wrap ((v / 2 ^ i : Nat) : Int) = ((v / 2 ^ i : Nat) : Int) := by
      generalize v / 2 ^ i = s at hs ⊢
      exact i64_in _ (by omega)
    have er : ((v / 2 ^ i : Nat) : Int).tmod 2 = ((v / 2 ^ i % 2 : Nat) : Int) := by
      generalize v / 2 ^ i = s
      rw [Int.tmod_eq_emod_of_nonneg (by omega)]; omega
    obtain ⟨st1, e1, e2⟩ := body74 v n i (i + 1 : Nat) (v / 2 ^ i : Nat) (v / 2 ^ i % 2 : Nat) (ofN v i) (by omega) (by omega) (shr_in (by simp only [IntKind.bits]; omega)) ew er (by rw [i64_in _ (by omega)]; omega) (by rw [ofN_length]; omega)
    obtain ⟨env, e, g⟩ := loop74 v n hv hn j (i + 1) (K - 1) (by omega) (by omega)
    refine ⟨env, ?_, g⟩
    rw [loopH_norm e1 (by omega), e2, ← ofN_snoc]
    exact e
theorem f74 (v n : Nat) (hv : v < 2 ^ 32) (hn : n ≤ 32) : F74 [.one (.int .u32 v), .one (.int .i64 n)] [] = some (.one (.row 0), [.rows (.ints .i64 (ofN v n))]) := by
  obtain ⟨env, e, g⟩ := loop74 v n hv hn n 0 KK (by omega) (by rw [KK_eq]; omega)
  have z : ((0 : Nat) : Int) = 0 := rfl
  simp only [canon74, ofN, z] at e
  simp -implicitDefEqProofs [F74, c74, upd, e, g]
def canon91 (t : Nat) (l : List Int) (v i : Int) : St :=
  ⟨[(0, .one (.ro t (.ints .i64 l))), (3, .one (.int .u32 v)), (4, .one (.int .i64 i))], [.ro t (.ints .i64 l)], []⟩
theorem body91 (t : Nat) (l : List Int) (v i i' b m s : Int) (h : 0 ≤ i) (hi : i < l.length) (hb : l[i.toNat]?.getD 0 = b) (em : IntKind.u32.wrap (v * 2) = m) (ew : IntKind.u32.wrap b = b) (es : IntKind.u32.wrap (m + b) = s) (ei : IntKind.i64.wrap (i - 1) = i') :
    ∃ st1, evC T91 KK b91x0 (canon91 t l v i) = some (.norm, st1) ∧ St.head [0, 3, 4] st1 = canon91 t l s i' := by
  have hb' : l[i.toNat]'(by omega) = b := by rw [List.getElem?_eq_getElem (by omega)] at hb; exact hb
  simp -implicitDefEqProofs [b91x0, canon91, upd, h, hi, hb, hb', em, ew, es, ei, RC.len, RC.size, RC.get]
theorem end91 (t : Nat) (l : List Int) (v i : Int) (h : ¬ 0 ≤ i) :
    ∃ env, evC T91 KK b91x0 (canon91 t l v i) = some (.exit 0, ⟨env, [.ro t (.ints .i64 l)], []⟩) ∧ getT 3 env = .one (.int .u32 v) := by
  simp -implicitDefEqProofs [b91x0, canon91, upd, h]
theorem loop91 (t : Nat) (l : List Int) (hN : isN l) (hl : l.length ≤ 32) : ∀ (j : Nat) (K : Nat), j ≤ l.length → j < K →
    ∃ env, loopH (evC T91 KK b91x0) [0, 3, 4] K (canon91 t l (leN (l.drop j) : Nat) ((j : Int) - 1)) = some (.exit 0, ⟨env, [.ro t (.ints .i64 l)], []⟩) ∧ getT 3 env = .one (.int .u32 (leN l : Nat))
  | 0, K, hj, hK => by
    obtain ⟨env, e, g⟩ := end91 t l (leN (l.drop 0) : Nat) (((0 : Nat) : Int) - 1) (by omega)
    exact ⟨env, loopH_exit e, g⟩
  | j + 1, K, hj, hK => by
    have hlt : j < l.length := by omega
    have hd : l.drop j = l[j] :: l.drop (j + 1) := List.drop_eq_getElem_cons hlt
    have hb := hN l[j] (List.getElem_mem hlt)
    have hN2 : isN (l.drop (j + 1)) := fun x hx => hN x (List.mem_of_mem_drop hx)
    have hv := leN_lt hN2
    rw [List.length_drop] at hv
    have hv2 : leN (l.drop (j + 1)) < 2 ^ 31 := Nat.lt_of_lt_of_le hv (Nat.pow_le_pow_right (by omega) (by omega))
    have hs : leN (l.drop j) = l[j].toNat + 2 * leN (l.drop (j + 1)) := by rw [hd]; rfl
    have hg : l[(((j + 1 : Nat) : Int) - 1).toNat]?.getD 0 = l[j] := by
      rw [show (((j + 1 : Nat) : Int) - 1).toNat = j by omega, List.getElem?_eq_getElem hlt]; rfl
    have hs2 : (leN (l.drop j) : Int) = 2 * leN (l.drop (j + 1)) + l[j] := by omega
    obtain ⟨st1, e1, e2⟩ := body91 t l (leN (l.drop (j + 1)) : Nat) (((j + 1 : Nat) : Int) - 1) ((j : Int) - 1) l[j] (2 * leN (l.drop (j + 1)) : Nat) (leN (l.drop j) : Nat) (by omega) (by omega) hg (by rw [u32_in _ (by omega)]; omega) (u32_in _ (by omega)) (by rw [u32_in _ (by omega)]; omega) (by rw [i64_in _ (by omega)]; omega)
    obtain ⟨env, e, g⟩ := loop91 t l hN hl j (K - 1) (by omega) (by omega)
    exact ⟨env, by rw [loopH_norm e1 (by omega), e2]; exact e, g⟩
theorem f91 (t : Nat) (l : List Int) (hN : isN l) (hl : l.length ≤ 32) : F91 [.one (.ro t (.ints .i64 l))] [] = some (.one (.int .u32 (leN l : Nat)), []) := by
  obtain ⟨env, e, g⟩ := loop91 t l hN hl l.length KK (by omega) (by rw [KK_eq]; omega)
  have w : IntKind.i64.wrap ((l.length : Int) - 1) = (l.length : Int) - 1 := i64_in _ (by omega)
  have z : ((0 : Nat) : Int) = 0 := rfl
  rw [List.drop_length] at e
  simp only [canon91, leN, z] at e
  simp -implicitDefEqProofs [F91, c91, upd, RC.len, w, e, g]
def canon51 (t : Nat) (bs : List Int) (i : Int) (out : List Int) : St :=
  ⟨[(0, .one (.ro t (.ints .u8 bs))), (3, .one (.row 0)), (4, .one (.int .i64 i))], [.ro t (.ints .u8 bs)], [.rows (.ints .i64 out)]⟩
theorem body51 (t : Nat) (bs : List Int) (i : Nat) (b : Int) (out add : List Int) (hi : i < bs.length) (hl : bs.length ≤ 100000) (hb : bs[i]?.getD 0 = b) (ew : IntKind.u32.wrap b = b) (e74 : F74 [.one (.int .u32 b), .one (.int .i64 8)] [] = some (.one (.row 0), [.rows (.ints .i64 add)])) (hm : (out.length + add.length) * 8 ≤ 140737488355328) :
    ∃ st1, evC T51 KK b51x0 (canon51 t bs i out) = some (.norm, st1) ∧ St.head [0, 3, 4] st1 = canon51 t bs (i + 1 : Nat) (out ++ add) := by
  have hb' : bs[i] = b := by rw [List.getElem?_eq_getElem hi] at hb; exact hb
  have hi2 : (i : Int) < bs.length := by omega
  have w : IntKind.i64.wrap ((i : Int) + 1) = (i : Int) + 1 := i64_in _ (by omega)
  simp -implicitDefEqProofs [b51x0, canon51, upd, hi, hi2, hb, hb', ew, e74, hm, w, RC.len, RC.size, RC.get, RC.app]
theorem end51 (t : Nat) (bs : List Int) (i : Nat) (out : List Int) (hi : bs.length ≤ i) :
    ∃ env, evC T51 KK b51x0 (canon51 t bs i out) = some (.exit 0, ⟨env, [.ro t (.ints .u8 bs)], [.rows (.ints .i64 out)]⟩) ∧ getT 3 env = .one (.row 0) := by
  have hi2 : ¬ (i : Int) < bs.length := by omega
  simp -implicitDefEqProofs [b51x0, canon51, upd, hi2, RC.len]
theorem loop51 (t : Nat) (bs : List Int) (hB : isB bs) (hl : bs.length ≤ 100000) : ∀ (j i : Nat) (out : List Int) (K : Nat), i + j = bs.length → isN out → out.length = 8 * i → leN out = leB (bs.take i) → j < K →
    ∃ env out', loopH (evC T51 KK b51x0) [0, 3, 4] K (canon51 t bs i out) = some (.exit 0, ⟨env, [.ro t (.ints .u8 bs)], [.rows (.ints .i64 out')]⟩) ∧ getT 3 env = .one (.row 0) ∧ isN out' ∧ out'.length = 8 * bs.length ∧ leN out' = leB bs
  | 0, i, out, K, hi, hN, hlen, hv, hK => by
    obtain rfl : i = bs.length := by omega
    obtain ⟨env, e, g⟩ := end51 t bs bs.length out (Nat.le_refl _)
    rw [List.take_length] at hv
    exact ⟨env, out, loopH_exit e, g, hN, hlen, hv⟩
  | j + 1, i, out, K, hi, hN, hlen, hv, hK => by
    have hlt : i < bs.length := by omega
    have hb := hB bs[i] (List.getElem_mem hlt)
    have hg : bs[i]?.getD 0 = bs[i] := by rw [List.getElem?_eq_getElem hlt]; rfl
    obtain ⟨β, hβ⟩ : ∃ β : Nat, bs[i] = β := ⟨bs[i].toNat, by omega⟩
    have e74 := f74 β 8 (by omega) (by omega)
    rw [← hβ] at e74
    obtain ⟨st1, e1, e2⟩ := body51 t bs i bs[i] out (ofN β 8) hlt hl hg (u32_in _ (by omega)) e74 (by rw [ofN_length]; omega)
    obtain ⟨env, out', e, g, r1, r2, r3⟩ := loop51 t bs hB hl j (i + 1) (out ++ ofN β 8) (K - 1) (by omega) (fun x hx => by
        rcases List.mem_append.1 hx with hx | hx
        · exact hN x hx
        · exact ofN_isN 8 β x hx) (by rw [List.length_append, ofN_length]; omega) (by
        rw [← List.take_append_getElem hlt, leB_append, leN_append, hv, hlen, List.length_take, Nat.min_eq_left (by omega), leN_ofN, Nat.mod_eq_of_lt (by omega), hβ]
        simp [leB]) (by omega)
    exact ⟨env, out', by rw [loopH_norm e1 (by omega), e2]; exact e, g, r1, r2, r3⟩
theorem f51 (t : Nat) (bs : List Int) (hB : isB bs) (hl : bs.length ≤ 90000) : ∃ out, F51 [.one (.ro t (.ints .u8 bs))] [] = some (.one (.row 0), [.rows (.ints .i64 out)]) ∧ isN out ∧ out.length = 8 * bs.length ∧ leN out = leB bs := by
  obtain ⟨env, out, e, g, r⟩ := loop51 t bs hB (by omega) bs.length 0 [] KK (by omega) (by simp [isN]) rfl rfl (by rw [KK_eq]; omega)
  have z : ((0 : Nat) : Int) = 0 := rfl
  simp only [canon51, z] at e
  refine ⟨out, ?_, r⟩
  simp -implicitDefEqProofs [F51, c51, upd, e, g]
end Go.X.Try
