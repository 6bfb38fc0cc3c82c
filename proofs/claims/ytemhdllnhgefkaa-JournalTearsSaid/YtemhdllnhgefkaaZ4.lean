import Derived.Deep.Slices
import Derived.Deep.Fields
import Derived.ChangeSame
import Derived.SizedLaws
import Derived.Test.YtemhdllnhgefkaaZ3
set_option linter.unusedVariables false
set_option linter.unusedSimpArgs false
set_option maxRecDepth 100000
set_option linter.unusedSimpArgs false
set_option linter.unusedVariables false
namespace Go.X.Try
open Go.IntWalk
/-! ### where the entries end -/
def endsL (rs : List (List Int)) : List Int := (List.range (rs.length + 1)).map fun j => ((entC (rs.take j)).length : Int)
theorem endsL_nil : endsL [] = [0] := by simp [endsL, entC]
theorem endsL_len (rs : List (List Int)) : (endsL rs).length = rs.length + 1 := by simp [endsL]
theorem endsL_get (rs : List (List Int)) {j : Nat} (h : j ≤ rs.length) : (endsL rs)[j]? = some ((entC (rs.take j)).length : Int) := by
  simp [endsL, List.getElem?_range (show j < rs.length + 1 by omega)]
theorem endsL_snoc (rs : List (List Int)) (a : List Int) : endsL (rs ++ [a]) = endsL rs ++ [((entC (rs ++ [a])).length : Int)] := by
  unfold endsL
  rw [List.length_append, List.length_singleton, List.range_succ, List.map_append]
  congr 1
  · apply List.map_congr_left
    intro j hj
    rw [List.mem_range] at hj
    rw [List.take_append_of_le_length (by omega)]
  · simp only [List.map_cons, List.map_nil]
    rw [List.take_of_length_le (by simp)]
theorem tr_iff : ∀ (rs : List (List Int)) (k j : Nat), j ≤ rs.length → ((entC (rs.take j)).length ≤ k ↔ j ≤ tr rs k)
  | [], k, j, h => by
    have : j = 0 := by simpa using h
    subst this
    simp [entC]
  | a :: rs, k, 0, h => by simp [entC]
  | a :: rs, k, j + 1, h => by
    have hp := entB_pos a
    have ih := tr_iff rs (k - (entB a).length) j (by simpa using h)
    simp only [List.take_succ_cons, entC_cons, List.length_append, tr]
    split
    · rw [show (entB a).length + (entC (List.take j rs)).length ≤ k ↔ (entC (List.take j rs)).length ≤ k - (entB a).length by omega, ih]
      omega
    · constructor
      · intro h; omega
      · intro h; omega
/-! ### the first loop -/
def canon5a (L : List ByteArray) (ct i : Int) (bh w : ByteArray) (ends : List Int) : St :=
  ⟨[(0, .one (.ro 0 (.strs L))), (1, .one (.int .u16 ct)), (2, .one (.str bh)), (7, .one (.str w)), (8, .one (.row 0)), (36, .one (.ro 0 (.strs L))), (37, .one (.int .i64 L.length)), (38, .one (.int .i64 i))], [.ro 0 (.strs L), .int .u16 ct, .str bh], [.rows (.ints .i64 ends)]⟩
theorem body5a (L : List ByteArray) (ct : Int) (bh w w' s e : ByteArray) (ends : List Int) (i : Nat) (hs : L[i]? = some s) (hl : L.length ≤ 20) (h6 : ¬ 60 < s.size) (e22 : F22 [.one (.str s)] [] = some (tupSI e 0, [])) (e23 : F23 [.one (.str s)] [] = some (.one (.str e), []))
    (hw : w ++ e = w') (hws : w.size + e.size ≤ 100000) (he : ends.length ≤ 1000) :
    ∃ st1, evC T5 KK b5x0 (canon5a L ct i bh w ends) = some (.norm, st1) ∧ St.head [0, 1, 2, 7, 8, 36, 37, 38] st1 = canon5a L ct (i + 1 : Nat) bh w' (ends ++ [(w'.size : Int)]) := by
  have l1 := (List.getElem?_eq_some_iff.1 hs).1
  have l1i : (i : Int) < L.length := by omega
  have wi : IntKind.i64.wrap ((i : Int) + 1) = (i : Int) + 1 := i64_in _ (by omega)
  have hs' : ∀ hh, L[i]'hh = s := fun hh => by rw [List.getElem?_eq_getElem hh] at hs; simpa using hs
  have h6i : ¬ (60 : Int) < s.size := by omega
  have m1 : w.size + e.size ≤ 9223372036854775807 := by omega
  have m2 : (ends.length + 1) * 8 ≤ 140737488355328 := by omega
  simp only [tupSI] at e22
  simp -implicitDefEqProofs [b5x0, canon5a, upd, l1, l1i, wi, hs, hs', h6, h6i, e22, e23, hw, m1, m2, RC.len, RC.size, RC.get, RC.app, RC.ofElems]
theorem long5a (L : List ByteArray) (ct : Int) (bh w s : ByteArray) (ends : List Int) (i : Nat) (hs : L[i]? = some s) (h6 : 60 < s.size) :
    ∃ st1, evC T5 KK b5x0 (canon5a L ct i bh w ends) = some (.ret, st1) ∧ resC [(6, none)] (some (.ret, st1)) = some (.one (.bool true), []) := by
  have l1 := (List.getElem?_eq_some_iff.1 hs).1
  have l1i : (i : Int) < L.length := by omega
  have hs' : ∀ hh, L[i]'hh = s := fun hh => by rw [List.getElem?_eq_getElem hh] at hs; simpa using hs
  have h6i : (60 : Int) < s.size := by omega
  refine ⟨?w, ?q1, ?q2⟩
  case q1 =>
    simp -implicitDefEqProofs [b5x0, canon5a, upd, l1, l1i, hs, hs', h6, h6i, RC.len, RC.size, RC.get]
    rfl
  case q2 => simp -implicitDefEqProofs []
theorem end5a (L : List ByteArray) (ct : Int) (bh w : ByteArray) (ends : List Int) (i : Int) (h : ¬ i < L.length) :
    ∃ env, evC T5 KK b5x0 (canon5a L ct i bh w ends) = some (.exit 0, ⟨env, [.ro 0 (.strs L), .int .u16 ct, .str bh], [.rows (.ints .i64 ends)]⟩) ∧ getT 0 env = .one (.ro 0 (.strs L)) ∧ getT 1 env = .one (.int .u16 ct) ∧ getT 2 env = .one (.str bh) ∧ getT 7 env = .one (.str w) ∧ getT 8 env = .one (.row 0) := by
  simp -implicitDefEqProofs [b5x0, canon5a, upd, h]
theorem loop5a (L : List ByteArray) (ct : Int) (bh : ByteArray) (hl : L.length ≤ 20) : ∀ (j i K : Nat), i + j = L.length → (∀ s ∈ L.take i, s.size ≤ 60) → j < K →
    (∃ st1, loopH (evC T5 KK b5x0) [0, 1, 2, 7, 8, 36, 37, 38] K (canon5a L ct i bh (ofBytes (entC ((L.take i).map toBytes))) (endsL ((L.take i).map toBytes))) = some (.ret, st1) ∧ resC [(6, none)] (some (.ret, st1)) = some (.one (.bool true), [])) ∨
    ((∀ s ∈ L, s.size ≤ 60) ∧ ∃ env, loopH (evC T5 KK b5x0) [0, 1, 2, 7, 8, 36, 37, 38] K (canon5a L ct i bh (ofBytes (entC ((L.take i).map toBytes))) (endsL ((L.take i).map toBytes))) = some (.exit 0, ⟨env, [.ro 0 (.strs L), .int .u16 ct, .str bh], [.rows (.ints .i64 (endsL (L.map toBytes)))]⟩) ∧ getT 0 env = .one (.ro 0 (.strs L)) ∧ getT 1 env = .one (.int .u16 ct) ∧ getT 2 env = .one (.str bh) ∧ getT 7 env = .one (.str (ofBytes (entC (L.map toBytes)))) ∧ getT 8 env = .one (.row 0))
  | 0, i, K, hj, h6, hK => by
    right
    have ht : L.take i = L := List.take_of_length_le (by omega)
    rw [ht] at h6 ⊢
    obtain ⟨env, e, g⟩ := end5a L ct bh (ofBytes (entC (L.map toBytes))) (endsL (L.map toBytes)) i (by omega)
    exact ⟨h6, env, loopH_exit e, g⟩
  | j + 1, i, K, hj, h6, hK => by
    obtain ⟨s, hs⟩ : ∃ s, L[i]? = some s := ⟨_, List.getElem?_eq_getElem (by omega)⟩
    by_cases hs6 : 60 < s.size
    · left
      obtain ⟨st1, e1, e2⟩ := long5a L ct bh (ofBytes (entC ((L.take i).map toBytes))) s (endsL ((L.take i).map toBytes)) i hs hs6
      exact ⟨st1, loopH_ret e1, e2⟩
    · have htk : (L.take (i + 1)).map toBytes = (L.take i).map toBytes ++ [toBytes s] := by rw [List.take_add_one, hs]; simp
      have hes : entC ((L.take i).map toBytes ++ [toBytes s]) = entC ((L.take i).map toBytes) ++ entB (toBytes s) := by rw [entC_append]; simp [entC]
      have hbnd : ∀ rs : List ByteArray, (∀ s ∈ rs, s.size ≤ 60) → (entC (rs.map toBytes)).length ≤ 100 * rs.length := by
        intro rs
        induction rs with
        | nil => intro _; simp [entC]
        | cons x rs ih =>
          intro hh
          have h1 := ih fun z hz => hh z (by simp [hz])
          have h2 := hh x (by simp)
          have h3 := entB_length (toBytes x)
          have h4 := size_toBytes x
          have h5 := grp_ten (v := (toBytes x).length) (by omega)
          rw [List.map_cons, entC_cons, List.length_append, List.length_cons]
          omega
      have hb1 := hbnd (L.take i) h6
      have htl : (L.take i).length = i := by rw [List.length_take]; omega
      have h4 := size_toBytes s
      have h5 := grp_ten (v := (toBytes s).length) (by omega)
      have h3 := entB_length (toBytes s)
      obtain ⟨st1, e1, e2⟩ := body5a L ct bh (ofBytes (entC ((L.take i).map toBytes))) (ofBytes (entC ((L.take (i + 1)).map toBytes))) s (ofBytes (entB (toBytes s))) (endsL ((L.take i).map toBytes)) i hs hl hs6 (f22 s (by omega)) (f23 s (by omega)) (by rw [ofBytes_append, htk, hes]) (by rw [size_ofBytes, size_ofBytes]; omega) (by rw [endsL_len, List.length_map]; omega)
      have hen : endsL ((L.take i).map toBytes) ++ [((ofBytes (entC ((L.take (i + 1)).map toBytes))).size : Int)] = endsL ((L.take (i + 1)).map toBytes) := by
        rw [htk, endsL_snoc, size_ofBytes]
      rw [hen] at e2
      have := loop5a L ct bh hl j (i + 1) (K - 1) (by omega) (by
        intro z hz
        rw [List.take_add_one, hs] at hz
        rcases List.mem_append.1 hz with hz | hz
        · exact h6 z hz
        · simp at hz; subst hz; omega) (by omega)
      rw [loopH_norm e1 (by omega), e2]
      exact this
/-! ### the second loop -/
def canon5b (L : List ByteArray) (ct k wh i : Int) (bh s : ByteArray) (ends : List Int) : St :=
  ⟨[(0, .one (.ro 0 (.strs L))), (2, .one (.str bh)), (8, .one (.row 0)), (13, .one (.str s)), (15, .one (.int .i64 k)), (16, .one (.int .i64 wh)), (85, .one (.row 0)), (86, .one (.int .i64 ends.length)), (87, .one (.int .i64 i))], [.ro 0 (.strs L), .int .u16 ct, .str bh], [.rows (.ints .i64 ends)]⟩
theorem body5b (L : List ByteArray) (ct k wh e : Int) (bh s : ByteArray) (ends : List Int) (i : Nat) (he : ends[i]? = some e) (hl : ends.length ≤ 1000) :
    ∃ st1, evC T5 KK b5x1 (canon5b L ct k wh i bh s ends) = some (.norm, st1) ∧ St.head [0, 2, 8, 13, 15, 16, 85, 86, 87] st1 = canon5b L ct k (if e ≤ k then (i : Int) else wh) (i + 1 : Nat) bh s ends := by
  have l1 := (List.getElem?_eq_some_iff.1 he).1
  have l1i : (i : Int) < ends.length := by omega
  have wi : IntKind.i64.wrap ((i : Int) + 1) = (i : Int) + 1 := i64_in _ (by omega)
  have he' : ∀ hh, ends[i]'hh = e := fun hh => by rw [List.getElem?_eq_getElem hh] at he; simpa using he
  by_cases h : e ≤ k
  · simp -implicitDefEqProofs [b5x1, canon5b, upd, l1, l1i, wi, he, he', h, RC.len, RC.size, RC.get]
  · simp -implicitDefEqProofs [b5x1, canon5b, upd, l1, l1i, wi, he, he', h, RC.len, RC.size, RC.get]
theorem end5b (L : List ByteArray) (ct k wh : Int) (bh s : ByteArray) (ends : List Int) (i : Int) (h : ¬ i < ends.length) :
    ∃ env, evC T5 KK b5x1 (canon5b L ct k wh i bh s ends) = some (.exit 2, ⟨env, [.ro 0 (.strs L), .int .u16 ct, .str bh], [.rows (.ints .i64 ends)]⟩) ∧ getT 0 env = .one (.ro 0 (.strs L)) ∧ getT 2 env = .one (.str bh) ∧ getT 8 env = .one (.row 0) ∧ getT 13 env = .one (.str s) ∧ getT 15 env = .one (.int .i64 k) ∧ getT 16 env = .one (.int .i64 wh) := by
  simp -implicitDefEqProofs [b5x1, canon5b, upd, h]
theorem loop5b (L : List ByteArray) (ct : Int) (bh s : ByteArray) (rs : List (List Int)) (k : Nat) (hl : rs.length ≤ 100) : ∀ (j i K : Nat), i + j = rs.length + 1 → j < K →
    ∃ env, loopH (evC T5 KK b5x1) [0, 2, 8, 13, 15, 16, 85, 86, 87] K (canon5b L ct k (min (i - 1) (tr rs k) : Nat) i bh s (endsL rs)) = some (.exit 2, ⟨env, [.ro 0 (.strs L), .int .u16 ct, .str bh], [.rows (.ints .i64 (endsL rs))]⟩) ∧ getT 0 env = .one (.ro 0 (.strs L)) ∧ getT 2 env = .one (.str bh) ∧ getT 8 env = .one (.row 0) ∧ getT 13 env = .one (.str s) ∧ getT 15 env = .one (.int .i64 k) ∧ getT 16 env = .one (.int .i64 (tr rs k : Nat))
  | 0, i, K, hj, hK => by
    have hle := tr_le rs k
    have hm : min (i - 1) (tr rs k) = tr rs k := by omega
    rw [hm]
    obtain ⟨env, e, g⟩ := end5b L ct k (tr rs k : Nat) bh s (endsL rs) i (by rw [endsL_len]; omega)
    exact ⟨env, loopH_exit e, g⟩
  | j + 1, i, K, hj, hK => by
    obtain ⟨st1, e1, e2⟩ := body5b L ct k (min (i - 1) (tr rs k) : Nat) _ bh s (endsL rs) i (endsL_get rs (by omega)) (by rw [endsL_len]; omega)
    have hi := tr_iff rs k i (by omega)
    have hw : (if ((entC (rs.take i)).length : Int) ≤ (k : Int) then (i : Int) else (min (i - 1) (tr rs k) : Nat)) = ((min (i + 1 - 1) (tr rs k) : Nat) : Int) := by
      by_cases h : (entC (rs.take i)).length ≤ k
      · rw [if_pos (by omega)]
        have := hi.1 h
        omega
      · rw [if_neg (by omega)]
        have : ¬ i ≤ tr rs k := fun hc => h (hi.2 hc)
        omega
    rw [hw] at e2
    obtain ⟨env, e3, g⟩ := loop5b L ct bh s rs k hl j (i + 1) (K - 1) (by omega) (by omega)
    exact ⟨env, by rw [loopH_norm e1 (by omega), e2]; exact e3, g⟩
end Go.X.Try
set_option maxRecDepth 100000
set_option linter.unusedSimpArgs false
set_option linter.unusedVariables false
namespace Go.X.Try
open Go.IntWalk
theorem run5z (L : List ByteArray) (ct : Int) (bh : ByteArray) (st1 : St) (h0 : ¬ 20 < L.length) (h0i : ¬ (20 : Int) < L.length) (h1 : ¬ 30 < bh.size) (h1i : ¬ (30 : Int) < bh.size)
    (el : loopH (evC T5 KK b5x0) [0, 1, 2, 7, 8, 36, 37, 38] KK (canon5a L ct 0 bh (ofBytes []) [0]) = some (.ret, st1)) (er : resC [(6, none)] (some (.ret, st1)) = some (.one (.bool true), [])) :
    F5 [.one (.ro 0 (.strs L)), .one (.int .u16 ct), .one (.str bh)] [] = some (.one (.bool true), []) := by
  simp only [canon5a, ofBytes_nil] at el
  rw [← er]
  simp -implicitDefEqProofs [F5, c5, upd, h9, h0, h0i, h1, h1i, el, RC.len, RC.size, RC.ofElems]
theorem run5 (L G : List ByteArray) (ct : Int) (bhl S X T : List Int) (ends : List Int) (k m q d : Nat) (env env2 : Env) (h0 : ¬ 20 < L.length) (h0i : ¬ (20 : Int) < L.length) (h1 : ¬ 30 < bhl.length) (h1i : ¬ (30 : Int) < bhl.length) (hSl : S.length ≤ 100000)
    (el : loopH (evC T5 KK b5x0) [0, 1, 2, 7, 8, 36, 37, 38] KK (canon5a L ct 0 (ofBytes bhl) (ofBytes []) [0]) = some (.exit 0, ⟨env, [.ro 0 (.strs L), .int .u16 ct, .str (ofBytes bhl)], [.rows (.ints .i64 ends)]⟩))
    (g0 : getT 0 env = .one (.ro 0 (.strs L))) (g1 : getT 1 env = .one (.int .u16 ct)) (g2 : getT 2 env = .one (.str (ofBytes bhl))) (g7 : getT 7 env = .one (.str (ofBytes S))) (g8 : getT 8 env = .one (.row 0))
    (e12 : F12 [.one (.ro 0 (.strs L))] [] = some (tupSI (ofBytes S) 0, [])) (wc : IntKind.i64.wrap ct = ct) (ws : IntKind.i64.wrap ((S.length : Int) + 1) = (S.length : Int) + 1) (hs1 : ¬ (S.length : Int) + 1 = 0) (hk : ct.tmod ((S.length : Int) + 1) = (k : Int))
    (el2 : loopH (evC T5 KK b5x1) [0, 2, 8, 13, 15, 16, 85, 86, 87] KK (canon5b L ct k 0 0 (ofBytes bhl) (ofBytes S) ends) = some (.exit 2, ⟨env2, [.ro 0 (.strs L), .int .u16 ct, .str (ofBytes bhl)], [.rows (.ints .i64 ends)]⟩))
    (k0 : getT 0 env2 = .one (.ro 0 (.strs L))) (k2 : getT 2 env2 = .one (.str (ofBytes bhl))) (k8 : getT 8 env2 = .one (.row 0)) (k13 : getT 13 env2 = .one (.str (ofBytes S))) (k15 : getT 15 env2 = .one (.int .i64 k)) (k16 : getT 16 env2 = .one (.int .i64 m))
    (e24 : F24 [.one (.str (ofBytes S))] [] = some (.one (.ptr 0 0), jHp none L (ofBytes S)))
    (e25 : F25 [.one (.ptr 0 0), .one (.int .i64 k)] (jHp (some 0) L (ofBytes S)) = some (.one (.int .i64 m), jHp (some 0) (L.take m) (ofBytes T)))
    (e26 : F26 [.one (.ptr 0 0)] (jHp (some 0) (L.take m) (ofBytes T)) = some (.one (.row 2), jHp (some 0) (L.take m) (ofBytes T) ++ [.rows (.strs (L.take m))]))
    (e27 : F27 [.one (.ptr 0 0)] (jHp (some 0) (L.take m) (ofBytes T)) = some (.one (.str (ofBytes T)), jHp (some 0) (L.take m) (ofBytes T)))
    (hm : m ≤ L.length) (e13 : F13 [.one (.ro 0 (.strs (L.take m))), .one (.ro 1 (.strs (L.take m)))] [] = some (.one (.bool true), []))
    (hq : ends[m]? = some (q : Int)) (hq2 : q ≤ S.length) (hT : S.take q = T) (hkS : k ≤ S.length) (hX : S.take k ++ bhl = X) (hsz : k + bhl.length ≤ 9223372036854775807)
    (e10 : F10 [.one (.str (ofBytes X))] [] = some (.tup [.one (.row 0), .one (.int .i64 d)], [.rows (.strs G)])) (e11 : F11 [.one (.str (ofBytes X))] [] = some (.tup [.one (.row 0), .one (.int .i64 d)], [.rows (.strs G)]))
    (e13b : F13 [.one (.ro 0 (.strs G)), .one (.ro 1 (.strs G))] [] = some (.one (.bool true), [])) (hG : m ≤ G.length) (hG2 : G.take m = L.take m) :
    F5 [.one (.ro 0 (.strs L)), .one (.int .u16 ct), .one (.str (ofBytes bhl))] [] = some (.one (.bool true), []) := by
  have hmi : (m : Int) ≤ L.length := by omega
  have hq2i : (q : Int) ≤ S.length := by omega
  have hkSi : (k : Int) ≤ S.length := by omega
  have hGi : (m : Int) ≤ G.length := by omega
  have hqi : m < ends.length := (List.getElem?_eq_some_iff.1 hq).1
  have hqii : (m : Int) < ends.length := by omega
  have hq' : ∀ hh, ends[m]'hh = (q : Int) := fun hh => by rw [List.getElem?_eq_getElem hh] at hq; simpa using hq
  have ha := ofBytes_append (S.take k) bhl
  rw [hX] at ha
  simp only [canon5a, ofBytes_nil] at el
  simp only [canon5b] at el2
  simp only [tupSI] at e12
  simp only [jHp, List.cons_append, List.nil_append] at e24 e25 e26 e27
  simp -implicitDefEqProofs [F5, c5, upd, h9, h0, h0i, size_ofBytes, ofBytes_extract, h1, h1i, el, g0, g1, g2, g7, g8, e12, wc, ws, hs1, hk, el2, k0, k2, k8, k13, k15, k16, e24, e25, e26, e27, hm, hmi, e13, hq, hq', hqi, hqii, hq2, hq2i, hT, hkS, hkSi, ha, hsz, e10, e11, e13b, hG, hGi, hG2, RC.len, RC.size, RC.get, RC.cut, RC.ofElems]
theorem law5 (a0 : List ByteArray) (a1 : Int) (a2 : ByteArray) (_ : a0.length ≤ maxLen) (w0 : ∀ z ∈ a0, z.size ≤ maxLen) (w1 : (Lit.int .u16 a1).wf = true) (_ : a2.size ≤ maxLen) :
    F5 [.one (.ro 0 (.strs a0)), .one (.int .u16 a1), .one (.str a2)] [] = some (.one (.bool true), []) := by
  by_cases h0 : 20 < a0.length
  · have h0i : (20 : Int) < a0.length := by omega
    simp -implicitDefEqProofs [F5, c5, upd, h9, RC.len, h0, h0i]
  have h0i : ¬ (20 : Int) < a0.length := by omega
  by_cases h1 : 30 < a2.size
  · have h1i : (30 : Int) < a2.size := by omega
    simp -implicitDefEqProofs [F5, c5, upd, h9, RC.len, h0, h0i, h1, h1i]
  have h1i : ¬ (30 : Int) < a2.size := by omega
  have z : ((0 : Nat) : Int) = 0 := rfl
  have hnil : (([] : List ByteArray).map toBytes) = [] := rfl
  have l5 := loop5a a0 a1 a2 (by omega) a0.length 0 KK (by omega) (by simp) (by rw [KK_eq]; omega)
  rw [List.take_zero, hnil, endsL_nil, z] at l5
  have hc0 : entC [] = [] := rfl
  rw [hc0] at l5
  rcases l5 with ⟨st1, el, er⟩ | ⟨h6, env, el, g0, g1, g2, g7, g8⟩
  · exact run5z a0 a1 a2 st1 h0 h0i h1 h1i el er
  · obtain ⟨bhl, hbh⟩ : ∃ m, m = toBytes a2 := ⟨_, rfl⟩
    have hBb : isB bhl := hbh ▸ isB_toBytes a2
    have ha2 : a2 = ofBytes bhl := by rw [hbh, ofBytes_toBytes]
    have hbl : bhl.length = a2.size := by rw [hbh, size_toBytes]
    subst ha2
    have hrsl : (a0.map toBytes).length = a0.length := List.length_map ..
    have hok : ∀ a ∈ a0.map toBytes, a.length ≤ 512 ∧ isB a := by
      intro a ha
      obtain ⟨s, hs, rfl⟩ := List.mem_map.1 ha
      have := h6 s hs
      exact ⟨by rw [size_toBytes]; omega, isB_toBytes s⟩
    have hback : (a0.map toBytes).map ofBytes = a0 := by
      rw [List.map_map]
      conv => rhs; rw [← List.map_id a0]
      apply List.map_congr_left
      intro s _
      exact ofBytes_toBytes s
    have hlen : ∀ rs : List ByteArray, (∀ s ∈ rs, s.size ≤ 60) → (entC (rs.map toBytes)).length ≤ 100 * rs.length := by
      intro rs
      induction rs with
      | nil => intro _; simp [entC]
      | cons x rs ih =>
        intro hh
        have h1 := ih fun z hz => hh z (by simp [hz])
        have h2 := hh x (by simp)
        have h3 := entB_length (toBytes x)
        have h4 := size_toBytes x
        have h5 := grp_ten (v := (toBytes x).length) (by omega)
        rw [List.map_cons, entC_cons, List.length_append, List.length_cons]
        omega
    have hSl := hlen a0 h6
    have e12 := f12 0 a0 (fun s hs => by have := h6 s hs; omega) (by omega)
    have hBS := isB_entC hok
    have hra := rd_all hok
    have e24 := f24 (entC (a0.map toBytes)) hBS (by omega)
    have hrs : recS (entC (a0.map toBytes)) = a0 := by unfold recS; rw [hra]; exact hback
    rw [hrs, hra] at e24
    simp only [List.length_nil, Nat.sub_zero, List.take_length] at e24
    have hct : 0 ≤ a1 ∧ a1 < 65536 := by
      simp [Lit.wf, IntKind.min, IntKind.max, IntKind.signed, IntKind.bits] at w1
      omega
    obtain ⟨ct, rfl⟩ : ∃ ct : Nat, a1 = ct := ⟨a1.toNat, by omega⟩
    obtain ⟨k, hk⟩ : ∃ k, k = ct % ((entC (a0.map toBytes)).length + 1) := ⟨_, rfl⟩
    have hkS : k ≤ (entC (a0.map toBytes)).length := by
      have := Nat.mod_lt ct (show 0 < (entC (a0.map toBytes)).length + 1 by omega)
      omega
    have hkt : (ct : Int).tmod (((entC (a0.map toBytes)).length : Int) + 1) = (k : Int) := by
      rw [hk]
      exact (Int.ofNat_tmod ct _).symm
    obtain ⟨p, q1, q2, q3⟩ := rd_take (rs := a0.map toBytes) k hok
    have hmle := tr_le (a0.map toBytes) k
    generalize hm : tr (a0.map toBytes) k = m at *
    have hmt : (a0.map toBytes).take m = (a0.take m).map toBytes := List.map_take.symm
    have hokm : ∀ a ∈ (a0.map toBytes).take m, a.length ≤ 512 ∧ isB a := fun a ha => hok a (List.mem_of_mem_take ha)
    have hbackm : ((a0.map toBytes).take m).map ofBytes = a0.take m := by rw [List.map_take, hback]
    have hrk : recS ((entC (a0.map toBytes)).take k) = a0.take m := by unfold recS; rw [q2]; exact hbackm
    have hkl : ((entC (a0.map toBytes)).take k).length = k := by rw [List.length_take]; omega
    have hq := congrArg List.length q1
    rw [hkl, List.length_append] at hq
    have e25 := f25 a0 (entC (a0.map toBytes)) k k hBS (by omega) hkS rfl
    have htk : ((entC (a0.map toBytes)).take k).take (k - p.length) = entC ((a0.map toBytes).take m) := by
      rw [q1]; exact List.take_left' (by omega)
    have hml : (a0.take m).length = m := by rw [List.length_take]; omega
    rw [hrk, q2] at e25
    simp only [htk, hml] at e25
    have e26 := f26 (a0.take m) (ofBytes (entC ((a0.map toBytes).take m))) (by omega)
    have e27 := f27 (a0.take m) (ofBytes (entC ((a0.map toBytes).take m)))
    have e13 := f13 0 1 (a0.take m) (a0.take m) (by omega)
    rw [decide_eq_true rfl] at e13
    have hend := endsL_get (a0.map toBytes) (j := m) (by omega)
    have hspl : entC (a0.map toBytes) = entC ((a0.map toBytes).take m) ++ entC ((a0.map toBytes).drop m) := by rw [← entC_append, List.take_append_drop]
    have hT : (entC (a0.map toBytes)).take (entC ((a0.map toBytes).take m)).length = entC ((a0.map toBytes).take m) := by
      conv => lhs; rw [hspl]
      exact List.take_left
    have hBX : isB ((entC (a0.map toBytes)).take k ++ bhl) := isB_app (isB_take hBS k) hBb
    have hXl : ((entC (a0.map toBytes)).take k ++ bhl).length ≤ 5000 := by rw [List.length_append]; omega
    have e10 := f10 _ hBX (by omega)
    have e11 := f11 _ hBX hXl
    have hrX : recS ((entC (a0.map toBytes)).take k ++ bhl) = a0.take m ++ (rd (p ++ bhl)).1.map ofBytes := by
      unfold recS
      rw [q1, List.append_assoc, rd_ent hokm (isB_app q3 hBb), List.map_append, hbackm]
    have hrl := recS_len hBX
    unfold recS at hrX hrl
    have e13b := f13 0 1 ((rd ((entC (a0.map toBytes)).take k ++ bhl)).1.map ofBytes) ((rd ((entC (a0.map toBytes)).take k ++ bhl)).1.map ofBytes) (by omega)
    rw [decide_eq_true rfl] at e13b
    obtain ⟨env2, el2, k0, k2, k8, k13, k15, k16⟩ := loop5b a0 ct (ofBytes bhl) (ofBytes (entC (a0.map toBytes))) (a0.map toBytes) k (by omega) (a0.length + 1) 0 KK (by omega) (by rw [KK_eq]; omega)
    rw [hm] at k16
    have h00 : min (0 - 1) (tr (a0.map toBytes) k) = 0 := by omega
    rw [h00, z] at el2
    exact run5 a0 _ ct bhl _ _ _ _ k m _ _ env env2 h0 h0i (by omega) (by omega) (by omega) el g0 g1 g2 g7 g8 e12 (i64_in _ (by omega)) (i64_in _ (by omega)) (by omega) hkt el2 k0 k2 k8 k13 k15 k16 e24 e25 e26 e27 (by omega) e13 hend (by rw [← hT, List.length_take]; omega) hT hkS rfl (by omega) e10 e11 e13b (by rw [hrX, List.length_append]; omega) (by rw [hrX]; exact List.take_left' hml)
end Go.X.Try
set_option maxRecDepth 100000
namespace Go.X
open Go.RowKit Go.ChangeShapes Go.ChangeAt Go.WideShapes Go.Deep
/-! ### an argument that is a slice, as what it reads -/
theorem list_of {α : Type} {p : Nat → α → Prop} : ∀ (n : Nat), (∀ i, i < n → ∃ a, p i a) → ∃ zs : List α, zs.length = n ∧ ∀ (i : Nat) (a : α), zs[i]? = some a → p i a
  | 0, _ => ⟨[], rfl, fun i a h => by simp at h⟩
  | n + 1, h => by
    obtain ⟨zs, hl, hz⟩ := list_of n (fun i hi => h i (by omega))
    obtain ⟨a, ha⟩ := h n (by omega)
    refine ⟨zs ++ [a], by simp [hl], fun i b hb => ?_⟩
    by_cases hi : i < n
    · rw [List.getElem?_append_left (by omega)] at hb
      exact hz i b hb
    · have hlt := (List.getElem?_eq_some_iff.1 hb).1
      simp only [List.length_append, List.length_cons, List.length_nil] at hlt
      have hin : i = n := by omega
      subst hin
      rw [← hl, List.getElem?_concat_length] at hb
      simp only [Option.some.injEq] at hb
      subst hb
      exact ha
theorem flat_at {α β : Type} {g : α → List β} {s : Nat} {u : β} : ∀ {zs : List α} {j : Nat}, (∀ a ∈ zs, (g a).length = s) → (zs.flatMap g)[j]? = some u → ∃ i r a, j = i * s + r ∧ r < s ∧ zs[i]? = some a ∧ (g a)[r]? = some u
  | [], j, _, h => by simp at h
  | a :: zs, j, hs, h => by
    have ha := hs a (by simp)
    rw [List.flatMap_cons] at h
    by_cases hj : j < s
    · rw [List.getElem?_append_left (by omega)] at h
      exact ⟨0, j, a, by simp, hj, rfl, h⟩
    · rw [List.getElem?_append_right (by omega), ha] at h
      obtain ⟨i, r, b, h1, h2, h3, h4⟩ := flat_at (zs := zs) (fun b hb => hs b (by simp [hb])) h
      exact ⟨i + 1, r, b, by rw [Nat.add_mul]; omega, h2, by simpa using h3, h4⟩
section
variable {H : Type} {enc : TypeId × Value → H} {P : Program} {W : World} {spare : Nat → Bool} {held : Bool}
theorem open_ro {α : Type} (enc' : α → List Sc) (mkc : List α → RC) (Q : α → Prop) {t e : TypeId} {v : Value} {d : DataW H} {ps : List MemPlace} {r : Reach} {b0 : Nat}
    (hsz : ∀ a, Q a → (enc' a).length = P.cellsOf e) (hv : ∀ zs, (mkc zs).vals = zs.flatMap fun a => (enc' a).map Sc.val) (hl : ∀ zs, (mkc zs).len = zs.length)
    (hw : ∀ zs, (∀ a ∈ zs, Q a) → (mkc zs).wf) (hel : ∀ (fuel : Nat) (cs : List Value) (x : DataW H × List MemPlace), DataW.trod enc P W 0 spare held fuel e cs = some x → ∃ a, cs = (enc' a).map Sc.val ∧ Q a)
    (ht : P.underlying t = some (.slice e)) (hpos : 0 < P.cellsOf e) (hval : Value.okWide P W r b0 t v) (h : DataW.Trod enc P W 0 spare held t v d ps) :
    ∃ (zs : List α) (a : Option Addr) (cap b : Nat), v = .slice a (mkc zs).len cap ∧ (mkc zs).len ≤ cap ∧ zs.length ≤ maxLen ∧ (∀ z ∈ zs, Q z) ∧ ∀ (τ : Nat → Nat) (u : Nat), τ u = b → (cx0 P W τ).reads u (mkc zs) a := by
  obtain ⟨a, len, cap, rfl⟩ := okWide_slice ht hval
  obtain ⟨fuel, hf⟩ := h
  rcases open_slice ht hf with ⟨hcs, hx⟩ | ⟨a, len, cap, m, n, D, Pl, hcs, _, hlc, hm, hmm, hx, hi⟩
  · simp [Value.cells] at hcs
    obtain ⟨rfl, rfl, rfl⟩ := hcs
    refine ⟨[], none, 0, 0, by rw [hl]; rfl, by rw [hl]; exact Nat.le_refl _, by simp, by simp, fun τ u _ => ⟨hw [] (by simp), fun h0 => ?_⟩⟩
    rw [hl] at h0
    simp at h0
  · simp [Value.cells] at hcs
    obtain ⟨rfl, rfl, rfl⟩ := hcs
    have hmle : len ≤ m := by rw [hmm]; split <;> omega
    obtain ⟨zs, hzl, hz⟩ := list_of (p := fun i z => W.cells? 0 (a.add (i * P.cellsOf e)) (P.cellsOf e) = some ((enc' z).map Sc.val) ∧ Q z) len (fun i hilt => by
      obtain ⟨cs', h1, h2⟩ := hi i (by omega)
      obtain ⟨z, rfl, hq⟩ := hel _ _ _ h2
      exact ⟨z, h1, hq⟩)
    have hQ : ∀ z ∈ zs, Q z := fun z hm => by
      obtain ⟨i, hi'⟩ := List.getElem?_of_mem hm
      exact (hz i z hi').2
    obtain ⟨b, o, spot⟩ := a
    have spotOf : 0 < len → spot = none := fun h0 => by
      have h1 := hz 0 _ (List.getElem?_eq_getElem (by omega))
      obtain ⟨_, hcl, hat⟩ := World.cells?_some h1.1
      have h2 := hat 0 hpos
      rw [List.getElem?_eq_getElem (by rw [hcl]; exact hpos)] at h2
      simpa [Addr.add] using World.cell?_spot h2
    refine ⟨zs, some ⟨b, o, spot⟩, cap, b, by rw [hl, hzl], by rw [hl]; omega, by omega, hQ, fun τ u hu => ⟨hw zs hQ, fun h0 => ?_⟩⟩
    rw [hl, hzl] at h0
    have hsp := spotOf h0
    subst hsp
    have hcell : ∀ j v, (mkc zs).vals[j]? = some v → W.cell? ⟨b, o + j, none⟩ = some v := fun j v hj => by
      rw [hv] at hj
      obtain ⟨i, q, z, rfl, hq, hzi, hqv⟩ := flat_at (s := P.cellsOf e) (fun z hzm => by rw [List.length_map]; exact hsz z (hQ z hzm)) hj
      obtain ⟨h1, _⟩ := hz i z hzi
      obtain ⟨_, _, hat⟩ := World.cells?_some h1
      have h2 := hat q hq
      rw [hqv] at h2
      rw [← h2, Go.WideShapes.add_plain, Go.WideShapes.add_plain, Nat.add_assoc]
    refine ⟨b, o, rfl, fun hown => ?_, hu, hcell⟩
    rcases hown with hS | hge
    · exact hS
    · have h1 := hz 0 _ (List.getElem?_eq_getElem (by omega))
      obtain ⟨_, hcl, hat⟩ := World.cells?_some h1.1
      have h2 := hat 0 hpos
      rw [List.getElem?_eq_getElem (by rw [hcl]; exact hpos)] at h2
      have h3 : b < W.heap.size := by simpa [Addr.add] using World.block_lt_of_cell? W _ h2
      simp only [cx0] at hge
      omega
def isU8 (x : Int) : Prop := 0 ≤ x ∧ x < 256
/-- Integers of a kind. -/
theorem open_ro_ints {k : IntKind} {t e : TypeId} {v : Value} {d : DataW H} {ps : List MemPlace} {r : Reach} {b0 : Nat} (ht : P.underlying t = some (.slice e)) (he : P.underlying e = some (.int k)) (hc : P.cellsOf e = 1)
    (hval : Value.okWide P W r b0 t v) (h : DataW.Trod enc P W 0 spare held t v d ps) :
    ∃ (zs : List Int) (a : Option Addr) (cap b : Nat), v = .slice a (RC.ints k zs).len cap ∧ (RC.ints k zs).len ≤ cap ∧ zs.length ≤ maxLen ∧ (∀ z ∈ zs, (Lit.int k z).wf = true) ∧ ∀ (τ : Nat → Nat) (u : Nat), τ u = b → (cx0 P W τ).reads u (.ints k zs) a := by
  refine open_ro (fun z => [.int k z]) (RC.ints k) (fun z => (Lit.int k z).wf = true) (fun a _ => by rw [hc]; rfl) (fun zs => ?_) (fun zs => rfl) (fun zs _ => trivial) (fun fuel cs x hx => ?_) ht (by omega) hval h
  · simp only [RC.vals, List.map_cons, List.map_nil, Sc.val]
    induction zs with
    | nil => rfl
    | cons z zs ih => simp [ih]
  · obtain ⟨n, rfl, _, hw⟩ := DataW.trod_int he hx
    exact ⟨n, rfl, hw⟩
theorem open_ro_strs {t e : TypeId} {v : Value} {d : DataW H} {ps : List MemPlace} {r : Reach} {b0 : Nat} (ht : P.underlying t = some (.slice e)) (he : P.underlying e = some .string) (hc : P.cellsOf e = 1)
    (hval : Value.okWide P W r b0 t v) (h : DataW.Trod enc P W 0 spare held t v d ps) :
    ∃ (zs : List ByteArray) (a : Option Addr) (cap b : Nat), v = .slice a (RC.strs zs).len cap ∧ (RC.strs zs).len ≤ cap ∧ zs.length ≤ maxLen ∧ (∀ z ∈ zs, z.size ≤ maxLen) ∧ ∀ (τ : Nat → Nat) (u : Nat), τ u = b → (cx0 P W τ).reads u (.strs zs) a := by
  refine open_ro (fun z => [.str z]) RC.strs (fun z => z.size ≤ maxLen) (fun a _ => by rw [hc]; rfl) (fun zs => ?_) (fun zs => rfl) (fun zs _ => trivial) (fun fuel cs x hx => ?_) ht (by omega) hval h
  · simp only [RC.vals, List.map_cons, List.map_nil, Sc.val]
    induction zs with
    | nil => rfl
    | cons z zs ih => simp [ih]
  · obtain ⟨n, rfl, _, hw⟩ := DataW.trod_string he hx
    exact ⟨n, rfl, hw⟩
theorem open_ro_bools {t e : TypeId} {v : Value} {d : DataW H} {ps : List MemPlace} {r : Reach} {b0 : Nat} (ht : P.underlying t = some (.slice e)) (he : P.underlying e = some .bool) (hc : P.cellsOf e = 1)
    (hval : Value.okWide P W r b0 t v) (h : DataW.Trod enc P W 0 spare held t v d ps) :
    ∃ (zs : List Bool) (a : Option Addr) (cap b : Nat), v = .slice a (RC.bools zs).len cap ∧ (RC.bools zs).len ≤ cap ∧ zs.length ≤ maxLen ∧ (∀ z ∈ zs, True) ∧ ∀ (τ : Nat → Nat) (u : Nat), τ u = b → (cx0 P W τ).reads u (.bools zs) a := by
  refine open_ro (fun z => [.bool z]) RC.bools (fun _ => True) (fun a _ => by rw [hc]; rfl) (fun zs => ?_) (fun zs => rfl) (fun zs _ => trivial) (fun fuel cs x hx => ?_) ht (by omega) hval h
  · simp only [RC.vals, List.map_cons, List.map_nil, Sc.val]
    induction zs with
    | nil => rfl
    | cons z zs ih => simp [ih]
  · obtain ⟨n, rfl, _⟩ := DataW.trod_bool he hx
    exact ⟨n, rfl, trivial⟩
/-- Structs whose cells are told by an opener of their own. -/
theorem open_ro_recs (n : Nat) (Q : List Sc → Prop) {t e : TypeId} {v : Value} {d : DataW H} {ps : List MemPlace} {r : Reach} {b0 : Nat} (hn : 0 < n) (hQ : ∀ l, Q l → l.length = n)
    (hel : ∀ (fuel : Nat) (cs : List Value) (x : DataW H × List MemPlace), DataW.trod enc P W 0 spare held fuel e cs = some x → ∃ a : List Sc, cs = a.map Sc.val ∧ Q a)
    (ht : P.underlying t = some (.slice e)) (hc : P.cellsOf e = n) (hval : Value.okWide P W r b0 t v) (h : DataW.Trod enc P W 0 spare held t v d ps) :
    ∃ (zs : List (List Sc)) (a : Option Addr) (cap b : Nat), v = .slice a (RC.recs n zs).len cap ∧ (RC.recs n zs).len ≤ cap ∧ zs.length ≤ maxLen ∧ (∀ z ∈ zs, Q z) ∧ ∀ (τ : Nat → Nat) (u : Nat), τ u = b → (cx0 P W τ).reads u (.recs n zs) a :=
  open_ro id (RC.recs n) Q (fun a ha => by rw [hc]; exact hQ a ha) (fun zs => rfl) (fun zs => rfl) (fun zs hz => ⟨hn, fun l hl => hQ l (hz l hl)⟩) hel ht (by omega) hval h
/-- What a field of a struct among the arguments is. -/
inductive FK where
  | int (k : IntKind)
  | str
  | bool
def FK.ok : FK → Sc → Prop
  | .int k, .int j x => j = k ∧ (Lit.int k x).wf = true
  | .str, .str s => s.size ≤ maxLen
  | .bool, .bool _ => True
  | _, _ => False
def FK.is (P : Program) (t : TypeId) : FK → Bool
  | .int k => match P.underlying t with
    | some (.int j) => decide (j = k)
    | _ => false
  | .str => match P.underlying t with
    | some .string => true
    | _ => false
  | .bool => match P.underlying t with
    | some .bool => true
    | _ => false
def okFields : List FK → List Sc → Prop
  | [], [] => True
  | k :: ks, c :: cs => k.ok c ∧ okFields ks cs
  | _, _ => False
theorem okFields_length : ∀ {ks : List FK} {l : List Sc}, okFields ks l → l.length = ks.length
  | [], [], _ => rfl
  | [], _ :: _, h => h.elim
  | _ :: _, [], h => h.elim
  | k :: ks, c :: cs, h => by simp [okFields_length h.2]
theorem okFields_of : ∀ {ks : List FK} {l : List Sc}, l.length = ks.length → (∀ (j : Nat) (k : FK) (c : Sc), ks[j]? = some k → l[j]? = some c → k.ok c) → okFields ks l
  | [], [], _, _ => trivial
  | [], _ :: _, h, _ => by simp at h
  | _ :: _, [], h, _ => by simp at h
  | k :: ks, c :: cs, h, hf => ⟨hf 0 k c rfl rfl, okFields_of (by simpa using h) fun j k' c' h1 h2 => hf (j + 1) k' c' (by simpa using h1) (by simpa using h2)⟩
theorem open_fk {fuel : Nat} {t : TypeId} {cs : List Value} {x : DataW H × List MemPlace} (k : FK) (hk : k.is P t = true) (h : DataW.trod enc P W 0 spare held fuel t cs = some x) : ∃ c : Sc, cs = [c.val] ∧ k.ok c := by
  cases k with
  | int k =>
    simp only [FK.is] at hk
    split at hk
    · rename_i j hu
      simp only [decide_eq_true_eq] at hk
      subst hk
      obtain ⟨n, rfl, _, hw⟩ := DataW.trod_int hu h
      exact ⟨.int _ n, rfl, rfl, hw⟩
    · cases hk
  | str =>
    simp only [FK.is] at hk
    split at hk
    · rename_i hu
      obtain ⟨n, rfl, _, hw⟩ := DataW.trod_string hu h
      exact ⟨.str n, rfl, hw⟩
    · cases hk
  | bool =>
    simp only [FK.is] at hk
    split at hk
    · rename_i hu
      obtain ⟨n, rfl, _⟩ := DataW.trod_bool hu h
      exact ⟨.bool n, rfl, trivial⟩
    · cases hk
def fieldsAre (P : Program) (fs : Array Field) (ks : List FK) : Bool := fs.size == ks.length && (fs.toList.zip ks).all fun p => p.2.is P p.1.type
theorem open_fields {e : TypeId} {fs : Array Field} {fuel : Nat} {cs : List Value} {x : DataW H × List MemPlace} (he : P.underlying e = some (.struct fs)) (hone : oneCellFields P fs = true) (hC : P.cellsOf e = fs.size) (ks : List FK) (hks : fieldsAre P fs ks = true)
    (h : DataW.trod enc P W 0 spare held fuel e cs = some x) : ∃ l : List Sc, cs = l.map Sc.val ∧ okFields ks l := by
  obtain ⟨ys, n', hn', hy, hlen, hyl, hf⟩ := DataW.trod_struct he h
  simp only [fieldsAre, Bool.and_eq_true, beq_iff_eq] at hks
  obtain ⟨hsz, hall⟩ := hks
  have hcl : cs.length = fs.size := by rw [hlen]; exact hC
  have each : ∀ j, j < fs.size → ∃ c : Sc, cs[j]? = some c.val ∧ ∀ k, ks[j]? = some k → k.ok c := fun j hj => by
    have hfj : fs[j]? = some fs[j] := Array.getElem?_eq_getElem hj
    obtain ⟨ho, hk⟩ := hone_of hone j fs[j] hfj
    have h1 := hf j fs[j] hfj
    rw [ho, hk] at h1
    have hone' : (cs.drop j).take 1 = [cs[j]'(by omega)] := by
      rw [List.drop_eq_getElem_cons (by omega)]
      rfl
    rw [hone'] at h1
    have hys : ys[j]? = some (ys[j]'(by omega)) := List.getElem?_eq_getElem (by omega)
    have hkj : ks[j]? = some (ks[j]'(by omega)) := List.getElem?_eq_getElem (by omega)
    have hmem : (fs[j], ks[j]'(by omega)) ∈ fs.toList.zip ks := by
      refine List.mem_of_getElem? (i := j) ?_
      rw [List.getElem?_zip_eq_some]
      exact ⟨by simp, hkj⟩
    obtain ⟨c, hc, hok⟩ := open_fk _ (List.all_eq_true.1 hall _ hmem) (h1.trans hys)
    simp only [List.cons.injEq, and_true] at hc
    refine ⟨c, by rw [List.getElem?_eq_getElem (by omega), hc], fun k hk' => ?_⟩
    rw [hkj] at hk'
    simp only [Option.some.injEq] at hk'
    rw [← hk']
    exact hok
  obtain ⟨l, hl, hall'⟩ := list_of (p := fun j c => cs[j]? = some (Sc.val c) ∧ ∀ k, ks[j]? = some k → k.ok c) fs.size each
  refine ⟨l, ?_, okFields_of (by omega) fun j k c h1 h2 => (hall' j c h2).2 k h1⟩
  refine List.ext_getElem? fun j => ?_
  by_cases hj : j < l.length
  · have := (hall' j _ (List.getElem?_eq_getElem hj)).1
    rw [this, List.getElem?_map, List.getElem?_eq_getElem hj]
    rfl
  · rw [List.getElem?_eq_none (by omega), List.getElem?_eq_none (by rw [List.length_map]; omega)]
/-- An array of integers, by value. -/
theorem open_arr {n : Nat} {k : IntKind} {t e : TypeId} {v : Value} {d : DataW H} {ps : List MemPlace} {r : Reach} {b0 : Nat} (ht : P.underlying t = some (.array n e)) (he : P.underlying e = some (.int k)) (hc : P.cellsOf e = 1) (hT : P.cellsOf t = n)
    (hval : Value.okWide P W r b0 t v) (h : DataW.Trod enc P W 0 spare held t v d ps) :
    ∃ zs : List Int, zs.length = n ∧ v = .agg (zs.map (Value.int k)).toArray ∧ ∀ z ∈ zs, (Lit.int k z).wf = true := by
  obtain ⟨cs, rfl, hsz⟩ : ∃ cs, v = .agg cs ∧ cs.size = P.cellsOf t := by
    simp only [Value.okWide, ht] at hval
    cases v <;> simp_all
  obtain ⟨fuel, hf⟩ := h
  obtain ⟨xs, m, _, _, _, hxl, hg⟩ := DataW.trod_array ht hf
  obtain ⟨l⟩ := cs
  simp only [List.size_toArray] at hsz
  rw [hT] at hsz
  obtain ⟨zs, hl, hz⟩ := list_of (p := fun i z => l[i]? = some (Value.int k z) ∧ (Lit.int k z).wf = true) n fun i hi => by
    have h1 := hg i hi
    rw [hc, Nat.mul_one] at h1
    have hli : i < l.length := by omega
    have h2 : ((Value.agg l.toArray).cells.toList.drop i).take 1 = [l[i]] := by
      simp only [Value.cells]
      rw [List.drop_eq_getElem_cons hli]
      rfl
    rw [h2, List.getElem?_eq_getElem (by omega : i < xs.length)] at h1
    obtain ⟨z, hz1, _, hz2⟩ := DataW.trod_int he h1
    simp only [List.cons.injEq, and_true] at hz1
    exact ⟨z, by rw [List.getElem?_eq_getElem hli, hz1], hz2⟩
  refine ⟨zs, hl, ?_, fun z hm => ?_⟩
  · congr 2
    refine List.ext_getElem? fun j => ?_
    by_cases hj : j < zs.length
    · rw [(hz j _ (List.getElem?_eq_getElem hj)).1, List.getElem?_map, List.getElem?_eq_getElem hj]
      rfl
    · rw [List.getElem?_eq_none (by omega), List.getElem?_eq_none (by rw [List.length_map]; omega)]
  · obtain ⟨j, hj⟩ := List.getElem?_of_mem hm
    exact (hz j z hj).2
/-- A struct of plain fields, by value. -/
theorem open_struct {fs : Array Field} {t : TypeId} {v : Value} {d : DataW H} {ps : List MemPlace} {r : Reach} {b0 : Nat} (ht : P.underlying t = some (.struct fs)) (hone : oneCellFields P fs = true) (hC : P.cellsOf t = fs.size) (ks : List FK) (hks : fieldsAre P fs ks = true)
    (hval : Value.okWide P W r b0 t v) (h : DataW.Trod enc P W 0 spare held t v d ps) : ∃ l : List Sc, v = .agg (l.map Sc.val).toArray ∧ okFields ks l := by
  obtain ⟨cs, rfl, hsz⟩ : ∃ cs, v = .agg cs ∧ cs.size = P.cellsOf t := by
    simp only [Value.okWide, ht] at hval
    cases v <;> simp_all
  obtain ⟨fuel, hf⟩ := h
  obtain ⟨l, hl, hok⟩ := open_fields ht hone hC ks hks hf
  refine ⟨l, ?_, hok⟩
  obtain ⟨cs⟩ := cs
  simp only [Value.cells] at hl
  rw [hl]
theorem vrl_scs {C : Cx} {n : Nat} {ρ : Nat → RV} : ∀ l : List Sc, VRL C n ρ (l.map Sc.sv) (l.map Sc.val)
  | [] => .nil
  | .int k x :: l => .cons _ _ _ _ (.int k x) (vrl_scs l)
  | .bool b :: l => .cons _ _ _ _ (.bool b) (vrl_scs l)
  | .str s :: l => .cons _ _ _ _ (.str s) (vrl_scs l)
/-- How long a string in a struct among the arguments is, as the form's own reach counts it. -/
theorem struct_string {fs : Array Field} {t : TypeId} {cs : List Value} {d : DataW H} {ps : List MemPlace} (ht : P.underlying t = some (.struct fs)) (hone : oneCellFields P fs = true)
    (h : DataW.Trod enc P W 0 spare held t (.agg cs.toArray) d ps) {j : Nat} {f : Field} {s : ByteArray} (hf : fs[j]? = some f) (hu : P.underlying f.type = some .string) (hs : cs[j]? = some (.string s)) : s.size ∈ d.weights P t := by
  obtain ⟨fuel, hx⟩ := h
  obtain ⟨xs, n', hn', hy, hlen, hyl, hfs⟩ := DataW.trod_struct ht hx
  simp only [Prod.mk.injEq] at hy
  obtain ⟨rfl, _⟩ := hy
  obtain ⟨ho, hk⟩ := hone_of hone j f hf
  have h1 := hfs j f hf
  have hj : j < cs.length := by
    rcases Nat.lt_or_ge j cs.length with h | h
    · exact h
    · rw [List.getElem?_eq_none h] at hs; cases hs
  have hone' : ((Value.agg cs.toArray).cells.toList.drop j).take 1 = [.string s] := by
    simp only [Value.cells]
    rw [List.drop_eq_getElem_cons hj]
    rw [List.getElem?_eq_getElem hj] at hs
    simp only [Option.some.injEq] at hs
    rw [hs]
    rfl
  rw [ho, hk, hone'] at h1
  have hjx : j < xs.length := by
    rw [hyl]
    rcases Nat.lt_or_ge j fs.size with h | h
    · exact h
    · rw [Array.getElem?_eq_none h] at hf; cases hf
  rw [List.getElem?_eq_getElem hjx] at h1
  obtain ⟨s', e1, e2, _⟩ := DataW.trod_string hu h1
  simp only [List.cons.injEq, Value.string.injEq, and_true] at e1
  subst e1
  simp only [DataW.weights, ht]
  refine DataW.weights_mem_each (t := f.type) (d := .lit (.string s.data.toList)) (j := j) ?_ ?_ _ ?_
  · rw [List.getElem?_map, Array.getElem?_toList, hf]; rfl
  · rw [List.getElem?_map, List.getElem?_eq_getElem hjx, e2]; rfl
  · simp only [DataW.weights, List.mem_singleton]
    exact (Array.length_toList).symm
theorem vrl_ints {C : Cx} {n : Nat} {ρ : Nat → RV} (k : IntKind) : ∀ zs : List Int, VRL C n ρ (zs.map (SV.int k)) (zs.map (Value.int k))
  | [] => .nil
  | z :: zs => .cons _ _ _ _ (.int k z) (vrl_ints k zs)
end
end Go.X
