import Derived.Test.YtejcknhmobnbeaaCd
import Derived.Test.YtejcknhmobnbeaaAv
set_option maxRecDepth 100000
set_option linter.unusedSimpArgs false
namespace Go.X.Try
open Go.IntWalk
/-- What is written of an item. -/
def itemB : List Sc → List Int
  | [.int _ kd, .int _ v, .int _ n, .str s] => if kd.tmod 4 = 0 then fixB v.toNat (sz n) else if kd.tmod 4 = 1 then grp v.toNat else if kd.tmod 4 = 2 then toBytes s else grp s.size ++ toBytes s
  | _ => []
def itemsB : List (List Sc) → List Int
  | [] => []
  | z :: L => itemB z ++ itemsB L
theorem itemsB_append : ∀ (L M : List (List Sc)), itemsB (L ++ M) = itemsB L ++ itemsB M
  | [], M => rfl
  | z :: L, M => by simp [itemsB, itemsB_append L M]
theorem item_of {z : List Sc} (h : okFields [.int .u8, .int .u64, .int .i64, .str] z) : ∃ (kd : Int) (v : Nat) (n : Int) (s : ByteArray), z = [.int .u8 kd, .int .u64 v, .int .i64 n, .str s] ∧ 0 ≤ kd ∧ kd < 256 ∧ v < 2 ^ 64 ∧ -9223372036854775808 ≤ n ∧ n ≤ 9223372036854775807 := by
  match z, h with
  | [a, b, c, d], ⟨ha, hb, hc, hd, _⟩ =>
    cases a <;> simp only [FK.ok] at ha
    cases b <;> simp only [FK.ok] at hb
    cases c <;> simp only [FK.ok] at hc
    cases d <;> simp only [FK.ok] at hd
    rename_i k1 x1 k2 x2 k3 x3 s
    obtain ⟨rfl, hw⟩ := ha
    obtain ⟨rfl, hw2⟩ := hb
    obtain ⟨rfl, hw3⟩ := hc
    simp [Lit.wf, IntKind.min, IntKind.max, IntKind.signed, IntKind.bits] at hw hw2 hw3
    exact ⟨x1, x2.toNat, x3, s, by rw [show ((x2.toNat : Nat) : Int) = x2 by omega], by omega, by omega, by omega, by omega, by omega⟩
theorem kind4 {kd : Int} (h : 0 ≤ kd ∧ kd < 256) : kd.tmod 4 = 0 ∨ kd.tmod 4 = 1 ∨ kd.tmod 4 = 2 ∨ kd.tmod 4 = 3 := by
  have := Int.tmod_eq_emod_of_nonneg (b := 4) h.1
  omega
theorem itemB_ok {kd n : Int} {v : Nat} {s : ByteArray} (hv : v < 2 ^ 64) (hs : s.size ≤ 300) : isB (itemB [.int .u8 kd, .int .u64 v, .int .i64 n, .str s]) ∧ (itemB [.int .u8 kd, .int .u64 v, .int .i64 n, .str s]).length ≤ 310 := by
  have h10 := grp_ten hv
  have h10s := grp_ten (v := s.size) (by omega)
  have h8 := sz_le n
  simp only [itemB, Int.toNat_natCast]
  split
  · exact ⟨fixB_isB _ _, by rw [fixB_length]; omega⟩
  · split
    · exact ⟨grp_isB _, by omega⟩
    · split
      · exact ⟨isB_toBytes s, by rw [size_toBytes]; omega⟩
      · exact ⟨isB_append (grp_isB _) (isB_toBytes s), by rw [List.length_append, size_toBytes]; omega⟩
def canon11a (L : List (List Sc)) (i : Int) (bs : List Int) : St :=
  ⟨[(0, .one (.ro 0 (.recs 4 L))), (3, .one (.ptr 0 0)), (4, .one (.str (ofBytes bs))), (16, .one (.ro 0 (.recs 4 L))), (17, .one (.int .i64 L.length)), (18, .one (.int .i64 i))], [.ro 0 (.recs 4 L)], [.cells none [.row 1], .rows (.ints .u8 bs)]⟩
theorem long11a (L : List (List Sc)) (i : Nat) (bs : List Int) (kd v n : Int) (s : ByteArray) (hi : i < L.length) (hd : L[i]?.getD [] = [.int .u8 kd, .int .u64 v, .int .i64 n, .str s]) (hs : 300 < s.size) :
    ∃ env hp', evC T11 KK b11x0 (canon11a L i bs) = some (.ret, ⟨env, [.ro 0 (.recs 4 L)], hp'⟩) ∧ getT 2 env = .one (.bool true) := by
  have hd' : L[i] = [.int .u8 kd, .int .u64 v, .int .i64 n, .str s] := by rw [List.getElem?_eq_getElem hi] at hd; exact hd
  have hi2 : (i : Int) < L.length := by omega
  have hs1 : (300 : Int) < s.size := by omega
  simp -implicitDefEqProofs [b11x0, canon11a, upd, hi, hi2, hd, hd', hs, hs1, RC.len, RC.size, RC.elem, takeE]
theorem body11a (L : List (List Sc)) (i : Nat) (bs : List Int) (kd n : Int) (v : Nat) (s : ByteArray) (hi : i < L.length) (hL : L.length ≤ 40) (hd : L[i]?.getD [] = [.int .u8 kd, .int .u64 v, .int .i64 n, .str s]) (hk : 0 ≤ kd ∧ kd < 256) (hv : v < 2 ^ 64) (hs : s.size ≤ 300) (hl : bs.length ≤ 20000) :
    ∃ st1, evC T11 KK b11x0 (canon11a L i bs) = some (.norm, st1) ∧ St.head [0, 3, 4, 16, 17, 18] st1 = canon11a L (i + 1 : Nat) (bs ++ itemB [.int .u8 kd, .int .u64 v, .int .i64 n, .str s]) := by
  have hd' : L[i] = [.int .u8 kd, .int .u64 v, .int .i64 n, .str s] := by rw [List.getElem?_eq_getElem hi] at hd; exact hd
  have hi2 : (i : Int) < L.length := by omega
  have w : IntKind.i64.wrap ((i : Int) + 1) = (i : Int) + 1 := i64_in _ (by omega)
  have hs1 : ¬ (300 : Int) < s.size := by omega
  have hs2 : ¬ 300 < s.size := by omega
  have h10 := grp_ten hv
  have h10s := grp_ten (v := s.size) (by omega)
  have h8 := sz_le n
  have e0 := size_ofBytes bs
  rcases kind4 hk with h4 | h4 | h4 | h4
  · have e52 := f52 v n bs hv (by omega)
    have e53 := f53 v n hv
    have e1 := ofBytes_append bs (fixB v (sz n))
    have e2 := size_ofBytes (fixB v (sz n))
    have hm : bs.length + (fixB v (sz n)).length ≤ 9223372036854775807 := by rw [fixB_length]; omega
    have hb : itemB [.int .u8 kd, .int .u64 v, .int .i64 n, .str s] = fixB v (sz n) := by simp only [itemB, h4, if_true, Int.toNat_natCast]
    rw [hb]
    generalize fixB v (sz n) = q at *
    simp only [wHp] at e52
    simp -implicitDefEqProofs [b11x0, canon11a, upd, hi, hi2, hd, hd', hs, hs1, hs2, h4, w, e52, e53, e0, e1, e2, hm, RC.len, RC.size, RC.elem, takeE]
  · have e18 := f18 v bs hv (by omega)
    have e54 := f54 v hv
    have e1 := ofBytes_append bs (grp v)
    have e2 := size_ofBytes (grp v)
    have hm : bs.length + (grp v).length ≤ 9223372036854775807 := by omega
    have hb : itemB [.int .u8 kd, .int .u64 v, .int .i64 n, .str s] = grp v := by simp [itemB, h4]
    rw [hb]
    simp only [wHp] at e18
    simp -implicitDefEqProofs [b11x0, canon11a, upd, hi, hi2, hd, hd', hs, hs1, hs2, h4, w, e18, e54, e0, e1, e2, hm, RC.len, RC.size, RC.elem, takeE]
  · have e55 := f55 s bs (by omega)
    have e1 := ofBytes_append bs (toBytes s)
    rw [ofBytes_toBytes] at e1
    have hm : bs.length + s.size ≤ 9223372036854775807 := by omega
    have hb : itemB [.int .u8 kd, .int .u64 v, .int .i64 n, .str s] = toBytes s := by simp [itemB, h4]
    rw [hb]
    simp only [wHp] at e55
    simp -implicitDefEqProofs [b11x0, canon11a, upd, hi, hi2, hd, hd', hs, hs1, hs2, h4, w, e55, e0, e1, hm, RC.len, RC.size, RC.elem, takeE]
  · have e56 := f56 s bs (by omega) (by omega)
    have e57 := f57 s (by omega)
    have e1 := ofBytes_append bs (grp s.size ++ toBytes s)
    have e2 := size_ofBytes (grp s.size ++ toBytes s)
    rw [List.append_assoc] at e56
    have hm : bs.length + (grp s.size ++ toBytes s).length ≤ 9223372036854775807 := by rw [List.length_append, size_toBytes]; omega
    have hb : itemB [.int .u8 kd, .int .u64 v, .int .i64 n, .str s] = grp s.size ++ toBytes s := by simp [itemB, h4]
    rw [hb]
    generalize grp s.size ++ toBytes s = q at *
    simp only [wHp] at e56
    simp -implicitDefEqProofs [b11x0, canon11a, upd, hi, hi2, hd, hd', hs, hs1, hs2, h4, w, e56, e57, e0, e1, e2, hm, RC.len, RC.size, RC.elem, takeE]
theorem end11a (L : List (List Sc)) (i : Nat) (bs : List Int) (hi : L.length ≤ i) :
    ∃ env, evC T11 KK b11x0 (canon11a L i bs) = some (.exit 0, ⟨env, [.ro 0 (.recs 4 L)], [.cells none [.row 1], .rows (.ints .u8 bs)]⟩) ∧ getT 0 env = .one (.ro 0 (.recs 4 L)) ∧ getT 3 env = .one (.ptr 0 0) ∧ getT 4 env = .one (.str (ofBytes bs)) := by
  have hi2 : ¬ (i : Int) < L.length := by omega
  simp -implicitDefEqProofs [b11x0, canon11a, upd, hi2]
theorem loop11a (L : List (List Sc)) (hL : L.length ≤ 40) (hw : ∀ z ∈ L, okFields [.int .u8, .int .u64, .int .i64, .str] z) : ∀ (j i : Nat) (K : Nat), i + j = L.length → isB (itemsB (L.take i)) → (itemsB (L.take i)).length ≤ 310 * i → j < K →
    (∃ env, loopH (evC T11 KK b11x0) [0, 3, 4, 16, 17, 18] K (canon11a L i (itemsB (L.take i))) = some (.exit 0, ⟨env, [.ro 0 (.recs 4 L)], [.cells none [.row 1], .rows (.ints .u8 (itemsB L))]⟩) ∧ getT 0 env = .one (.ro 0 (.recs 4 L)) ∧ getT 3 env = .one (.ptr 0 0) ∧ getT 4 env = .one (.str (ofBytes (itemsB L))) ∧ isB (itemsB L) ∧ (itemsB L).length ≤ 12400 ∧ (∀ z ∈ L.drop i, ∀ kd v n s, z = [.int .u8 kd, .int .u64 v, .int .i64 n, .str s] → s.size ≤ 300)) ∨
    (∃ env hp', loopH (evC T11 KK b11x0) [0, 3, 4, 16, 17, 18] K (canon11a L i (itemsB (L.take i))) = some (.ret, ⟨env, [.ro 0 (.recs 4 L)], hp'⟩) ∧ getT 2 env = .one (.bool true))
  | 0, i, K, hi, hB, hl, hK => by
    obtain rfl : i = L.length := by omega
    obtain ⟨env, e, g0, g3, g4⟩ := end11a L L.length (itemsB (L.take L.length)) (Nat.le_refl _)
    rw [List.take_length] at *
    exact .inl ⟨env, loopH_exit e, g0, g3, g4, hB, by omega, by simp⟩
  | j + 1, i, K, hi, hB, hl, hK => by
    have hlt : i < L.length := by omega
    have hg : L[i]?.getD [] = L[i] := by rw [List.getElem?_eq_getElem hlt]; rfl
    obtain ⟨kd, v, n, s, hz, hk0, hk1, hv, _, _⟩ := item_of (hw L[i] (List.getElem_mem hlt))
    rw [hz] at hg
    by_cases hs : s.size ≤ 300
    · obtain ⟨st1, e1, e2⟩ := body11a L i (itemsB (L.take i)) kd n v s hlt hL hg ⟨hk0, hk1⟩ hv hs (by omega)
      obtain ⟨hBz, hlz⟩ := itemB_ok (kd := kd) (n := n) hv hs
      have hst : itemsB (L.take (i + 1)) = itemsB (L.take i) ++ itemB [.int .u8 kd, .int .u64 v, .int .i64 n, .str s] := by
        rw [← List.take_append_getElem hlt, itemsB_append, hz]
        simp [itemsB]
      rcases loop11a L hL hw j (i + 1) (K - 1) (by omega) (by rw [hst]; exact isB_append hB hBz) (by rw [hst, List.length_append]; omega) (by omega) with ⟨env, e, g0, g3, g4, r1, r2, r3⟩ | ⟨env, hp', e, g⟩
      · refine .inl ⟨env, by rw [loopH_norm e1 (by omega), e2, ← hst]; exact e, g0, g3, g4, r1, r2, ?_⟩
        intro z hzm kd' v' n' s' he
        rw [List.drop_eq_getElem_cons hlt] at hzm
        rcases List.mem_cons.1 hzm with h | h
        · rw [he, hz] at h
          simp only [List.cons.injEq, Sc.str.injEq] at h
          rw [h.2.2.2.1]; exact hs
        · exact r3 z h kd' v' n' s' he
      · exact .inr ⟨env, hp', by rw [loopH_norm e1 (by omega), e2, ← hst]; exact e, g⟩
    · obtain ⟨env, hp', e, g⟩ := long11a L i (itemsB (L.take i)) kd v n s hlt hg (by omega)
      exact .inr ⟨env, hp', loopH_ret e, g⟩
def canon11b (L : List (List Sc)) (i : Int) (l : List Int) : St :=
  ⟨[(7, .one (.ptr 0 0)), (78, .one (.ro 0 (.recs 4 L))), (79, .one (.int .i64 L.length)), (80, .one (.int .i64 i))], [.ro 0 (.recs 4 L)], rHp none l false⟩
theorem rAns_app (l r : List Int) : rAns (l ++ r) l.length = (l, r, false) := by
  unfold rAns
  rw [if_neg (by rw [List.length_append]; omega), Int.toNat_natCast, List.take_left', List.drop_left'] <;> rfl
theorem body11b (L : List (List Sc)) (i : Nat) (r : List Int) (kd n : Int) (v : Nat) (s : ByteArray) (hi : i < L.length) (hL : L.length ≤ 40) (hd : L[i]?.getD [] = [.int .u8 kd, .int .u64 v, .int .i64 n, .str s]) (hk : 0 ≤ kd ∧ kd < 256) (hv : v < 2 ^ 64) (hs : s.size ≤ 300)
    (hB : isB (itemB [.int .u8 kd, .int .u64 v, .int .i64 n, .str s] ++ r)) (hl : (itemB [.int .u8 kd, .int .u64 v, .int .i64 n, .str s] ++ r).length ≤ 20000) :
    ∃ st1, evC T11 KK b11x1 (canon11b L i (itemB [.int .u8 kd, .int .u64 v, .int .i64 n, .str s] ++ r)) = some (.norm, st1) ∧ St.head [7, 78, 79, 80] st1 = canon11b L (i + 1 : Nat) r := by
  have hd' : L[i] = [.int .u8 kd, .int .u64 v, .int .i64 n, .str s] := by rw [List.getElem?_eq_getElem hi] at hd; exact hd
  have hi2 : (i : Int) < L.length := by omega
  have w : IntKind.i64.wrap ((i : Int) + 1) = (i : Int) + 1 := i64_in _ (by omega)
  have h8 := sz_le n
  have e23 := f23 r false
  rcases kind4 hk with h4 | h4 | h4 | h4
  · have hb : itemB [.int .u8 kd, .int .u64 v, .int .i64 n, .str s] = fixB v (sz n) := by simp only [itemB, h4, if_true, Int.toNat_natCast]
    rw [hb] at hB hl ⊢
    have e43 := f43 (fixB v (sz n) ++ r) n hB (by omega)
    have ha := rAns_app (fixB v (sz n)) r
    rw [fixB_length] at ha
    rw [ha] at e43
    have e53 := f53 v n hv
    have e42 := f42 (fixB v (sz n)) (fixB_isB _ _) (by rw [fixB_length]; exact h8)
    simp only [rHp] at e43 e23
    generalize leB (fixB v (sz n)) = x at *
    generalize fixB v (sz n) = q at *
    simp -implicitDefEqProofs [b11x1, canon11b, rHp, upd, hi, hi2, hd, hd', h4, w, e43, e53, e42, e23, RC.len, RC.size, RC.elem, takeE]
  · have hb : itemB [.int .u8 kd, .int .u64 v, .int .i64 n, .str s] = grp v := by simp [itemB, h4]
    rw [hb] at hB hl ⊢
    have e21 := f21 (grp v ++ r) hB (by omega)
    rw [gAns_grp v r hv] at e21
    simp only [rHp] at e21 e23
    simp -implicitDefEqProofs [b11x1, canon11b, rHp, upd, hi, hi2, hd, hd', h4, w, e21, e23, RC.len, RC.size, RC.elem, takeE]
  · have hb : itemB [.int .u8 kd, .int .u64 v, .int .i64 n, .str s] = toBytes s := by simp [itemB, h4]
    rw [hb] at hB hl ⊢
    have e44 := f44' (toBytes s ++ r) s.size (by omega)
    have ha := rAns_app (toBytes s) r
    rw [size_toBytes] at ha
    rw [ha] at e44
    have eb := ofBytes_toBytes s
    simp only [rHp, eb] at e44 e23
    simp -implicitDefEqProofs [b11x1, canon11b, rHp, upd, hi, hi2, hd, hd', h4, w, e44, e23, RC.len, RC.size, RC.elem, takeE]
  · have hb : itemB [.int .u8 kd, .int .u64 v, .int .i64 n, .str s] = grp s.size ++ toBytes s := by simp [itemB, h4]
    rw [hb] at hB hl ⊢
    have e45 := f45 (grp s.size ++ toBytes s ++ r) s.size (by omega) hB (by omega)
    have hg : gAns (grp s.size ++ toBytes s ++ r) = (s.size, toBytes s ++ r, false) := by
      rw [List.append_assoc]
      exact gAns_grp s.size _ (by omega)
    have hi' : iAns (grp s.size ++ toBytes s ++ r) s.size = (s.size, toBytes s ++ r, false) := by
      unfold iAns
      rw [hg, if_neg]
      simp only
      rintro (h | h | h)
      · cases h
      · omega
      · omega
    have ha := rAns_app (toBytes s) r
    rw [size_toBytes] at ha
    have ht : tAns (grp s.size ++ toBytes s ++ r) s.size = (toBytes s, r, false) := by
      unfold tAns
      rw [hi', if_neg (by simp)]
      exact ha
    rw [ht] at e45
    have eb := ofBytes_toBytes s
    simp only [rHp, eb] at e45 e23
    generalize grp s.size ++ toBytes s ++ r = q at *
    simp -implicitDefEqProofs [b11x1, canon11b, rHp, upd, hi, hi2, hd, hd', h4, w, e45, e23, RC.len, RC.size, RC.elem, takeE]
theorem end11b (L : List (List Sc)) (i : Nat) (l : List Int) (hi : L.length ≤ i) :
    ∃ env, evC T11 KK b11x1 (canon11b L i l) = some (.exit 3, ⟨env, [.ro 0 (.recs 4 L)], rHp none l false⟩) ∧ getT 7 env = .one (.ptr 0 0) := by
  have hi2 : ¬ (i : Int) < L.length := by omega
  simp -implicitDefEqProofs [b11x1, canon11b, rHp, upd, hi2]
theorem loop11b (L : List (List Sc)) (hL : L.length ≤ 40) (hw : ∀ z ∈ L, okFields [.int .u8, .int .u64, .int .i64, .str] z) (hs : ∀ z ∈ L, ∀ kd v n s, z = [.int .u8 kd, .int .u64 v, .int .i64 n, .str s] → s.size ≤ 300) : ∀ (j i : Nat) (K : Nat), i + j = L.length → isB (itemsB (L.drop i)) → (itemsB (L.drop i)).length ≤ 12400 → j < K →
    ∃ env, loopH (evC T11 KK b11x1) [7, 78, 79, 80] K (canon11b L i (itemsB (L.drop i))) = some (.exit 3, ⟨env, [.ro 0 (.recs 4 L)], rHp none [] false⟩) ∧ getT 7 env = .one (.ptr 0 0)
  | 0, i, K, hi, hB, hl, hK => by
    obtain rfl : i = L.length := by omega
    obtain ⟨env, e, g⟩ := end11b L L.length (itemsB (L.drop L.length)) (Nat.le_refl _)
    rw [List.drop_length] at *
    exact ⟨env, loopH_exit e, g⟩
  | j + 1, i, K, hi, hB, hl, hK => by
    have hlt : i < L.length := by omega
    have hg : L[i]?.getD [] = L[i] := by rw [List.getElem?_eq_getElem hlt]; rfl
    obtain ⟨kd, v, n, s, hz, hk0, hk1, hv, _, _⟩ := item_of (hw L[i] (List.getElem_mem hlt))
    have hsz := hs L[i] (List.getElem_mem hlt) kd v n s hz
    rw [hz] at hg
    have hd : itemsB (L.drop i) = itemB [.int .u8 kd, .int .u64 v, .int .i64 n, .str s] ++ itemsB (L.drop (i + 1)) := by
      rw [List.drop_eq_getElem_cons hlt, hz]; rfl
    rw [hd] at hB hl ⊢
    obtain ⟨st1, e1, e2⟩ := body11b L i (itemsB (L.drop (i + 1))) kd n v s hlt hL hg ⟨hk0, hk1⟩ hv hsz hB (by omega)
    obtain ⟨env, e, g⟩ := loop11b L hL hw hs j (i + 1) (K - 1) (by omega) (fun x hx => hB x (List.mem_append.2 (.inr hx))) (by rw [List.length_append] at hl; omega) (by omega)
    exact ⟨env, by rw [loopH_norm e1 (by omega), e2]; exact e, g⟩
theorem law11 (L : List (List Sc)) (_ : L.length ≤ maxLen) (hw : ∀ z ∈ L, okFields [.int .u8, .int .u64, .int .i64, .str] z) : F11 [.one (.ro 0 (.recs 4 L))] [] = some (.one (.bool true), []) := by
  by_cases hL : L.length ≤ 40
  · have hL1 : ¬ ((40 : Int) < L.length) := by omega
    have hL2 : ¬ (40 < L.length) := by omega
    have z : ((0 : Nat) : Int) = 0 := rfl
    rcases loop11a L hL hw L.length 0 KK (by omega) (by simp [itemsB, isB]) (by simp [itemsB]) (by rw [KK_eq]; omega) with ⟨env, e, g0, g3, g4, hB, hl, hs⟩ | ⟨env, hp', e, g⟩
    · have e19 := f19 (itemsB L)
      have e20 := f20 (ofBytes (itemsB L))
      rw [toBytes_ofBytes hB] at e20
      obtain ⟨env2, e2, k7⟩ := loop11b L hL hw hs L.length 0 KK (by omega) (by simpa using hB) (by simpa using hl) (by rw [KK_eq]; omega)
      rw [List.drop_zero] at e2
      have e22 := f22 [] false
      have e47 := f47 [] false (by simp)
      have e23 := f23 [] false
      simp only [canon11a, List.take_zero, itemsB, ofBytes_nil, z] at e
      simp only [canon11b, rHp, z, ofBytes_nil] at e2
      simp only [wHp, rHp] at e19 e20
      simp only [rHp, ofBytes_nil, ite_self] at e22 e47 e23
      generalize itemsB L = q at *
      simp -implicitDefEqProofs [F11, c11, upd, h17, hL, hL1, hL2, RC.len, e, g0, g3, g4, e19, e20, e2, k7, e22, e47, e23, ofBytes_nil]
    · simp only [canon11a, List.take_zero, itemsB, ofBytes_nil, z] at e
      simp -implicitDefEqProofs [F11, c11, upd, h17, hL, hL1, hL2, RC.len, e, g]
  · have hL1 : (40 : Int) < L.length := by omega
    have hL2 : 40 < L.length := by omega
    simp -implicitDefEqProofs [F11, c11, upd, h17, hL1, hL2, RC.len]
end Go.X.Try
