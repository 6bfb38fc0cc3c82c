import Derived.Test.YtmkfebnahaembaaDg
import Derived.Test.YtmkfebnahaembaaAv
set_option maxRecDepth 100000
set_option linter.unusedSimpArgs false
namespace Go.X.Try
open Go.IntWalk
theorem toBytes_ofBytes1 {x : Int} (h : 0 ≤ x ∧ x < 256) : toBytes (ofBytes [x]) = [x] := by
  simp [toBytes, ofBytes]
  omega
theorem toBytes_inj {a b : ByteArray} (h : toBytes a = toBytes b) : a = b := by
  obtain ⟨⟨a⟩⟩ := a
  obtain ⟨⟨b⟩⟩ := b
  simp only [toBytes] at h
  congr 2
  induction a generalizing b with
  | nil => cases b with
    | nil => rfl
    | cons y b => simp at h
  | cons x a ih => cases b with
    | nil => simp at h
    | cons y b =>
      simp only [List.map_cons, List.cons.injEq] at h
      rw [ih b h.2, UInt8.toNat_inj.1 (by omega : x.toNat = y.toNat)]
theorem full_at {D : List Int} {k : Nat} (hlt : k < D.length) (hD : D.length < 10000) :
    (sendR p0 D)[k]? = some [.int .u8 D[k], .int .u64 (sfin ((D.take (k + 1)).foldl sstep 7640891576956012808) ((k : Int) + 1)), .bool true] := by
  rw [sendR_at D p0 k _ (List.getElem?_eq_getElem hlt)]
  have e1 : ((D.take k).foldl sbyte p0).1 = (D.take k).foldl sstep 7640891576956012808 := fold_fst _ _
  have e2 : ((D.take k).foldl sbyte p0).2 = (k : Int) := by
    have := fold_snd (D.take k) 7640891576956012808 0 (by rw [List.length_take]; omega)
    rw [List.length_take, Nat.min_eq_left (by omega), Nat.zero_add] at this
    exact this
  have e3 : (D.take (k + 1)).foldl sstep 7640891576956012808 = sstep ((D.take k).foldl sstep 7640891576956012808) D[k] := by
    rw [← List.take_append_getElem hlt, List.foldl_append]; rfl
  have w : IntKind.u64.wrap ((k : Int) + 1) = (k : Int) + 1 := u64_in _ (by omega)
  unfold recS
  rw [e1, e2, e3, w]
theorem drop_take_cons {α : Type} {F : List α} {t m : Nat} {x : α} (h : F[t]? = some x) : (F.drop t).take (m + 1) = x :: (F.drop (t + 1)).take m := by
  obtain ⟨hlt, e⟩ := List.getElem?_eq_some_iff.1 h
  rw [List.drop_eq_getElem_cons hlt, List.take_succ_cons, e]
theorem loop4a (L : List ByteArray) (Nn : List Int) (hL : L.length ≤ 20) : ∀ (j i : Nat) (all : ByteArray) (sf : Option (Nat × Nat)) (X : List (List Sc)) (h n : Int) (K : Nat), i + j = L.length → all.size ≤ 60 * i → okv X sf → cont X sf = sendR p0 (toBytes all) → (h, n) = (toBytes all).foldl sbyte p0 → j < K →
    (∃ env all' sf' X' h' n', loopH (evC T4 KK b4x0) [1, 5, 6, 25, 26, 27] K (canon4a L Nn i all sf X h n) = some (.exit 0, ⟨env, rts4 L Nn, [.cells none (pipeCells 2048 (slv 1 sf') (slv 2 none) h' n'), .rows (.recs 3 X'), .rows (.recs 3 [])]⟩) ∧ getT 1 env = .one (.ro 1 (.ints .u8 Nn)) ∧ getT 5 env = .one (.ptr 0 0) ∧ getT 6 env = .one (.str all') ∧ all'.size ≤ 1200 ∧ okv X' sf' ∧ cont X' sf' = sendR p0 (toBytes all')) ∨
    (∃ env hp', loopH (evC T4 KK b4x0) [1, 5, 6, 25, 26, 27] K (canon4a L Nn i all sf X h n) = some (.ret, ⟨env, rts4 L Nn, hp'⟩) ∧ getT 4 env = .one (.bool true))
  | 0, i, all, sf, X, h, n, K, hi, ha, hok, hX, hp, hK => by
    obtain ⟨env, e, g1, g5, g6⟩ := end4a L Nn i all sf X h n (by omega)
    exact .inl ⟨env, all, sf, X, h, n, loopH_exit e, g1, g5, g6, by omega, hok, hX⟩
  | j + 1, i, all, sf, X, h, n, K, hi, ha, hok, hX, hp, hK => by
    have hlt : i < L.length := by omega
    have hd : L[i]? = some L[i] := List.getElem?_eq_getElem hlt
    generalize L[i] = s at hd
    have hlen := cont_len X sf hok
    rw [hX, sendR_length, toBytes_length] at hlen
    by_cases hs : s.size ≤ 60
    · obtain ⟨sf', X', e20, q, r⟩ := f20 s 2048 h n sf none X [] (by omega) (by omega) (by simp [slen]) hok (by have h0 : slen ([] : List (List Sc)) none = 0 := rfl; omega)
      obtain ⟨st1, e1, e2⟩ := body4a L Nn i all s sf sf' X X' h n _ _ hlt hd hL hs (by omega) e20
      have hq : cont X' sf' = sendR p0 (toBytes (all ++ s)) := by rw [q, hX, toBytes_append, sendR_append, hp]
      have hp' : ((toBytes s).foldl sbyte (h, n)) = (toBytes (all ++ s)).foldl sbyte p0 := by rw [toBytes_append, List.foldl_append, hp]
      rcases loop4a L Nn hL j (i + 1) (all ++ s) sf' X' _ _ (K - 1) (by omega) (by rw [ByteArray.size_append]; omega) r hq hp' (by omega) with ⟨env, all', sf2, X2, h2, n2, e, rest⟩ | ⟨env, hp2, e, g⟩
      · exact .inl ⟨env, all', sf2, X2, h2, n2, by rw [loopH_norm e1 (by omega), e2]; exact e, rest⟩
      · exact .inr ⟨env, hp2, by rw [loopH_norm e1 (by omega), e2]; exact e, g⟩
    · obtain ⟨env, hp', e, g⟩ := long4a L Nn i all s sf X h n hlt hd (by omega)
      exact .inr ⟨env, hp', loopH_ret e, g⟩
theorem loop4c (L : List ByteArray) (Nn ks : List Int) (i : Int) (all : ByteArray) (sf : Option (Nat × Nat)) (X : List (List Sc)) (h n : Int) (hall : all.size ≤ 1200) : ∀ (m t : Nat) (got : ByteArray) (sc : Option (Nat × Nat)) (Y : List (List Sc)) (x0 x1 : Int) (K : Nat), toBytes got = (toBytes all).take t → t + 1 + m ≤ all.size → cont Y sc = ((sendR p0 (toBytes all)).drop (t + 1)).take m → okv Y sc → (sendR p0 (toBytes all))[t]? = some [.int .u8 x0, .int .u64 x1, .bool true] → m + 1 < K →
    ∃ env got' sc3 Y3 z0 z1 z2, loopH (evC T4 KK b4x1) [5, 6, 9, 12, 13, 51, 52, 53] K (canon4c L Nn ks i all got true (hp4c ks sf sc X Y h n x0 x1 true)) = some (.exit 4, ⟨env, rts4 L Nn, hp4c ks sf sc3 X Y3 h n z0 z1 z2⟩) ∧ (getT 5 env = .one (.ptr 0 0) ∧ getT 6 env = .one (.str all) ∧ getT 9 env = .one (.str got') ∧ getT 51 env = .one (.row 4) ∧ getT 52 env = .one (.int .i64 ks.length) ∧ getT 53 env = .one (.int .i64 i)) ∧ toBytes got' = (toBytes all).take (t + 1 + m) ∧ cont Y3 sc3 = [] ∧ okv Y3 sc3
  | m, t, got, sc, Y, x0, x1, K, hgot, htm, hY, hok, hx, hK => by
    have hD := toBytes_length all
    have hlt : t < (toBytes all).length := by omega
    have hf := full_at hlt (by omega)
    rw [hx] at hf
    simp only [Option.some.injEq, List.cons.injEq, Sc.int.injEq, true_and, and_true] at hf
    obtain ⟨hx0, hx1⟩ := hf
    have hb : 0 ≤ x0 ∧ x0 < 256 := toBytes_range all t x0 (by rw [List.getElem?_eq_getElem hlt, hx0])
    have hgl : got.size = t := by rw [← toBytes_length, hgot, List.length_take]; omega
    have hg' : toBytes (got ++ ofBytes [x0]) = (toBytes all).take (t + 1) := by rw [toBytes_append, hgot, toBytes_ofBytes1 hb, hx0, List.take_append_getElem hlt]
    have hsz : (got ++ ofBytes [x0]).size = t + 1 := by rw [ByteArray.size_append, hgl]; rfl
    have e23 := e23 (got ++ ofBytes [x0]) (by omega)
    have hcast : ((t + 1 : Nat) : Int) = (t : Int) + 1 := by omega
    rw [hg', hsz, hcast, ← hx1] at e23
    have hYl := cont_len Y sc hok
    cases m with
    | zero =>
      rw [List.take_zero] at hY
      have e22 := f22' 2048 h n sf sc X Y hok hY
      obtain ⟨st1, e1, e2⟩ := body4c L Nn ks i all got sf sc sc X Y Y h n x0 x1 0 0 false false (by omega) e23 e22
      obtain ⟨env, e, g⟩ := end4c L Nn ks i all (got ++ ofBytes [x0]) sf sc X Y h n 0 0 false
      exact ⟨env, _, sc, Y, 0, 0, false, by rw [loopH_norm e1 (by omega), e2]; exact loopH_exit e, g, hg', hY, hok⟩
    | succ m =>
      have hlt2 : t + 1 < (toBytes all).length := by omega
      have hf2 := full_at hlt2 (by omega)
      rw [drop_take_cons hf2] at hY
      have hYl2 : slen Y sc ≤ 4000 := by
        rw [← hYl, hY, List.length_cons, List.length_take, List.length_drop, sendR_length]; omega
      obtain ⟨sc', Y', e22, q, r⟩ := f22 2048 h n sf sc X Y hok hYl2 _ _ _ _ hY
      obtain ⟨st1, e1, e2⟩ := body4c L Nn ks i all got sf sc sc' X Y Y' h n x0 x1 _ _ true true (by omega) e23 e22
      obtain ⟨env, got', sc3, Y3, z0, z1, z2, e, g, hg3, hY3, ok3⟩ := loop4c L Nn ks i all sf X h n hall m (t + 1) (got ++ ofBytes [x0]) sc' Y' _ _ (K - 1) hg' (by omega) q r hf2 (by omega)
      refine ⟨env, got', sc3, Y3, z0, z1, z2, by rw [loopH_norm e1 (by omega), e2]; exact e, g, ?_, hY3, ok3⟩
      rw [hg3]; congr 1; omega
theorem step4b (L : List ByteArray) (Nn ks : List Int) (i t : Nat) (k : Int) (all got : ByteArray) (sf sc : Option (Nat × Nat)) (X Y : List (List Sc)) (h n : Int) (hall : all.size ≤ 1200) (hi : i < ks.length) (hd : ks[i]?.getD 0 = k) (hk : 0 ≤ k ∧ k < 256) (hks : ks.length ≤ 200)
    (hgot : toBytes got = (toBytes all).take t) (ht : t ≤ all.size) (hX : cont X sf = (sendR p0 (toBytes all)).drop t) (hY : cont Y sc = []) (okX : okv X sf) (okY : okv Y sc) :
    ∃ st1 v got' sf' sc' X' Y', evC T4 KK b4x2 (canon4b L Nn ks i all got sf sc X Y h n) = some (.norm, st1) ∧ St.head [5, 6, 9, 51, 52, 53] st1 = canon4b L Nn ks (i + 1 : Nat) all got' sf' sc' X' Y' h n ∧
      toBytes got' = (toBytes all).take (t + v) ∧ t + v ≤ all.size ∧ (k ≤ v ∨ all.size ≤ t + v) ∧ cont X' sf' = (sendR p0 (toBytes all)).drop (t + v) ∧ cont Y' sc' = [] ∧ okv X' sf' ∧ okv Y' sc' := by
  have hD := toBytes_length all
  have hXl := cont_len X sf okX
  have hYl := cont_len Y sc okY
  rw [hX, List.length_drop, sendR_length] at hXl
  rw [hY, List.length_nil] at hYl
  obtain ⟨v, hv⟩ : ∃ v, v = if k < 0 then 0 else if k < slen X sf then k.toNat else slen X sf := ⟨_, rfl⟩
  have hv' : t + v ≤ all.size ∧ (k ≤ v ∨ all.size ≤ t + v) ∧ v ≤ slen X sf := by
    subst hv
    rw [if_neg (by omega)]
    split <;> omega
  obtain ⟨sf1, sc1, X1, Y1, e21, qX, rX, qY, rY⟩ := f21 2048 h n k sf sc X Y (by omega) (by omega) okX okY v hv
  rw [hX, List.drop_drop] at qX
  rw [hX, hY, List.nil_append] at qY
  cases v with
  | zero =>
    rw [List.take_zero] at qY
    have e22 := f22' 2048 h n sf1 sc1 X1 Y1 rY qY
    obtain ⟨env, e, g5, g6, g9, g51, g52, g53⟩ := end4c L Nn ks i all got sf1 sc1 X1 Y1 h n 0 0 false
    obtain ⟨st1, e1, e2⟩ := body4b L Nn ks i all got got sf sc sf1 sc1 sc1 sc1 X Y X1 Y1 Y1 Y1 h n k _ 0 0 0 0 false false false env hi hd hk hks e21 e22 (loopH_exit e) g5 g6 g9 g51 g52 g53
    exact ⟨st1, 0, got, sf1, sc1, X1, Y1, e1, e2, hgot, hv'.1, hv'.2.1, qX, qY, rX, rY⟩
  | succ m =>
    have hlt : t < (toBytes all).length := by omega
    have hf := full_at hlt (by omega)
    rw [drop_take_cons hf] at qY
    have hYl1 := cont_len Y1 sc1 rY
    have hYl2 : slen Y1 sc1 ≤ 4000 := by
      rw [← hYl1, qY, List.length_cons, List.length_take, List.length_drop, sendR_length]; omega
    obtain ⟨sc2, Y2, e22, q2, r2⟩ := f22 2048 h n sf1 sc1 X1 Y1 rY hYl2 _ _ _ _ qY
    obtain ⟨env, got', sc3, Y3, z0, z1, z2, e, ⟨g5, g6, g9, g51, g52, g53⟩, hg3, hY3, ok3⟩ := loop4c L Nn ks i all sf1 X1 h n hall m t got sc2 Y2 _ _ KK hgot (by omega) q2 r2 hf (by rw [KK_eq]; omega)
    obtain ⟨st1, e1, e2⟩ := body4b L Nn ks i all got got' sf sc sf1 sc1 sc2 sc3 X Y X1 Y1 Y2 Y3 h n k _ _ _ z0 z1 true z2 true env hi hd hk hks e21 e22 e g5 g6 g9 g51 g52 g53
    refine ⟨st1, m + 1, got', sf1, sc3, X1, Y3, e1, e2, ?_, hv'.1, hv'.2.1, qX, hY3, rX, ok3⟩
    rw [hg3]; congr 1; omega
theorem loop4b (L : List ByteArray) (Nn ks : List Int) (all : ByteArray) (h n : Int) (q : Nat) (hall : all.size ≤ 1200) (hks : ks.length ≤ 200) (hb : ∀ i, i < ks.length → 0 ≤ ks[i]?.getD 0 ∧ ks[i]?.getD 0 < 256) (hlast : ∀ i, q ≤ i → i < ks.length → ks[i]?.getD 0 = 255) : ∀ (j i t : Nat) (got : ByteArray) (sf sc : Option (Nat × Nat)) (X Y : List (List Sc)) (K : Nat), i + j = ks.length → toBytes got = (toBytes all).take t → t ≤ all.size → (all.size ≤ t ∨ 255 * (i - q) ≤ t) → cont X sf = (sendR p0 (toBytes all)).drop t → cont Y sc = [] → okv X sf → okv Y sc → j < K →
    ∃ env t' got' sf' sc' X' Y', loopH (evC T4 KK b4x2) [5, 6, 9, 51, 52, 53] K (canon4b L Nn ks i all got sf sc X Y h n) = some (.exit 2, ⟨env, rts4 L Nn, [.cells none (pipeCells 2048 (slv 1 sf') (slv 2 sc') h n), .rows (.recs 3 X'), .rows (.recs 3 Y'), .rows (.ints .u8 ks)]⟩) ∧ (getT 5 env = .one (.ptr 0 0) ∧ getT 6 env = .one (.str all) ∧ getT 9 env = .one (.str got')) ∧
      toBytes got' = (toBytes all).take t' ∧ t' ≤ all.size ∧ (all.size ≤ t' ∨ 255 * (ks.length - q) ≤ t') ∧ cont X' sf' = (sendR p0 (toBytes all)).drop t' ∧ cont Y' sc' = [] ∧ okv X' sf' ∧ okv Y' sc'
  | 0, i, t, got, sf, sc, X, Y, K, hi, hgot, ht, hq, hX, hY, okX, okY, hK => by
    obtain ⟨env, e, g⟩ := end4b L Nn ks i all got sf sc X Y h n (by omega)
    have hik : ks.length = i := by omega
    exact ⟨env, t, got, sf, sc, X, Y, loopH_exit e, g, hgot, ht, by rw [hik]; exact hq, hX, hY, okX, okY⟩
  | j + 1, i, t, got, sf, sc, X, Y, K, hi, hgot, ht, hq, hX, hY, okX, okY, hK => by
    have hlt : i < ks.length := by omega
    obtain ⟨st1, v, got', sf', sc', X', Y', e1, e2, a1, a2, a3, a4, a5, a6, a7⟩ := step4b L Nn ks i t _ all got sf sc X Y h n hall hlt rfl (hb i hlt) hks hgot ht hX hY okX okY
    have hq' : all.size ≤ t + v ∨ 255 * (i + 1 - q) ≤ t + v := by
      rcases Nat.lt_or_ge i q with c | c
      · right
        have : i + 1 - q = 0 := by omega
        rw [this]; omega
      · rw [hlast i c hlt] at a3
        omega
    obtain ⟨env, t', got2, sf2, sc2, X2, Y2, e, rest⟩ := loop4b L Nn ks all h n q hall hks hb hlast j (i + 1) (t + v) got' sf' sc' X' Y' (K - 1) (by omega) a1 a2 hq' a4 a5 a6 a7 (by omega)
    exact ⟨env, t', got2, sf2, sc2, X2, Y2, by rw [loopH_norm e1 (by omega), e2]; exact e, rest⟩
theorem law4 (L : List ByteArray) (Nn : List Int) (_ : L.length ≤ maxLen) (_ : ∀ z ∈ L, z.size ≤ maxLen) (_ : Nn.length ≤ maxLen) (hw : ∀ z ∈ Nn, (Lit.int .u8 z).wf = true) : F4 [.one (.ro 0 (.strs L)), .one (.ro 1 (.ints .u8 Nn))] [] = some (.one (.bool true), []) := by
  by_cases hL : L.length ≤ 20
  · have hL1 : ¬ ((20 : Int) < L.length) := by omega
    have hL2 : ¬ (20 < L.length) := by omega
    by_cases hN : Nn.length ≤ 100
    · have hN1 : ¬ ((100 : Int) < Nn.length) := by omega
      have hN2 : ¬ (100 < Nn.length) := by omega
      have e19 : F19 [.one (.int .i64 2048)] [] = some (.one (.ptr 0 0), pipeHp none 2048 none none [] [] 7640891576956012808 0) := f19' 2048
      have hb : ∀ z ∈ Nn, 0 ≤ z ∧ z < 256 := fun z hz => by
        have := hw z hz
        simp [Lit.wf, IntKind.min, IntKind.max, IntKind.signed, IntKind.bits] at this
        omega
      have z : ((0 : Nat) : Int) = 0 := rfl
      rcases loop4a L Nn hL L.length 0 ⟨#[]⟩ none [] 7640891576956012808 0 KK (by omega) (Nat.zero_le _) trivial rfl rfl (by rw [KK_eq]; omega) with ⟨env, all, sf, X, h, n, e, g1, g5, g6, hall, okX, hX⟩ | ⟨env, hp', e, g⟩
      · obtain ⟨ks, hks⟩ : ∃ ks, ks = Nn ++ [255, 255, 255, 255, 255] := ⟨_, rfl⟩
        have hkl : ks.length = Nn.length + 5 := by rw [hks]; simp
        have hlast : ∀ i, Nn.length ≤ i → i < ks.length → ks[i]?.getD 0 = 255 := fun i h1 h2 => by
          rw [hks, List.getElem?_append_right h1]
          have : i - Nn.length = 0 ∨ i - Nn.length = 1 ∨ i - Nn.length = 2 ∨ i - Nn.length = 3 ∨ i - Nn.length = 4 := by omega
          rcases this with c | c | c | c | c <;> rw [c] <;> rfl
        have hbk : ∀ i, i < ks.length → 0 ≤ ks[i]?.getD 0 ∧ ks[i]?.getD 0 < 256 := fun i hi => by
          rcases Nat.lt_or_ge i Nn.length with c | c
          · rw [hks, List.getElem?_append_left c, List.getElem?_eq_getElem c]
            exact hb _ (List.getElem_mem c)
          · rw [hlast i c hi]; omega
        obtain ⟨env2, t', got', sf', sc', X', Y', e2, ⟨k5, k6, k9⟩, hgot, ht, hq, hX', hY', okX', okY'⟩ := loop4b L Nn ks all h n Nn.length hall (by omega) hbk hlast ks.length 0 0 ⟨#[]⟩ sf none X [] KK (by omega) rfl (Nat.zero_le _) (by right; omega) (by rw [hX]; rfl) rfl okX trivial (by rw [KK_eq]; omega)
        have hD := toBytes_length all
        have htl : t' = all.size := by rw [hkl] at hq; omega
        have hga : got' = all := toBytes_inj (by rw [hgot, htl, ← hD, List.take_length])
        subst hga
        have hXl := cont_len X' sf' okX'
        have hYl := cont_len Y' sc' okY'
        rw [hX', htl, ← hD, ← sendR_length (toBytes got') p0, List.drop_length, List.length_nil] at hXl
        rw [hY', List.length_nil] at hYl
        have e24 := f24 2048 h n sf' sc' X' Y' (by omega) (by omega) (by omega)
        rw [← hXl, ← hYl] at e24
        have z2 : (2048 : Int) - ((0 : Nat) : Int) - ((0 : Nat) : Int) = 2048 := by omega
        have hkl' : (ks.length : Int) = (Nn.length : Int) + 5 := by omega
        simp only [canon4a, pipeCells, z] at e
        simp only [canon4b, pipeCells, z, hkl', rts4] at e2
        rw [hks] at e2
        simp only [pipeHp, pipeCells, z2] at e19 e24
        have hm1 : Nn.length + 5 ≤ 140737488355328 := by omega
        have hm2 : Nn.length ≤ 140737488355328 := by omega
        clear hks hlast hbk hw hb
        simp -implicitDefEqProofs [F4, c4, upd, h18, hL, hL1, hL2, hN, hN1, hN2, hm1, hm2, RC.len, RC.size, RC.app, RC.ofElems, e19, e, g1, g5, g6, e2, k5, k6, k9, e24]
      · simp only [canon4a, pipeCells, z] at e
        simp only [pipeHp, pipeCells] at e19
        simp -implicitDefEqProofs [F4, c4, upd, h18, hL, hL1, hL2, hN, hN1, hN2, RC.len, e19, e, g]
    · have hN1 : (100 : Int) < Nn.length := by omega
      have hN2 : 100 < Nn.length := by omega
      simp -implicitDefEqProofs [F4, c4, upd, h18, hL1, hL2, hN1, hN2, RC.len]
  · have hL1 : (20 : Int) < L.length := by omega
    have hL2 : 20 < L.length := by omega
    simp -implicitDefEqProofs [F4, c4, upd, h18, hL1, hL2, RC.len]
end Go.X.Try
