import Derived.Test.YtmkfebnahaembaaDd
set_option maxRecDepth 100000
set_option linter.unusedSimpArgs false
namespace Go.X.Try
open Go.IntWalk
theorem toBytes_append (S s : ByteArray) : toBytes (S ++ s) = toBytes S ++ toBytes s := by
  simp [toBytes]
theorem toBytes_empty : toBytes ⟨#[]⟩ = [] := rfl
theorem vw_none {α : Type} (X : List α) : vw X none = X := rfl
structure Inv8 (most : Int) (i : Nat) (sf sc : Option (Nat × Nat)) (X Y : List (List Sc)) (h n : Int) (S : ByteArray) (at_ : Nat) (sz : Option (Nat × Nat)) (Z : List Int) : Prop where
  okX : okv X sf
  okY : okv Y sc
  okZ : vok Z sz
  rel : Rel most (cont X sf) (cont Y sc) (h, n) (toBytes S) at_ (vw Z sz)
  size : S.size ≤ 40 * i
  le : i ≤ 100
  most1 : 1 ≤ most
  most2 : most ≤ 2048
section
variable {most : Int} {i : Nat} {sf sc : Option (Nat × Nat)} {X Y : List (List Sc)} {h n : Int} {S : ByteArray} {at_ : Nat} {sz : Option (Nat × Nat)} {Z : List Int}
theorem Inv8.lens (v : Inv8 most i sf sc X Y h n S at_ sz Z) : slen X sf = S.size - at_ ∧ slen Y sc = vwn Z sz ∧ at_ ≤ S.size ∧ (slen X sf : Int) + slen Y sc ≤ most := by
  have h1 := cont_len X sf v.okX
  have h2 := cont_len Y sc v.okY
  have h3 := vw_len Z sz v.okZ
  have h4 := v.rel.lenA
  have h5 := v.rel.lenB
  have h6 := v.rel.hat
  have h7 := v.rel.room
  rw [toBytes_length] at h4 h6
  omega
theorem Inv8.asks (v : Inv8 most i sf sc X Y h n S at_ sz Z) : Asks most sf sc X Y h n S at_ sz Z ((S.size : Int) - at_) (vwn Z sz) (most - ((S.size : Int) - at_) - vwn Z sz) := by
  obtain ⟨l1, l2, l3, l4⟩ := v.lens
  have := v.size
  have := v.le
  have := v.most2
  have := v.most1
  have e1 : (slen X sf : Int) = (S.size : Int) - at_ := by omega
  have e2 : (slen Y sc : Int) = vwn Z sz := by omega
  refine ⟨?_, ?_, ?_, f48 most at_ S sz Z (by omega) (by omega) (by omega) (by omega), i64_in _ (by omega), rfl⟩
  · rw [← e1]; exact f46 most h n sf sc X Y
  · rw [← e2]; exact f47 most h n sf sc X Y
  · rw [← e1, ← e2]; exact f24 most h n sf sc X Y (by omega) (by omega) (by omega)
/-- One deed. -/
theorem step8 (L : List (List Sc)) (m0 N kd : Int) (s : ByteArray) (v : Inv8 most i sf sc X Y h n S at_ sz Z) (hi : i < L.length) (hd : L[i]? = some [.int .u8 kd, .int .i64 N, .str s]) (hL : L.length ≤ 100) (hs : s.size ≤ 40) (hk : 0 ≤ kd ∧ kd < 256) :
    ∃ st1 sf' sc' X' Y' h' n' S' at' sz' Z', evC T8 KK b8x0 (canon8 L i m0 (hp8 most sf sc X Y h n S at_ sz Z)) = some (.norm, st1) ∧ St.head [5, 6, 25, 26, 27] st1 = canon8 L (i + 1 : Nat) m0 (hp8 most sf' sc' X' Y' h' n' S' (at' : Nat) sz' Z') ∧ Inv8 most (i + 1) sf' sc' X' Y' h' n' S' at' sz' Z' := by
  have hd2 : L[i]?.getD [] = [.int .u8 kd, .int .i64 N, .str s] := by rw [hd]; rfl
  obtain ⟨l1, l2, l3, l4⟩ := v.lens
  obtain ⟨okX, okY, okZ, rel, size, le, most1, most2⟩ := v
  have hA : (cont X sf).length = slen X sf := cont_len X sf okX
  have hB : (cont Y sc).length = slen Y sc := cont_len Y sc okY
  have hC : (vw Z sz).length = vwn Z sz := vw_len Z sz okZ
  have hk5 : kd.tmod 5 = 0 ∨ kd.tmod 5 = 1 ∨ kd.tmod 5 = 2 ∨ kd.tmod 5 = 3 ∨ kd.tmod 5 = 4 := by
    have := Int.tmod_eq_emod_of_nonneg (b := 5) hk.1
    omega
  rcases hk5 with hk5 | hk5 | hk5 | hk5 | hk5
  · by_cases hf : (s.size : Int) ≤ most - slen X sf - slen Y sc
    · obtain ⟨sf', X', e20, q, r⟩ := f20 s most h n sf sc X Y (by omega) (by omega) (by omega) okX hf
      have e39 := f39 most at_ S s sz Z (by omega) (by omega) (by omega) (by omega) (by omega)
      have v' : Inv8 most (i + 1) sf' sc X' Y ((toBytes s).foldl sbyte (h, n)).1 ((toBytes s).foldl sbyte (h, n)).2 (S ++ s) at_ sz Z :=
        ⟨r, okY, okZ, by rw [q, toBytes_append]; exact rel.send (toBytes s) (by rw [toBytes_length]; omega), by rw [ByteArray.size_append]; omega, by omega, most1, most2⟩
      obtain ⟨st1, e1, e2⟩ := body8_0 L i m0 most N kd s true sf sc sz _ _ _ X Y _ _ h n _ _ at_ _ S _ Z _ _ _ _ hi hd2 hL hs hk5 e20 e39 v'.asks
      exact ⟨st1, _, _, _, _, _, _, _, _, _, _, e1, e2, v'⟩
    · have e20 := f20' s most h n sf sc X Y (by omega) (by omega) (by omega) (by omega)
      have e39 := f39' most at_ S s sz Z (by omega) (by omega) (by omega) (by omega) (by omega)
      have v' : Inv8 most (i + 1) sf sc X Y h n S at_ sz Z := ⟨okX, okY, okZ, rel, by omega, by omega, most1, most2⟩
      obtain ⟨st1, e1, e2⟩ := body8_0 L i m0 most N kd s false sf sc sz _ _ _ X Y _ _ h n _ _ at_ _ S _ Z _ _ _ _ hi hd2 hL hs hk5 e20 e39 v'.asks
      exact ⟨st1, _, _, _, _, _, _, _, _, _, _, e1, e2, v'⟩
  · obtain ⟨j, hj⟩ : ∃ j, j = if N < 0 then 0 else if N < slen X sf then N.toNat else slen X sf := ⟨_, rfl⟩
    have hj2 : j = if N < 0 then 0 else if N < (S.size : Int) - at_ then N.toNat else S.size - at_ := by
      rw [hj, l1]
      have : ((S.size - at_ : Nat) : Int) = (S.size : Int) - at_ := by omega
      rw [this]
    obtain ⟨sf', sc', X', Y', e21, qX, rX, qY, rY⟩ := f21 most h n N sf sc X Y (by omega) (by omega) okX okY j hj
    obtain ⟨sz', Z', e40, qZ, rZ⟩ := f40 N most S at_ sz Z (by omega) l3 (by omega) okZ j hj2
    have hjl : j ≤ slen X sf := by rw [hj]; split; omega; split <;> omega
    have v' : Inv8 most (i + 1) sf' sc' X' Y' h n S (at_ + j) sz' Z' := ⟨rX, rY, rZ, by rw [qX, qY, qZ]; exact rel.deliver j (by omega), by omega, by omega, most1, most2⟩
    obtain ⟨st1, e1, e2⟩ := body8_1 L i m0 most N kd s j sf sc sz _ _ _ X Y _ _ h n _ _ at_ _ S _ Z _ _ _ _ hi hd2 hL hs hk5 e21 e40 v'.asks
    exact ⟨st1, _, _, _, _, _, _, _, _, _, _, e1, e2, v'⟩
  · by_cases hf : (s.size : Int) ≤ most - slen X sf - slen Y sc
    · obtain ⟨sc', Y', e41, q, r⟩ := f41 s most h n sf sc X Y (by omega) (by omega) (by omega) okY hf
      obtain ⟨sz', Z', e42, qZ, rZ⟩ := f42 most at_ S s sz Z (by omega) (by omega) (by omega) (by omega) okZ (by omega)
      have v' : Inv8 most (i + 1) sf sc' X Y' h n S at_ sz' Z' :=
        ⟨okX, r, rZ, by
          rw [q, qZ]
          refine rel.inject (toBytes s) (fun b hb => ?_) (by rw [toBytes_length]; omega)
          obtain ⟨k, hk'⟩ := List.getElem?_of_mem hb
          exact toBytes_range s k b hk', by omega, by omega, most1, most2⟩
      obtain ⟨st1, e1, e2⟩ := body8_2 L i m0 most N kd s true sf sc sz _ _ _ X Y _ _ h n _ _ at_ _ S _ Z _ _ _ _ hi hd2 hL hs hk5 e41 e42 v'.asks
      exact ⟨st1, _, _, _, _, _, _, _, _, _, _, e1, e2, v'⟩
    · have e41 := f41' s most h n sf sc X Y (by omega) (by omega) (by omega) (by omega)
      have e42 := f42' most at_ S s sz Z (by omega) (by omega) (by omega) (by omega) (by omega)
      have v' : Inv8 most (i + 1) sf sc X Y h n S at_ sz Z := ⟨okX, okY, okZ, rel, by omega, by omega, most1, most2⟩
      obtain ⟨st1, e1, e2⟩ := body8_2 L i m0 most N kd s false sf sc sz _ _ _ X Y _ _ h n _ _ at_ _ S _ Z _ _ _ _ hi hd2 hL hs hk5 e41 e42 v'.asks
      exact ⟨st1, _, _, _, _, _, _, _, _, _, _, e1, e2, v'⟩
  · cases hz : vw Z sz with
    | nil =>
      rw [hz] at hC
      have hB0 : cont Y sc = [] := List.eq_nil_of_length_eq_zero (by rw [hB, l2, ← hC]; rfl)
      have e22 := f22' most h n sf sc X Y okY hB0
      have e43 := f43n most at_ S sz Z okZ hz
      have v' : Inv8 most (i + 1) sf sc X Y h n S at_ sz Z := ⟨okX, okY, okZ, rel, by omega, by omega, most1, most2⟩
      obtain ⟨st1, e1, e2⟩ := body8_3 L i m0 most N kd s false false 0 0 sf sc sz _ _ _ X Y _ _ h n _ _ at_ _ S _ Z _ _ _ _ hi hd2 hL hs hk5 e22 e43 v'.asks
      exact ⟨st1, _, _, _, _, _, _, _, _, _, _, e1, e2, v'⟩
    | cons k C =>
      rw [hz] at rel
      obtain ⟨hB1, rel'⟩ := rel.tail
      have hkr := rel.hC k (by simp)
      rw [hz] at hC
      by_cases hneg : k < 0
      · have hrb : rb (sendR p0 (toBytes S)) k = recI (k + 256) := by unfold rb; rw [if_pos hneg]
        rw [hrb] at hB1
        obtain ⟨sc', Y', e22, q, r⟩ := f22 most h n sf sc X Y okY (by omega) _ _ _ _ hB1
        obtain ⟨sz', Z', e43, qZ, rZ⟩ := f43i most at_ k S sz Z C okZ hz (by omega) (by rw [hz]; omega)
        have v' : Inv8 most (i + 1) sf sc' X Y' h n S at_ sz' Z' := ⟨okX, r, rZ, by rw [q, qZ]; exact rel', by omega, by omega, most1, most2⟩
        obtain ⟨st1, e1, e2⟩ := body8_3 L i m0 most N kd s true false (k + 256) 0 sf sc sz _ _ _ X Y _ _ h n _ _ at_ _ S _ Z _ _ _ _ hi hd2 hL hs hk5 e22 e43 v'.asks
        exact ⟨st1, _, _, _, _, _, _, _, _, _, _, e1, e2, v'⟩
      · obtain ⟨m, rfl⟩ : ∃ m : Nat, k = m := ⟨k.toNat, by omega⟩
        obtain ⟨b, hb, hrb⟩ := rel.take_s (by rw [toBytes_length]; omega)
        rw [hrb] at hB1
        obtain ⟨sc', Y', e22, q, r⟩ := f22 most h n sf sc X Y okY (by omega) _ _ _ _ hB1
        obtain ⟨sz', Z', e43, qZ, rZ⟩ := f43s most at_ m S sz Z C okZ hz (by omega) (by omega) b hb
        have v' : Inv8 most (i + 1) sf sc' X Y' h n S at_ sz' Z' := ⟨okX, r, rZ, by rw [q, qZ]; exact rel', by omega, by omega, most1, most2⟩
        obtain ⟨st1, e1, e2⟩ := body8_3 L i m0 most N kd s true true b _ sf sc sz _ _ _ X Y _ _ h n _ _ at_ _ S _ Z _ _ _ _ hi hd2 hL hs hk5 e22 e43 v'.asks
        exact ⟨st1, _, _, _, _, _, _, _, _, _, _, e1, e2, v'⟩
  · by_cases hN : N.tmod 4 = 0
    · have e44 := f44 most h n sf sc X Y
      have e45 := f45 most at_ S sz Z
      have v' : Inv8 most (i + 1) none none [] [] 7640891576956012808 0 ⟨#[]⟩ 0 none [] := ⟨trivial, trivial, trivial, Rel.clear (by omega), Nat.zero_le _, by omega, most1, most2⟩
      obtain ⟨st1, e1, e2⟩ := body8_4 L i m0 most N kd s sf sc sz _ _ _ X Y _ _ h n _ _ at_ _ S _ Z _ _ _ _ hi hd2 hL hs hk5 hN e44 e45 v'.asks
      exact ⟨st1, _, _, _, _, _, _, _, _, _, _, e1, e2, v'⟩
    · have v' : Inv8 most (i + 1) sf sc X Y h n S at_ sz Z := ⟨okX, okY, okZ, rel, by omega, by omega, most1, most2⟩
      obtain ⟨st1, e1, e2⟩ := body8_5 L i m0 most N kd s sf sc sz X Y h n at_ S Z _ _ _ hi hd2 hL hs hk5 hN v'.asks
      exact ⟨st1, _, _, _, _, _, _, _, _, _, _, e1, e2, v'⟩
end
theorem long8 (L : List (List Sc)) (i : Nat) (m0 kd N : Int) (s : ByteArray) (hp : List Ob) (hi : i < L.length) (hd : L[i]? = some [.int .u8 kd, .int .i64 N, .str s]) (hs : 40 < s.size) :
    ∃ env hp', evC T8 KK b8x0 (canon8 L i m0 hp) = some (.ret, ⟨env, [.ro 0 (.recs 3 L), .int .i64 m0], hp'⟩) ∧ getT 4 env = .one (.bool true) := by
  have hd2 : L[i]?.getD [] = [.int .u8 kd, .int .i64 N, .str s] := by rw [hd]; rfl
  have hd' : L[i] = [.int .u8 kd, .int .i64 N, .str s] := by rw [List.getElem?_eq_getElem hi] at hd2; exact hd2
  have hc : (i : Int) < L.length := by omega
  have hs1 : (40 : Int) < s.size := by omega
  simp -implicitDefEqProofs [b8x0, canon8, upd, hc, hi, hd2, hd', hs, hs1, RC.len, RC.size, RC.elem, takeE]
theorem end8 (L : List (List Sc)) (i : Nat) (m0 : Int) (hp : List Ob) (hi : L.length ≤ i) :
    ∃ env hp', evC T8 KK b8x0 (canon8 L i m0 hp) = some (.exit 0, ⟨env, [.ro 0 (.recs 3 L), .int .i64 m0], hp'⟩) := by
  have hc : ¬ (i : Int) < L.length := by omega
  simp -implicitDefEqProofs [b8x0, canon8, upd, hc]
end Go.X.Try
