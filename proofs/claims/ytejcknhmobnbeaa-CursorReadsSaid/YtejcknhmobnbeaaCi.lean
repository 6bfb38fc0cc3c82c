import Derived.Test.YtejcknhmobnbeaaCh
set_option maxRecDepth 100000
set_option linter.unusedSimpArgs false
namespace Go.X.Try
open Go.IntWalk
theorem rAns_ok (l : List Int) (n : Int) (hB : isB l) : isB (rAns l n).1 ∧ isB (rAns l n).2.1 ∧ (rAns l n).2.1.length ≤ l.length ∧ ((rAns l n).2.2 = true → (rAns l n).2.1 = []) := by
  unfold rAns
  split
  · exact ⟨by simp [isB], by simp [isB], by simp, fun _ => rfl⟩
  · exact ⟨isB_take _ hB, fun x hx => hB x (List.mem_of_mem_drop hx), by simp only [List.length_drop]; omega, fun h => by cases h⟩
theorem gAns_bad (l : List Int) (h : (gAns l).2.2 = true) : (gAns l).2.1 = [] := by
  unfold gAns at h ⊢
  cases hg : gdec 0 0 l with
  | none => rfl
  | some p => rw [hg] at h; cases h
theorem step9 (s0 : ByteArray) (L : List (List Sc)) (i : Nat) (l : List Int) (bad : Bool) (kd n : Int) (v : Nat) (s : ByteArray) (hi : i < L.length) (hL : L.length ≤ 20) (hd : L[i]?.getD [] = [.int .u8 kd, .int .u64 v, .int .i64 n, .str s]) (hk : 0 ≤ kd ∧ kd < 256) (hn : n ≤ 9223372036854775807)
    (hB : isB l) (hl : l.length ≤ 60) (hbad : bad = true → l = []) :
    ∃ r bad' st1, evC T9x KK b9x0 (canon9 s0 L i l bad) = some (.norm, st1) ∧ St.head [2, 5, 6, 7, 8, 9, 34, 35, 36] st1 = canon9 s0 L (i + 1 : Nat) r bad' ∧ isB r ∧ r.length ≤ 60 ∧ (bad' = true → r = []) := by
  have h8 := sz_le n
  have hnil : isB ([] : List Int) := by simp [isB]
  cases bad with
  | true =>
    obtain rfl := hbad rfl
    rcases kind6 hk with h | h | h | h | h | h
    · have e42 := f42 [] hnil (by simp)
      obtain ⟨st1, e1, e2⟩ := body9a s0 L i [] [] [] (ofBytes []) true true kd v n s (leB [] : Nat) hi hL hd h (f38b [] _) e42 (f43b [] n) (fun _ => rfl) (fun h => by cases h)
      exact ⟨_, _, st1, e1, e2, hnil, by simp, fun _ => rfl⟩
    · obtain ⟨st1, e1, e2⟩ := body9b s0 L i [] [] (ofBytes []) true true kd v n s 0 hi hL hd h f39b (f21b []) (fun _ => rfl) (fun h => by cases h)
      exact ⟨_, _, st1, e1, e2, hnil, by simp, fun _ => rfl⟩
    · obtain ⟨st1, e1, e2⟩ := body9c s0 L i [] [] [] (ofBytes []) true true kd v n _ s hi hL hd h rfl (f38b [] _) (f44b [] n) (fun _ => rfl) (fun h => by cases h)
      exact ⟨_, _, st1, e1, e2, hnil, by simp, fun _ => rfl⟩
    · obtain ⟨st1, e1, e2⟩ := body9d s0 L i [] [] [] (ofBytes []) (ofBytes []) true true true kd v n 0 s hi hL hd h (f41b n) (f38b [] 0) (f45b [] n) (fun _ => rfl) (fun h => by cases h)
      exact ⟨_, _, st1, e1, e2, hnil, by simp, fun _ => rfl⟩
    · obtain ⟨st1, e1, e2⟩ := body9e s0 L i [] [] (ofBytes []) true true kd v n 0 s hi hL hd h (f41b n) (f46b [] n) (fun _ => rfl) (fun h => by cases h)
      exact ⟨_, _, st1, e1, e2, hnil, by simp, fun _ => rfl⟩
    · obtain ⟨st1, e1, e2⟩ := body9f s0 L i [] [] [] (ofBytes []) true true kd v n s hi hL hd h (f38b [] _) (f47 [] true (by simp)) (fun _ => rfl) (fun h => by cases h)
      exact ⟨_, _, st1, e1, e2, hnil, by simp, fun _ => rfl⟩
  | false =>
    have hg := gAns_ok l hB
    have hgb := gAns_bad l
    rcases kind6 hk with h | h | h | h | h | h
    · have hr := rAns_ok l (sz n) hB
      have e42 := f42 (rAns l (sz n)).1 hr.1 (by unfold rAns; split; simp; simp only [List.length_take, Int.toNat_natCast]; omega)
      obtain ⟨st1, e1, e2⟩ := body9a s0 L i l _ _ _ false _ kd v n s _ hi hL hd h (f38 l (sz n) (by omega)) e42 (f43 l n hB (by omega)) hr.2.2.2 (fun h => by rw [h]; rfl)
      exact ⟨_, _, st1, e1, e2, hr.2.1, by omega, hr.2.2.2⟩
    · obtain ⟨st1, e1, e2⟩ := body9b s0 L i l _ _ false _ kd v n s _ hi hL hd h (f39 l hB (by omega)) (f21 l hB (by omega)) hgb (fun h => by rw [h]; rfl)
      exact ⟨_, _, st1, e1, e2, hg.2.1, by omega, hgb⟩
    · by_cases h0 : n < 0
      · have e44 := f44 l n 0 (by rw [if_pos h0]) (by omega) (by omega)
        have e38 := f38 l 0 (by omega)
        have hr0 : rAns l 0 = ([], l, false) := by unfold rAns; rw [if_neg (by omega)]; rfl
        rw [hr0] at e38
        obtain ⟨st1, e1, e2⟩ := body9c s0 L i l [] l _ false false kd v n 0 s hi hL hd h (by rw [if_pos h0]) e38 e44 (fun h => by cases h) (fun h => rfl)
        exact ⟨_, _, st1, e1, e2, hB, by omega, fun h => by cases h⟩
      · have hr := rAns_ok l n hB
        obtain ⟨st1, e1, e2⟩ := body9c s0 L i l _ _ _ false _ kd v n n s hi hL hd h (by rw [if_neg h0]) (f38 l n (by omega)) (f44' l n (by omega)) hr.2.2.2 (fun h => by rw [h]; rfl)
        exact ⟨_, _, st1, e1, e2, hr.2.1, by omega, hr.2.2.2⟩
    · have e41 := f41 l n hn hB (by omega)
      have e45 := f45 l n hn hB (by omega)
      by_cases hbd : (iAns l n).2.2 = true
      · have ht : tAns l n = ([], [], true) := by unfold tAns; rw [if_pos hbd]
        rw [hbd] at e41
        rw [ht] at e45
        obtain ⟨st1, e1, e2⟩ := body9d s0 L i l _ _ _ _ false true true kd v n _ s hi hL hd h e41 (f38b _ _) e45 (fun _ => rfl) (fun h => by cases h)
        exact ⟨_, _, st1, e1, e2, hnil, by simp, fun _ => rfl⟩
      · have hbf : (iAns l n).2.2 = false := by simpa using hbd
        have hig : iAns l n = gAns l ∧ (gAns l).2.2 = false := by
          unfold iAns at hbf ⊢
          split at hbf
          · cases hbf
          · rename_i hh; exact ⟨if_neg hh, hbf⟩
        have ht : tAns l n = rAns (gAns l).2.1 (gAns l).1 := by unfold tAns; rw [if_neg hbd, hig.1]
        rw [ht] at e45
        rw [hig.1, hig.2] at e41
        have hr := rAns_ok (gAns l).2.1 (gAns l).1 hg.2.1
        have e38 := f38 (gAns l).2.1 (gAns l).1 (by omega)
        obtain ⟨st1, e1, e2⟩ := body9d s0 L i l _ _ _ _ false false _ kd v n _ s hi hL hd h e41 e38 e45 hr.2.2.2 (fun h => by rw [h]; rfl)
        exact ⟨_, _, st1, e1, e2, hr.2.1, by omega, hr.2.2.2⟩
    · have e41 := f41 l n hn hB (by omega)
      have e46 := f46 l n hn hB (by omega)
      by_cases hbd : (iAns l n).2.2 = true
      · have hi2 : iAns l n = (0, [], true) := by
          unfold iAns at hbd ⊢
          split at hbd
          · rename_i hh; exact if_pos hh
          · rename_i hh; exact absurd (.inl hbd) hh
        rw [hi2] at e41 e46
        obtain ⟨st1, e1, e2⟩ := body9e s0 L i l _ _ false _ kd v n _ s hi hL hd h e41 e46 (fun _ => rfl) (fun h => by cases h)
        exact ⟨_, _, st1, e1, e2, hnil, by simp, fun _ => rfl⟩
      · have hbf : (iAns l n).2.2 = false := by simpa using hbd
        have hig : iAns l n = gAns l ∧ (gAns l).2.2 = false := by
          unfold iAns at hbf ⊢
          split at hbf
          · cases hbf
          · rename_i hh; exact ⟨if_neg hh, hbf⟩
        rw [hig.1] at e41 e46
        rw [hig.2] at e41 e46
        obtain ⟨st1, e1, e2⟩ := body9e s0 L i l _ _ false false kd v n _ s hi hL hd h e41 e46 (fun h => by cases h) (fun h => rfl)
        exact ⟨_, _, st1, e1, e2, hg.2.1, by omega, fun h => by cases h⟩
    · have e38 := f38 l l.length (by omega)
      have e47 := f47 l false (by omega)
      have hr0 : rAns l l.length = (l, [], false) := by unfold rAns; rw [if_neg (by omega), Int.toNat_natCast, List.take_length, List.drop_length]
      rw [hr0] at e38
      obtain ⟨st1, e1, e2⟩ := body9f s0 L i l _ _ _ false false kd v n s hi hL hd h e38 e47 (fun _ => rfl) (fun h => rfl)
      exact ⟨_, _, st1, e1, e2, hnil, by simp, fun _ => rfl⟩
theorem loop9 (s0 : ByteArray) (L : List (List Sc)) (hL : L.length ≤ 20) (hw : ∀ z ∈ L, okFields [.int .u8, .int .u64, .int .i64, .str] z) : ∀ (j i : Nat) (l : List Int) (bad : Bool) (K : Nat), i + j = L.length → isB l → l.length ≤ 60 → (bad = true → l = []) → j < K →
    ∃ st, loopH (evC T9x KK b9x0) [2, 5, 6, 7, 8, 9, 34, 35, 36] K (canon9 s0 L i l bad) = some (.exit 0, st) ∧ st.rts = [.str s0, .ro 1 (.recs 4 L)]
  | 0, i, l, bad, K, hi, hB, hl, hbad, hK => by
    obtain ⟨st, e, g⟩ := end9 s0 L i l bad (by omega)
    exact ⟨st, loopH_exit e, g⟩
  | j + 1, i, l, bad, K, hi, hB, hl, hbad, hK => by
    have hlt : i < L.length := by omega
    have hg : L[i]?.getD [] = L[i] := by rw [List.getElem?_eq_getElem hlt]; rfl
    obtain ⟨kd, v, n, s, hz, hk0, hk1, hv, hn0, hn1⟩ := item_of (hw L[i] (List.getElem_mem hlt))
    rw [hz] at hg
    obtain ⟨r, bad', st1, e1, e2, h1, h2, h3⟩ := step9 s0 L i l bad kd n v s hlt hL hg ⟨hk0, hk1⟩ hn1 hB hl hbad
    obtain ⟨st, e, g⟩ := loop9 s0 L hL hw j (i + 1) r bad' (K - 1) (by omega) h1 h2 h3 (by omega)
    exact ⟨st, by rw [loopH_norm e1 (by omega), e2]; exact e, g⟩
theorem law9 (s : ByteArray) (L : List (List Sc)) (_ : s.size ≤ maxLen) (_ : L.length ≤ maxLen) (hw : ∀ z ∈ L, okFields [.int .u8, .int .u64, .int .i64, .str] z) : F9x [.one (.str s), .one (.ro 1 (.recs 4 L))] [] = some (.one (.bool true), []) := by
  by_cases h1 : 60 < s.size
  · have h1i : (60 : Int) < s.size := by omega
    simp -implicitDefEqProofs [F9x, c9, upd, h17, h1, h1i]
  · have h1i : ¬ (60 : Int) < s.size := by omega
    by_cases h2 : 20 < L.length
    · have h2i : (20 : Int) < L.length := by omega
      simp -implicitDefEqProofs [F9x, c9, upd, h17, h1, h1i, h2, h2i, RC.len]
    · have h2i : ¬ (20 : Int) < L.length := by omega
      have z : ((0 : Nat) : Int) = 0 := rfl
      have e20 := f20 s
      have eb := ofBytes_toBytes s
      obtain ⟨⟨env, rts, hp⟩, e, g⟩ := loop9 s L (by omega) hw L.length 0 (toBytes s) false KK (by omega) (isB_toBytes s) (by rw [size_toBytes]; omega) (fun h => by cases h) (by rw [KK_eq]; omega)
      simp only at g
      subst g
      simp only [canon9, z, eb] at e
      simp only [rHp, eb] at e20
      simp -implicitDefEqProofs [F9x, c9, upd, h17, h1, h1i, h2, h2i, RC.len, e20, e]
end Go.X.Try
