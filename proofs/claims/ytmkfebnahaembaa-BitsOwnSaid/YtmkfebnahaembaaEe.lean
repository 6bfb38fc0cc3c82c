import Derived.Test.YtmkfebnahaembaaEd
import Derived.Test.YtmkfebnahaembaaAv
set_option maxRecDepth 100000
set_option linter.unusedSimpArgs false
namespace Go.X.Try
open Go.IntWalk
theorem isB_of {l : List Int} (h : ∀ z ∈ l, (Lit.int .u8 z).wf = true) : isB l := fun z hz => by
  have := h z hz
  simp [Lit.wf, IntKind.min, IntKind.max, IntKind.signed, IntKind.bits] at this
  omega
theorem loop5 (bs L A : List Int) (hB : isB bs) (hb : bs.length ≤ 60) (hL : L.length ≤ 100) (hA : A.length ≤ 100000) : ∀ (j i : Nat) (sa : Option (Nat × Nat)) (at_ : Nat) (K : Nat), i + j = L.length → vok A sa → isN (vw A sa) → at_ ≤ 8 * bs.length → vwn A sa = 8 * bs.length - at_ → leN (vw A sa) = leB bs / 2 ^ at_ → j < K →
    ∃ env sa' at', loopH (evC T5 KK b5x0) [5, 6, 25, 26, 27] K (canon5 bs L i sa A at_) = some (.exit 0, ⟨env, rts5 bs L, [.cells none [.row 1, .int .i64 (at' : Nat)], .rows (.ints .u8 bs), .rows (.ints .i64 A)]⟩) ∧ getT 5 env = .one (.ptr 0 0) ∧ getT 6 env = .one (slv 2 sa') ∧ at' ≤ 8 * bs.length ∧ vwn A sa' = 8 * bs.length - at'
  | 0, i, sa, at_, K, hi, hok, hN, hat, hlen, hv, hK => by
    obtain ⟨env, e, g5, g6⟩ := end5 bs L i sa A at_ (by omega)
    exact ⟨env, sa, at_, loopH_exit e, g5, g6, hat, hlen⟩
  | j + 1, i, sa, at_, K, hi, hok, hN, hat, hlen, hv, hK => by
    have hlt : i < L.length := by omega
    have hg : L[i]?.getD 0 = L[i] := by rw [List.getElem?_eq_getElem hlt]; rfl
    obtain ⟨n, hn⟩ : ∃ n, L[i] = n := ⟨_, rfl⟩
    rw [hn] at hg
    have next : (n < 0 ∨ 32 < n ∨ (vwn A sa : Int) < n) → F28 [.one (.ptr 0 0), .one (.int .i64 n)] (bufHp (some 0) bs at_) = some (tup2 0 false, bufHp (some 0) bs at_) → ∃ env sa' at', loopH (evC T5 KK b5x0) [5, 6, 25, 26, 27] K (canon5 bs L i sa A at_) = some (.exit 0, ⟨env, rts5 bs L, [.cells none [.row 1, .int .i64 (at' : Nat)], .rows (.ints .u8 bs), .rows (.ints .i64 A)]⟩) ∧ getT 5 env = .one (.ptr 0 0) ∧ getT 6 env = .one (slv 2 sa') ∧ at' ≤ 8 * bs.length ∧ vwn A sa' = 8 * bs.length - at' := fun hr e28 => by
      obtain ⟨st1, e1, e2⟩ := body5a bs L i sa A at_ n hlt hL hg hr e28
      obtain ⟨env, sa', at', e, rest⟩ := loop5 bs L A hB hb hL hA j (i + 1) sa at_ (K - 1) (by omega) hok hN hat hlen hv (by omega)
      exact ⟨env, sa', at', by rw [loopH_norm e1 (by omega), e2]; exact e, rest⟩
    by_cases h1 : n < 0 ∨ 32 < n
    · exact next (by omega) (f28a bs at_ n h1)
    · by_cases h2 : (vwn A sa : Int) < n
      · exact next (by omega) (f28b bs at_ n (by omega) (by omega) hat (by omega))
      · obtain ⟨m, rfl⟩ : ∃ m : Nat, n = m := ⟨n.toNat, by omega⟩
        have hlen2 := vw_len A sa hok
        have e28 := f28 bs at_ m hB (by omega) (by omega) (by omega)
        have e29 : ∀ t, F29 [.one (.ro t (.ints .i64 ((vw A sa).take m)))] [] = some (.one (.int .u32 ((leB bs / 2 ^ at_ % 2 ^ m : Nat) : Int)), []) := fun t => by
          have := f29 t ((vw A sa).take m) (fun x hx => hN x (List.mem_of_mem_take hx)) (by rw [List.length_take]; omega)
          rw [leN_take m hN, hv] at this
          exact this
        have e30 := f30 bs (at_ + m) (by omega) (by omega)
        obtain ⟨sa1, ⟨st1, e1, e2⟩, hvw, hok1⟩ := body5b bs L i sa A at_ (at_ + m : Nat) _ _ m hlt hL hg (by omega) (by omega) hok hA e28 e29 e30 (by omega)
        have hlen1 := vw_len A sa1 hok1
        rw [hvw, List.length_drop] at hlen1
        obtain ⟨env, sa', at', e, rest⟩ := loop5 bs L A hB hb hL hA j (i + 1) sa1 (at_ + m) (K - 1) (by omega) hok1 (by rw [hvw]; exact fun x hx => hN x (List.mem_of_mem_drop hx)) (by omega) (by omega) (by rw [hvw, leN_drop m hN, hv, Nat.div_div_eq_div_mul, Nat.pow_add]) (by omega)
        exact ⟨env, sa', at', by rw [loopH_norm e1 (by omega), e2]; exact e, rest⟩
theorem law5 (bs L : List Int) (_ : bs.length ≤ maxLen) (hw : ∀ z ∈ bs, (Lit.int .u8 z).wf = true) (_ : L.length ≤ maxLen) (_ : ∀ z ∈ L, (Lit.int .i64 z).wf = true) : F5 [.one (.ro 0 (.ints .u8 bs)), .one (.ro 1 (.ints .i64 L))] [] = some (.one (.bool true), []) := by
  have hB := isB_of hw
  by_cases hb : bs.length ≤ 60
  · have hb1 : ¬ ((60 : Int) < bs.length) := by omega
    have hb2 : ¬ (60 < bs.length) := by omega
    by_cases hL : L.length ≤ 100
    · have hL1 : ¬ ((100 : Int) < L.length) := by omega
      have hL2 : ¬ (100 < L.length) := by omega
      have e26 := f26 0 bs (by omega)
      obtain ⟨A, e27, hN, hlen, hv⟩ := f27 0 bs hB (by omega)
      obtain ⟨env, sa, at_, e, g5, g6, hat, hlen2⟩ := loop5 bs L A hB hb hL (by omega) L.length 0 none 0 KK (by omega) trivial hN (by omega) (by simp only [vwn]; omega) (by simp only [vw, Nat.pow_zero, Nat.div_one]; exact hv) (by rw [KK_eq]; omega)
      have e30 := f30 bs at_ (by omega) hat
      rw [← hlen2] at e30
      have z : ((0 : Nat) : Int) = 0 := rfl
      simp only [canon5, rts5, z] at e
      simp only [bufHp, z] at e26 e30
      have sn : slv 2 none = .row 2 := rfl
      rw [sn] at e
      rcases sa with _ | ⟨o, m⟩ <;> simp only [vwn] at e30 <;> simp -implicitDefEqProofs [F5, c5, upd, h25, hb1, hb2, hL1, hL2, hb, hL, RC.len, e26, e27, e, g5, g6, e30]
    · have hL1 : (100 : Int) < L.length := by omega
      have hL2 : 100 < L.length := by omega
      simp -implicitDefEqProofs [F5, c5, upd, h25, hb1, hb2, hL1, hL2, hb, RC.len]
  · have hb1 : (60 : Int) < bs.length := by omega
    have hb2 : 60 < bs.length := by omega
    simp -implicitDefEqProofs [F5, c5, upd, h25, hb1, hb2, RC.len]
end Go.X.Try
