import Derived.Test.YtmkfebnahaembaaDe
import Derived.Test.YtmkfebnahaembaaAv
set_option maxRecDepth 100000
set_option linter.unusedSimpArgs false
namespace Go.X.Try
open Go.IntWalk
theorem deed_of {z : List Sc} (h : okFields [.int .u8, .int .i64, .str] z) : ∃ kd N s, z = [.int .u8 kd, .int .i64 N, .str s] ∧ 0 ≤ kd ∧ kd < 256 := by
  match z, h with
  | [a, b, c], ⟨ha, hb, hc, _⟩ =>
    cases a <;> simp only [FK.ok] at ha
    cases b <;> simp only [FK.ok] at hb
    cases c <;> simp only [FK.ok] at hc
    obtain ⟨rfl, hw⟩ := ha
    obtain ⟨rfl, _⟩ := hb
    refine ⟨_, _, _, rfl, ?_⟩
    simp [Lit.wf, IntKind.min, IntKind.max, IntKind.signed, IntKind.bits] at hw
    omega
theorem loop8 (L : List (List Sc)) (m0 : Int) (hL : L.length ≤ 100) (hw : ∀ z ∈ L, okFields [.int .u8, .int .i64, .str] z) : ∀ (j i : Nat) (most : Int) (sf sc : Option (Nat × Nat)) (X Y : List (List Sc)) (h n : Int) (S : ByteArray) (at_ : Nat) (sz : Option (Nat × Nat)) (Z : List Int) (K : Nat), i + j = L.length → Inv8 most i sf sc X Y h n S at_ sz Z → j < K →
    ∃ env hp', loopH (evC T8 KK b8x0) [5, 6, 25, 26, 27] K (canon8 L i m0 (hp8 most sf sc X Y h n S at_ sz Z)) = some (.exit 0, ⟨env, [.ro 0 (.recs 3 L), .int .i64 m0], hp'⟩) ∨ loopH (evC T8 KK b8x0) [5, 6, 25, 26, 27] K (canon8 L i m0 (hp8 most sf sc X Y h n S at_ sz Z)) = some (.ret, ⟨env, [.ro 0 (.recs 3 L), .int .i64 m0], hp'⟩) ∧ getT 4 env = .one (.bool true)
  | 0, i, most, sf, sc, X, Y, h, n, S, at_, sz, Z, K, hi, v, hK => by
    obtain ⟨env, hp', e⟩ := end8 L i m0 (hp8 most sf sc X Y h n S at_ sz Z) (by omega)
    exact ⟨env, hp', .inl (loopH_exit e)⟩
  | j + 1, i, most, sf, sc, X, Y, h, n, S, at_, sz, Z, K, hi, v, hK => by
    have hlt : i < L.length := by omega
    have hd : L[i]? = some L[i] := List.getElem?_eq_getElem hlt
    obtain ⟨kd, N, s, hz, hk⟩ := deed_of (hw L[i] (List.getElem_mem hlt))
    rw [hz] at hd
    by_cases hs : s.size ≤ 40
    · obtain ⟨st1, sf', sc', X', Y', h', n', S', at', sz', Z', e1, e2, v'⟩ := step8 L m0 N kd s v hlt hd hL hs hk
      obtain ⟨env, hp', e⟩ := loop8 L m0 hL hw j (i + 1) most sf' sc' X' Y' h' n' S' at' sz' Z' (K - 1) (by omega) v' (by omega)
      refine ⟨env, hp', ?_⟩
      rw [loopH_norm e1 (by omega), e2]
      exact e
    · obtain ⟨env, hp', e, g⟩ := long8 L i m0 kd N s (hp8 most sf sc X Y h n S at_ sz Z) hlt hd (by omega)
      exact ⟨env, hp', .inr ⟨loopH_ret e, g⟩⟩
theorem law8 (L : List (List Sc)) (m : Int) (_ : L.length ≤ maxLen) (hw : ∀ z ∈ L, okFields [.int .u8, .int .i64, .str] z) (_ : (Lit.int .i64 m).wf = true) : F8 [.one (.ro 0 (.recs 3 L)), .one (.int .i64 m)] [] = some (.one (.bool true), []) := by
  by_cases hL : L.length ≤ 100
  · obtain ⟨most, hmost⟩ : ∃ most, most = if m < 1 then 1 else if 2048 < m then 2048 else m := ⟨_, rfl⟩
    have hmb : 1 ≤ most ∧ most ≤ 2048 := by subst hmost; split; omega; split <;> omega
    have e19 : F19 [.one (.int .i64 m)] [] = some (.one (.ptr 0 0), pipeHp none most none none [] [] 7640891576956012808 0) := by
      rw [f19', hmost]
      congr 3
      by_cases q : m < 1
      · simp [q]
      · simp only [q, if_false, gt_iff_lt]
    have e38 : F38 [.one (.int .i64 m)] [] = some (.one (.ptr 0 0), refHp none most ⟨#[]⟩ 0 none []) := by rw [f38, hmost]
    have v : Inv8 most 0 none none [] [] 7640891576956012808 0 ⟨#[]⟩ 0 none [] := ⟨trivial, trivial, trivial, Rel.clear (by omega), Nat.zero_le _, by omega, hmb.1, hmb.2⟩
    obtain ⟨env, hp', e⟩ := loop8 L m hL hw L.length 0 most none none [] [] 7640891576956012808 0 ⟨#[]⟩ 0 none [] KK (by omega) v (by rw [KK_eq]; omega)
    have z : ((0 : Nat) : Int) = 0 := rfl
    have hL1 : ¬ ((100 : Int) < L.length) := by omega
    have hL2 : ¬ (100 < L.length) := by omega
    clear hmost v
    simp only [pipeHp, refHp, pipeCells] at e19 e38
    simp only [canon8, hp8, pipeCells, z] at e
    rcases e with e | ⟨e, g⟩
    · simp -implicitDefEqProofs [F8, c8, upd, h18, hL, hL1, hL2, RC.len, e19, e38, e]
    · simp -implicitDefEqProofs [F8, c8, upd, h18, hL, hL1, hL2, RC.len, e19, e38, e, g]
  · have hL1 : (100 : Int) < L.length := by omega
    have hL2 : 100 < L.length := by omega
    simp -implicitDefEqProofs [F8, c8, upd, h18, hL1, hL2, RC.len]
end Go.X.Try
