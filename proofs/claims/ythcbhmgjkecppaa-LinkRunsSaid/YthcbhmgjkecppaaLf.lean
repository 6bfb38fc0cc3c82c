import Derived.Test.YthcbhmgjkecppaaLe
set_option maxRecDepth 100000
set_option linter.unusedSimpArgs false
namespace Go.X.Try
open Go.IntWalk
structure Inv10 (most : Int) (i : Nat) (gen : Int) (P Q : PS) (R T : RS) : Prop where
  v : Duo P R (30 * i)
  u : Duo Q T (30 * i)
  mP : P.most = most
  mQ : Q.most = most
  g0 : 0 ≤ gen
  g1 : gen ≤ i
  le : i ≤ 100
theorem Inv10.asks {most : Int} {i : Nat} {gen : Int} {P Q : PS} {R T : RS} (z : Inv10 most i gen P Q R T) (up : Bool) : ∃ q r1 r2 a b, Asks up gen P Q R T q r1 r2 a b := by
  obtain ⟨v, u, mP, mQ, g0, g1, le⟩ := z
  obtain ⟨l1, l2, l3, l4⟩ := v.lens
  obtain ⟨k1, k2, k3, k4⟩ := u.lens
  have hm1 := v.most1
  have hm2 := v.most2
  have hs := v.same
  have hs' := u.same
  have e58 := v.room (by omega)
  have e58' := u.room (by omega)
  have hnP : P.nx = slen P.X P.sf ∧ P.ny = slen P.Y P.sc := ⟨rfl, rfl⟩
  have hnQ : Q.nx = slen Q.X Q.sf ∧ Q.ny = slen Q.Y Q.sc := ⟨rfl, rfl⟩
  have w1 : IntKind.i64.wrap ((P.most - P.nx - P.ny) + (Q.most - Q.nx - Q.ny)) = (P.most - P.nx - P.ny) + (Q.most - Q.nx - Q.ny) := i64_in _ (by omega)
  have w2 : IntKind.i64.wrap (R.most + T.most) = R.most + T.most := i64_in _ (by omega)
  have hq : (((P.nx : Int) + P.ny + Q.nx + Q.ny) == 0) = ((P.most - P.nx - P.ny) + (Q.most - Q.nx - Q.ny) == R.most + T.most) := by
    rw [Bool.eq_iff_iff, beq_iff_eq, beq_iff_eq]
    omega
  cases up with
  | false => exact ⟨true, _, _, _, _, f34 false gen P Q, f35 false gen P Q, f36 false gen P Q, f37 false gen P Q, f38d gen P Q, e58, e58', w1, w2, rfl⟩
  | true => exact ⟨_, _, _, _, _, f34 true gen P Q, f35 true gen P Q, f36 true gen P Q, f37 true gen P Q, f38u gen P Q _ (by omega) (by omega) (by omega) (by omega) rfl, e58, e58', w1, w2, by rw [hq]; rfl⟩
theorem step10 (L : List (List Sc)) {most : Int} {i : Nat} {gen : Int} {P Q : PS} {R T : RS} (m0 N kd : Int) (fr : Bool) (s : ByteArray) (up : Bool) (z : Inv10 most i gen P Q R T) (hi : i < L.length) (hd : L[i]?.getD [] = [.int .u8 kd, .bool fr, .int .i64 N, .str s]) (hL : L.length ≤ 100) (hs : s.size ≤ 30) (hk : 0 ≤ kd ∧ kd < 256) :
    ∃ st1 up' gen' P' Q' R' T', evC T10 KK b10x0 (canon10 L i m0 (bothHp false up gen P Q R T)) = some (.norm, st1) ∧ St.head [5, 6, 20, 21, 22] st1 = canon10 L (i + 1 : Nat) m0 (bothHp false up' gen' P' Q' R' T') ∧ Inv10 most (i + 1) gen' P' Q' R' T' := by
  have hk6 : kd.tmod 6 = 0 ∨ kd.tmod 6 = 1 ∨ kd.tmod 6 = 2 ∨ kd.tmod 6 = 3 ∨ kd.tmod 6 = 4 ∨ kd.tmod 6 = 5 := by
    have := Int.tmod_eq_emod_of_nonneg (b := 6) hk.1
    omega
  have z0 := z
  obtain ⟨v, u, mP, mQ, g0, g1, le⟩ := z
  have stay : Inv10 most (i + 1) gen P Q R T := ⟨v.mono (by omega), u.mono (by omega), mP, mQ, g0, by omega, by omega⟩
  have hw : IntKind.i64.wrap (gen + 1) = gen + 1 := i64_in _ (by omega)
  rcases hk6 with h | h | h
  · cases up with
    | true =>
      obtain ⟨q, r1, r2, a, b, asks⟩ := stay.asks true
      obtain ⟨st1, e1, e2⟩ := body10_0 L i m0 N kd fr s false hi hd hL hs h (f32u gen P Q) (f56s true gen R T) asks
      exact ⟨st1, _, _, _, _, _, _, e1, e2, stay⟩
    | false =>
      have z' : Inv10 most (i + 1) (gen + 1) P.zero Q.zero R.zero T.zero := ⟨v.zero _, u.zero _, mP, mQ, by omega, by omega, by omega⟩
      obtain ⟨q, r1, r2, a, b, asks⟩ := z'.asks true
      obtain ⟨st1, e1, e2⟩ := body10_0 L i m0 N kd fr s true hi hd hL hs h (f32d gen (gen + 1) P Q hw) (f56u gen (gen + 1) R T hw) asks
      exact ⟨st1, _, _, _, _, _, _, e1, e2, z'⟩
  · cases up with
    | false =>
      obtain ⟨q, r1, r2, a, b, asks⟩ := stay.asks false
      obtain ⟨st1, e1, e2⟩ := body10_1 L i m0 N kd fr s false hi hd hL hs h (f33d gen P Q) (f56s false gen R T) asks
      exact ⟨st1, _, _, _, _, _, _, e1, e2, stay⟩
    | true =>
      have z' : Inv10 most (i + 1) gen P.zero Q.zero R.zero T.zero := ⟨v.zero _, u.zero _, mP, mQ, by omega, by omega, by omega⟩
      obtain ⟨q, r1, r2, a, b, asks⟩ := z'.asks false
      obtain ⟨st1, e1, e2⟩ := body10_1 L i m0 N kd fr s true hi hd hL hs h (f33u gen P Q) (f56d gen R T) asks
      exact ⟨st1, _, _, _, _, _, _, e1, e2, z'⟩
  · have hk2 : ¬ kd.tmod 6 < 2 := by omega
    cases up with
    | false =>
      obtain ⟨q, r1, r2, a, b, asks⟩ := stay.asks false
      obtain ⟨st1, e1, e2⟩ := body10_2 L i m0 N kd fr s hi hd hL hs _ rfl hk2 (f57d gen P Q R T kd fr N s) asks
      exact ⟨st1, _, _, _, _, _, _, e1, e2, stay⟩
    | true =>
      obtain ⟨P', Q', R', T', e57, v', u', mP', mQ'⟩ := f57u (gen := gen) v u (by omega) kd fr N s h
      have z' : Inv10 most (i + 1) gen P' Q' R' T' := ⟨v'.mono (by omega), u'.mono (by omega), by omega, by omega, g0, by omega, by omega⟩
      obtain ⟨q, r1, r2, a, b, asks⟩ := z'.asks true
      obtain ⟨st1, e1, e2⟩ := body10_2 L i m0 N kd fr s hi hd hL hs _ rfl hk2 e57 asks
      exact ⟨st1, _, _, _, _, _, _, e1, e2, z'⟩
theorem deed_of {z : List Sc} (h : okFields [.int .u8, .bool, .int .i64, .str] z) : ∃ kd fr N s, z = [.int .u8 kd, .bool fr, .int .i64 N, .str s] ∧ 0 ≤ kd ∧ kd < 256 := by
  match z, h with
  | [a, b, c, d], ⟨ha, hb, hc, hd, _⟩ =>
    cases a <;> simp only [FK.ok] at ha
    cases b <;> simp only [FK.ok] at hb
    cases c <;> simp only [FK.ok] at hc
    cases d <;> simp only [FK.ok] at hd
    obtain ⟨rfl, hw⟩ := ha
    obtain ⟨rfl, _⟩ := hc
    refine ⟨_, _, _, _, rfl, ?_⟩
    simp [Lit.wf, IntKind.min, IntKind.max, IntKind.signed, IntKind.bits] at hw
    omega
theorem loop10 (L : List (List Sc)) (m0 most : Int) (hL : L.length ≤ 100) (hw : ∀ z ∈ L, okFields [.int .u8, .bool, .int .i64, .str] z) : ∀ (j i : Nat) (up : Bool) (gen : Int) (P Q : PS) (R T : RS) (K : Nat), i + j = L.length → Inv10 most i gen P Q R T → j < K →
    ∃ env hp', loopH (evC T10 KK b10x0) [5, 6, 20, 21, 22] K (canon10 L i m0 (bothHp false up gen P Q R T)) = some (.exit 0, ⟨env, [.ro 0 (.recs 4 L), .int .i64 m0], hp'⟩) ∨ loopH (evC T10 KK b10x0) [5, 6, 20, 21, 22] K (canon10 L i m0 (bothHp false up gen P Q R T)) = some (.ret, ⟨env, [.ro 0 (.recs 4 L), .int .i64 m0], hp'⟩) ∧ getT 4 env = .one (.bool true)
  | 0, i, up, gen, P, Q, R, T, K, hi, z, hK => by
    obtain ⟨env, hp', e⟩ := end10 L i m0 (bothHp false up gen P Q R T) (by omega)
    exact ⟨env, hp', .inl (loopH_exit e)⟩
  | j + 1, i, up, gen, P, Q, R, T, K, hi, z, hK => by
    have hlt : i < L.length := by omega
    have hd : L[i]?.getD [] = L[i] := by rw [List.getElem?_eq_getElem hlt]; rfl
    obtain ⟨kd, fr, N, s, hz, hk⟩ := deed_of (hw L[i] (List.getElem_mem hlt))
    rw [hz] at hd
    by_cases hs : s.size ≤ 30
    · obtain ⟨st1, up', gen', P', Q', R', T', e1, e2, z'⟩ := step10 L m0 N kd fr s up z hlt hd hL hs hk
      obtain ⟨env, hp', e⟩ := loop10 L m0 most hL hw j (i + 1) up' gen' P' Q' R' T' (K - 1) (by omega) z' (by omega)
      refine ⟨env, hp', ?_⟩
      rw [loopH_norm e1 (by omega), e2]
      exact e
    · obtain ⟨env, hp', e, g⟩ := long10 L i m0 kd N fr s (bothHp false up gen P Q R T) hlt hd (by omega)
      exact ⟨env, hp', .inr ⟨loopH_ret e, g⟩⟩
theorem law10 (L : List (List Sc)) (m : Int) (_ : L.length ≤ maxLen) (hw : ∀ z ∈ L, okFields [.int .u8, .bool, .int .i64, .str] z) (_ : (Lit.int .i64 m).wf = true) : F10 [.one (.ro 0 (.recs 4 L)), .one (.int .i64 m)] [] = some (.one (.bool true), []) := by
  by_cases hL : L.length ≤ 100
  · obtain ⟨most, hmost⟩ : ∃ most, most = if m < 1 then 1 else if 2048 < m then 2048 else m := ⟨_, rfl⟩
    have hmb : 1 ≤ most ∧ most ≤ 2048 := by subst hmost; split; omega; split <;> omega
    have e54 := f54 m most hmost
    have e55 := f55 m most hmost
    have v := duo0 most hmb.1 hmb.2 (30 * 0)
    obtain ⟨env, hp', e⟩ := loop10 L m most hL hw L.length 0 false 0 _ _ _ _ KK (by omega) ⟨v, v, rfl, rfl, by omega, by omega, by omega⟩ (by rw [KK_eq]; omega)
    have z : ((0 : Nat) : Int) = 0 := rfl
    have hL1 : ¬ ((100 : Int) < L.length) := by omega
    have hL2 : ¬ (100 < L.length) := by omega
    clear hmost v
    simp only [linkHp, wHp, PS.obs, RS.obs, PS.zero, RS.zero, tg_false, List.cons_append, List.nil_append, Nat.reduceAdd, slv] at e54 e55
    simp only [canon10, bothHp, linkHp, wHp, PS.obs, RS.obs, PS.zero, RS.zero, tg_false, List.cons_append, List.nil_append, Nat.reduceAdd, slv, z] at e
    rcases e with e | ⟨e, g⟩
    · simp -implicitDefEqProofs [F10, c10, upd, h31, hL, hL1, hL2, RC.len, e54, e55, e]
    · simp -implicitDefEqProofs [F10, c10, upd, h31, hL, hL1, hL2, RC.len, e54, e55, e, g]
  · have hL1 : (100 : Int) < L.length := by omega
    have hL2 : 100 < L.length := by omega
    simp -implicitDefEqProofs [F10, c10, upd, h31, hL1, hL2, RC.len]
end Go.X.Try
