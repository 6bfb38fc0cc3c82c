import Derived.Test.YthcbhmgjkecppaaLf
set_option maxRecDepth 100000
set_option linter.unusedSimpArgs false
namespace Go.X.Try
open Go.IntWalk
def canon11 (a b : ByteArray) (n m i : Int) (P Q : PS) (R : RS) : St :=
  ⟨[(7, .one (.ptr 0 0)), (9, .one (.ptr 7 0)), (90, .one (.int .i64 m)), (91, .one (.int .i64 i))], [.str a, .str b, .int .u8 n], linkHp false true 2 P Q ++ R.obs none 7⟩
theorem body11 (a b : ByteArray) (n m i x0 x1 : Int) (x2 ok : Bool) (P Q P' : PS) (R R' : RS) (hi : i < m) (w : IntKind.i64.wrap (i + 1) = i + 1)
    (e65 : F65 [.one (.ptr 0 0)] (P.obs (some 0) 0) = some (.tup [.agg [.int .u8 x0, .int .u64 x1, .bool x2], .one (.bool ok)], P'.obs (some 0) 0))
    (e66 : F66 [.one (.ptr 0 0)] (R.obs (some 0) 0) = some (tup4 x0 x1 x2 ok, R'.obs (some 0) 0)) :
    ∃ st1, evC T11 KK b11x0 (canon11 a b n m i P Q R) = some (.norm, st1) ∧ St.head [7, 9, 90, 91] st1 = canon11 a b n m (i + 1) P' Q R' := by
  have e36 := f36 true 2 P Q
  simp only [linkHp, PS.obs, RS.obs, tup4, tg_true, tg_false, List.cons_append, List.nil_append, Nat.reduceAdd, if_true] at e36 e65 e66 ⊢
  simp -implicitDefEqProofs [b11x0, canon11, linkHp, PS.obs, RS.obs, upd, hi, w, e36, e65, e66]
theorem end11 (a b : ByteArray) (n m i : Int) (P Q : PS) (R : RS) (hi : ¬ i < m) :
    ∃ env, evC T11 KK b11x0 (canon11 a b n m i P Q R) = some (.exit 0, ⟨env, [.str a, .str b, .int .u8 n], linkHp false true 2 P Q ++ R.obs none 7⟩) ∧ getT 7 env = .one (.ptr 0 0) := by
  simp -implicitDefEqProofs [b11x0, canon11, linkHp, PS.obs, RS.obs, upd, hi]
theorem loop11 (a b : ByteArray) (n : Int) (m : Nat) (Q : PS) (hm : m ≤ 1000) : ∀ (j i : Nat) (P : PS) (R : RS) (K : Nat), i + j = m → Duo P R 1000 → j < K →
    ∃ (env : Env) (P' : PS) (R' : RS), loopH (evC T11 KK b11x0) [7, 9, 90, 91] K (canon11 a b n m i P Q R) = some (.exit 0, ⟨env, [.str a, .str b, .int .u8 n], linkHp false true 2 P' Q ++ R'.obs none 7⟩) ∧ getT 7 env = .one (.ptr 0 0)
  | 0, i, P, R, K, hi, v, hK => by
    obtain ⟨env, e, g⟩ := end11 a b n m i P Q R (by omega)
    exact ⟨env, P, R, loopH_exit e, g⟩
  | j + 1, i, P, R, K, hi, v, hK => by
    obtain ⟨x0, x1, x2, ok, P', R', e65, e66, v', _⟩ := v.take (by omega)
    obtain ⟨st1, e1, e2⟩ := body11 a b n m i x0 x1 x2 ok P Q P' R R' (by omega) (i64_in _ (by omega)) e65 e66
    obtain ⟨env, P'', R'', e, g⟩ := loop11 a b n m Q hm j (i + 1) P' R' (K - 1) (by omega) v' (by omega)
    refine ⟨env, P'', R'', ?_, g⟩
    rw [loopH_norm e1 (by omega), e2]
    exact e
def z300 : PS := ⟨300, none, none, [], [], 7640891576956012808, 0⟩
theorem slv0 (k : Nat) : slv k none = .row k := rfl
theorem z40 : ∃ Q', F40 [.one (.ptr 0 0), .one (.int .i64 9)] (z300.obs (some 0) 0) = some (.one (.int .i64 0), PS.obs Q' (some 0) 0) := by
  obtain ⟨sf', sc', X', Y', e, _⟩ := f40 300 7640891576956012808 0 9 none none [] [] (by decide) (by decide) trivial trivial 0 (by decide)
  exact ⟨⟨300, sf', sc', X', Y', 7640891576956012808, 0⟩, e⟩
theorem law11 (a b : ByteArray) (n : Int) (_ : a.size ≤ maxLen) (_ : b.size ≤ maxLen) (hn : (Lit.int .u8 n).wf = true) : F11 [.one (.str a), .one (.str b), .one (.int .u8 n)] [] = some (.one (.bool true), []) := by
  simp [Lit.wf, IntKind.min, IntKind.max, IntKind.signed, IntKind.bits] at hn
  by_cases ha : 100 < a.size
  · have ha1 : (100 : Int) < a.size := by omega
    simp -implicitDefEqProofs [F11, c11, upd, h31, ha, ha1]
  · have ha1 : ¬ (100 : Int) < a.size := by omega
    by_cases hb : 100 < b.size
    · have hb1 : (100 : Int) < b.size := by omega
      simp -implicitDefEqProofs [F11, c11, upd, h31, ha, ha1, hb, hb1]
    · have hb1 : ¬ (100 : Int) < b.size := by omega
      have v0 := duo0 300 (by omega) (by omega) 0
      have hz : (PS.zero ⟨300, none, none, [], [], 0, 0⟩) = z300 := rfl
      have e54 := f54 300 300 rfl
      rw [hz] at v0 e54
      have e62 := r62 300 300 rfl
      have j1 := f32d 0 1 z300 z300 rfl
      have hz1 : z300.zero = z300 := rfl
      rw [hz1] at j1
      obtain ⟨o1, P1, R1, s1, _, v1, m1, _⟩ := v0.send (by omega) a
      obtain ⟨o2, Q1, T1, s2, s6, u1, n1, _⟩ := v0.send (by omega) b
      obtain ⟨o3, P2, R2, s3, _, v2, m2, _⟩ := v1.deliver (by omega) n
      obtain ⟨o4, P3, R3, s4, _, v3, m3, _⟩ := v2.inject (by omega) ⟨#[120]⟩
      have t1 := f36 true 1 z300 z300
      have t2 := f37 true 1 P1 z300
      have t3 := f36 true 1 P1 Q1
      have t4 := f36 true 1 P2 Q1
      have t5 := f36 true 1 P3 Q1
      have c1 := f33u 1 P3 Q1
      have hz3 : P3.zero = z300 := by unfold PS.zero z300; rw [m3, m2, m1]; rfl
      have hz4 : Q1.zero = z300 := by unfold PS.zero z300; rw [n1]; rfl
      rw [hz3, hz4] at c1
      have q1 := p60 z300
      have q2 := p61 z300
      have hx : (z300.nx : Int) = 0 := rfl
      have hy : (z300.ny : Int) = 0 := rfl
      rw [hx] at q1
      rw [hy] at q2
      have d1 := f38d 1 z300 z300
      have j2 := f32d 1 2 z300 z300 rfl
      rw [hz1] at j2
      have d2 := f38u 2 z300 z300 true (by decide) (by decide) (by decide) (by decide) rfl
      have g1 := f35 true 2 z300 z300
      have t6 := f36 true 2 z300 z300
      have t7 := f36 true 2 Q1 z300
      obtain ⟨o6, P5, R5, s7, s8, v5, m5, _⟩ := u1.deliver (by omega) 300
      obtain ⟨env, P6, R6, e, k7⟩ := loop11 a b n (b.size + 1) z300 (by omega) (b.size + 1) 0 P5 R5 KK (by omega) (v5.mono (by omega)) (by rw [KK_eq]; omega)
      have t8 := f37 true 2 P6 z300
      obtain ⟨Q7, s9⟩ := z40
      have wn : IntKind.i64.wrap n = n := i64_in _ (by omega)
      have wb : IntKind.i64.wrap ((b.size : Int) + 1) = (b.size : Int) + 1 := i64_in _ (by omega)
      have z : ((0 : Nat) : Int) = 0 := rfl
      have hbb : ((b.size + 1 : Nat) : Int) = (b.size : Int) + 1 := by omega
      rw [hbb] at e
      clear v0 v1 v2 v3 v5 u1
      simp only [canon11, linkHp, z300, RS.zero, PS.obs, RS.obs, tg_true, tg_false, List.cons_append, List.nil_append, Nat.reduceAdd, slv0, if_true, z] at e54 e62 j1 s1 s2 s3 s4 t1 t2 t3 t4 t5 c1 q1 q2 d1 j2 d2 g1 t6 s6 t7 s7 s8 e t8 s9
      simp -implicitDefEqProofs [F11, c11, upd, h31, ha, ha1, hb, hb1, wn, wb, e54, e62, j1, s1, s2, s3, s4, t1, t2, t3, t4, t5, c1, q1, q2, d1, j2, d2, g1, t6, s6, t7, s7, s8, e, k7, t8, s9, IntKind.wrap_i64]
end Go.X.Try
