import Derived.Test.YtcpgijcdmhehaaaZ4
set_option linter.unusedVariables false
set_option linter.unusedSimpArgs false
set_option maxRecDepth 100000
set_option linter.unusedSimpArgs false
set_option linter.unusedVariables false
namespace Go.X.Try
open Go.IntWalk
structure Env8 (env : Env) (x0 : RC) (i0 Ln : Int) (c : Ct) (al se re : List Int) : Prop where
  g3 : getT 3 env = .one (.ptr 0 0)
  g4 : getT 4 env = .one (.str (ofBytes al))
  g5 : getT 5 env = .one (.str (ofBytes se))
  g6 : getT 6 env = .one (.str (ofBytes re))
  g7 : getT 7 env = .one (.int .i64 c.e)
  g8 : getT 8 env = .one (.int .i64 c.m)
  g27 : getT 27 env = .one (.ro 0 x0)
  g28 : getT 28 env = .one (.int .i64 Ln)
  g29 : getT 29 env = .one (.int .i64 i0)
theorem end8 (x0 : RC) (i0 Ln : Int) (c : Ct) (al se re : List Int) (o : Bool) (s : ByteArray) :
    ∃ env, evC T8 KK b8x0 (canon8 x0 i0 Ln c al se re c.e c.m o s s.size) = some (.exit 2, ⟨env, [.ro 0 x0], [.cells none [.row 1, .int .u64 c.h, .int .u64 c.n, .int .i64 c.e, .int .i64 c.m], .rows (.ints .u8 c.B), .cells none [.bool o, .str s]]⟩) ∧ Env8 env x0 i0 Ln c al se re := by
  have h : ∃ env, evC T8 KK b8x0 (canon8 x0 i0 Ln c al se re c.e c.m o s s.size) = some (.exit 2, ⟨env, [.ro 0 x0], [.cells none [.row 1, .int .u64 c.h, .int .u64 c.n, .int .i64 c.e, .int .i64 c.m], .rows (.ints .u8 c.B), .cells none [.bool o, .str s]]⟩) ∧ getT 3 env = .one (.ptr 0 0) ∧ getT 4 env = .one (.str (ofBytes al)) ∧ getT 5 env = .one (.str (ofBytes se)) ∧ getT 6 env = .one (.str (ofBytes re)) ∧ getT 7 env = .one (.int .i64 c.e) ∧ getT 8 env = .one (.int .i64 c.m) ∧ getT 27 env = .one (.ro 0 x0) ∧ getT 28 env = .one (.int .i64 Ln) ∧ getT 29 env = .one (.int .i64 i0) := by
    simp -implicitDefEqProofs [b8x0, canon8, upd]
  obtain ⟨env, e, a1, a2, a3, a4, a5, a6, a7, a8, a9⟩ := h
  exact ⟨env, e, a1, a2, a3, a4, a5, a6, a7, a8, a9⟩
theorem loop8i (x0 : RC) (i0 Ln : Int) (o : Bool) (s : ByteArray) (hs : s.size ≤ 100) : ∀ (j i K N : Nat) (c : Ct) (al se re : List Int), i + j = s.size → j < K → N + j ≤ 4000 → Side N c al se re →
    ∃ env c' al' se' re', loopH (evC T8 KK b8x0) [3, 4, 5, 6, 7, 8, 10, 27, 28, 29, 39, 40] K (canon8 x0 i0 Ln c al se re c.e c.m o s i) = some (.exit 2, ⟨env, [.ro 0 x0], [.cells none [.row 1, .int .u64 c'.h, .int .u64 c'.n, .int .i64 c'.e, .int .i64 c'.m], .rows (.ints .u8 c'.B), .cells none [.bool o, .str s]]⟩) ∧ Env8 env x0 i0 Ln c' al' se' re' ∧ Side (N + j) c' al' se' re'
  | 0, i, K, N, c, al, se, re, hi, hK, hN, hS => by
    obtain rfl : i = s.size := by omega
    obtain ⟨env, e, g⟩ := end8 x0 i0 Ln c al se re o s
    exact ⟨env, c, al, se, re, loopH_exit e, g, hS⟩
  | j + 1, i, K, N, c, al, se, re, hi, hK, hN, hS => by
    have hlt : i < s.size := by omega
    obtain ⟨b, hb, _⟩ := drop_cons hlt
    obtain ⟨c1, al1, se1, re1, st1, e1, e2, hS1⟩ := side_step x0 i0 Ln o s i b hS (by omega) hlt hb hs
    obtain ⟨env, c', al', se', re', e, g, hS'⟩ := loop8i x0 i0 Ln o s hs j (i + 1) (K - 1) (N + 1) c1 al1 se1 re1 (by omega) (by omega) (by omega) hS1
    exact ⟨env, c', al', se', re', by rw [loopH_norm e1 (by omega), e2]; exact e, g, by rw [show N + (j + 1) = N + 1 + j by omega]; exact hS'⟩
abbrev Pc := Bool × ByteArray
def pcE (p : Pc) : List Sc := [.bool p.1, .str p.2]
def canon8o (x0 : RC) (Ln i : Int) (c : Ct) (al se re : List Int) : St :=
  ⟨[(3, .one (.ptr 0 0)), (4, .one (.str (ofBytes al))), (5, .one (.str (ofBytes se))), (6, .one (.str (ofBytes re))), (7, .one (.int .i64 c.e)), (8, .one (.int .i64 c.m)), (27, .one (.ro 0 x0)), (28, .one (.int .i64 Ln)), (29, .one (.int .i64 i))],
    [.ro 0 x0], [.cells none [.row 1, .int .u64 c.h, .int .u64 c.n, .int .i64 c.e, .int .i64 c.m], .rows (.ints .u8 c.B)]⟩
theorem ret8o (P : List (List Sc)) (i : Nat) (c : Ct) (al se re : List Int) (o : Bool) (s : ByteArray) (hi : i < P.length) (hg : P[i]?.getD [] = [.bool o, .str s]) (hs : 60 < s.size) :
    ∃ st1, evC T8 KK b8x1 (canon8o (.recs 2 P) P.length i c al se re) = some (.ret, st1) ∧ getT 2 st1.env = .one (.bool true) ∧ st1.rts = [.ro 0 (.recs 2 P)] := by
  have hii : (i : Int) < P.length := by omega
  have hsi : (60 : Int) < s.size := by omega
  have hgM : ∀ hh, P[i]'hh = [.bool o, .str s] := fun hh => by rw [List.getElem?_eq_getElem hh] at hg; exact hg
  simp -implicitDefEqProofs [b8x1, canon8o, upd, hi, hii, hg, hgM, hs, hsi, RC.len, RC.size, RC.elem, takeE]
theorem body8o (P : List (List Sc)) (i : Nat) (N : Nat) (c : Ct) (al se re : List Int) (o : Bool) (s : ByteArray) (hi : i < P.length) (hg : P[i]?.getD [] = [.bool o, .str s]) (hs : ¬ 60 < s.size) (hN : N + 60 ≤ 4000) (hS : Side N c al se re) (i' : Int) (wi : IntKind.i64.wrap ((i : Int) + 1) = i') :
    ∃ c' al' se' re' st1, evC T8 KK b8x1 (canon8o (.recs 2 P) P.length i c al se re) = some (.norm, st1) ∧ St.head [3, 4, 5, 6, 7, 8, 27, 28, 29] st1 = canon8o (.recs 2 P) P.length i' c' al' se' re' ∧ Side (N + s.size) c' al' se' re' := by
  have hii : (i : Int) < P.length := by omega
  have hsi : ¬ (60 : Int) < s.size := by omega
  have hgM : ∀ hh, P[i]'hh = [.bool o, .str s] := fun hh => by rw [List.getElem?_eq_getElem hh] at hg; exact hg
  obtain ⟨env, c', al', se', re', e, ⟨g3, g4, g5, g6, g7, g8, g27, g28, g29⟩, hS'⟩ := loop8i (.recs 2 P) i P.length o s (by omega) s.size 0 KK N c al se re (by omega) (by rw [KK_eq]; omega) (by omega) hS
  refine ⟨c', al', se', re', ?_⟩
  have z : ((0 : Nat) : Int) = 0 := rfl
  simp only [canon8, z] at e
  simp -implicitDefEqProofs [b8x1, canon8o, upd, hi, hii, hg, hgM, hs, hsi, RC.len, RC.size, RC.elem, takeE, e, g3, g4, g5, g6, g7, g8, g27, g28, g29, wi, hS']
theorem end8o (P : List (List Sc)) (c : Ct) (al se re : List Int) : ∃ env, evC T8 KK b8x1 (canon8o (.recs 2 P) P.length P.length c al se re) = some (.exit 0, ⟨env, [.ro 0 (.recs 2 P)], (canon8o (.recs 2 P) P.length P.length c al se re).hp⟩) := by
  simp -implicitDefEqProofs [b8x1, canon8o, upd]
theorem loop8o (Ls : List Pc) (hL : Ls.length ≤ 10) : ∀ (j i K N : Nat) (c : Ct) (al se re : List Int), i + j = Ls.length → j < K → N ≤ 60 * i → Side N c al se re →
    (∃ st1, loopH (evC T8 KK b8x1) [3, 4, 5, 6, 7, 8, 27, 28, 29] K (canon8o (.recs 2 (Ls.map pcE)) Ls.length i c al se re) = some (.ret, st1) ∧ getT 2 st1.env = .one (.bool true) ∧ st1.rts = [.ro 0 (.recs 2 (Ls.map pcE))]) ∨
    (∃ env hp, loopH (evC T8 KK b8x1) [3, 4, 5, 6, 7, 8, 27, 28, 29] K (canon8o (.recs 2 (Ls.map pcE)) Ls.length i c al se re) = some (.exit 0, ⟨env, [.ro 0 (.recs 2 (Ls.map pcE))], hp⟩))
  | 0, i, K, N, c, al, se, re, hi, hK, hN, hS => by
    have hm : (Ls.map pcE).length = i := by rw [List.length_map]; omega
    obtain ⟨env, e⟩ := end8o (Ls.map pcE) c al se re
    rw [hm] at e
    rw [show Ls.length = i by omega]
    exact .inr ⟨env, _, loopH_exit e⟩
  | j + 1, i, K, N, c, al, se, re, hi, hK, hN, hS => by
    have hlt : i < Ls.length := by omega
    have hm : i < (Ls.map pcE).length := by rw [List.length_map]; exact hlt
    have hg : (Ls.map pcE)[i]?.getD [] = [.bool (Ls[i]).1, .str (Ls[i]).2] := by rw [List.getElem?_map, List.getElem?_eq_getElem hlt]; rfl
    have wi : IntKind.i64.wrap ((i : Int) + 1) = ((i + 1 : Nat) : Int) := by rw [i64_in _ (by omega)]; omega
    have hlm : (Ls.map pcE).length = Ls.length := List.length_map _
    by_cases hs : 60 < (Ls[i]).2.size
    · obtain ⟨st1, e1, e2⟩ := ret8o (Ls.map pcE) i c al se re _ _ hm hg hs
      rw [hlm] at e1
      exact .inl ⟨st1, loopH_ret e1, e2⟩
    · obtain ⟨c', al', se', re', st1, e1, e2, hS'⟩ := body8o (Ls.map pcE) i N c al se re _ _ hm hg hs (by omega) hS _ wi
      rw [hlm] at e1 e2
      rw [loopH_norm e1 (by omega), e2]
      exact loop8o Ls hL j (i + 1) (K - 1) (N + (Ls[i]).2.size) c' al' se' re' (by omega) (by omega) (by omega) hS'
theorem okPc : ∀ {l : List (List Sc)}, (∀ z ∈ l, okFields [.bool, .str] z) → ∃ Ls : List Pc, l = Ls.map pcE
  | [], _ => ⟨[], rfl⟩
  | z :: l, h => by
    obtain ⟨Ls, e⟩ := okPc (l := l) (fun y hy => h y (by simp [hy]))
    have hz := h z (by simp)
    have hl := okFields_length hz
    match z, hl with
    | [x0, x1], _ =>
      simp only [okFields] at hz
      obtain ⟨h0, h1, _⟩ := hz
      cases x0 <;> simp only [FK.ok] at h0
      cases x1 <;> simp only [FK.ok] at h1
      rename_i k s _
      exact ⟨(k, s) :: Ls, by rw [e]; rfl⟩
theorem law8 (a0 : List (List Sc)) (_ : a0.length ≤ maxLen) (w0 : ∀ z ∈ a0, okFields [.bool, .str] z) : F8 [.one (.ro 0 (.recs 2 a0))] [] = some (.one (.bool true), []) := by
  obtain ⟨Ls, rfl⟩ := okPc w0
  have hlen : (Ls.map pcE).length = Ls.length := List.length_map _
  by_cases h10 : 10 < Ls.length
  · have h10i : (10 : Int) < Ls.length := by omega
    simp -implicitDefEqProofs [F8, c8, upd, h24, RC.len, hlen, h10, h10i]
  have h10i : ¬ (10 : Int) < Ls.length := by omega
  have e26 := f26
  have hS : Side 0 c0 [] [] [] := ⟨by simp [isB], by simp [isB], by simp [isB], by simp [c0, isB], by simp, by simp, by simp, by simp [c0], by simp [c0], fun _ => ⟨rfl, rfl, .inl rfl⟩⟩
  have z : ((0 : Nat) : Int) = 0 := rfl
  rcases loop8o Ls (by omega) Ls.length 0 KK 0 c0 [] [] [] (by omega) (by rw [KK_eq]; omega) (by omega) hS with ⟨st1, e, g2, g3⟩ | ⟨env, hp, e⟩
  · obtain ⟨env1, rts1, hp1⟩ := st1
    simp only at g2 g3
    subst g3
    simp only [canon8o, c0, z, ofBytes_nil] at e
    simp only [cutHp] at e26
    simp -implicitDefEqProofs [F8, c8, upd, h24, RC.len, hlen, h10, h10i, e26, e, g2]
  · simp only [canon8o, c0, z, ofBytes_nil] at e
    simp only [cutHp] at e26
    simp -implicitDefEqProofs [F8, c8, upd, h24, RC.len, hlen, h10, h10i, e26, e]
end Go.X.Try
