import Derived.Test.YtcpgijcdmhehaaaZ4
set_option linter.unusedVariables false
set_option linter.unusedSimpArgs false
set_option maxRecDepth 100000
set_option linter.unusedSimpArgs false
set_option linter.unusedVariables false
namespace Go.X.Try
open Go.IntWalk
structure Env8 (env : Env) (x0 : RC) (i0 Ln : Int) (c : Ct) (al se re : List Int) : Prop where
  g3 : getT 3 env = .one (.ptr 0 0)
  g4 : getT 4 env = .one (.str (ofBytes al))
  g5 : getT 5 env = .one (.str (ofBytes se))
  g6 : getT 6 env = .one (.str (ofBytes re))
  g7 : getT 7 env = .one (.int .i64 c.e)
  g8 : getT 8 env = .one (.int .i64 c.m)
  g27 : getT 27 env = .one (.ro 0 x0)
  g28 : getT 28 env = .one (.int .i64 Ln)
  g29 : getT 29 env = .one (.int .i64 i0)
theorem end8 (x0 : RC) (i0 Ln : Int) (c : Ct) (al se re : List Int) (o : Bool) (s : ByteArray) :
    ∃ env, evC T8 KK b8x0 (canon8 x0 i0 Ln c al se re c.e c.m o s s.size) = some (.exit 2, ⟨env, [.ro 0 x0], [.cells none [.row 1, .int .u64 c.h, .int .u64 c.n, .int .i64 c.e, .int .i64 c.m], .rows (.ints .u8 c.B), .cells none [.bool o, .str s]]⟩) ∧ Env8 env x0 i0 Ln c al se re := by
  have h : ∃ env, evC T8 KK b8x0 (canon8 x0 i0 Ln c al se re c.e c.m o s s.size) = some (.exit 2, ⟨env, [.ro 0 x0], [.cells none [.row 1, .int .u64 c.h, .int .u64 c.n, .int .i64 c.e, .int .i64 c.m], .rows (.ints .u8 c.B), .cells none [.bool o, .str s]]⟩) ∧ getT 3 env = .one (.ptr 0 0) ∧ getT 4 env = .one (.str (ofBytes al)) ∧ getT 5 env = .one (.str (ofBytes se)) ∧ getT 6 env = .one (.str (ofBytes re)) ∧ getT 7 env = .one (.int .i64 c.e) ∧ getT 8 env = .one (.int .i64 c.m) ∧ getT 27 env = .one (.ro 0 x0) ∧ getT 28 env = .one (.int .i64 Ln) ∧ getT 29 env = .one (.int .i64 i0) := by
    simp -implicitDefEqProofs [b8x0, canon8, upd]
  obtain ⟨env, e, a1, a2, a3, a4, a5, a6, a7, a8, a9⟩ := h
  exact ⟨env, e, a1, a2, a3, a4, a5, a6, a7, a8, a9⟩
theorem loop8i (x0 : RC) (i0 Ln : Int) (o : Bool) (s : ByteArray) (hs : s.size ≤ 100) : ∀ (j i K N : Nat) (c : Ct) (al se re : List Int), i + j = s.size → j < K → N + j ≤ 4000 → Side N c al se re →
    ∃ env c' al' se' re', loopH (evC T8 KK b8x0) [3, 4, 5, 6, 7, 8, 10, 27, 28, 29, 39, 40] K (canon8 x0 i0 Ln c al se re c.e c.m o s i) = some (.exit 2, ⟨env, [.ro 0 x0], [.cells none [.row 1, .int .u64 c'.h, .int .u64 c'.n, .int .i64 c'.e, .int .i64 c'.m], .rows (.ints .u8 c'.B), .cells none [.bool o, .str s]]⟩) ∧ Env8 env x0 i0 Ln c' al' se' re' ∧ Side (N + j) c' al' se' re'
  | 0, i, K, N, c, al, se, re, hi, hK, hN, hS => by
    obtain rfl : i = s.size := by omega
    obtain ⟨env, e, g⟩ := end8 x0 i0 Ln c al se re o s
    exact ⟨env, c, al, se, re, loopH_exit e, g, hS⟩
  | j + 1, i, K, N, c, al, se, re, hi, hK, hN, hS => by
    have hlt : i < s.size := by omega
    obtain ⟨b, hb, _⟩ := drop_cons hlt
    obtain ⟨c1, al1, se1, re1, st1, e1, e2, hS1⟩ := side_step x0 i0 Ln o s i b hS (by omega) hlt hb hs
    obtain ⟨env, c', al', se', re', e, g, hS'⟩ := loop8i x0 i0 Ln o s hs j (i + 1) (K - 1) (N + 1) c1 al1 se1 re1 (by omega) (by omega) (by omega) hS1
    exact ⟨env, c', al', se', re', by rw [loopH_norm e1 (by omega), e2]; exact e, g, by rw [show N + (j + 1) = N + 1 + j by omega]; exact hS'⟩
abbrev Pc := Bool × ByteArray
def pcE (p : Pc) : List Sc := [.bool p.1, .str p.2]
def canon8o (x0 : RC) (Ln i : Int) (c : Ct) (al se re : List Int) : St :=
  ⟨[(3, .one (.ptr 0 0)), (4, .one (.str (ofBytes al))), (5, .one (.str (ofBytes se))), (6, .one (.str (ofBytes re))), (7, .one (.int .i64 c.e)), (8, .one (.int .i64 c.m)), (27, .one (.ro 0 x0)), (28, .one (.int .i64 Ln)), (29, .one (.int .i64 i))],
    [.ro 0 x0], [.cells none [.row 1, .int .u64 c.h, .int .u64 c.n, .int .i64 c.e, .int .i64 c.m], .rows (.ints .u8 c.B)]⟩
theorem ret8o (P : List (List Sc)) (i : Nat) (c : Ct) (al se re : List Int) (o : Bool) (s : ByteArray) (hi : i < P.length) (hg : P[i]?.getD [] = [.bool o, .str s]) (hs : 60 < s.size) :
    ∃ st1, evC T8 KK b8x1 (canon8o (.recs 2 P) P.length i c al se re) = some (.ret, st1) ∧ getT 2 st1.env = .one (.bool true) ∧ st1.rts = [.ro 0 (.recs 2 P)] := by
  have hii : (i : Int) < P.length := by omega
  have hsi : (60 : Int) < s.size := by omega
  have hgM : ∀ hh, P[i]'hh = [.bool o, .str s] := fun hh => by rw [List.getElem?_eq_getElem hh] at hg; exact hg
  simp -implicitDefEqProofs [b8x1, canon8o, upd, hi, hii, hg, hgM, hs, hsi, RC.len, RC.size, RC.elem, takeE]
theorem body8o (P : List (List Sc)) (i : Nat) (N : Nat) (c : Ct) (al se re : List Int) (o : Bool) (s : ByteArray) (hi : i < P.length) (hg : P[i]?.getD [] = [.bool o, .str s]) (hs : ¬ 60 < s.size) (hN : N + 60 ≤ 4000) (hS : Side N c al se re) (i' : Int) (wi : IntKind.i64.wrap ((i : Int) + 1) = i') :
    ∃ c' al' se' re' st1, evC T8 KK b8x1 (canon8o (.recs 2 P) P.length i c al se re) = some (.norm, st1) ∧ St.head [3, 4, 5, 6, 7, 8, 27, 28, 29] st1 = canon8o (.recs 2 P) P.length i' c' al' se' re' ∧ Side (N + s.size) c' al' se' re' := by
  have hii : (i : Int) < P.length := by omega
  have hsi : ¬ (60 : Int) < s.size := by omega
  have hgM : ∀ hh, P[i]'hh = [.bool o, .str s] := fun hh => by rw [List.getElem?_eq_getElem hh] at hg; exact hg
  obtain ⟨env, c', al', se', re', e, ⟨g3, g4, g5, g6, g7, g8, g27, g28, g29⟩, hS'⟩ := loop8i (.recs 2 P) i P.length o s (by omega) s.size 0 KK N c al se re (by omega) (by rw [KK_eq]; omega) (by omega) hS
  refine ⟨c', al', se', re', ?_⟩
  have z : ((0 : Nat) : Int) = 0 := rfl
  simp only [canon8, z] at e
  simp -implicitDefEqProofs [b8x1, canon8o, upd, hi, hii, hg, hgM, hs, hsi, RC.len, RC.size, RC.elem, takeE, e, g3, g4, g5, g6, g7, g8, g27, g28, g29, wi, hS']
theorem end8o (P : List (List Sc)) (c : Ct) (al se re : List Int) : ∃ env, evC T8 KK b8x1 (canon8o (.recs 2 P) P.length P.length c al se re) = some (.exit 0, ⟨env, [.ro 0 (.recs 2 P)], (canon8o (.recs 2 P) P.length P.length c al se re).hp⟩) := by
  simp -implicitDefEqProofs [b8x1, canon8o, upd]
theorem loop8o (Ls : List Pc) (hL : Ls.length ≤ 10) : ∀ (j i K N : Nat) (c : Ct) (al se re : List Int), i + j = Ls.length → j < K → N ≤ 60 * i → Side N c al se re →
    (∃ st1, loopH (evC T8 KK b8x1) [3, 4, 5, 6, 7, 8, 27, 28, 29] K (canon8o (.recs 2 (Ls.map pcE)) Ls.length i c al se re) = some (.ret, st1) ∧ getT 2 st1.env = .one (.bool true) ∧ st1.rts = [.ro 0 (.recs 2 (Ls.map pcE))]) ∨
    (∃ env hp, loopH (evC T8 KK b8x1) [3, 4, 5, 6, 7, 8, 27, 28, 29] K (canon8o (.recs 2 (Ls.map pcE)) Ls.length i c al se re) = some (.exit 0, ⟨env, [.ro 0 (.recs 2 (Ls.map pcE))], hp⟩))
  | 0, i, K, N, c, al, se, re, hi, hK, hN, hS => by
    have hm : (Ls.map pcE).length = i := by rw [List.length_map]; omega
    obtain ⟨env, e⟩ := end8o (Ls.map pcE) c al se re
    rw [hm] at e
    rw [show Ls.length = i by omega]
    exact .inr ⟨env, _, loopH_exit e⟩
  | j + 1, i, K, N, c, al, se, re, hi, hK, hN, hS => by
    have hlt : i < Ls.length := by omega
    have hm : i < (Ls.map pcE).length := by rw [List.length_map]; exact hlt
    have hg : (Ls.map pcE)[i]?.getD [] = [.bool (Ls[i]).1, .str (Ls[i]).2] := by rw [List.getElem?_map, List.getElem?_eq_getElem hlt]; rfl
    have wi : IntKind.i64.wrap ((i : Int) + 1) = ((i + 1 : Nat) : Int) := by rw [i64_in _ (by omega)]; omega
    have hlm : (Ls.map pcE).length = Ls.length := List.length_map _
    by_cases hs : 60 < (Ls[i]).2.size
    · obtain ⟨st1, e1, e2⟩ := ret8o (Ls.map pcE) i c al se re _ _ hm hg hs
      rw [hlm] at e1
      exact .inl ⟨st1, loopH_ret e1, e2⟩
    · obtain ⟨c', al', se', re', st1, e1, e2, hS'⟩ := body8o (Ls.map pcE) i N c al se re _ _ hm hg hs (by omega) hS _ wi
      rw [hlm] at e1 e2
      rw [loopH_norm e1 (by omega), e2]
      exact loop8o Ls hL j (i + 1) (K - 1) (N + (Ls[i]).2.size) c' al' se' re' (by omega) (by omega) (by omega) hS'
theorem okPc : ∀ {l : List (List Sc)}, (∀ z ∈ l, okFields [.bool, .str] z) → ∃ Ls : List Pc, l = Ls.map pcE
  | [], _ => ⟨[], rfl⟩
  | z :: l, h => by
    obtain ⟨Ls, e⟩ := okPc (l := l) (fun y hy => h y (by simp [hy]))
    have hz := h z (by simp)
    have hl := okFields_length hz
    match z, hl with
    | [x0, x1], _ =>
      simp only [okFields] at hz
      obtain ⟨h0, h1, _⟩ := hz
      cases x0 <;> simp only [FK.ok] at h0
      cases x1 <;> simp only [FK.ok] at h1
      rename_i k s _
      exact ⟨(k, s) :: Ls, by rw [e]; rfl⟩
theorem law8 (a0 : List (List Sc)) (_ : a0.length ≤ maxLen) (w0 : ∀ z ∈ a0, okFields [.bool, .str] z) : F8 [.one (.ro 0 (.recs 2 a0))] [] = some (.one (.bool true), []) := by
  obtain ⟨Ls, rfl⟩ := okPc w0
  have hlen : (Ls.map pcE).length = Ls.length := List.length_map _
  by_cases h10 : 10 < Ls.length
  · have h10i : (10 : Int) < Ls.length := by omega
    simp -implicitDefEqProofs [F8, c8, upd, h24, RC.len, hlen, h10, h10i]
  have h10i : ¬ (10 : Int) < Ls.length := by omega
  have e26 := f26
  have hS : Side 0 c0 [] [] [] := ⟨by simp [isB], by simp [isB], by simp [isB], by simp [c0, isB], by simp, by simp, by simp, by simp [c0], by simp [c0], fun _ => ⟨rfl, rfl, .inl rfl⟩⟩
  have z : ((0 : Nat) : Int) = 0 := rfl
  rcases loop8o Ls (by omega) Ls.length 0 KK 0 c0 [] [] [] (by omega) (by rw [KK_eq]; omega) (by omega) hS with ⟨st1, e, g2, g3⟩ | ⟨env, hp, e⟩
  · obtain ⟨env1, rts1, hp1⟩ := st1
    simp only at g2 g3
    subst g3
    simp only [canon8o, c0, z, ofBytes_nil] at e
    simp only [cutHp] at e26
    simp -implicitDefEqProofs [F8, c8, upd, h24, RC.len, hlen, h10, h10i, e26, e, g2]
  · simp only [canon8o, c0, z, ofBytes_nil] at e
    simp only [cutHp] at e26
    simp -implicitDefEqProofs [F8, c8, upd, h24, RC.len, hlen, h10, h10i, e26, e]
end Go.X.Try
set_option maxRecDepth 100000
set_option linter.unusedSimpArgs false
set_option linter.unusedVariables false
namespace Go.X.Try
open Go.IntWalk
/-! ### all frames of a text -/
/-- As the program splits: B: of the frame that comes. -/
def spl (B : List Int) : List Int → List (Int × List Int) × List Int × Int
  | [] => ([], B, 0)
  | b :: l =>
    if ahd (B ++ [b]) ≠ 0 then ([], [], ahd (B ++ [b]))
    else if (B ++ [b]).length < szF (B ++ [b]) then spl (B ++ [b]) l
    else match whl (B ++ [b]) with
      | none => ([], [], 4)
      | some f => (f :: (spl [] l).1, (spl [] l).2)
def canon41 (s : ByteArray) (out : List (List Sc)) (B : List Int) (i : Int) : St :=
  ⟨[(0, .one (.str s)), (5, .one (.row 0)), (6, .one (.row 1)), (12, .one (.int .i64 s.size)), (13, .one (.int .i64 i))], [.str s], [.rows (.recs 2 out), .rows (.ints .u8 B)]⟩
def res41 : List (Nat × Option (Option Nat)) := [(2, none), (3, none), (4, none)]
theorem body41e (s : ByteArray) (out : List (List Sc)) (B : List Int) (i : Nat) (b : Int) (hi : i < s.size) (hb : (toBytes s)[i]? = some b) (hB : isB (B ++ [b])) (hl : B.length ≤ 5000) (ha : ahd (B ++ [b]) ≠ 0) :
    ∃ st1, evC T41 KK b41x0 (canon41 s out B i) = some (.ret, st1) ∧ give st1.rts st1.hp (resL st1.env st1.hp res41) = some (.tup [.one (.row 0), .one (.str ⟨#[]⟩), .one (.int .i64 (ahd (B ++ [b])))], [.rows (.recs 2 out)]) := by
  have hii : (i : Int) < s.size := by omega
  have hb2 : (toBytes s)[i]?.getD 0 = b := by rw [hb]; rfl
  have e74 := f74 (B ++ [b]) hB
  have hk : B.length + 1 ≤ 140737488355328 := by omega
  generalize ahd (B ++ [b]) = a at *
  generalize hB2 : B ++ [b] = B' at *
  simp -implicitDefEqProofs [b41x0, canon41, res41, upd, hi, hii, hb2, RC.ofElems, RC.app, RC.len, RC.size, hk, hB2, e74, ha]
theorem body41n (s : ByteArray) (out : List (List Sc)) (B : List Int) (i : Nat) (b : Int) (hi : i < s.size) (hb : (toBytes s)[i]? = some b) (hB : isB (B ++ [b])) (hl : B.length ≤ 5000) (ha : ahd (B ++ [b]) = 0) (hlt : (B ++ [b]).length < szF (B ++ [b])) (i' : Int) (wi : IntKind.i64.wrap ((i : Int) + 1) = i') :
    ∃ st1, evC T41 KK b41x0 (canon41 s out B i) = some (.norm, st1) ∧ St.head [0, 5, 6, 12, 13] st1 = canon41 s out (B ++ [b]) i' := by
  have hii : (i : Int) < s.size := by omega
  have hb2 : (toBytes s)[i]?.getD 0 = b := by rw [hb]; rfl
  have e74 := f74 (B ++ [b]) hB
  have e75 := f75 (B ++ [b]) hB
  rw [ha] at e74
  have hk : B.length + 1 ≤ 140737488355328 := by omega
  have hl1 : (B ++ [b]).length = B.length + 1 := by simp
  have hlti : ((B ++ [b]).length : Int) < ((szF (B ++ [b]) : Nat) : Int) := by omega
  rw [hl1] at hlt hlti
  generalize szF (B ++ [b]) = a at *
  generalize hB2 : B ++ [b] = B' at *
  have hlti' : (B.length : Int) + 1 < a := by omega
  simp -implicitDefEqProofs [b41x0, canon41, upd, hi, hii, hb2, RC.ofElems, RC.app, RC.len, RC.size, hk, hB2, hl1, e74, e75, hlt, hlti', wi]
theorem body41w (s : ByteArray) (out : List (List Sc)) (B : List Int) (i : Nat) (b : Int) (hi : i < s.size) (hb : (toBytes s)[i]? = some b) (hB : isB (B ++ [b])) (hl : B.length ≤ 5000) (ha : ahd (B ++ [b]) = 0) (hlt : ¬ (B ++ [b]).length < szF (B ++ [b])) (hw : whl (B ++ [b]) = none) :
    ∃ st1, evC T41 KK b41x0 (canon41 s out B i) = some (.ret, st1) ∧ give st1.rts st1.hp (resL st1.env st1.hp res41) = some (.tup [.one (.row 0), .one (.str ⟨#[]⟩), .one (.int .i64 4)], [.rows (.recs 2 out)]) := by
  have hii : (i : Int) < s.size := by omega
  have hb2 : (toBytes s)[i]?.getD 0 = b := by rw [hb]; rfl
  have e74 := f74 (B ++ [b]) hB
  have e75 := f75 (B ++ [b]) hB
  have hge := szF_ge (B ++ [b])
  have hl1 : (B ++ [b]).length = B.length + 1 := by simp
  have e71 := f71 (B ++ [b]) hB (by omega) (by omega)
  unfold whA at e71
  rw [hw] at e71
  rw [ha] at e74
  have hk : B.length + 1 ≤ 140737488355328 := by omega
  rw [hl1] at hlt
  generalize szF (B ++ [b]) = a at *
  generalize hB2 : B ++ [b] = B' at *
  have hlti' : ¬ (B.length : Int) + 1 < a := by omega
  simp only [tupF2] at e71
  simp -implicitDefEqProofs [b41x0, canon41, res41, upd, hi, hii, hb2, RC.ofElems, RC.app, RC.len, RC.size, hk, hB2, hl1, e74, e75, e71, hlt, hlti']
theorem body41f (s : ByteArray) (out : List (List Sc)) (B : List Int) (i : Nat) (b : Int) (hi : i < s.size) (hb : (toBytes s)[i]? = some b) (hB : isB (B ++ [b])) (hl : B.length ≤ 5000) (ho : out.length ≤ 5000) (ha : ahd (B ++ [b]) = 0) (hlt : ¬ (B ++ [b]).length < szF (B ++ [b])) (f : Int × List Int) (hw : whl (B ++ [b]) = some f) (i' : Int) (wi : IntKind.i64.wrap ((i : Int) + 1) = i') :
    ∃ st1, evC T41 KK b41x0 (canon41 s out B i) = some (.norm, st1) ∧ St.head [0, 5, 6, 12, 13] st1 = canon41 s (out ++ [frS f]) [] i' := by
  have hii : (i : Int) < s.size := by omega
  have hb2 : (toBytes s)[i]?.getD 0 = b := by rw [hb]; rfl
  have e74 := f74 (B ++ [b]) hB
  have e75 := f75 (B ++ [b]) hB
  have hge := szF_ge (B ++ [b])
  have hl1 : (B ++ [b]).length = B.length + 1 := by simp
  have e71 := f71 (B ++ [b]) hB (by omega) (by omega)
  unfold whA at e71
  rw [hw] at e71
  rw [ha] at e74
  have hk : B.length + 1 ≤ 140737488355328 := by omega
  have ho1 : (out.length + 1) * 24 ≤ 140737488355328 := by omega
  rw [hl1] at hlt
  generalize szF (B ++ [b]) = a at *
  generalize hB2 : B ++ [b] = B' at *
  have hlti' : ¬ (B.length : Int) + 1 < a := by omega
  simp only [tupF2] at e71
  simp -implicitDefEqProofs [b41x0, canon41, upd, hi, hii, hb2, RC.ofElems, RC.app, RC.len, RC.size, hk, hB2, hl1, e74, e75, e71, hlt, hlti', wi, ho1, frS, scsOf, SV.sc]
theorem end41 (s : ByteArray) (out : List (List Sc)) (B : List Int) :
    ∃ env, evC T41 KK b41x0 (canon41 s out B s.size) = some (.exit 0, ⟨env, [.str s], [.rows (.recs 2 out), .rows (.ints .u8 B)]⟩) ∧ getT 5 env = .one (.row 0) ∧ getT 6 env = .one (.row 1) := by
  simp -implicitDefEqProofs [b41x0, canon41, upd]
/-- How the loop ends: early, or behind all bytes. -/
theorem loop41 (s : ByteArray) (hs : s.size ≤ 4000) : ∀ (j i K : Nat) (out : List (List Sc)) (B : List Int), i + j = s.size → j < K → isB B → B.length ≤ i → out.length ≤ i →
    (∃ st1, loopH (evC T41 KK b41x0) [0, 5, 6, 12, 13] K (canon41 s out B i) = some (.ret, st1) ∧ give st1.rts st1.hp (resL st1.env st1.hp res41) = some (.tup [.one (.row 0), .one (.str (ofBytes (spl B ((toBytes s).drop i)).2.1)), .one (.int .i64 (spl B ((toBytes s).drop i)).2.2)], [.rows (.recs 2 (out ++ (spl B ((toBytes s).drop i)).1.map frS))])) ∨
    (∃ env, loopH (evC T41 KK b41x0) [0, 5, 6, 12, 13] K (canon41 s out B i) = some (.exit 0, ⟨env, [.str s], [.rows (.recs 2 (out ++ (spl B ((toBytes s).drop i)).1.map frS)), .rows (.ints .u8 (spl B ((toBytes s).drop i)).2.1)]⟩) ∧ getT 5 env = .one (.row 0) ∧ getT 6 env = .one (.row 1) ∧ (spl B ((toBytes s).drop i)).2.2 = 0)
  | 0, i, K, out, B, hi, hK, hB, hl, ho => by
    obtain rfl : i = s.size := by omega
    obtain ⟨env, e, g⟩ := end41 s out B
    have hd : (toBytes s).drop s.size = [] := List.drop_eq_nil_of_le (by rw [toBytes_length]; omega)
    rw [hd]
    simp only [spl, List.map_nil, List.append_nil]
    exact .inr ⟨env, loopH_exit e, g.1, g.2, trivial⟩
  | j + 1, i, K, out, B, hi, hK, hB, hl, ho => by
    have hlt : i < s.size := by omega
    obtain ⟨b, hb, hd⟩ := drop_cons hlt
    have hbr := toBytes_range s i b hb
    have hB' : isB (B ++ [b]) := isB_append hB (isB_one hbr)
    have wi : IntKind.i64.wrap ((i : Int) + 1) = ((i + 1 : Nat) : Int) := by rw [i64_in _ (by omega)]; omega
    have hl1 : (B ++ [b]).length = B.length + 1 := by simp
    rw [hd]
    by_cases ha : ahd (B ++ [b]) = 0
    · by_cases hlen : (B ++ [b]).length < szF (B ++ [b])
      · obtain ⟨st1, e1, e2⟩ := body41n s out B i b hlt hb hB' (by omega) ha hlen _ wi
        have es : spl B (b :: (toBytes s).drop (i + 1)) = spl (B ++ [b]) ((toBytes s).drop (i + 1)) := by
          rw [spl, if_neg (fun h => h ha), if_pos hlen]
        rw [es, loopH_norm e1 (by omega), e2]
        exact loop41 s hs j (i + 1) (K - 1) out (B ++ [b]) (by omega) (by omega) hB' (by omega) (by omega)
      · cases hw : whl (B ++ [b]) with
        | none =>
          obtain ⟨st1, e1, e2⟩ := body41w s out B i b hlt hb hB' (by omega) ha hlen hw
          have es : spl B (b :: (toBytes s).drop (i + 1)) = ([], [], 4) := by
            rw [spl, if_neg (fun h => h ha), if_neg hlen, hw]
          rw [es]
          simp only [List.map_nil, List.append_nil, ofBytes_nil]
          exact .inl ⟨st1, loopH_ret e1, e2⟩
        | some f =>
          obtain ⟨st1, e1, e2⟩ := body41f s out B i b hlt hb hB' (by omega) (by omega) ha hlen f hw _ wi
          have es : spl B (b :: (toBytes s).drop (i + 1)) = (f :: (spl [] ((toBytes s).drop (i + 1))).1, (spl [] ((toBytes s).drop (i + 1))).2) := by
            rw [spl, if_neg (fun h => h ha), if_neg hlen, hw]
          rw [es, loopH_norm e1 (by omega), e2]
          have ih := loop41 s hs j (i + 1) (K - 1) (out ++ [frS f]) [] (by omega) (by omega) (by simp [isB]) (by simp) (by rw [List.length_append]; simp only [List.length_cons, List.length_nil]; omega)
          simp only [List.map_cons]
          rw [List.append_assoc, List.singleton_append] at ih
          exact ih
    · obtain ⟨st1, e1, e2⟩ := body41e s out B i b hlt hb hB' (by omega) ha
      have es : spl B (b :: (toBytes s).drop (i + 1)) = ([], [], ahd (B ++ [b])) := by
        rw [spl, if_pos ha]
      rw [es]
      simp only [List.map_nil, List.append_nil, ofBytes_nil]
      exact .inl ⟨st1, loopH_ret e1, e2⟩
end Go.X.Try
set_option maxRecDepth 100000
set_option linter.unusedSimpArgs false
set_option linter.unusedVariables false
namespace Go.X.Try
open Go.IntWalk
theorem f41 (s : ByteArray) (hs : s.size ≤ 4000) : F41 [.one (.str s)] [] = some (.tup [.one (.row 0), .one (.str (ofBytes (spl [] (toBytes s)).2.1)), .one (.int .i64 (spl [] (toBytes s)).2.2)], [.rows (.recs 2 ((spl [] (toBytes s)).1.map frS))]) := by
  have h := loop41 s hs s.size 0 KK [] [] (by omega) (by rw [KK_eq]; omega) (by simp [isB]) (by simp) (by simp)
  have z : ((0 : Nat) : Int) = 0 := rfl
  rw [List.drop_zero] at h
  simp only [List.nil_append] at h
  generalize spl [] (toBytes s) = q at *
  rcases h with ⟨st1, e1, e2⟩ | ⟨env, e, g5, g6, he⟩
  · generalize hres : (some (AV.tup [.one (.row 0), .one (.str (ofBytes q.2.1)), .one (.int .i64 q.2.2)], [.rows (.recs 2 (q.1.map frS))]) : Res) = res at *
    rw [← e2]
    obtain ⟨env1, rts1, hp1⟩ := st1
    simp only [canon41, z] at e1
    have e1' : evF T41 KK c41 [.one (.str s)] [] = resC res41 (some (.ret, ⟨env1, rts1, hp1⟩)) := by
      unfold evF
      have hr2 : c41.results = res41 := rfl
      rw [hr2]
      refine congrArg _ ?_
      simp -implicitDefEqProofs [c41, upd, e1]
    exact e1'
  · simp only [canon41, z] at e
    rw [he]
    simp -implicitDefEqProofs [F41, c41, upd, e, g5, g6]
theorem frst_inv {B : List Int} (h : InvF B) : frst B = (none, 0, 0) := by
  unfold frst
  by_cases h0 : B = []
  · rw [if_pos h0]
  · rw [if_neg h0]
    rcases h with h | ⟨hk, h3⟩
    · exact absurd h h0
    · rw [if_neg (by rw [hk]; decide)]
      by_cases hl : B.length < 3
      · rw [if_pos hl]
      · obtain ⟨a, b⟩ := h3 (by omega)
        rw [if_neg hl, if_neg (by omega), if_pos b]
theorem szF_app {B : List Int} (l : List Int) (h : 3 ≤ B.length) : szF (B ++ l) = szF B := by
  match B, h with
  | x :: y :: z :: r, _ => rfl
theorem getD_app {B : List Int} (l : List Int) (h : B ≠ []) : (B ++ l).getD 0 0 = B.getD 0 0 := by
  cases B with
  | nil => exact absurd rfl h
  | cons x r => rfl
theorem spl_frst : ∀ (l B : List Int), InvF B → spl B l = match frst (B ++ l) with
    | (some f, n, _) => (f :: (spl [] ((B ++ l).drop n)).1, (spl [] ((B ++ l).drop n)).2)
    | (none, n, e) => if e = 0 then ([], B ++ l, 0) else ([], [], e)
  | [], B, h => by rw [List.append_nil, frst_inv h]; rfl
  | b :: l, B, h => by
    have hBl : B ++ b :: l = (B ++ [b]) ++ l := by simp
    have hne : B ++ [b] ≠ [] := by simp
    rw [hBl]
    rcases frst_step b h with ⟨g1, n, g2⟩ | ⟨g1, g2, g3, g4⟩ | ⟨g1, g2, g3⟩
    · rw [spl, if_pos g1]
      have hfr : frst (B ++ [b] ++ l) = (none, n, ahd (B ++ [b])) := by
        match B, h, g1, g2 with
        | [], _, g1, g2 =>
          cases hk : kd b with
          | true => exact absurd (if_pos hk) g1
          | false =>
            have e1 : frst ([] ++ [b]) = (none, 1, 6) := by unfold frst; simp [hk]
            have e2 : frst ([] ++ [b] ++ l) = (none, 1, 6) := by unfold frst; simp [hk]
            rw [e2, ← e1]; exact g2
        | [x], _, g1, _ => exact absurd rfl g1
        | [x, y], h, g1, g2 =>
          have hk : kd x = true := by
            rcases h with h | h
            · cases h
            · exact h.1
          by_cases h9 : 911 < szF [x, y, b]
          · have h9' : 911 < szF (x :: y :: b :: l) := h9
            have e1 : frst ([x, y] ++ [b]) = (none, 3, 5) := by unfold frst; simp [hk, h9]
            have e2 : frst ([x, y] ++ [b] ++ l) = (none, 3, 5) := by unfold frst; simp [hk, h9']
            rw [e2, ← e1]; exact g2
          · exact absurd (if_neg h9) g1
        | x :: y :: z :: r, _, g1, _ => exact absurd (by cases r <;> rfl) g1
      rw [hfr]
      simp only
      rw [if_neg g1]
    · have hlen : (B ++ [b]).length < szF (B ++ [b]) := by
        rcases g4 with g4 | ⟨_, g4⟩
        · exact absurd g4 hne
        · by_cases h3 : 3 ≤ (B ++ [b]).length
          · exact (g4 h3).2
          · have := szF_ge (B ++ [b]); omega
      rw [spl, if_neg (fun x => x g1), if_pos hlen]
      exact spl_frst l (B ++ [b]) g4
    · rw [spl, if_neg (fun x => x g1), if_neg (by omega)]
      have hge := szF_ge (B ++ [b])
      have h3 : 3 ≤ (B ++ [b]).length := by omega
      have hB3 : 3 ≤ B.length := by
        have : (B ++ [b]).length = B.length + 1 := by simp
        omega
      have hsz := szF_app [b] hB3
      obtain ⟨hk, h2⟩ : kd (B.getD 0 0) = true ∧ szF B ≤ 911 := by
        rcases h with h | h
        · subst h; simp at hB3
        · exact ⟨h.1, (h.2 hB3).1⟩
      have hBne : B ≠ [] := by intro c; subst c; simp at hB3
      have hfr : frst (B ++ [b] ++ l) = match whl (B ++ [b]) with
          | none => (none, szF (B ++ [b]), 4)
          | some f => (some f, szF (B ++ [b]), 0) := by
        unfold frst
        rw [if_neg (by simp), getD_app l hne, getD_app [b] hBne, if_neg (by rw [hk]; decide), szF_app l h3, if_neg (by rw [List.length_append]; omega), if_neg (by omega), if_neg (by rw [List.length_append]; omega), ← g2, List.take_left' rfl]
        all_goals (cases whl (B ++ [b]) <;> rfl)
      rw [hfr]
      cases whl (B ++ [b]) with
      | none => rfl
      | some f =>
        simp only
        rw [← g2, List.drop_left' rfl]
theorem frst_some {l : List Int} {f : Int × List Int} {n : Nat} {e : Int} (h : frst l = (some f, n, e)) : e = 0 ∧ 11 ≤ n ∧ n ≤ l.length := by
  unfold frst at h
  have hge := szF_ge l
  split at h
  · cases h
  · split at h
    · cases h
    · split at h
      · cases h
      · split at h
        · cases h
        · split at h
          · cases h
          · split at h
            · cases h
            · simp only [Prod.mk.injEq] at h
              obtain ⟨_, rfl, rfl⟩ := h
              exact ⟨rfl, hge, by omega⟩
theorem frst_none {l : List Int} {n : Nat} (h : frst l = (none, n, 0)) : n = 0 := by
  unfold frst at h
  split at h
  · simp only [Prod.mk.injEq] at h; omega
  · split at h
    · simp at h
    · split at h
      · simp only [Prod.mk.injEq] at h; omega
      · split at h
        · simp at h
        · split at h
          · simp only [Prod.mk.injEq] at h; omega
          · split at h
            · simp at h
            · cases h
/-! ### the law -/
def canon10 (s0 : ByteArray) (L : List (List Sc)) (R : List Int) (e : Int) (l : List Int) (W : List (List Sc)) : St :=
  ⟨[(0, .one (.str (ofBytes l))), (3, .one (.row 0)), (4, .one (.str (ofBytes R))), (5, .one (.int .i64 e)), (6, .one (.row 1))], [.str s0], [.rows (.recs 2 L), .rows (.recs 2 W)]⟩
theorem end10 (s0 : ByteArray) (W : List (Int × List Int)) (hW : W.length ≤ 90000) (R : List Int) (e : Int) (l : List Int) (hl : isB l) (hll : l.length ≤ 8000) (n : Nat) (e' : Int) (hf : frst l = (none, n, e')) (h : (e' ≠ 0 ∧ e = e' ∧ R = []) ∨ (e' = 0 ∧ n = 0 ∧ e = 0 ∧ R = l)) :
    ∃ st1, evC T10 KK b10x0 (canon10 s0 (W.map frS) R e l (W.map frS)) = some (.ret, st1) ∧ getT 2 st1.env = .one (.bool true) ∧ st1.rts = [.str s0] := by
  have e33 := f33 W hW
  have e34 := f34 l hl hll
  rw [hf] at e34
  generalize W.map frS = M at *
  simp only [fsA, tupFst] at e34
  rcases h with ⟨h1, rfl, rfl⟩ | ⟨rfl, rfl, rfl, rfl⟩
  · simp -implicitDefEqProofs [b10x0, canon10, upd, e33, e34, h1, ofBytes_nil]
  · simp -implicitDefEqProofs [b10x0, canon10, upd, e33, e34, ofBytes_nil]
theorem body10 (s0 : ByteArray) (L : List (List Sc)) (W : List (Int × List Int)) (hW : W.length ≤ 90000) (R : List Int) (e : Int) (l : List Int) (hl : isB l) (hll : l.length ≤ 8000) (n : Nat) (f : Int × List Int) (hf : frst l = (some f, n, 0)) :
    ∃ st1, evC T10 KK b10x0 (canon10 s0 L R e l (W.map frS)) = some (.norm, st1) ∧ St.head [0, 3, 4, 5, 6] st1 = canon10 s0 L R e (l.drop n) ((W ++ [f]).map frS) := by
  have e34 := f34 l hl hll
  rw [hf] at e34
  obtain ⟨_, h2, h3⟩ := frst_some hf
  have h2i : ¬ (n : Int) = 0 := by omega
  have h2n : ¬ n = 0 := by omega
  have h3i : (n : Int) ≤ l.length := by omega
  have hsz := size_ofBytes l
  have ex := ofBytes_extract l n l.length
  rw [List.take_of_length_le (by rw [List.length_drop]; omega)] at ex
  have hM : (W.map frS).length = W.length := List.length_map _
  have ho1 : (W.length + 1) * 24 ≤ 140737488355328 := by omega
  rw [List.map_append]
  simp only [List.map_cons, List.map_nil]
  generalize W.map frS = M at *
  simp only [fsA, tupFst] at e34
  simp -implicitDefEqProofs [b10x0, canon10, upd, e34, h2i, h2n, h3, h3i, hsz, ex, RC.ofElems, RC.app, RC.len, RC.size, ho1, hM, frS, scsOf, SV.sc]
theorem loop10 (s0 : ByteArray) (L : List (Int × List Int)) (R : List Int) (e : Int) : ∀ (m : Nat) (l : List Int) (W : List (Int × List Int)) (K : Nat), l.length ≤ m → isB l → m ≤ 4000 → W.length + m ≤ 80000 → m < K → (L, R, e) = (W ++ (spl [] l).1, (spl [] l).2) →
    ∃ st1, loopH (evC T10 KK b10x0) [0, 3, 4, 5, 6] K (canon10 s0 (L.map frS) R e l (W.map frS)) = some (.ret, st1) ∧ getT 2 st1.env = .one (.bool true) ∧ st1.rts = [.str s0] := by
  intro m
  induction m with
  | zero =>
    intro l W K hm hB h4 hW hK hq
    have h0 : l = [] := List.eq_nil_of_length_eq_zero (by omega)
    subst h0
    simp only [spl, List.append_nil, Prod.mk.injEq] at hq
    obtain ⟨rfl, rfl, rfl⟩ := hq
    obtain ⟨st1, e1, e2⟩ := end10 s0 L (by omega) [] 0 [] hB (by simp) 0 0 rfl (.inr ⟨rfl, rfl, rfl, rfl⟩)
    exact ⟨st1, loopH_ret e1, e2⟩
  | succ m ih =>
    intro l W K hm hB h4 hW hK hq
    have hs := spl_frst l [] (.inl rfl)
    rw [List.nil_append] at hs
    cases hf : frst l with
    | mk fo ne =>
      obtain ⟨n, e'⟩ := ne
      rw [hf] at hs
      cases fo with
      | none =>
        simp only at hs
        by_cases he : e' = 0
        · rw [if_pos he] at hs
          rw [hs] at hq
          simp only [List.append_nil, Prod.mk.injEq] at hq
          obtain ⟨rfl, rfl, rfl⟩ := hq
          subst he
          obtain ⟨st1, e1, e2⟩ := end10 s0 L (by omega) R 0 R hB (by omega) n 0 hf (.inr ⟨rfl, frst_none hf, rfl, rfl⟩)
          exact ⟨st1, loopH_ret e1, e2⟩
        · rw [if_neg he] at hs
          rw [hs] at hq
          simp only [List.append_nil, Prod.mk.injEq] at hq
          obtain ⟨rfl, rfl, rfl⟩ := hq
          obtain ⟨st1, e1, e2⟩ := end10 s0 L (by omega) [] e l hB (by omega) n e hf (.inl ⟨he, rfl, rfl⟩)
          exact ⟨st1, loopH_ret e1, e2⟩
      | some f =>
        obtain ⟨rfl, h2, h3⟩ := frst_some hf
        simp only at hs
        obtain ⟨st1, e1, e2⟩ := body10 s0 (L.map frS) W (by omega) R e l hB (by omega) n f hf
        have := ih (l.drop n) (W ++ [f]) (K - 1) (by rw [List.length_drop]; omega) (isB_drop n hB) (by omega) (by rw [List.length_append]; simp only [List.length_cons, List.length_nil]; omega) (by omega) (by rw [hq, hs, List.append_assoc, List.singleton_append])
        rw [loopH_norm e1 (by omega), e2]
        exact this
theorem law10 (s : ByteArray) (_ : s.size ≤ maxLen) : F10 [.one (.str s)] [] = some (.one (.bool true), []) := by
  by_cases h2 : 200 < s.size
  · have h2i : (200 : Int) < s.size := by omega
    simp -implicitDefEqProofs [F10, c10, upd, h24, h2, h2i]
  have h2i : ¬ (200 : Int) < s.size := by omega
  have e41 := f41 s (by omega)
  have hl := toBytes_length s
  obtain ⟨st1, e, g2, g3⟩ := loop10 s (spl [] (toBytes s)).1 (spl [] (toBytes s)).2.1 (spl [] (toBytes s)).2.2 (toBytes s).length (toBytes s) [] KK (by omega) (isB_toBytes s) (by omega) (by simp only [List.length_nil]; omega) (by rw [KK_eq]; omega) rfl
  obtain ⟨env1, rts1, hp1⟩ := st1
  simp only at g2 g3
  subst g3
  simp only [canon10, List.map_nil, ofBytes_toBytes] at e
  generalize (spl [] (toBytes s)).1.map frS = M at *
  generalize (spl [] (toBytes s)).2.1 = R at *
  generalize (spl [] (toBytes s)).2.2 = er at *
  simp -implicitDefEqProofs [F10, c10, upd, h24, h2, h2i, e41, e, g2]
end Go.X.Try
set_option maxRecDepth 100000
set_option linter.unusedSimpArgs false
set_option linter.unusedVariables false
namespace Go.X.Try
open Go.IntWalk
/-! ### what others put in: first what is sent -/
def rts9 (L : List (List Sc)) (Os : List ByteArray) (A : List Int) : List SV := [.ro 0 (.recs 2 L), .ro 1 (.strs Os), .ro 2 (.ints .u8 A)]
def canon9a (Os : List ByteArray) (A : List Int) (L : List (List Sc)) (i : Int) (se : List Int) (sf : Option (Nat × Nat)) (X : List (List Sc)) (h n : Int) (S : List (List Sc)) : St :=
  ⟨[(1, .one (.ro 1 (.strs Os))), (2, .one (.ro 2 (.ints .u8 A))), (7, .one (.ptr 0 0)), (8, .one (.str (ofBytes se))), (9, .one (.row 3)), (43, .one (.ro 0 (.recs 2 L))), (44, .one (.int .i64 L.length)), (45, .one (.int .i64 i))],
    rts9 L Os A, [.cells none (pipeCells 2048 (slv 1 sf) (.row 2) h n), .rows (.recs 3 X), .rows (.recs 3 []), .rows (.recs 2 S)]⟩
theorem ret9a (Os : List ByteArray) (A : List Int) (L : List (List Sc)) (i : Nat) (se : List Int) (sf : Option (Nat × Nat)) (X : List (List Sc)) (h n : Int) (S : List (List Sc)) (hi : i < L.length) (k : Int) (s : ByteArray) (hg : L[i]?.getD [] = [.int .i64 k, .str s]) (hs : 60 < s.size) :
    ∃ st1, evC T9 KK b9x0 (canon9a Os A L i se sf X h n S) = some (.ret, st1) ∧ getT 6 st1.env = .one (.bool true) ∧ st1.rts = rts9 L Os A := by
  have hii : (i : Int) < L.length := by omega
  have hsi : (60 : Int) < s.size := by omega
  have hgM : ∀ hh, L[i]'hh = [.int .i64 k, .str s] := fun hh => by rw [List.getElem?_eq_getElem hh] at hg; exact hg
  simp -implicitDefEqProofs [b9x0, canon9a, rts9, upd, hi, hii, hg, hgM, hs, hsi, RC.len, RC.size, RC.elem, takeE, pipeCells]
theorem bad9a (Os : List ByteArray) (A : List Int) (L : List (List Sc)) (i : Nat) (se : List Int) (sf : Option (Nat × Nat)) (X : List (List Sc)) (h n : Int) (S : List (List Sc)) (hi : i < L.length) (k : Int) (s : ByteArray) (hg : L[i]?.getD [] = [.int .i64 k, .str s]) (hs : ¬ 60 < s.size) (hr : rgt k s.size ≠ 0) (i' : Int) (wi : IntKind.i64.wrap ((i : Int) + 1) = i') :
    ∃ st1, evC T9 KK b9x0 (canon9a Os A L i se sf X h n S) = some (.norm, st1) ∧ St.head [1, 2, 7, 8, 9, 43, 44, 45] st1 = canon9a Os A L i' se sf X h n S := by
  have hii : (i : Int) < L.length := by omega
  have hsi : ¬ (60 : Int) < s.size := by omega
  have e27 := f27g k s
  rw [if_neg hr] at e27
  have hgM : ∀ hh, L[i]'hh = [.int .i64 k, .str s] := fun hh => by rw [List.getElem?_eq_getElem hh] at hg; exact hg
  generalize rgt k s.size = e at *
  simp only [tupSI] at e27
  simp -implicitDefEqProofs [b9x0, canon9a, rts9, upd, hi, hii, hg, hgM, hs, hsi, e27, hr, wi, RC.len, RC.size, RC.elem, takeE, pipeCells]
theorem good9a (Os : List ByteArray) (A : List Int) (L : List (List Sc)) (i : Nat) (se : List Int) (sf : Option (Nat × Nat)) (X : List (List Sc)) (h n : Int) (S : List (List Sc)) (hi : i < L.length) (k : Int) (s : ByteArray) (hg : L[i]?.getD [] = [.int .i64 k, .str s]) (hs : ¬ 60 < s.size) (hr : rgt k s.size = 0) (i' : Int) (wi : IntKind.i64.wrap ((i : Int) + 1) = i')
    (hok : okv X sf) (hX : (cont X sf).length + s.size + 11 ≤ 2048) (hS : S.length ≤ 100) (hse : se.length ≤ 5000) :
    ∃ sf' X' st1, evC T9 KK b9x0 (canon9a Os A L i se sf X h n S) = some (.norm, st1) ∧
      St.head [1, 2, 7, 8, 9, 43, 44, 45] st1 = canon9a Os A L i' (se ++ frB k (toBytes s)) sf' X' ((frB k (toBytes s)).foldl sbyte (h, n)).1 ((frB k (toBytes s)).foldl sbyte (h, n)).2 (S ++ [[.int .i64 k, .str s]]) ∧ cont X' sf' = cont X sf ++ sendR (h, n) (frB k (toBytes s)) ∧ okv X' sf' := by
  have hii : (i : Int) < L.length := by omega
  have hsi : ¬ (60 : Int) < s.size := by omega
  have e27 := f27g k s
  rw [if_pos hr] at e27
  have hBf : isB (frB k (toBytes s)) := frB_isB (isB_toBytes s)
  have hlen : (frB k (toBytes s)).length = s.size + 11 := by rw [frB_length, size_toBytes]
  have hXl := cont_len X sf hok
  obtain ⟨sf', X', e30, hX', hok'⟩ := f30 (ofBytes (frB k (toBytes s))) 2048 h n sf none X [] (by decide) (by omega) (by simp [slen]) hok (by rw [size_ofBytes, hlen, show slen ([] : List (List Sc)) none = 0 from rfl]; omega)
  rw [toBytes_ofBytes hBf] at e30 hX'
  refine ⟨sf', X', ?_⟩
  have hgM : ∀ hh, L[i]'hh = [.int .i64 k, .str s] := fun hh => by rw [List.getElem?_eq_getElem hh] at hg; exact hg
  have hS1 : (S.length + 1) * 24 ≤ 140737488355328 := by omega
  have p1 := ofBytes_append se (frB k (toBytes s))
  have a1 : (ofBytes se).size + (ofBytes (frB k (toBytes s))).size ≤ 9223372036854775807 := by rw [size_ofBytes, size_ofBytes, hlen]; omega
  generalize ((frB k (toBytes s)).foldl sbyte (h, n)).1 = hh at *
  generalize ((frB k (toBytes s)).foldl sbyte (h, n)).2 = nn at *
  generalize hss : se ++ frB k (toBytes s) = se' at *
  generalize ofBytes (frB k (toBytes s)) = fb at *
  simp only [tupSI, pipeHp, pipeCells, slv_none] at e27 e30
  simp -implicitDefEqProofs [b9x0, canon9a, rts9, upd, hi, hii, hg, hgM, hs, hsi, e27, e30, hX', hok', wi, p1, a1, RC.len, RC.size, RC.elem, RC.ofElems, RC.app, takeE, pipeCells, hS1, scsOf, SV.sc]
theorem end9a (Os : List ByteArray) (A : List Int) (L : List (List Sc)) (se : List Int) (sf : Option (Nat × Nat)) (X : List (List Sc)) (h n : Int) (S : List (List Sc)) :
    ∃ env, evC T9 KK b9x0 (canon9a Os A L L.length se sf X h n S) = some (.exit 0, ⟨env, rts9 L Os A, (canon9a Os A L L.length se sf X h n S).hp⟩) ∧ getT 1 env = .one (.ro 1 (.strs Os)) ∧ getT 2 env = .one (.ro 2 (.ints .u8 A)) ∧ getT 7 env = .one (.ptr 0 0) ∧ getT 8 env = .one (.str (ofBytes se)) ∧ getT 9 env = .one (.row 3) := by
  simp -implicitDefEqProofs [b9x0, canon9a, upd]
/-- All that may be is sent, or something is too long. -/
theorem loop9a (Os : List ByteArray) (A : List Int) (Ls : List Fr) (hL : Ls.length ≤ 4) : ∀ (j i K : Nat) (se : List Int) (sf : Option (Nat × Nat)) (X : List (List Sc)) (h n : Int) (Sd : List Fr), i + j = Ls.length → j < K → okv X sf → (cont X sf).length ≤ 71 * i → Sd.length ≤ i → se.length ≤ 71 * i →
    (∃ st1, loopH (evC T9 KK b9x0) [1, 2, 7, 8, 9, 43, 44, 45] K (canon9a Os A (Ls.map frE) i se sf X h n (Sd.map frE)) = some (.ret, st1) ∧ getT 6 st1.env = .one (.bool true) ∧ st1.rts = rts9 (Ls.map frE) Os A) ∨
    (∃ env sf' X', loopH (evC T9 KK b9x0) [1, 2, 7, 8, 9, 43, 44, 45] K (canon9a Os A (Ls.map frE) i se sf X h n (Sd.map frE)) = some (.exit 0, ⟨env, rts9 (Ls.map frE) Os A, (canon9a Os A (Ls.map frE) i se sf' X' ((frs (goodF (Ls.drop i))).foldl sbyte (h, n)).1 ((frs (goodF (Ls.drop i))).foldl sbyte (h, n)).2 ((Sd ++ (Ls.drop i).filter fun f => decide (rgt f.1 f.2.size = 0)).map frE)).hp⟩) ∧
      cont X' sf' = cont X sf ++ sendR (h, n) (frs (goodF (Ls.drop i))) ∧ okv X' sf' ∧ (cont X' sf').length ≤ 71 * Ls.length ∧
      getT 1 env = .one (.ro 1 (.strs Os)) ∧ getT 2 env = .one (.ro 2 (.ints .u8 A)) ∧ getT 7 env = .one (.ptr 0 0) ∧ getT 8 env = .one (.str (ofBytes (se ++ frs (goodF (Ls.drop i))))) ∧ getT 9 env = .one (.row 3))
  | 0, i, K, se, sf, X, h, n, Sd, hi, hK, hok, hX, hS, hse => by
    right
    have hd : Ls.drop i = [] := List.drop_eq_nil_of_le (by omega)
    have hm : (Ls.map frE).length = i := by rw [List.length_map]; omega
    obtain ⟨env, e, g1, g2, g7, g8, g9⟩ := end9a Os A (Ls.map frE) se sf X h n (Sd.map frE)
    rw [hm] at e
    refine ⟨env, sf, X, ?_, ?_, hok, by omega, g1, g2, g7, ?_, g9⟩
    · rw [loopH_exit e, hd]
      simp only [goodF, List.filter_nil, List.map_nil, frs, List.flatMap_nil, List.foldl_nil, List.append_nil]
    · rw [hd]; simp [goodF, frs, sendR]
    · rw [g8, hd]; simp [goodF, frs]
  | j + 1, i, K, se, sf, X, h, n, Sd, hi, hK, hok, hX, hS, hse => by
    have hlt : i < Ls.length := by omega
    have hd : Ls.drop i = Ls[i] :: Ls.drop (i + 1) := List.drop_eq_getElem_cons hlt
    have hm : i < (Ls.map frE).length := by rw [List.length_map]; exact hlt
    have hg : (Ls.map frE)[i]?.getD [] = [.int .i64 Ls[i].1, .str Ls[i].2] := by rw [List.getElem?_map, List.getElem?_eq_getElem hlt]; rfl
    have wi : IntKind.i64.wrap ((i : Int) + 1) = ((i + 1 : Nat) : Int) := by rw [i64_in _ (by omega)]; omega
    by_cases hs : 60 < (Ls[i]).2.size
    · obtain ⟨st1, e1, e2⟩ := ret9a Os A (Ls.map frE) i se sf X h n (Sd.map frE) hm _ _ hg hs
      exact .inl ⟨st1, loopH_ret e1, e2⟩
    · by_cases hr : rgt (Ls[i]).1 (Ls[i]).2.size = 0
      · obtain ⟨sf1, X1, st1, e1, e2, g1, g2⟩ := good9a Os A (Ls.map frE) i se sf X h n (Sd.map frE) hm _ _ hg hs hr _ wi hok (by omega) (by rw [List.length_map]; omega) (by omega)
        have hfl : (frB (Ls[i]).1 (toBytes (Ls[i]).2)).length = (Ls[i]).2.size + 11 := by rw [frB_length, size_toBytes]
        have hl1 : (cont X1 sf1).length ≤ 71 * (i + 1) := by rw [g1, List.length_append, sendR_length, hfl]; omega
        have eS : Sd.map frE ++ [[.int .i64 (Ls[i]).1, .str (Ls[i]).2]] = (Sd ++ [Ls[i]]).map frE := by rw [List.map_append]; rfl
        rw [eS] at e2
        have ih := loop9a Os A Ls hL j (i + 1) (K - 1) (se ++ frB (Ls[i]).1 (toBytes (Ls[i]).2)) sf1 X1 ((frB (Ls[i]).1 (toBytes (Ls[i]).2)).foldl sbyte (h, n)).1 ((frB (Ls[i]).1 (toBytes (Ls[i]).2)).foldl sbyte (h, n)).2 (Sd ++ [Ls[i]]) (by omega) (by omega) g2 hl1 (by rw [List.length_append]; simp only [List.length_cons, List.length_nil]; omega) (by rw [List.length_append, hfl]; omega)
        have eg : goodF (Ls.drop i) = ((Ls[i]).1, toBytes (Ls[i]).2) :: goodF (Ls.drop (i + 1)) := by
          rw [hd]; unfold goodF; rw [List.filter_cons, if_pos (rgt_true hr)]; rfl
        have ef : (Ls.drop i).filter (fun f => decide (rgt f.1 f.2.size = 0)) = Ls[i] :: (Ls.drop (i + 1)).filter (fun f => decide (rgt f.1 f.2.size = 0)) := by
          rw [hd, List.filter_cons, if_pos (rgt_true hr)]
        have efr : frs (goodF (Ls.drop i)) = frB (Ls[i]).1 (toBytes (Ls[i]).2) ++ frs (goodF (Ls.drop (i + 1))) := by rw [eg]; rfl
        have pe : ∀ p : Int × Int, (p.1, p.2) = p := fun _ => rfl
        rw [pe] at ih
        rw [loopH_norm e1 (by omega), e2]
        rcases ih with ⟨st2, q1, q2⟩ | ⟨env, sf', X', q1, q2, q3, q4, q5, q6, q7, q8, q9⟩
        · exact .inl ⟨st2, q1, q2⟩
        · refine .inr ⟨env, sf', X', ?_, ?_, q3, q4, q5, q6, q7, ?_, q9⟩
          · rw [efr, List.foldl_append, ef]
            rw [List.append_assoc, List.singleton_append] at q1
            exact q1
          · rw [q2, g1, efr, sendT_rec, sendT_rec, sendT_rec, sendT_append, List.map_append, List.append_assoc]
          · rw [q8, efr, List.append_assoc]
      · obtain ⟨st1, e1, e2⟩ := bad9a Os A (Ls.map frE) i se sf X h n (Sd.map frE) hm _ _ hg hs hr _ wi
        have ih := loop9a Os A Ls hL j (i + 1) (K - 1) se sf X h n Sd (by omega) (by omega) hok (by omega) (by omega) (by omega)
        have eg : goodF (Ls.drop i) = goodF (Ls.drop (i + 1)) := by
          rw [hd]; unfold goodF; rw [List.filter_cons, if_neg (by rw [decide_eq_true_eq]; exact hr)]
        have ef : (Ls.drop i).filter (fun f => decide (rgt f.1 f.2.size = 0)) = (Ls.drop (i + 1)).filter (fun f => decide (rgt f.1 f.2.size = 0)) := by
          rw [hd, List.filter_cons, if_neg (by rw [decide_eq_true_eq]; exact hr)]
        rw [loopH_norm e1 (by omega), e2, eg, ef]
        exact ih
end Go.X.Try
set_option maxRecDepth 100000
set_option linter.unusedSimpArgs false
set_option linter.unusedVariables false
namespace Go.X.Try
open Go.IntWalk
/-! ### .. then what others put in .. -/
def canon9b (rts : List SV) (Os : List ByteArray) (A : List Int) (i : Int) (se : List Int) (sf sc : Option (Nat × Nat)) (X Y : List (List Sc)) (h n : Int) (S : List (List Sc)) : St :=
  ⟨[(2, .one (.ro 2 (.ints .u8 A))), (7, .one (.ptr 0 0)), (8, .one (.str (ofBytes se))), (9, .one (.row 3)), (71, .one (.ro 1 (.strs Os))), (72, .one (.int .i64 Os.length)), (73, .one (.int .i64 i))],
    rts, [.cells none (pipeCells 2048 (slv 1 sf) (slv 2 sc) h n), .rows (.recs 3 X), .rows (.recs 3 Y), .rows (.recs 2 S)]⟩
theorem ret9b (L : List (List Sc)) (Os : List ByteArray) (A : List Int) (i : Nat) (se : List Int) (sf sc : Option (Nat × Nat)) (X Y : List (List Sc)) (h n : Int) (S : List (List Sc)) (hi : i < Os.length) (s : ByteArray) (hg : Os[i]?.getD .empty = s) (hs : 100 < s.size) :
    ∃ st1, evC T9 KK b9x1 (canon9b (rts9 L Os A) Os A i se sf sc X Y h n S) = some (.ret, st1) ∧ getT 6 st1.env = .one (.bool true) ∧ st1.rts = rts9 L Os A := by
  have hii : (i : Int) < Os.length := by omega
  have hsi : (100 : Int) < s.size := by omega
  have hgM : ∀ hh, Os[i]'hh = s := fun hh => by rw [List.getElem?_eq_getElem hh] at hg; exact hg
  simp -implicitDefEqProofs [b9x1, canon9b, rts9, upd, hi, hii, hg, hgM, hs, hsi, RC.len, RC.size, RC.get, pipeCells]
theorem body9b (L : List (List Sc)) (Os : List ByteArray) (A : List Int) (i : Nat) (se : List Int) (sf sc : Option (Nat × Nat)) (X Y : List (List Sc)) (h n : Int) (S : List (List Sc)) (hi : i < Os.length) (hiA : i < A.length) (s : ByteArray) (hg : Os[i]?.getD .empty = s) (hs : ¬ 100 < s.size)
    (d : Int) (hd : A[i]?.getD 0 = d) (hd2 : 0 ≤ d ∧ d < 256) (i' : Int) (wi : IntKind.i64.wrap ((i : Int) + 1) = i') (okX : okv X sf) (okY : okv Y sc) (hr : slen X sf + slen Y sc + 100 ≤ 2048) (v : Nat) (hv : v = if d < 0 then 0 else if d < slen X sf then d.toNat else slen X sf) :
    ∃ sf' sc' X' Y' st1, evC T9 KK b9x1 (canon9b (rts9 L Os A) Os A i se sf sc X Y h n S) = some (.norm, st1) ∧
      St.head [2, 7, 8, 9, 71, 72, 73] st1 = canon9b (rts9 L Os A) Os A i' se sf' sc' X' Y' h n S ∧ cont X' sf' = (cont X sf).drop v ∧ okv X' sf' ∧ cont Y' sc' = cont Y sc ++ (cont X sf).take v ++ (toBytes s).map recI ∧ okv Y' sc' := by
  have hii : (i : Int) < Os.length := by omega
  have hiiA : (i : Int) < A.length := by omega
  have hsi : ¬ (100 : Int) < s.size := by omega
  have hgM : ∀ hh, Os[i]'hh = s := fun hh => by rw [List.getElem?_eq_getElem hh] at hg; exact hg
  have hgA : ∀ hh, A[i]'hh = d := fun hh => by rw [List.getElem?_eq_getElem hh] at hd; exact hd
  have wd : IntKind.i64.wrap d = d := i64_in _ (by omega)
  have lX := cont_len X sf okX
  have lY := cont_len Y sc okY
  obtain ⟨sf1, sc1, X1, Y1, e31, hX1, okX1, hY1, okY1⟩ := f31 2048 h n d sf sc X Y (by omega) (by omega) okX okY v hv
  have lX1 := cont_len X1 sf1 okX1
  have lY1 := cont_len Y1 sc1 okY1
  have hv2 : v ≤ slen X sf := by
    rw [hv]; split
    · omega
    · split
      · omega
      · omega
  rw [hX1, List.length_drop] at lX1
  rw [hY1, List.length_append, List.length_take] at lY1
  obtain ⟨sc2, Y2, e38, hY2, okY2⟩ := f38 s 2048 h n sf1 sc1 X1 Y1 (by decide) (by omega) (by omega) okY1 (by omega)
  refine ⟨sf1, sc2, X1, Y2, ?_⟩
  rw [← hY1]
  simp only [pipeHp, pipeCells] at e31 e38
  simp -implicitDefEqProofs [b9x1, canon9b, rts9, upd, hi, hii, hiA, hiiA, hg, hgM, hd, hgA, hs, hsi, wd, e31, e38, hX1, okX1, hY2, okY2, wi, RC.len, RC.size, RC.get, pipeCells]
theorem end9b (rts : List SV) (Os : List ByteArray) (A : List Int) (se : List Int) (sf sc : Option (Nat × Nat)) (X Y : List (List Sc)) (h n : Int) (S : List (List Sc)) :
    ∃ env, evC T9 KK b9x1 (canon9b rts Os A Os.length se sf sc X Y h n S) = some (.exit 2, ⟨env, rts, (canon9b rts Os A Os.length se sf sc X Y h n S).hp⟩) ∧ getT 7 env = .one (.ptr 0 0) ∧ getT 8 env = .one (.str (ofBytes se)) ∧ getT 9 env = .one (.row 3) := by
  simp -implicitDefEqProofs [b9x1, canon9b, upd]
theorem mapI (l : List Int) : l.map recI = (l.map fun b => ((b, 0, false) : By)).map rec3 := by
  rw [List.map_map]; rfl
theorem filterI (l : List Int) : (l.map fun b => ((b, 0, false) : By)).filter (fun r => r.2.2) = [] := by
  induction l with
  | nil => rfl
  | cons b l ih => simp only [List.map_cons, List.filter_cons]; exact ih
theorem filterT : ∀ (l : List Int) (p : Int × Int), (sendT p l).filter (fun r => r.2.2) = sendT p l
  | [], _ => rfl
  | b :: l, p => by simp only [sendT, List.filter_cons, if_true, filterT l]
theorem loop9b (L : List (List Sc)) (Os : List ByteArray) (A : List Int) (hO : Os.length ≤ 4) (hA : A.length = Os.length) (hA2 : ∀ x ∈ A, 0 ≤ x ∧ x < 256) (F : List Int) (hF : isB F) (hFl : F.length ≤ 300) (p : Int × Int) (se : List Int) (h n : Int) (S : List (List Sc)) : ∀ (j i K : Nat) (sf sc : Option (Nat × Nat)) (X Y : List (List Sc)) (C Tr : List By), i + j = Os.length → j < K →
    cont X sf = Tr.map rec3 → okv X sf → cont Y sc = C.map rec3 → okv Y sc → C.filter (fun r => r.2.2) ++ Tr = sendT p F → (∀ r ∈ C, 0 ≤ r.1 ∧ r.1 < 256) → C.length + Tr.length ≤ 300 + 100 * i →
    (∃ st1, loopH (evC T9 KK b9x1) [2, 7, 8, 9, 71, 72, 73] K (canon9b (rts9 L Os A) Os A i se sf sc X Y h n S) = some (.ret, st1) ∧ getT 6 st1.env = .one (.bool true) ∧ st1.rts = rts9 L Os A) ∨
    (∃ (env : Env) (sf' sc' : Option (Nat × Nat)) (X' Y' : List (List Sc)) (C' Tr' : List By), loopH (evC T9 KK b9x1) [2, 7, 8, 9, 71, 72, 73] K (canon9b (rts9 L Os A) Os A i se sf sc X Y h n S) = some (.exit 2, ⟨env, rts9 L Os A, (canon9b (rts9 L Os A) Os A i se sf' sc' X' Y' h n S).hp⟩) ∧
      cont X' sf' = Tr'.map rec3 ∧ okv X' sf' ∧ cont Y' sc' = C'.map rec3 ∧ okv Y' sc' ∧ C'.filter (fun r => r.2.2) ++ Tr' = sendT p F ∧ (∀ r ∈ C', 0 ≤ r.1 ∧ r.1 < 256) ∧ C'.length + Tr'.length ≤ 700 ∧
      getT 7 env = .one (.ptr 0 0) ∧ getT 8 env = .one (.str (ofBytes se)) ∧ getT 9 env = .one (.row 3))
  | 0, i, K, sf, sc, X, Y, C, Tr, hi, hK, hX, okX, hY, okY, hT, hC, hl => by
    right
    obtain rfl : i = Os.length := by omega
    obtain ⟨env, e, g⟩ := end9b (rts9 L Os A) Os A se sf sc X Y h n S
    exact ⟨env, sf, sc, X, Y, C, Tr, loopH_exit e, hX, okX, hY, okY, hT, hC, by omega, g⟩
  | j + 1, i, K, sf, sc, X, Y, C, Tr, hi, hK, hX, okX, hY, okY, hT, hC, hl => by
    have hlt : i < Os.length := by omega
    have hltA : i < A.length := by omega
    have hg : Os[i]?.getD .empty = Os[i] := by rw [List.getElem?_eq_getElem hlt]; rfl
    have hd : A[i]?.getD 0 = A[i] := by rw [List.getElem?_eq_getElem hltA]; rfl
    have wi : IntKind.i64.wrap ((i : Int) + 1) = ((i + 1 : Nat) : Int) := by rw [i64_in _ (by omega)]; omega
    by_cases hs : 100 < (Os[i]).size
    · obtain ⟨st1, e1, e2⟩ := ret9b L Os A i se sf sc X Y h n S hlt _ hg hs
      exact .inl ⟨st1, loopH_ret e1, e2⟩
    · have lX := cont_len X sf okX
      have lY := cont_len Y sc okY
      rw [hX, List.length_map] at lX
      rw [hY, List.length_map] at lY
      obtain ⟨v, hv⟩ : ∃ v, v = if A[i] < 0 then 0 else if A[i] < slen X sf then (A[i]).toNat else slen X sf := ⟨_, rfl⟩
      obtain ⟨sf1, sc1, X1, Y1, st1, e1, e2, g1, g2, g3, g4⟩ := body9b L Os A i se sf sc X Y h n S hlt hltA _ hg hs _ hd (hA2 _ (List.getElem_mem hltA)) _ wi okX okY (by omega) v hv
      have hC1 : ∀ r ∈ C ++ Tr.take v ++ (toBytes Os[i]).map (fun b => ((b, 0, false) : By)), 0 ≤ r.1 ∧ r.1 < 256 := by
        intro r hr
        rcases List.mem_append.1 hr with hr | hr
        · rcases List.mem_append.1 hr with hr | hr
          · exact hC r hr
          · exact (rec3_isB hF hT.symm).2 r (List.mem_of_mem_take hr)
        · obtain ⟨b, hb, rfl⟩ := List.mem_map.1 hr
          exact isB_toBytes _ b hb
      have hf1 : (C ++ Tr.take v ++ (toBytes Os[i]).map (fun b => ((b, 0, false) : By))).filter (fun r => r.2.2) ++ Tr.drop v = sendT p F := by
        have h1 : Tr.filter (fun r => r.2.2) = Tr := by
          have h2 := filterT F p
          rw [← hT, List.filter_append, List.filter_filter] at h2
          simp only [Bool.and_self] at h2
          exact List.append_cancel_left h2
        have h3 : (Tr.take v).filter (fun r => r.2.2) = Tr.take v := by
          rw [List.filter_eq_self]
          intro r hr
          rw [← h1] at hr
          exact (List.mem_filter.1 (List.mem_of_mem_take hr)).2
        rw [List.filter_append, List.filter_append, filterI, h3, List.append_nil, List.append_assoc, List.take_append_drop]
        exact hT
      have ih := loop9b L Os A hO hA hA2 F hF hFl p se h n S j (i + 1) (K - 1) sf1 sc1 X1 Y1 (C ++ Tr.take v ++ (toBytes Os[i]).map (fun b => ((b, 0, false) : By))) (Tr.drop v) (by omega) (by omega) (by rw [g1, hX, List.map_drop]) g2 (by rw [g3, hX, hY, mapI, List.map_append, List.map_append, List.map_take]) g4 hf1 hC1 (by
        rw [List.length_append, List.length_append, List.length_map, List.length_take, List.length_drop, size_toBytes]; omega)
      rw [loopH_norm e1 (by omega), e2]
      exact ih
end Go.X.Try
set_option maxRecDepth 100000
set_option linter.unusedSimpArgs false
set_option linter.unusedVariables false
namespace Go.X.Try
open Go.IntWalk
/-! ### .. and what is taken -/
def canon9c (rts : List SV) (F : List Int) (G : List (Int × List Int)) (sf sc : Option (Nat × Nat)) (X Y : List (List Sc)) (h n : Int) (c : Ct) (al : List Int) (t k : Nat) : St :=
  ⟨[(7, .one (.ptr 0 0)), (8, .one (.str (ofBytes F))), (9, .one (.row 3)), (16, .one (.ptr 4 0)), (17, .one (.str (ofBytes al))), (18, .one (.int .i64 t)), (19, .one (.int .i64 k))], rts,
    [.cells none (pipeCells 2048 (slv 1 sf) (slv 2 sc) h n), .rows (.recs 3 X), .rows (.recs 3 Y), .rows (.recs 2 (G.map frS)), .cells none [.row 5, .int .u64 c.h, .int .u64 c.n, .int .i64 c.e, .int .i64 c.m], .rows (.ints .u8 c.B)]⟩
abbrev live9 : List Nat := [7, 8, 9, 16, 17, 18, 19]
def done9 (rts : List SV) (r : Option (Ex × St)) : Prop := ∃ st1, r = some (.ret, st1) ∧ getT 6 st1.env = .one (.bool true) ∧ st1.rts = rts
theorem end9c (L : List (List Sc)) (Os : List ByteArray) (A : List Int) (F : List Int) (G : List (Int × List Int)) (sf sc : Option (Nat × Nat)) (X Y : List (List Sc)) (h n : Int) (c : Ct) (al : List Int) (t k : Nat) (okY : okv Y sc) (hY : cont Y sc = []) :
    done9 (rts9 L Os A) (evC T9 KK b9x2 (canon9c (rts9 L Os A) F G sf sc X Y h n c al t k)) := by
  have e39 := f39' 2048 h n sf sc X Y okY hY
  simp only [pipeHp, pipeCells] at e39
  unfold done9
  simp -implicitDefEqProofs [b9x2, canon9c, rts9, upd, e39, pipeCells]
def cnt (r : By) : Nat := if r.2.2 = true then 1 else 0
section
variable (L : List (List Sc)) (Os : List ByteArray) (A : List Int) (F : List Int) (G : List (Int × List Int)) (sf sc : Option (Nat × Nat)) (X Y : List (List Sc)) (h n : Int) (c : Ct) (al : List Int) (t k : Nat) (r : By) (rs : List By)
  (okY : okv Y sc) (hYl : slen Y sc ≤ 4000) (hY : cont Y sc = rec3 r :: rs.map rec3) (hB : isB c.B) (hr : 0 ≤ r.1 ∧ r.1 < 256) (hcl : c.B.length ≤ 8000) (hm : 0 ≤ c.m ∧ c.m < 2 ^ 62) (hal : al.length ≤ 5000) (hk : k ≤ 100000)
include okY hYl hY hB hr hcl hm hal hk
theorem err9c (he : (feed c r.1 r.2.1 r.2.2).2.2 ≠ 0) (hn : (feed c r.1 r.2.1 r.2.2).2.1 = none) : done9 (rts9 L Os A) (evC T9 KK b9x2 (canon9c (rts9 L Os A) F G sf sc X Y h n c al t k)) := by
  obtain ⟨b, s, sl⟩ := r
  obtain ⟨sc', Y', e39, _, _⟩ := f39 2048 h n sf sc X Y okY hYl _ b s sl hY
  have e35 := f35 c b s sl hB hr hcl hm
  have a1 := add1 al b (by omega)
  have p1 := ofBytes_append al [b]
  have wk : IntKind.i64.wrap ((k : Int) + 1) = (k : Int) + 1 := i64_in _ (by omega)
  simp only at he hn
  generalize feed c b s sl = fd at *
  obtain ⟨c', fo, er⟩ := fd
  simp only at he hn
  subst hn
  simp only [pipeHp, pipeCells, Ct.hp, cutHp, fdA, tupFd] at e39 e35
  unfold done9
  cases sl <;> simp -implicitDefEqProofs [b9x2, canon9c, rts9, upd, e39, e35, he, a1, p1, wk, RC.ofElems, pipeCells]
theorem go9c (he : (feed c r.1 r.2.1 r.2.2).2.2 = 0) (hn : (feed c r.1 r.2.1 r.2.2).2.1 = none) : ∃ sc' Y' st1, evC T9 KK b9x2 (canon9c (rts9 L Os A) F G sf sc X Y h n c al t k) = some (.norm, st1) ∧
    St.head live9 st1 = canon9c (rts9 L Os A) F G sf sc' X Y' h n (feed c r.1 r.2.1 r.2.2).1 (al ++ [r.1]) t (k + cnt r) ∧ cont Y' sc' = rs.map rec3 ∧ okv Y' sc' := by
  obtain ⟨b, s, sl⟩ := r
  obtain ⟨sc', Y', e39, hY', okY'⟩ := f39 2048 h n sf sc X Y okY hYl _ b s sl hY
  have e35 := f35 c b s sl hB hr hcl hm
  have a1 := add1 al b (by omega)
  have p1 := ofBytes_append al [b]
  have wk : IntKind.i64.wrap ((k : Int) + 1) = (k : Int) + 1 := i64_in _ (by omega)
  refine ⟨sc', Y', ?_⟩
  simp only at he hn
  generalize feed c b s sl = fd at *
  obtain ⟨c', fo, er⟩ := fd
  simp only at he hn
  subst hn he
  simp only [pipeHp, pipeCells, Ct.hp, cutHp, fdA, tupFd] at e39 e35
  cases sl <;> simp -implicitDefEqProofs [b9x2, canon9c, rts9, upd, e39, e35, a1, p1, wk, RC.ofElems, pipeCells, cnt, hY', okY']
theorem turn9c (f : Int × List Int) (he : (feed c r.1 r.2.1 r.2.2).2.2 = 0) (hn : (feed c r.1 r.2.1 r.2.2).2.1 = some f) (hF : isB F) (hkF : k + cnt r ≤ F.length) (hFl : F.length ≤ 5000) (hBa : isB (al ++ [r.1])) (hne : al ++ [r.1] ≠ F.take (k + cnt r)) (hs : sumL (al ++ [r.1]) = sumL (F.take (k + cnt r))) :
    done9 (rts9 L Os A) (evC T9 KK b9x2 (canon9c (rts9 L Os A) F G sf sc X Y h n c al t k)) := by
  obtain ⟨b, s, sl⟩ := r
  obtain ⟨sc', Y', e39, hY', okY'⟩ := f39 2048 h n sf sc X Y okY hYl _ b s sl hY
  have e35 := f35 c b s sl hB hr hcl hm
  have a1 := add1 al b (by omega)
  have p1 := ofBytes_append al [b]
  have wk : IntKind.i64.wrap ((k : Int) + 1) = (k : Int) + 1 := i64_in _ (by omega)
  have hBt := isB_take (k + cnt (b, s, sl)) hF
  have ex := ofBytes_extract F 0 (k + cnt (b, s, sl))
  rw [List.drop_zero, Nat.sub_zero] at ex
  have q1 := f40 (ofBytes (al ++ [b])) (by rw [size_ofBytes, List.length_append]; simp only [List.length_cons, List.length_nil]; omega)
  rw [toBytes_ofBytes hBa] at q1
  have q2 := f40 (ofBytes (F.take (k + cnt (b, s, sl)))) (by rw [size_ofBytes, List.length_take]; omega)
  rw [toBytes_ofBytes hBt, ← hs] at q2
  have q3 := eqS hBa hBt
  rw [decide_eq_false hne] at q3
  have q3' : ¬ (ofBytes (al ++ [b])).toList = (ofBytes (F.take (k + cnt (b, s, sl)))).toList := fun x => by rw [x, beq_self_eq_true] at q3; cases q3
  have hsz := size_ofBytes F
  simp only at he hn
  generalize feed c b s sl = fd at *
  obtain ⟨c', fo, er⟩ := fd
  simp only at he hn
  subst hn he
  simp only [pipeHp, pipeCells, Ct.hp, cutHp, fdA, tupFd] at e39 e35
  unfold done9
  simp only at p1 q1 q2 q3 q3' ex
  generalize sumL (al ++ [b]) = m at *
  generalize ofBytes (al ++ [b]) = ab at *
  cases sl with
  | false =>
    simp only [cnt, Bool.false_eq_true, if_false, Nat.add_zero] at *
    have hki : (k : Int) ≤ F.length := by omega
    generalize ofBytes (F.take k) = fk at *
    simp -implicitDefEqProofs [b9x2, canon9c, rts9, upd, e39, e35, a1, p1, wk, ex, q1, q2, q3', hsz, hki, hkF, RC.ofElems, pipeCells]
  | true =>
    simp only [cnt, if_true] at *
    have hki : ((k : Int) + 1) ≤ F.length := by omega
    have hk0 : (0 : Int) ≤ (k : Int) + 1 := by omega
    have hkn : ((k : Int) + 1).toNat = k + 1 := by omega
    generalize ofBytes (F.take (k + 1)) = fk at *
    simp -implicitDefEqProofs [b9x2, canon9c, rts9, upd, e39, e35, a1, p1, wk, ex, q1, q2, q3', hsz, hki, hk0, hkn, hkF, RC.ofElems, pipeCells]
theorem frame9c (f : Int × List Int) (he : (feed c r.1 r.2.1 r.2.2).2.2 = 0) (hn : (feed c r.1 r.2.1 r.2.2).2.1 = some f) (hkF : k + cnt r ≤ F.length) (heq : al ++ [r.1] = F.take (k + cnt r)) (ht : G[t]? = some f) (ht1 : t < 10000) :
    ∃ sc' Y' st1, evC T9 KK b9x2 (canon9c (rts9 L Os A) F G sf sc X Y h n c al t k) = some (.norm, st1) ∧
    St.head live9 st1 = canon9c (rts9 L Os A) F G sf sc' X Y' h n (feed c r.1 r.2.1 r.2.2).1 (al ++ [r.1]) (t + 1) (k + cnt r) ∧ cont Y' sc' = rs.map rec3 ∧ okv Y' sc' := by
  obtain ⟨b, s, sl⟩ := r
  obtain ⟨sc', Y', e39, hY', okY'⟩ := f39 2048 h n sf sc X Y okY hYl _ b s sl hY
  have e35 := f35 c b s sl hB hr hcl hm
  have a1 := add1 al b (by omega)
  have p1 := ofBytes_append al [b]
  have wk : IntKind.i64.wrap ((k : Int) + 1) = (k : Int) + 1 := i64_in _ (by omega)
  have wt : IntKind.i64.wrap ((t : Int) + 1) = (t : Int) + 1 := i64_in _ (by omega)
  have ex := ofBytes_extract F 0 (k + cnt (b, s, sl))
  rw [List.drop_zero, Nat.sub_zero, ← heq] at ex
  have hsz := size_ofBytes F
  obtain ⟨htl, htg⟩ := List.getElem?_eq_some_iff.1 ht
  have hM : (G.map frS).length = G.length := List.length_map _
  have hg : (G.map frS)[t]?.getD [] = [.int .i64 f.1, .str (ofBytes f.2)] := by rw [List.getElem?_map, ht]; rfl
  have hgM : ∀ hh, (G.map frS)[t]'hh = [.int .i64 f.1, .str (ofBytes f.2)] := fun hh => by rw [List.getElem?_eq_getElem hh] at hg; exact hg
  have hgG : ∀ hh, G[t]'hh = f := fun _ => htg
  have hti : ¬ (G.length : Int) ≤ t := by omega
  have htn : ¬ G.length ≤ t := by omega
  have hti2 : (t : Int) < G.length := by omega
  refine ⟨sc', Y', ?_⟩
  simp only at he hn
  generalize feed c b s sl = fd at *
  obtain ⟨c', fo, er⟩ := fd
  simp only at he hn
  subst hn he
  simp only [pipeHp, pipeCells, Ct.hp, cutHp, fdA, tupFd] at e39 e35
  simp only at p1 ex
  cases sl with
  | false =>
    simp only [cnt, Bool.false_eq_true, if_false, Nat.add_zero] at *
    have hki : (k : Int) ≤ F.length := by omega
    simp -implicitDefEqProofs [b9x2, canon9c, rts9, upd, e39, e35, a1, p1, wk, wt, ex, hsz, hki, hkF, hM, hg, hgM, hgG, frS, hti, htn, hti2, htl, RC.ofElems, RC.len, RC.size, RC.elem, takeE, eqScs, eqSc, beqBA, pipeCells, hY', okY']
  | true =>
    simp only [cnt, if_true] at *
    have hki : ((k : Int) + 1) ≤ F.length := by omega
    have hk0 : (0 : Int) ≤ (k : Int) + 1 := by omega
    have hkn : ((k : Int) + 1).toNat = k + 1 := by omega
    simp -implicitDefEqProofs [b9x2, canon9c, rts9, upd, e39, e35, a1, p1, wk, wt, ex, hsz, hki, hk0, hkn, hkF, hM, hg, hgM, hgG, frS, hti, htn, hti2, htl, RC.ofElems, RC.len, RC.size, RC.elem, takeE, eqScs, eqSc, beqBA, pipeCells, hY', okY']
end
end Go.X.Try
set_option maxRecDepth 100000
set_option linter.unusedSimpArgs false
set_option linter.unusedVariables false
namespace Go.X.Try
open Go.IntWalk
theorem feed_cases (c : Ct) (b s : Int) (sl : Bool) (he : c.e = 0) :
    ((feed c b s sl).2.2 ≠ 0 ∧ (feed c b s sl).2.1 = none) ∨
    ((feed c b s sl).2.2 = 0 ∧ (feed c b s sl).2.1 = none ∧ (feed c b s sl).1 = ⟨c.B ++ [b], (sbyte (c.h, c.n) b).1, (sbyte (c.h, c.n) b).2, 0, c.m + 1⟩) ∨
    (∃ f, (feed c b s sl).2.2 = 0 ∧ (feed c b s sl).2.1 = some f ∧ (feed c b s sl).1 = ⟨[], (sbyte (c.h, c.n) b).1, (sbyte (c.h, c.n) b).2, 0, c.m + 1⟩ ∧ sl = true ∧ s = sfin (sbyte (c.h, c.n) b).1 (sbyte (c.h, c.n) b).2 ∧ whl (c.B ++ [b]) = some f ∧ (c.B ++ [b]).length = szF (c.B ++ [b])) := by
  unfold feed
  rw [if_pos he]
  by_cases hw : ahd (c.B ++ [b]) = 0 ∧ (c.B ++ [b]).length = szF (c.B ++ [b])
  · rw [if_pos hw]
    cases hwh : whl (c.B ++ [b]) with
    | none => left; exact ⟨by simp, rfl⟩
    | some f =>
      simp only
      by_cases hs : sl = true ∧ s = sfin (sbyte (c.h, c.n) b).1 (sbyte (c.h, c.n) b).2
      · rw [if_pos hs]
        right; right
        exact ⟨f, rfl, rfl, rfl, hs.1, hs.2, rfl, hw.2⟩
      · rw [if_neg hs]
        left; exact ⟨by simp, rfl⟩
  · rw [if_neg hw]
    by_cases ha : ahd (c.B ++ [b]) = 0
    · right; left; exact ⟨ha, rfl, by simp only; rw [ha]⟩
    · left; exact ⟨ha, rfl⟩
theorem sendT_get : ∀ (l : List Int) (p : Int × Int) (k : Nat) (r : By), (sendT p l)[k]? = some r → r.2.1 = sfin ((l.take (k + 1)).foldl sbyte p).1 ((l.take (k + 1)).foldl sbyte p).2
  | [], _, k, r, h => by simp [sendT] at h
  | b :: l, p, 0, r, h => by
    simp only [sendT, List.getElem?_cons_zero, Option.some.injEq] at h
    subst h
    rfl
  | b :: l, p, k + 1, r, h => by
    simp only [sendT, List.getElem?_cons_succ] at h
    have := sendT_get l _ k r h
    rw [this]
    rfl
theorem frB_first {B R R2 : List Int} {g : Int × List Int} (hg : okF g) (h : B ++ R = frB g.1 g.2 ++ R2) (hl : B.length = szF B) : B = frB g.1 g.2 := by
  obtain ⟨y, z, e, hyz⟩ := frA_eq (k := g.1) (by have := hg.1; omega) hg.2
  have hlen := frB_length g.1 g.2
  have hF : frB g.1 g.2 = g.1 :: y :: z :: (g.2 ++ fixB (sumL (frA g.1 g.2)).toNat 8) := by unfold frB; rw [e]; rfl
  have hge := szF_ge B
  match B, hl, hge with
  | [], hl, _ => simp [szF] at hl
  | [_], hl, _ => simp [szF] at hl
  | [_, _], hl, _ => simp [szF] at hl
  | a :: b :: c :: r, hl, _ =>
    have h' := h
    rw [hF] at h'
    simp only [List.cons_append, List.cons.injEq] at h'
    obtain ⟨rfl, rfl, rfl, _⟩ := h'
    have hl2 : (g.1 :: b :: c :: r).length = (frB g.1 g.2).length := by rw [hl, hlen]; simp only [szF]; omega
    exact List.append_inj_left h hl2
theorem frs_split (G : List (Int × List Int)) (t : Nat) : frs G = frs (G.take t) ++ frs (G.drop t) := by
  unfold frs
  rw [← List.flatMap_append, List.take_append_drop]
theorem cnt_len (l : List By) (r : By) : ((l ++ [r]).filter (fun r => r.2.2)).length = (l.filter (fun r => r.2.2)).length + cnt r := by
  rw [List.filter_append, List.length_append]
  unfold cnt
  cases h : r.2.2 <;> simp [h]
/-- What holds behind so many bytes that came. -/
structure Inv9 (G : List (Int × List Int)) (Cd rs : List By) (c : Ct) (t : Nat) : Prop where
  hT : (Cd ++ rs).filter (fun r => r.2.2) = sendT (7640891576956012808, 0) (frs G)
  hr : ∀ r ∈ Cd ++ rs, 0 ≤ r.1 ∧ r.1 < 256
  hl : Cd.length + rs.length ≤ 2000
  he : c.e = 0
  hB : isB c.B
  hBl : c.B.length ≤ Cd.length
  hm0 : 0 ≤ c.m
  hm1 : c.m ≤ Cd.length
  hfold : (c.h, c.n) = (Cd.map (·.1)).foldl sbyte (7640891576956012808, 0)
  hal : Cd.map (·.1) = frs (G.take t) ++ c.B
  ht : t ≤ Cd.length
theorem map_snoc (Cd : List By) (r : By) : (Cd ++ [r]).map (·.1) = Cd.map (·.1) ++ [r.1] := by rw [List.map_append]; rfl
theorem inv9_al {G : List (Int × List Int)} {Cd rs : List By} {r : By} {c : Ct} {t : Nat} (h : Inv9 G Cd (r :: rs) c t) :
    isB ((Cd ++ [r]).map (·.1)) ∧ sfin (sbyte (c.h, c.n) r.1).1 (sbyte (c.h, c.n) r.1).2 = sumL ((Cd ++ [r]).map (·.1)) ∧ (sbyte (c.h, c.n) r.1) = ((Cd ++ [r]).map (·.1)).foldl sbyte (7640891576956012808, 0) := by
  have hfold' : (sbyte (c.h, c.n) r.1) = ((Cd ++ [r]).map (·.1)).foldl sbyte (7640891576956012808, 0) := by rw [map_snoc, List.foldl_append, ← h.hfold]; rfl
  refine ⟨fun x hx => ?_, ?_, hfold'⟩
  · obtain ⟨q, hq, rfl⟩ := List.mem_map.1 hx
    refine h.hr q ?_
    rcases List.mem_append.1 hq with h1 | h1
    · exact List.mem_append_left _ h1
    · exact List.mem_append_right _ (by simp only [List.mem_cons, List.not_mem_nil, or_false] at h1; simp [h1])
  · have := h.hl
    rw [hfold']; exact fold_sum (by rw [List.length_map, List.length_append]; simp only [List.length_cons, List.length_nil] at this ⊢; omega)
theorem inv9_k {G : List (Int × List Int)} {Cd rs : List By} {r : By} {c : Ct} {t : Nat} (h : Inv9 G Cd (r :: rs) c t) : (Cd.filter (fun r => r.2.2)).length + cnt r ≤ (frs G).length ∧ (Cd.filter (fun r => r.2.2)).length ≤ 2000 ∧ (Cd.map (·.1)).length ≤ 2000 := by
  have hT' : ((Cd ++ [r]) ++ rs).filter (fun r => r.2.2) = sendT (7640891576956012808, 0) (frs G) := by rw [List.append_assoc, List.singleton_append]; exact h.hT
  have hh := congrArg List.length hT'
  rw [List.filter_append, List.length_append, sendT_length, cnt_len] at hh
  have h1 : (Cd.filter (fun r => r.2.2)).length ≤ Cd.length := List.length_filter_le _ _
  have h2 := h.hl
  refine ⟨by omega, by omega, by rw [List.length_map]; omega⟩
theorem inv9_go {G : List (Int × List Int)} {Cd rs : List By} {r : By} {c : Ct} {t : Nat} (h : Inv9 G Cd (r :: rs) c t) : Inv9 G (Cd ++ [r]) rs ⟨c.B ++ [r.1], (sbyte (c.h, c.n) r.1).1, (sbyte (c.h, c.n) r.1).2, 0, c.m + 1⟩ t := by
  obtain ⟨_, _, h3⟩ := inv9_al h
  have hr0 := h.hr r (by simp)
  obtain ⟨hT, hr, hl, he, hB, hBl, hm0, hm1, hfold, hal, ht⟩ := h
  have hcl : (Cd ++ [r]).length = Cd.length + 1 := by simp
  simp only [List.length_cons] at hl
  exact ⟨by rw [List.append_assoc, List.singleton_append]; exact hT, fun q hq => hr q (by rw [List.append_assoc, List.singleton_append] at hq; exact hq), by omega, rfl, isB_append hB (isB_one hr0), by rw [hcl]; simp; omega, by simp only; omega, by rw [hcl]; simp only; omega, h3, by rw [map_snoc, hal, List.append_assoc], by omega⟩
theorem inv9_sum {G : List (Int × List Int)} {Cd rs : List By} {r : By} {c : Ct} {t : Nat} (h : Inv9 G Cd (r :: rs) c t) (h4 : r.2.2 = true) (h5 : r.2.1 = sfin (sbyte (c.h, c.n) r.1).1 (sbyte (c.h, c.n) r.1).2) :
    sumL (Cd.map (·.1) ++ [r.1]) = sumL ((frs G).take ((Cd.filter (fun r => r.2.2)).length + cnt r)) := by
  obtain ⟨_, hsum, _⟩ := inv9_al h
  have hk := inv9_k h
  have hc1 : cnt r = 1 := by unfold cnt; rw [if_pos h4]
  have hrT : (sendT (7640891576956012808, 0) (frs G))[(Cd.filter (fun r => r.2.2)).length]? = some r := by
    rw [← h.hT, List.filter_append, List.getElem?_append_right (Nat.le_refl _), Nat.sub_self, List.filter_cons, if_pos h4]
    rfl
  have hs2 := sendT_get (frs G) _ _ r hrT
  have hs3 : r.2.1 = sumL ((frs G).take ((Cd.filter (fun r => r.2.2)).length + 1)) := by
    rw [hs2]; exact fold_sum (by rw [List.length_take]; omega)
  rw [hc1, ← hs3, h5, hsum, map_snoc]
theorem inv9_frame {G : List (Int × List Int)} (hG : ∀ g ∈ G, okF g) {Cd rs : List By} {r : By} {c : Ct} {t : Nat} (h : Inv9 G Cd (r :: rs) c t) (f : Int × List Int) (h6 : whl (c.B ++ [r.1]) = some f) (h7 : (c.B ++ [r.1]).length = szF (c.B ++ [r.1]))
    (heq : Cd.map (·.1) ++ [r.1] = (frs G).take ((Cd.filter (fun r => r.2.2)).length + cnt r)) : G[t]? = some f ∧ Inv9 G (Cd ++ [r]) rs ⟨[], (sbyte (c.h, c.n) r.1).1, (sbyte (c.h, c.n) r.1).2, 0, c.m + 1⟩ (t + 1) := by
  obtain ⟨_, _, h3⟩ := inv9_al h
  have hr0 := h.hr r (by simp)
  obtain ⟨hT, hr, hl, he, hB, hBl, hm0, hm1, hfold, hal, ht⟩ := h
  have hcl : (Cd ++ [r]).length = Cd.length + 1 := by simp
  simp only [List.length_cons] at hl
  have hsp := frs_split G t
  have hpre : frs (G.drop t) = (c.B ++ [r.1]) ++ (frs G).drop ((Cd.filter (fun r => r.2.2)).length + cnt r) := by
    have h8 : frs G = (frs (G.take t) ++ (c.B ++ [r.1])) ++ (frs G).drop ((Cd.filter (fun r => r.2.2)).length + cnt r) := by
      rw [← List.append_assoc (frs (G.take t)), ← hal, heq, List.take_append_drop]
    rw [List.append_assoc] at h8
    exact List.append_cancel_left (hsp.symm.trans h8)
  obtain ⟨g, hg, hgm⟩ : ∃ g, G[t]? = some g ∧ frs (G.drop t) = frB g.1 g.2 ++ frs (G.drop (t + 1)) := by
    cases hd : G.drop t with
    | nil => rw [hd] at hpre; simp [frs] at hpre
    | cons g G' =>
      have hlt : t < G.length := by
        rcases Nat.lt_or_ge t G.length with h | h
        · exact h
        · rw [List.drop_eq_nil_of_le h] at hd; cases hd
      rw [List.drop_eq_getElem_cons hlt] at hd
      simp only [List.cons.injEq] at hd
      obtain ⟨rfl, rfl⟩ := hd
      exact ⟨_, List.getElem?_eq_getElem hlt, rfl⟩
  have hgok := hG g (List.mem_of_getElem? hg)
  rw [hgm] at hpre
  have hBe := frB_first hgok hpre.symm h7
  have hfg : f = g := by
    have := whl_frB hgok.1 hgok.2
    rw [← hBe, h6] at this
    exact Option.some.inj this
  subst hfg
  have htk : frs (G.take (t + 1)) = frs (G.take t) ++ frB f.1 f.2 := by
    rw [List.take_add_one, hg]
    unfold frs
    rw [List.flatMap_append]
    simp
  exact ⟨hg, ⟨by rw [List.append_assoc, List.singleton_append]; exact hT, fun q hq => hr q (by rw [List.append_assoc, List.singleton_append] at hq; exact hq), by omega, rfl, by simp [isB], by simp, by simp only; omega, by rw [hcl]; simp only; omega, h3, by rw [map_snoc, hal, htk, ← hBe]; simp, by omega⟩⟩
structure Fit9 (G : List (Int × List Int)) (Cd rs : List By) (r : By) (sc : Option (Nat × Nat)) (Y : List (List Sc)) (c : Ct) (t : Nat) : Prop where
  hr0 : 0 ≤ r.1 ∧ r.1 < 256
  hY' : cont Y sc = rec3 r :: rs.map rec3
  hYl : slen Y sc ≤ 4000
  hcB : c.B.length ≤ 8000
  hm : 0 ≤ c.m ∧ c.m < 2 ^ 62
  w1 : (Cd.map (·.1)).length ≤ 5000
  w2 : (Cd.filter (fun r => r.2.2)).length ≤ 100000
  w6 : t < 10000
  hk1 : (Cd.filter (fun r => r.2.2)).length + cnt r ≤ (frs G).length
theorem inv9_fit {G : List (Int × List Int)} {Cd rs : List By} {r : By} {c : Ct} {t : Nat} {sc : Option (Nat × Nat)} {Y : List (List Sc)} (hI : Inv9 G Cd (r :: rs) c t) (okY : okv Y sc) (hY : cont Y sc = (r :: rs).map rec3) : Fit9 G Cd rs r sc Y c t := by
  obtain ⟨hk1, hk2, hk3⟩ := inv9_k hI
  have hl := hI.hl
  have hBl := hI.hBl
  have hm1 := hI.hm1
  have ht := hI.ht
  have hm0 := hI.hm0
  have hYl := cont_len Y sc okY
  rw [hY, List.length_map] at hYl
  exact ⟨hI.hr r (by simp), by rw [hY]; rfl, by omega, by omega, ⟨hm0, by omega⟩, by omega, by omega, by omega, hk1⟩
section
variable (L : List (List Sc)) (Os : List ByteArray) (A : List Int) (G : List (Int × List Int)) (sf sc : Option (Nat × Nat)) (X Y : List (List Sc)) (h n : Int) (c : Ct) (t : Nat) (r : By) (rs Cd : List By)
theorem step9e (okY : okv Y sc) (hI : Inv9 G Cd (r :: rs) c t) (fit : Fit9 G Cd rs r sc Y c t) (h1 : (feed c r.1 r.2.1 r.2.2).2.2 ≠ 0) (h2 : (feed c r.1 r.2.1 r.2.2).2.1 = none) :
    done9 (rts9 L Os A) (evC T9 KK b9x2 (canon9c (rts9 L Os A) (frs G) G sf sc X Y h n c (Cd.map (·.1)) t (Cd.filter (fun r => r.2.2)).length)) := by
  obtain ⟨st1, e1, e2⟩ := err9c L Os A (frs G) G sf sc X Y h n c (Cd.map (·.1)) t (Cd.filter (fun r => r.2.2)).length r rs okY fit.hYl fit.hY' hI.hB fit.hr0 fit.hcB fit.hm fit.w1 fit.w2 h1 h2
  exact ⟨st1, e1, e2⟩
theorem step9t (okY : okv Y sc) (hI : Inv9 G Cd (r :: rs) c t) (fit : Fit9 G Cd rs r sc Y c t) (hF : isB (frs G)) (hFl : (frs G).length ≤ 5000) (f : Int × List Int) (h1 : (feed c r.1 r.2.1 r.2.2).2.2 = 0) (h2 : (feed c r.1 r.2.1 r.2.2).2.1 = some f) (h4 : r.2.2 = true) (h5 : r.2.1 = sfin (sbyte (c.h, c.n) r.1).1 (sbyte (c.h, c.n) r.1).2)
    (heq : Cd.map (·.1) ++ [r.1] ≠ (frs G).take ((Cd.filter (fun r => r.2.2)).length + cnt r)) :
    done9 (rts9 L Os A) (evC T9 KK b9x2 (canon9c (rts9 L Os A) (frs G) G sf sc X Y h n c (Cd.map (·.1)) t (Cd.filter (fun r => r.2.2)).length)) := by
  have hBa := (inv9_al hI).1
  rw [map_snoc] at hBa
  have hs := inv9_sum hI h4 h5
  have w1 := fit.w1
  have w2 := fit.w2
  have hk1 := fit.hk1
  have hr0 := fit.hr0
  have hYl := fit.hYl
  have hY' := fit.hY'
  have hcB := fit.hcB
  have hm := fit.hm
  have hB := hI.hB
  clear hI fit h4 h5
  generalize Cd.map (·.1) = al at *
  generalize (Cd.filter (fun r => r.2.2)).length = k at *
  generalize frs G = F at *
  obtain ⟨st1, e1, e2⟩ := turn9c L Os A F G sf sc X Y h n c al t k r rs okY hYl hY' hB hr0 hcB hm w1 w2 f h1 h2 hF hk1 hFl hBa heq hs
  exact ⟨st1, e1, e2⟩
theorem step9g (okY : okv Y sc) (hI : Inv9 G Cd (r :: rs) c t) (fit : Fit9 G Cd rs r sc Y c t) (h1 : (feed c r.1 r.2.1 r.2.2).2.2 = 0) (h2 : (feed c r.1 r.2.1 r.2.2).2.1 = none) (h3 : (feed c r.1 r.2.1 r.2.2).1 = ⟨c.B ++ [r.1], (sbyte (c.h, c.n) r.1).1, (sbyte (c.h, c.n) r.1).2, 0, c.m + 1⟩) :
    ∃ sc' Y' st1 c', evC T9 KK b9x2 (canon9c (rts9 L Os A) (frs G) G sf sc X Y h n c (Cd.map (·.1)) t (Cd.filter (fun r => r.2.2)).length) = some (.norm, st1) ∧ St.head live9 st1 = canon9c (rts9 L Os A) (frs G) G sf sc' X Y' h n c' ((Cd ++ [r]).map (·.1)) t ((Cd ++ [r]).filter (fun r => r.2.2)).length ∧ cont Y' sc' = rs.map rec3 ∧ okv Y' sc' ∧ Inv9 G (Cd ++ [r]) rs c' t := by
  obtain ⟨sc', Y', st1, e1, e2, g1, g2⟩ := go9c L Os A (frs G) G sf sc X Y h n c (Cd.map (·.1)) t (Cd.filter (fun r => r.2.2)).length r rs okY fit.hYl fit.hY' hI.hB fit.hr0 fit.hcB fit.hm fit.w1 fit.w2 h1 h2
  rw [h3, ← map_snoc, ← cnt_len] at e2
  exact ⟨sc', Y', st1, _, e1, e2, g1, g2, inv9_go hI⟩
theorem step9f (hG : ∀ g ∈ G, okF g) (okY : okv Y sc) (hI : Inv9 G Cd (r :: rs) c t) (fit : Fit9 G Cd rs r sc Y c t) (f : Int × List Int) (h1 : (feed c r.1 r.2.1 r.2.2).2.2 = 0) (h2 : (feed c r.1 r.2.1 r.2.2).2.1 = some f) (h3 : (feed c r.1 r.2.1 r.2.2).1 = ⟨[], (sbyte (c.h, c.n) r.1).1, (sbyte (c.h, c.n) r.1).2, 0, c.m + 1⟩)
    (h6 : whl (c.B ++ [r.1]) = some f) (h7 : (c.B ++ [r.1]).length = szF (c.B ++ [r.1])) (heq : Cd.map (·.1) ++ [r.1] = (frs G).take ((Cd.filter (fun r => r.2.2)).length + cnt r)) :
    ∃ sc' Y' st1 c', evC T9 KK b9x2 (canon9c (rts9 L Os A) (frs G) G sf sc X Y h n c (Cd.map (·.1)) t (Cd.filter (fun r => r.2.2)).length) = some (.norm, st1) ∧ St.head live9 st1 = canon9c (rts9 L Os A) (frs G) G sf sc' X Y' h n c' ((Cd ++ [r]).map (·.1)) (t + 1) ((Cd ++ [r]).filter (fun r => r.2.2)).length ∧ cont Y' sc' = rs.map rec3 ∧ okv Y' sc' ∧ Inv9 G (Cd ++ [r]) rs c' (t + 1) := by
  obtain ⟨hg, hI'⟩ := inv9_frame hG hI f h6 h7 heq
  obtain ⟨sc', Y', st1, e1, e2, g1, g2⟩ := frame9c L Os A (frs G) G sf sc X Y h n c (Cd.map (·.1)) t (Cd.filter (fun r => r.2.2)).length r rs okY fit.hYl fit.hY' hI.hB fit.hr0 fit.hcB fit.hm fit.w1 fit.w2 f h1 h2 fit.hk1 heq hg fit.w6
  rw [h3, ← map_snoc, ← cnt_len] at e2
  exact ⟨sc', Y', st1, _, e1, e2, g1, g2, hI'⟩
end
theorem loop9c (L : List (List Sc)) (Os : List ByteArray) (A : List Int) (G : List (Int × List Int)) (hG : ∀ g ∈ G, okF g) (hF : isB (frs G)) (hFl : (frs G).length ≤ 300) (sf : Option (Nat × Nat)) (X : List (List Sc)) (h n : Int) :
    ∀ (rs Cd : List By) (sc : Option (Nat × Nat)) (Y : List (List Sc)) (c : Ct) (t : Nat) (K : Nat), rs.length < K → okv Y sc → cont Y sc = rs.map rec3 → Inv9 G Cd rs c t →
    done9 (rts9 L Os A) (loopH (evC T9 KK b9x2) live9 K (canon9c (rts9 L Os A) (frs G) G sf sc X Y h n c (Cd.map (·.1)) t (Cd.filter (fun r => r.2.2)).length))
  | [], Cd, sc, Y, c, t, K, hK, okY, hY, hI => by
    obtain ⟨st1, e1, e2⟩ := end9c L Os A (frs G) G sf sc X Y h n c (Cd.map (·.1)) t (Cd.filter (fun r => r.2.2)).length okY hY
    exact ⟨st1, loopH_ret e1, e2⟩
  | r :: rs, Cd, sc, Y, c, t, K, hK, okY, hY, hI => by
    have fit := inv9_fit hI okY hY
    have w4 : 1 < K := by simp only [List.length_cons] at hK; omega
    have w5 : rs.length < K - 1 := by simp only [List.length_cons] at hK; omega
    rcases feed_cases c r.1 r.2.1 r.2.2 hI.he with ⟨h1, h2⟩ | ⟨h1, h2, h3⟩ | ⟨f, h1, h2, h3, h4, h5, h6, h7⟩
    · obtain ⟨st1, e1, e2⟩ := step9e L Os A G sf sc X Y h n c t r rs Cd okY hI fit h1 h2
      exact ⟨st1, loopH_ret e1, e2⟩
    · obtain ⟨sc', Y', st1, c', e1, e2, g1, g2, g3⟩ := step9g L Os A G sf sc X Y h n c t r rs Cd okY hI fit h1 h2 h3
      rw [loopH_norm e1 w4, e2]
      exact loop9c L Os A G hG hF hFl sf X h n rs (Cd ++ [r]) sc' Y' c' t (K - 1) w5 g2 g1 g3
    · by_cases heq : Cd.map (·.1) ++ [r.1] = (frs G).take ((Cd.filter (fun r => r.2.2)).length + cnt r)
      · obtain ⟨sc', Y', st1, c', e1, e2, g1, g2, g3⟩ := step9f L Os A G sf sc X Y h n c t r rs Cd hG okY hI fit f h1 h2 h3 h6 h7 heq
        rw [loopH_norm e1 w4, e2]
        exact loop9c L Os A G hG hF hFl sf X h n rs (Cd ++ [r]) sc' Y' c' (t + 1) (K - 1) w5 g2 g1 g3
      · obtain ⟨st1, e1, e2⟩ := step9t L Os A G sf sc X Y h n c t r rs Cd okY hI fit hF (Nat.le_trans hFl (by decide)) f h1 h2 h4 h5 heq
        exact ⟨st1, loopH_ret e1, e2⟩
theorem law9 (a0 : List (List Sc)) (a1 : List ByteArray) (a2 : List Int) (_ : a0.length ≤ maxLen) (w0 : ∀ z ∈ a0, okFields [.int .i64, .str] z) (_ : a1.length ≤ maxLen) (w1 : ∀ z ∈ a1, z.size ≤ maxLen) (_ : a2.length ≤ maxLen) (w2 : ∀ z ∈ a2, (Lit.int .u8 z).wf = true) :
    F9 [.one (.ro 0 (.recs 2 a0)), .one (.ro 1 (.strs a1)), .one (.ro 2 (.ints .u8 a2))] [] = some (.one (.bool true), []) := by
  obtain ⟨Ls, rfl⟩ := okFr w0
  have hlen : (Ls.map frE).length = Ls.length := List.length_map _
  by_cases h4 : 4 < Ls.length
  · have h4i : (4 : Int) < Ls.length := by omega
    simp -implicitDefEqProofs [F9, c9, upd, h24, RC.len, hlen, h4, h4i]
  have h4i : ¬ (4 : Int) < Ls.length := by omega
  by_cases h5 : 4 < a1.length
  · have h5i : (4 : Int) < a1.length := by omega
    simp -implicitDefEqProofs [F9, c9, upd, h24, RC.len, hlen, h4, h4i, h5, h5i]
  have h5i : ¬ (4 : Int) < a1.length := by omega
  by_cases h6 : ¬ a2.length = a1.length
  · have h6i : ¬ (a2.length : Int) = a1.length := by omega
    simp -implicitDefEqProofs [F9, c9, upd, h24, RC.len, hlen, h4, h4i, h5, h5i, h6, h6i]
  replace h6 : a2.length = a1.length := Classical.not_not.1 h6
  have hA2 : ∀ x ∈ a2, 0 ≤ x ∧ x < 256 := fun x hx => by
    have := w2 x hx
    simp [Lit.wf, IntKind.min, IntKind.max, IntKind.signed, IntKind.bits] at this
    omega
  have e25 := f25' 2048
  simp only [show ¬ ((2048 : Int) < 1) by decide, if_false, show ¬ ((2048 : Int) > 2048) by decide] at e25
  have e26 := f26
  have z : ((0 : Nat) : Int) = 0 := rfl
  have hlp := loop9a a1 a2 Ls (by omega) Ls.length 0 KK [] none [] 7640891576956012808 0 [] (by omega) (by rw [KK_eq]; omega) trivial (by simp [cont]) (by simp) (by simp)
  rcases hlp with ⟨st1, e, g6, g5⟩ | ⟨env, sf, X, e, hX, okX, hXn, q1, q2, q7, q8, q9⟩
  · obtain ⟨env1, rts1, hp1⟩ := st1
    simp only at g6 g5
    subst g5
    simp only [canon9a, rts9, slv_none, pipeCells, List.map_nil, z, hlen, ofBytes_nil] at e
    simp only [pipeHp, pipeCells, slv_none] at e25
    simp -implicitDefEqProofs [F9, c9, upd, h24, RC.len, hlen, h4, h4i, h5, h5i, h6, e25, e, g6]
  · rw [List.drop_zero, List.nil_append] at e
    rw [List.drop_zero, List.nil_append] at q8
    rw [cont_none, List.nil_append, List.drop_zero, sendT_rec] at hX
    have hok := goodF_ok Ls
    have hfr := goodF_frS Ls
    rw [← hfr] at e
    have hFB := frs_isB Ls
    have hXl : (frs (goodF Ls)).length ≤ 300 := by
      have := congrArg List.length hX
      rw [List.length_map, sendT_length] at this
      omega
    have hlb := loop9b (Ls.map frE) a1 a2 (by omega) h6 hA2 (frs (goodF Ls)) hFB hXl (7640891576956012808, 0) (frs (goodF Ls)) ((frs (goodF Ls)).foldl sbyte (7640891576956012808, 0)).1 ((frs (goodF Ls)).foldl sbyte (7640891576956012808, 0)).2 ((goodF Ls).map frS) a1.length 0 KK sf none X [] [] (sendT (7640891576956012808, 0) (frs (goodF Ls))) (by omega) (by rw [KK_eq]; omega) hX okX rfl trivial rfl (by simp) (by rw [sendT_length]; simp only [List.length_nil]; omega)
    simp only [pipeHp, pipeCells, slv_none] at e25
    rcases hlb with ⟨st1, e2, g6, g5⟩ | ⟨env2, sf2, sc2, X2, Y2, C, Tr, e2, hX2, okX2, hY2, okY2, hT, hC, hCl, k7, k8, k9⟩
    · obtain ⟨env1, rts1, hp1⟩ := st1
      simp only at g6 g5
      subst g5
      simp only [canon9a, canon9b, rts9, slv_none, pipeCells, List.map_nil, z, hlen, ofBytes_nil] at e e2
      simp -implicitDefEqProofs [F9, c9, upd, h24, RC.len, hlen, h4, h4i, h5, h5i, h6, e25, e, q1, q2, q7, q8, q9, e2, g6, pipeCells]
    · have lX2 := cont_len X2 sf2 okX2
      have lY2 := cont_len Y2 sc2 okY2
      rw [hX2, List.length_map] at lX2
      rw [hY2, List.length_map] at lY2
      obtain ⟨sf3, sc3, X3, Y3, e31, hX3, okX3, hY3, okY3⟩ := f31 2048 ((frs (goodF Ls)).foldl sbyte (7640891576956012808, 0)).1 ((frs (goodF Ls)).foldl sbyte (7640891576956012808, 0)).2 2048 sf2 sc2 X2 Y2 (by omega) (by omega) okX2 okY2 Tr.length (by rw [if_neg (by decide), if_neg (by omega)]; exact lX2)
      rw [hX2, hY2, ← List.map_take, List.take_length, ← List.map_append] at hY3
      have hT3 : ([] ++ (C ++ Tr)).filter (fun r => r.2.2) = sendT (7640891576956012808, 0) (frs (goodF Ls)) := by
        rw [List.nil_append, List.filter_append]
        have h1 : Tr.filter (fun r => r.2.2) = Tr := by
          have h2 := filterT (frs (goodF Ls)) (7640891576956012808, 0)
          rw [← hT, List.filter_append, List.filter_filter] at h2
          simp only [Bool.and_self] at h2
          exact List.append_cancel_left h2
        rw [h1]; exact hT
      have lY3 := cont_len Y3 sc3 okY3
      rw [hY3, List.length_map, List.length_append] at lY3
      have hInv : Inv9 (goodF Ls) [] (C ++ Tr) c0 0 := ⟨hT3, fun r hr => by
        rw [List.nil_append] at hr
        rcases List.mem_append.1 hr with h | h
        · exact hC r h
        · exact (rec3_isB hFB hT.symm).2 r h, by rw [List.length_append]; simp only [List.length_nil]; omega, rfl, by simp [c0, isB], by simp [c0], by simp [c0], by simp [c0], rfl, by simp [frs, c0], by simp⟩
      obtain ⟨st1, e3, g6, g5⟩ := loop9c (Ls.map frE) a1 a2 (goodF Ls) hok hFB hXl sf3 X3 ((frs (goodF Ls)).foldl sbyte (7640891576956012808, 0)).1 ((frs (goodF Ls)).foldl sbyte (7640891576956012808, 0)).2 (C ++ Tr) [] sc3 Y3 c0 0 KK (by rw [List.length_append, KK_eq]; omega) okY3 hY3 hInv
      obtain ⟨env1, rts1, hp1⟩ := st1
      simp only at g6 g5
      subst g5
      simp only [canon9a, canon9b, canon9c, rts9, slv_none, pipeCells, List.map_nil, List.filter_nil, List.length_nil, z, hlen, ofBytes_nil, c0, live9] at e e2 e3
      simp only [cutHp] at e26
      simp only [pipeHp, pipeCells] at e31
      simp -implicitDefEqProofs [F9, c9, upd, h24, RC.len, hlen, h4, h4i, h5, h5i, h6, e25, e26, e, q1, q2, q7, q8, q9, e2, k7, k8, k9, e31, e3, g6, pipeCells]
end Go.X.Try
