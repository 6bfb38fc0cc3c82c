import Derived.Test.YtcpgijcdmhehaaaZ4
set_option linter.unusedVariables false
set_option linter.unusedSimpArgs false
set_option maxRecDepth 100000
set_option linter.unusedSimpArgs false
set_option linter.unusedVariables false
namespace Go.X.Try
open Go.IntWalk
structure Env8 (env : Env) (x0 : RC) (i0 Ln : Int) (c : Ct) (al se re : List Int) : Prop where
  g3 : getT 3 env = .one (.ptr 0 0)
  g4 : getT 4 env = .one (.str (ofBytes al))
  g5 : getT 5 env = .one (.str (ofBytes se))
  g6 : getT 6 env = .one (.str (ofBytes re))
  g7 : getT 7 env = .one (.int .i64 c.e)
  g8 : getT 8 env = .one (.int .i64 c.m)
  g27 : getT 27 env = .one (.ro 0 x0)
  g28 : getT 28 env = .one (.int .i64 Ln)
  g29 : getT 29 env = .one (.int .i64 i0)
theorem end8 (x0 : RC) (i0 Ln : Int) (c : Ct) (al se re : List Int) (o : Bool) (s : ByteArray) :
    ∃ env, evC T8 KK b8x0 (canon8 x0 i0 Ln c al se re c.e c.m o s s.size) = some (.exit 2, ⟨env, [.ro 0 x0], [.cells none [.row 1, .int .u64 c.h, .int .u64 c.n, .int .i64 c.e, .int .i64 c.m], .rows (.ints .u8 c.B), .cells none [.bool o, .str s]]⟩) ∧ Env8 env x0 i0 Ln c al se re := by
  have h : ∃ env, evC T8 KK b8x0 (canon8 x0 i0 Ln c al se re c.e c.m o s s.size) = some (.exit 2, ⟨env, [.ro 0 x0], [.cells none [.row 1, .int .u64 c.h, .int .u64 c.n, .int .i64 c.e, .int .i64 c.m], .rows (.ints .u8 c.B), .cells none [.bool o, .str s]]⟩) ∧ getT 3 env = .one (.ptr 0 0) ∧ getT 4 env = .one (.str (ofBytes al)) ∧ getT 5 env = .one (.str (ofBytes se)) ∧ getT 6 env = .one (.str (ofBytes re)) ∧ getT 7 env = .one (.int .i64 c.e) ∧ getT 8 env = .one (.int .i64 c.m) ∧ getT 27 env = .one (.ro 0 x0) ∧ getT 28 env = .one (.int .i64 Ln) ∧ getT 29 env = .one (.int .i64 i0) := by
    simp -implicitDefEqProofs [b8x0, canon8, upd]
  obtain ⟨env, e, a1, a2, a3, a4, a5, a6, a7, a8, a9⟩ := h
  exact ⟨env, e, a1, a2, a3, a4, a5, a6, a7, a8, a9⟩
theorem loop8i (x0 : RC) (i0 Ln : Int) (o : Bool) (s : ByteArray) (hs : s.size ≤ 100) : ∀ (j i K N : Nat) (c : Ct) (al se re : List Int), i + j = s.size → j < K → N + j ≤ 4000 → Side N c al se re →
    ∃ env c' al' se' re', loopH (evC T8 KK b8x0) [3, 4, 5, 6, 7, 8, 10, 27, 28, 29, 39, 40] K (canon8 x0 i0 Ln c al se re c.e c.m o s i) = some (.exit 2, ⟨env, [.ro 0 x0], [.cells none [.row 1, .int .u64 c'.h, .int .u64 c'.n, .int .i64 c'.e, .int .i64 c'.m], .rows (.ints .u8 c'.B), .cells none [.bool o, .str s]]⟩) ∧ Env8 env x0 i0 Ln c' al' se' re' ∧ Side (N + j) c' al' se' re'
  | 0, i, K, N, c, al, se, re, hi, hK, hN, hS => by
    obtain rfl : i = s.size := by omega
    obtain ⟨env, e, g⟩ := end8 x0 i0 Ln c al se re o s
    exact ⟨env, c, al, se, re, loopH_exit e, g, hS⟩
  | j + 1, i, K, N, c, al, se, re, hi, hK, hN, hS => by
    have hlt : i < s.size := by omega
    obtain ⟨b, hb, _⟩ := drop_cons hlt
    obtain ⟨c1, al1, se1, re1, st1, e1, e2, hS1⟩ := side_step x0 i0 Ln o s i b hS (by omega) hlt hb hs
    obtain ⟨env, c', al', se', re', e, g, hS'⟩ := loop8i x0 i0 Ln o s hs j (i + 1) (K - 1) (N + 1) c1 al1 se1 re1 (by omega) (by omega) (by omega) hS1
    exact ⟨env, c', al', se', re', by rw [loopH_norm e1 (by omega), e2]; exact e, g, by rw [show N + (j + 1) = N + 1 + j by omega]; exact hS'⟩
abbrev Pc := Bool × ByteArray
def pcE (p : Pc) : List Sc := [.bool p.1, .str p.2]
def canon8o (x0 : RC) (Ln i : Int) (c : Ct) (al se re : List Int) : St :=
  ⟨[(3, .one (.ptr 0 0)), (4, .one (.str (ofBytes al))), (5, .one (.str (ofBytes se))), (6, .one (.str (ofBytes re))), (7, .one (.int .i64 c.e)), (8, .one (.int .i64 c.m)), (27, .one (.ro 0 x0)), (28, .one (.int .i64 Ln)), (29, .one (.int .i64 i))],
    [.ro 0 x0], [.cells none [.row 1, .int .u64 c.h, .int .u64 c.n, .int .i64 c.e, .int .i64 c.m], .rows (.ints .u8 c.B)]⟩
theorem ret8o (P : List (List Sc)) (i : Nat) (c : Ct) (al se re : List Int) (o : Bool) (s : ByteArray) (hi : i < P.length) (hg : P[i]?.getD [] = [.bool o, .str s]) (hs : 60 < s.size) :
    ∃ st1, evC T8 KK b8x1 (canon8o (.recs 2 P) P.length i c al se re) = some (.ret, st1) ∧ getT 2 st1.env = .one (.bool true) ∧ st1.rts = [.ro 0 (.recs 2 P)] := by
  have hii : (i : Int) < P.length := by omega
  have hsi : (60 : Int) < s.size := by omega
  have hgM : ∀ hh, P[i]'hh = [.bool o, .str s] := fun hh => by rw [List.getElem?_eq_getElem hh] at hg; exact hg
  simp -implicitDefEqProofs [b8x1, canon8o, upd, hi, hii, hg, hgM, hs, hsi, RC.len, RC.size, RC.elem, takeE]
theorem body8o (P : List (List Sc)) (i : Nat) (N : Nat) (c : Ct) (al se re : List Int) (o : Bool) (s : ByteArray) (hi : i < P.length) (hg : P[i]?.getD [] = [.bool o, .str s]) (hs : ¬ 60 < s.size) (hN : N + 60 ≤ 4000) (hS : Side N c al se re) (i' : Int) (wi : IntKind.i64.wrap ((i : Int) + 1) = i') :
    ∃ c' al' se' re' st1, evC T8 KK b8x1 (canon8o (.recs 2 P) P.length i c al se re) = some (.norm, st1) ∧ St.head [3, 4, 5, 6, 7, 8, 27, 28, 29] st1 = canon8o (.recs 2 P) P.length i' c' al' se' re' ∧ Side (N + s.size) c' al' se' re' := by
  have hii : (i : Int) < P.length := by omega
  have hsi : ¬ (60 : Int) < s.size := by omega
  have hgM : ∀ hh, P[i]'hh = [.bool o, .str s] := fun hh => by rw [List.getElem?_eq_getElem hh] at hg; exact hg
  obtain ⟨env, c', al', se', re', e, ⟨g3, g4, g5, g6, g7, g8, g27, g28, g29⟩, hS'⟩ := loop8i (.recs 2 P) i P.length o s (by omega) s.size 0 KK N c al se re (by omega) (by rw [KK_eq]; omega) (by omega) hS
  refine ⟨c', al', se', re', ?_⟩
  have z : ((0 : Nat) : Int) = 0 := rfl
  simp only [canon8, z] at e
  simp -implicitDefEqProofs [b8x1, canon8o, upd, hi, hii, hg, hgM, hs, hsi, RC.len, RC.size, RC.elem, takeE, e, g3, g4, g5, g6, g7, g8, g27, g28, g29, wi, hS']
theorem end8o (P : List (List Sc)) (c : Ct) (al se re : List Int) : ∃ env, evC T8 KK b8x1 (canon8o (.recs 2 P) P.length P.length c al se re) = some (.exit 0, ⟨env, [.ro 0 (.recs 2 P)], (canon8o (.recs 2 P) P.length P.length c al se re).hp⟩) := by
  simp -implicitDefEqProofs [b8x1, canon8o, upd]
theorem loop8o (Ls : List Pc) (hL : Ls.length ≤ 10) : ∀ (j i K N : Nat) (c : Ct) (al se re : List Int), i + j = Ls.length → j < K → N ≤ 60 * i → Side N c al se re →
    (∃ st1, loopH (evC T8 KK b8x1) [3, 4, 5, 6, 7, 8, 27, 28, 29] K (canon8o (.recs 2 (Ls.map pcE)) Ls.length i c al se re) = some (.ret, st1) ∧ getT 2 st1.env = .one (.bool true) ∧ st1.rts = [.ro 0 (.recs 2 (Ls.map pcE))]) ∨
    (∃ env hp, loopH (evC T8 KK b8x1) [3, 4, 5, 6, 7, 8, 27, 28, 29] K (canon8o (.recs 2 (Ls.map pcE)) Ls.length i c al se re) = some (.exit 0, ⟨env, [.ro 0 (.recs 2 (Ls.map pcE))], hp⟩))
  | 0, i, K, N, c, al, se, re, hi, hK, hN, hS => by
    have hm : (Ls.map pcE).length = i := by rw [List.length_map]; omega
    obtain ⟨env, e⟩ := end8o (Ls.map pcE) c al se re
    rw [hm] at e
    rw [show Ls.length = i by omega]
    exact .inr ⟨env, _, loopH_exit e⟩
  | j + 1, i, K, N, c, al, se, re, hi, hK, hN, hS => by
    have hlt : i < Ls.length := by omega
    have hm : i < (Ls.map pcE).length := by rw [List.length_map]; exact hlt
    have hg : (Ls.map pcE)[i]?.getD [] = [.bool (Ls[i]).1, .str (Ls[i]).2] := by rw [List.getElem?_map, List.getElem?_eq_getElem hlt]; rfl
    have wi : IntKind.i64.wrap ((i : Int) + 1) = ((i + 1 : Nat) : Int) := by rw [i64_in _ (by omega)]; omega
    have hlm : (Ls.map pcE).length = Ls.length := List.length_map _
    by_cases hs : 60 < (Ls[i]).2.size
    · obtain ⟨st1, e1, e2⟩ := ret8o (Ls.map pcE) i c al se re _ _ hm hg hs
      rw [hlm] at e1
      exact .inl ⟨st1, loopH_ret e1, e2⟩
    · obtain ⟨c', al', se', re', st1, e1, e2, hS'⟩ := body8o (Ls.map pcE) i N c al se re _ _ hm hg hs (by omega) hS _ wi
      rw [hlm] at e1 e2
      rw [loopH_norm e1 (by omega), e2]
      exact loop8o Ls hL j (i + 1) (K - 1) (N + (Ls[i]).2.size) c' al' se' re' (by omega) (by omega) (by omega) hS'
theorem okPc : ∀ {l : List (List Sc)}, (∀ z ∈ l, okFields [.bool, .str] z) → ∃ Ls : List Pc, l = Ls.map pcE
  | [], _ => ⟨[], rfl⟩
  | z :: l, h => by
    obtain ⟨Ls, e⟩ := okPc (l := l) (fun y hy => h y (by simp [hy]))
    have hz := h z (by simp)
    have hl := okFields_length hz
    match z, hl with
    | [x0, x1], _ =>
      simp only [okFields] at hz
      obtain ⟨h0, h1, _⟩ := hz
      cases x0 <;> simp only [FK.ok] at h0
      cases x1 <;> simp only [FK.ok] at h1
      rename_i k s _
      exact ⟨(k, s) :: Ls, by rw [e]; rfl⟩
theorem law8 (a0 : List (List Sc)) (_ : a0.length ≤ maxLen) (w0 : ∀ z ∈ a0, okFields [.bool, .str] z) : F8 [.one (.ro 0 (.recs 2 a0))] [] = some (.one (.bool true), []) := by
  obtain ⟨Ls, rfl⟩ := okPc w0
  have hlen : (Ls.map pcE).length = Ls.length := List.length_map _
  by_cases h10 : 10 < Ls.length
  · have h10i : (10 : Int) < Ls.length := by omega
    simp -implicitDefEqProofs [F8, c8, upd, h24, RC.len, hlen, h10, h10i]
  have h10i : ¬ (10 : Int) < Ls.length := by omega
  have e26 := f26
  have hS : Side 0 c0 [] [] [] := ⟨by simp [isB], by simp [isB], by simp [isB], by simp [c0, isB], by simp, by simp, by simp, by simp [c0], by simp [c0], fun _ => ⟨rfl, rfl, .inl rfl⟩⟩
  have z : ((0 : Nat) : Int) = 0 := rfl
  rcases loop8o Ls (by omega) Ls.length 0 KK 0 c0 [] [] [] (by omega) (by rw [KK_eq]; omega) (by omega) hS with ⟨st1, e, g2, g3⟩ | ⟨env, hp, e⟩
  · obtain ⟨env1, rts1, hp1⟩ := st1
    simp only at g2 g3
    subst g3
    simp only [canon8o, c0, z, ofBytes_nil] at e
    simp only [cutHp] at e26
    simp -implicitDefEqProofs [F8, c8, upd, h24, RC.len, hlen, h10, h10i, e26, e, g2]
  · simp only [canon8o, c0, z, ofBytes_nil] at e
    simp only [cutHp] at e26
    simp -implicitDefEqProofs [F8, c8, upd, h24, RC.len, hlen, h10, h10i, e26, e]
end Go.X.Try
set_option maxRecDepth 100000
set_option linter.unusedSimpArgs false
set_option linter.unusedVariables false
namespace Go.X.Try
open Go.IntWalk
/-! ### all frames of a text -/
/-- As the program splits: B: of the frame that comes. -/
def spl (B : List Int) : List Int → List (Int × List Int) × List Int × Int
  | [] => ([], B, 0)
  | b :: l =>
    if ahd (B ++ [b]) ≠ 0 then ([], [], ahd (B ++ [b]))
    else if (B ++ [b]).length < szF (B ++ [b]) then spl (B ++ [b]) l
    else match whl (B ++ [b]) with
      | none => ([], [], 4)
      | some f => (f :: (spl [] l).1, (spl [] l).2)
def canon41 (s : ByteArray) (out : List (List Sc)) (B : List Int) (i : Int) : St :=
  ⟨[(0, .one (.str s)), (5, .one (.row 0)), (6, .one (.row 1)), (12, .one (.int .i64 s.size)), (13, .one (.int .i64 i))], [.str s], [.rows (.recs 2 out), .rows (.ints .u8 B)]⟩
def res41 : List (Nat × Option (Option Nat)) := [(2, none), (3, none), (4, none)]
theorem body41e (s : ByteArray) (out : List (List Sc)) (B : List Int) (i : Nat) (b : Int) (hi : i < s.size) (hb : (toBytes s)[i]? = some b) (hB : isB (B ++ [b])) (hl : B.length ≤ 5000) (ha : ahd (B ++ [b]) ≠ 0) :
    ∃ st1, evC T41 KK b41x0 (canon41 s out B i) = some (.ret, st1) ∧ give st1.rts st1.hp (resL st1.env st1.hp res41) = some (.tup [.one (.row 0), .one (.str ⟨#[]⟩), .one (.int .i64 (ahd (B ++ [b])))], [.rows (.recs 2 out)]) := by
  have hii : (i : Int) < s.size := by omega
  have hb2 : (toBytes s)[i]?.getD 0 = b := by rw [hb]; rfl
  have e74 := f74 (B ++ [b]) hB
  have hk : B.length + 1 ≤ 140737488355328 := by omega
  generalize ahd (B ++ [b]) = a at *
  generalize hB2 : B ++ [b] = B' at *
  simp -implicitDefEqProofs [b41x0, canon41, res41, upd, hi, hii, hb2, RC.ofElems, RC.app, RC.len, RC.size, hk, hB2, e74, ha]
theorem body41n (s : ByteArray) (out : List (List Sc)) (B : List Int) (i : Nat) (b : Int) (hi : i < s.size) (hb : (toBytes s)[i]? = some b) (hB : isB (B ++ [b])) (hl : B.length ≤ 5000) (ha : ahd (B ++ [b]) = 0) (hlt : (B ++ [b]).length < szF (B ++ [b])) (i' : Int) (wi : IntKind.i64.wrap ((i : Int) + 1) = i') :
    ∃ st1, evC T41 KK b41x0 (canon41 s out B i) = some (.norm, st1) ∧ St.head [0, 5, 6, 12, 13] st1 = canon41 s out (B ++ [b]) i' := by
  have hii : (i : Int) < s.size := by omega
  have hb2 : (toBytes s)[i]?.getD 0 = b := by rw [hb]; rfl
  have e74 := f74 (B ++ [b]) hB
  have e75 := f75 (B ++ [b]) hB
  rw [ha] at e74
  have hk : B.length + 1 ≤ 140737488355328 := by omega
  have hl1 : (B ++ [b]).length = B.length + 1 := by simp
  have hlti : ((B ++ [b]).length : Int) < ((szF (B ++ [b]) : Nat) : Int) := by omega
  rw [hl1] at hlt hlti
  generalize szF (B ++ [b]) = a at *
  generalize hB2 : B ++ [b] = B' at *
  have hlti' : (B.length : Int) + 1 < a := by omega
  simp -implicitDefEqProofs [b41x0, canon41, upd, hi, hii, hb2, RC.ofElems, RC.app, RC.len, RC.size, hk, hB2, hl1, e74, e75, hlt, hlti', wi]
theorem body41w (s : ByteArray) (out : List (List Sc)) (B : List Int) (i : Nat) (b : Int) (hi : i < s.size) (hb : (toBytes s)[i]? = some b) (hB : isB (B ++ [b])) (hl : B.length ≤ 5000) (ha : ahd (B ++ [b]) = 0) (hlt : ¬ (B ++ [b]).length < szF (B ++ [b])) (hw : whl (B ++ [b]) = none) :
    ∃ st1, evC T41 KK b41x0 (canon41 s out B i) = some (.ret, st1) ∧ give st1.rts st1.hp (resL st1.env st1.hp res41) = some (.tup [.one (.row 0), .one (.str ⟨#[]⟩), .one (.int .i64 4)], [.rows (.recs 2 out)]) := by
  have hii : (i : Int) < s.size := by omega
  have hb2 : (toBytes s)[i]?.getD 0 = b := by rw [hb]; rfl
  have e74 := f74 (B ++ [b]) hB
  have e75 := f75 (B ++ [b]) hB
  have hge := szF_ge (B ++ [b])
  have hl1 : (B ++ [b]).length = B.length + 1 := by simp
  have e71 := f71 (B ++ [b]) hB (by omega) (by omega)
  unfold whA at e71
  rw [hw] at e71
  rw [ha] at e74
  have hk : B.length + 1 ≤ 140737488355328 := by omega
  rw [hl1] at hlt
  generalize szF (B ++ [b]) = a at *
  generalize hB2 : B ++ [b] = B' at *
  have hlti' : ¬ (B.length : Int) + 1 < a := by omega
  simp only [tupF2] at e71
  simp -implicitDefEqProofs [b41x0, canon41, res41, upd, hi, hii, hb2, RC.ofElems, RC.app, RC.len, RC.size, hk, hB2, hl1, e74, e75, e71, hlt, hlti']
theorem body41f (s : ByteArray) (out : List (List Sc)) (B : List Int) (i : Nat) (b : Int) (hi : i < s.size) (hb : (toBytes s)[i]? = some b) (hB : isB (B ++ [b])) (hl : B.length ≤ 5000) (ho : out.length ≤ 5000) (ha : ahd (B ++ [b]) = 0) (hlt : ¬ (B ++ [b]).length < szF (B ++ [b])) (f : Int × List Int) (hw : whl (B ++ [b]) = some f) (i' : Int) (wi : IntKind.i64.wrap ((i : Int) + 1) = i') :
    ∃ st1, evC T41 KK b41x0 (canon41 s out B i) = some (.norm, st1) ∧ St.head [0, 5, 6, 12, 13] st1 = canon41 s (out ++ [frS f]) [] i' := by
  have hii : (i : Int) < s.size := by omega
  have hb2 : (toBytes s)[i]?.getD 0 = b := by rw [hb]; rfl
  have e74 := f74 (B ++ [b]) hB
  have e75 := f75 (B ++ [b]) hB
  have hge := szF_ge (B ++ [b])
  have hl1 : (B ++ [b]).length = B.length + 1 := by simp
  have e71 := f71 (B ++ [b]) hB (by omega) (by omega)
  unfold whA at e71
  rw [hw] at e71
  rw [ha] at e74
  have hk : B.length + 1 ≤ 140737488355328 := by omega
  have ho1 : (out.length + 1) * 24 ≤ 140737488355328 := by omega
  rw [hl1] at hlt
  generalize szF (B ++ [b]) = a at *
  generalize hB2 : B ++ [b] = B' at *
  have hlti' : ¬ (B.length : Int) + 1 < a := by omega
  simp only [tupF2] at e71
  simp -implicitDefEqProofs [b41x0, canon41, upd, hi, hii, hb2, RC.ofElems, RC.app, RC.len, RC.size, hk, hB2, hl1, e74, e75, e71, hlt, hlti', wi, ho1, frS, scsOf, SV.sc]
theorem end41 (s : ByteArray) (out : List (List Sc)) (B : List Int) :
    ∃ env, evC T41 KK b41x0 (canon41 s out B s.size) = some (.exit 0, ⟨env, [.str s], [.rows (.recs 2 out), .rows (.ints .u8 B)]⟩) ∧ getT 5 env = .one (.row 0) ∧ getT 6 env = .one (.row 1) := by
  simp -implicitDefEqProofs [b41x0, canon41, upd]
/-- How the loop ends: early, or behind all bytes. -/
theorem loop41 (s : ByteArray) (hs : s.size ≤ 4000) : ∀ (j i K : Nat) (out : List (List Sc)) (B : List Int), i + j = s.size → j < K → isB B → B.length ≤ i → out.length ≤ i →
    (∃ st1, loopH (evC T41 KK b41x0) [0, 5, 6, 12, 13] K (canon41 s out B i) = some (.ret, st1) ∧ give st1.rts st1.hp (resL st1.env st1.hp res41) = some (.tup [.one (.row 0), .one (.str (ofBytes (spl B ((toBytes s).drop i)).2.1)), .one (.int .i64 (spl B ((toBytes s).drop i)).2.2)], [.rows (.recs 2 (out ++ (spl B ((toBytes s).drop i)).1.map frS))])) ∨
    (∃ env, loopH (evC T41 KK b41x0) [0, 5, 6, 12, 13] K (canon41 s out B i) = some (.exit 0, ⟨env, [.str s], [.rows (.recs 2 (out ++ (spl B ((toBytes s).drop i)).1.map frS)), .rows (.ints .u8 (spl B ((toBytes s).drop i)).2.1)]⟩) ∧ getT 5 env = .one (.row 0) ∧ getT 6 env = .one (.row 1) ∧ (spl B ((toBytes s).drop i)).2.2 = 0)
  | 0, i, K, out, B, hi, hK, hB, hl, ho => by
    obtain rfl : i = s.size := by omega
    obtain ⟨env, e, g⟩ := end41 s out B
    have hd : (toBytes s).drop s.size = [] := List.drop_eq_nil_of_le (by rw [toBytes_length]; omega)
    rw [hd]
    simp only [spl, List.map_nil, List.append_nil]
    exact .inr ⟨env, loopH_exit e, g.1, g.2, trivial⟩
  | j + 1, i, K, out, B, hi, hK, hB, hl, ho => by
    have hlt : i < s.size := by omega
    obtain ⟨b, hb, hd⟩ := drop_cons hlt
    have hbr := toBytes_range s i b hb
    have hB' : isB (B ++ [b]) := isB_append hB (isB_one hbr)
    have wi : IntKind.i64.wrap ((i : Int) + 1) = ((i + 1 : Nat) : Int) := by rw [i64_in _ (by omega)]; omega
    have hl1 : (B ++ [b]).length = B.length + 1 := by simp
    rw [hd]
    by_cases ha : ahd (B ++ [b]) = 0
    · by_cases hlen : (B ++ [b]).length < szF (B ++ [b])
      · obtain ⟨st1, e1, e2⟩ := body41n s out B i b hlt hb hB' (by omega) ha hlen _ wi
        have es : spl B (b :: (toBytes s).drop (i + 1)) = spl (B ++ [b]) ((toBytes s).drop (i + 1)) := by
          rw [spl, if_neg (fun h => h ha), if_pos hlen]
        rw [es, loopH_norm e1 (by omega), e2]
        exact loop41 s hs j (i + 1) (K - 1) out (B ++ [b]) (by omega) (by omega) hB' (by omega) (by omega)
      · cases hw : whl (B ++ [b]) with
        | none =>
          obtain ⟨st1, e1, e2⟩ := body41w s out B i b hlt hb hB' (by omega) ha hlen hw
          have es : spl B (b :: (toBytes s).drop (i + 1)) = ([], [], 4) := by
            rw [spl, if_neg (fun h => h ha), if_neg hlen, hw]
          rw [es]
          simp only [List.map_nil, List.append_nil, ofBytes_nil]
          exact .inl ⟨st1, loopH_ret e1, e2⟩
        | some f =>
          obtain ⟨st1, e1, e2⟩ := body41f s out B i b hlt hb hB' (by omega) (by omega) ha hlen f hw _ wi
          have es : spl B (b :: (toBytes s).drop (i + 1)) = (f :: (spl [] ((toBytes s).drop (i + 1))).1, (spl [] ((toBytes s).drop (i + 1))).2) := by
            rw [spl, if_neg (fun h => h ha), if_neg hlen, hw]
          rw [es, loopH_norm e1 (by omega), e2]
          have ih := loop41 s hs j (i + 1) (K - 1) (out ++ [frS f]) [] (by omega) (by omega) (by simp [isB]) (by simp) (by rw [List.length_append]; simp only [List.length_cons, List.length_nil]; omega)
          simp only [List.map_cons]
          rw [List.append_assoc, List.singleton_append] at ih
          exact ih
    · obtain ⟨st1, e1, e2⟩ := body41e s out B i b hlt hb hB' (by omega) ha
      have es : spl B (b :: (toBytes s).drop (i + 1)) = ([], [], ahd (B ++ [b])) := by
        rw [spl, if_pos ha]
      rw [es]
      simp only [List.map_nil, List.append_nil, ofBytes_nil]
      exact .inl ⟨st1, loopH_ret e1, e2⟩
end Go.X.Try
set_option maxRecDepth 100000
set_option linter.unusedSimpArgs false
set_option linter.unusedVariables false
namespace Go.X.Try
open Go.IntWalk
theorem f41 (s : ByteArray) (hs : s.size ≤ 4000) : F41 [.one (.str s)] [] = some (.tup [.one (.row 0), .one (.str (ofBytes (spl [] (toBytes s)).2.1)), .one (.int .i64 (spl [] (toBytes s)).2.2)], [.rows (.recs 2 ((spl [] (toBytes s)).1.map frS))]) := by
  have h := loop41 s hs s.size 0 KK [] [] (by omega) (by rw [KK_eq]; omega) (by simp [isB]) (by simp) (by simp)
  have z : ((0 : Nat) : Int) = 0 := rfl
  rw [List.drop_zero] at h
  simp only [List.nil_append] at h
  generalize spl [] (toBytes s) = q at *
  rcases h with ⟨st1, e1, e2⟩ | ⟨env, e, g5, g6, he⟩
  · generalize hres : (some (AV.tup [.one (.row 0), .one (.str (ofBytes q.2.1)), .one (.int .i64 q.2.2)], [.rows (.recs 2 (q.1.map frS))]) : Res) = res at *
    rw [← e2]
    obtain ⟨env1, rts1, hp1⟩ := st1
    simp only [canon41, z] at e1
    have e1' : evF T41 KK c41 [.one (.str s)] [] = resC res41 (some (.ret, ⟨env1, rts1, hp1⟩)) := by
      unfold evF
      have hr2 : c41.results = res41 := rfl
      rw [hr2]
      refine congrArg _ ?_
      simp -implicitDefEqProofs [c41, upd, e1]
    exact e1'
  · simp only [canon41, z] at e
    rw [he]
    simp -implicitDefEqProofs [F41, c41, upd, e, g5, g6]
theorem frst_inv {B : List Int} (h : InvF B) : frst B = (none, 0, 0) := by
  unfold frst
  by_cases h0 : B = []
  · rw [if_pos h0]
  · rw [if_neg h0]
    rcases h with h | ⟨hk, h3⟩
    · exact absurd h h0
    · rw [if_neg (by rw [hk]; decide)]
      by_cases hl : B.length < 3
      · rw [if_pos hl]
      · obtain ⟨a, b⟩ := h3 (by omega)
        rw [if_neg hl, if_neg (by omega), if_pos b]
theorem szF_app {B : List Int} (l : List Int) (h : 3 ≤ B.length) : szF (B ++ l) = szF B := by
  match B, h with
  | x :: y :: z :: r, _ => rfl
theorem getD_app {B : List Int} (l : List Int) (h : B ≠ []) : (B ++ l).getD 0 0 = B.getD 0 0 := by
  cases B with
  | nil => exact absurd rfl h
  | cons x r => rfl
theorem spl_frst : ∀ (l B : List Int), InvF B → spl B l = match frst (B ++ l) with
    | (some f, n, _) => (f :: (spl [] ((B ++ l).drop n)).1, (spl [] ((B ++ l).drop n)).2)
    | (none, n, e) => if e = 0 then ([], B ++ l, 0) else ([], [], e)
  | [], B, h => by rw [List.append_nil, frst_inv h]; rfl
  | b :: l, B, h => by
    have hBl : B ++ b :: l = (B ++ [b]) ++ l := by simp
    have hne : B ++ [b] ≠ [] := by simp
    rw [hBl]
    rcases frst_step b h with ⟨g1, n, g2⟩ | ⟨g1, g2, g3, g4⟩ | ⟨g1, g2, g3⟩
    · rw [spl, if_pos g1]
      have hfr : frst (B ++ [b] ++ l) = (none, n, ahd (B ++ [b])) := by
        match B, h, g1, g2 with
        | [], _, g1, g2 =>
          cases hk : kd b with
          | true => exact absurd (if_pos hk) g1
          | false =>
            have e1 : frst ([] ++ [b]) = (none, 1, 6) := by unfold frst; simp [hk]
            have e2 : frst ([] ++ [b] ++ l) = (none, 1, 6) := by unfold frst; simp [hk]
            rw [e2, ← e1]; exact g2
        | [x], _, g1, _ => exact absurd rfl g1
        | [x, y], h, g1, g2 =>
          have hk : kd x = true := by
            rcases h with h | h
            · cases h
            · exact h.1
          by_cases h9 : 911 < szF [x, y, b]
          · have h9' : 911 < szF (x :: y :: b :: l) := h9
            have e1 : frst ([x, y] ++ [b]) = (none, 3, 5) := by unfold frst; simp [hk, h9]
            have e2 : frst ([x, y] ++ [b] ++ l) = (none, 3, 5) := by unfold frst; simp [hk, h9']
            rw [e2, ← e1]; exact g2
          · exact absurd (if_neg h9) g1
        | x :: y :: z :: r, _, g1, _ => exact absurd (by cases r <;> rfl) g1
      rw [hfr]
      simp only
      rw [if_neg g1]
    · have hlen : (B ++ [b]).length < szF (B ++ [b]) := by
        rcases g4 with g4 | ⟨_, g4⟩
        · exact absurd g4 hne
        · by_cases h3 : 3 ≤ (B ++ [b]).length
          · exact (g4 h3).2
          · have := szF_ge (B ++ [b]); omega
      rw [spl, if_neg (fun x => x g1), if_pos hlen]
      exact spl_frst l (B ++ [b]) g4
    · rw [spl, if_neg (fun x => x g1), if_neg (by omega)]
      have hge := szF_ge (B ++ [b])
      have h3 : 3 ≤ (B ++ [b]).length := by omega
      have hB3 : 3 ≤ B.length := by
        have : (B ++ [b]).length = B.length + 1 := by simp
        omega
      have hsz := szF_app [b] hB3
      obtain ⟨hk, h2⟩ : kd (B.getD 0 0) = true ∧ szF B ≤ 911 := by
        rcases h with h | h
        · subst h; simp at hB3
        · exact ⟨h.1, (h.2 hB3).1⟩
      have hBne : B ≠ [] := by intro c; subst c; simp at hB3
      have hfr : frst (B ++ [b] ++ l) = match whl (B ++ [b]) with
          | none => (none, szF (B ++ [b]), 4)
          | some f => (some f, szF (B ++ [b]), 0) := by
        unfold frst
        rw [if_neg (by simp), getD_app l hne, getD_app [b] hBne, if_neg (by rw [hk]; decide), szF_app l h3, if_neg (by rw [List.length_append]; omega), if_neg (by omega), if_neg (by rw [List.length_append]; omega), ← g2, List.take_left' rfl]
        all_goals (cases whl (B ++ [b]) <;> rfl)
      rw [hfr]
      cases whl (B ++ [b]) with
      | none => rfl
      | some f =>
        simp only
        rw [← g2, List.drop_left' rfl]
theorem frst_some {l : List Int} {f : Int × List Int} {n : Nat} {e : Int} (h : frst l = (some f, n, e)) : e = 0 ∧ 11 ≤ n ∧ n ≤ l.length := by
  unfold frst at h
  have hge := szF_ge l
  split at h
  · cases h
  · split at h
    · cases h
    · split at h
      · cases h
      · split at h
        · cases h
        · split at h
          · cases h
          · split at h
            · cases h
            · simp only [Prod.mk.injEq] at h
              obtain ⟨_, rfl, rfl⟩ := h
              exact ⟨rfl, hge, by omega⟩
theorem frst_none {l : List Int} {n : Nat} (h : frst l = (none, n, 0)) : n = 0 := by
  unfold frst at h
  split at h
  · simp only [Prod.mk.injEq] at h; omega
  · split at h
    · simp at h
    · split at h
      · simp only [Prod.mk.injEq] at h; omega
      · split at h
        · simp at h
        · split at h
          · simp only [Prod.mk.injEq] at h; omega
          · split at h
            · simp at h
            · cases h
/-! ### the law -/
def canon10 (s0 : ByteArray) (L : List (List Sc)) (R : List Int) (e : Int) (l : List Int) (W : List (List Sc)) : St :=
  ⟨[(0, .one (.str (ofBytes l))), (3, .one (.row 0)), (4, .one (.str (ofBytes R))), (5, .one (.int .i64 e)), (6, .one (.row 1))], [.str s0], [.rows (.recs 2 L), .rows (.recs 2 W)]⟩
theorem end10 (s0 : ByteArray) (W : List (Int × List Int)) (hW : W.length ≤ 90000) (R : List Int) (e : Int) (l : List Int) (hl : isB l) (hll : l.length ≤ 8000) (n : Nat) (e' : Int) (hf : frst l = (none, n, e')) (h : (e' ≠ 0 ∧ e = e' ∧ R = []) ∨ (e' = 0 ∧ n = 0 ∧ e = 0 ∧ R = l)) :
    ∃ st1, evC T10 KK b10x0 (canon10 s0 (W.map frS) R e l (W.map frS)) = some (.ret, st1) ∧ getT 2 st1.env = .one (.bool true) ∧ st1.rts = [.str s0] := by
  have e33 := f33 W hW
  have e34 := f34 l hl hll
  rw [hf] at e34
  generalize W.map frS = M at *
  simp only [fsA, tupFst] at e34
  rcases h with ⟨h1, rfl, rfl⟩ | ⟨rfl, rfl, rfl, rfl⟩
  · simp -implicitDefEqProofs [b10x0, canon10, upd, e33, e34, h1, ofBytes_nil]
  · simp -implicitDefEqProofs [b10x0, canon10, upd, e33, e34, ofBytes_nil]
theorem body10 (s0 : ByteArray) (L : List (List Sc)) (W : List (Int × List Int)) (hW : W.length ≤ 90000) (R : List Int) (e : Int) (l : List Int) (hl : isB l) (hll : l.length ≤ 8000) (n : Nat) (f : Int × List Int) (hf : frst l = (some f, n, 0)) :
    ∃ st1, evC T10 KK b10x0 (canon10 s0 L R e l (W.map frS)) = some (.norm, st1) ∧ St.head [0, 3, 4, 5, 6] st1 = canon10 s0 L R e (l.drop n) ((W ++ [f]).map frS) := by
  have e34 := f34 l hl hll
  rw [hf] at e34
  obtain ⟨_, h2, h3⟩ := frst_some hf
  have h2i : ¬ (n : Int) = 0 := by omega
  have h2n : ¬ n = 0 := by omega
  have h3i : (n : Int) ≤ l.length := by omega
  have hsz := size_ofBytes l
  have ex := ofBytes_extract l n l.length
  rw [List.take_of_length_le (by rw [List.length_drop]; omega)] at ex
  have hM : (W.map frS).length = W.length := List.length_map _
  have ho1 : (W.length + 1) * 24 ≤ 140737488355328 := by omega
  rw [List.map_append]
  simp only [List.map_cons, List.map_nil]
  generalize W.map frS = M at *
  simp only [fsA, tupFst] at e34
  simp -implicitDefEqProofs [b10x0, canon10, upd, e34, h2i, h2n, h3, h3i, hsz, ex, RC.ofElems, RC.app, RC.len, RC.size, ho1, hM, frS, scsOf, SV.sc]
theorem loop10 (s0 : ByteArray) (L : List (Int × List Int)) (R : List Int) (e : Int) : ∀ (m : Nat) (l : List Int) (W : List (Int × List Int)) (K : Nat), l.length ≤ m → isB l → m ≤ 4000 → W.length + m ≤ 80000 → m < K → (L, R, e) = (W ++ (spl [] l).1, (spl [] l).2) →
    ∃ st1, loopH (evC T10 KK b10x0) [0, 3, 4, 5, 6] K (canon10 s0 (L.map frS) R e l (W.map frS)) = some (.ret, st1) ∧ getT 2 st1.env = .one (.bool true) ∧ st1.rts = [.str s0] := by
  intro m
  induction m with
  | zero =>
    intro l W K hm hB h4 hW hK hq
    have h0 : l = [] := List.eq_nil_of_length_eq_zero (by omega)
    subst h0
    simp only [spl, List.append_nil, Prod.mk.injEq] at hq
    obtain ⟨rfl, rfl, rfl⟩ := hq
    obtain ⟨st1, e1, e2⟩ := end10 s0 L (by omega) [] 0 [] hB (by simp) 0 0 rfl (.inr ⟨rfl, rfl, rfl, rfl⟩)
    exact ⟨st1, loopH_ret e1, e2⟩
  | succ m ih =>
    intro l W K hm hB h4 hW hK hq
    have hs := spl_frst l [] (.inl rfl)
    rw [List.nil_append] at hs
    cases hf : frst l with
    | mk fo ne =>
      obtain ⟨n, e'⟩ := ne
      rw [hf] at hs
      cases fo with
      | none =>
        simp only at hs
        by_cases he : e' = 0
        · rw [if_pos he] at hs
          rw [hs] at hq
          simp only [List.append_nil, Prod.mk.injEq] at hq
          obtain ⟨rfl, rfl, rfl⟩ := hq
          subst he
          obtain ⟨st1, e1, e2⟩ := end10 s0 L (by omega) R 0 R hB (by omega) n 0 hf (.inr ⟨rfl, frst_none hf, rfl, rfl⟩)
          exact ⟨st1, loopH_ret e1, e2⟩
        · rw [if_neg he] at hs
          rw [hs] at hq
          simp only [List.append_nil, Prod.mk.injEq] at hq
          obtain ⟨rfl, rfl, rfl⟩ := hq
          obtain ⟨st1, e1, e2⟩ := end10 s0 L (by omega) [] e l hB (by omega) n e hf (.inl ⟨he, rfl, rfl⟩)
          exact ⟨st1, loopH_ret e1, e2⟩
      | some f =>
        obtain ⟨rfl, h2, h3⟩ := frst_some hf
        simp only at hs
        obtain ⟨st1, e1, e2⟩ := body10 s0 (L.map frS) W (by omega) R e l hB (by omega) n f hf
        have := ih (l.drop n) (W ++ [f]) (K - 1) (by rw [List.length_drop]; omega) (isB_drop n hB) (by omega) (by rw [List.length_append]; simp only [List.length_cons, List.length_nil]; omega) (by omega) (by rw [hq, hs, List.append_assoc, List.singleton_append])
        rw [loopH_norm e1 (by omega), e2]
        exact this
theorem law10 (s : ByteArray) (_ : s.size ≤ maxLen) : F10 [.one (.str s)] [] = some (.one (.bool true), []) := by
  by_cases h2 : 200 < s.size
  · have h2i : (200 : Int) < s.size := by omega
    simp -implicitDefEqProofs [F10, c10, upd, h24, h2, h2i]
  have h2i : ¬ (200 : Int) < s.size := by omega
  have e41 := f41 s (by omega)
  have hl := toBytes_length s
  obtain ⟨st1, e, g2, g3⟩ := loop10 s (spl [] (toBytes s)).1 (spl [] (toBytes s)).2.1 (spl [] (toBytes s)).2.2 (toBytes s).length (toBytes s) [] KK (by omega) (isB_toBytes s) (by omega) (by simp only [List.length_nil]; omega) (by rw [KK_eq]; omega) rfl
  obtain ⟨env1, rts1, hp1⟩ := st1
  simp only at g2 g3
  subst g3
  simp only [canon10, List.map_nil, ofBytes_toBytes] at e
  generalize (spl [] (toBytes s)).1.map frS = M at *
  generalize (spl [] (toBytes s)).2.1 = R at *
  generalize (spl [] (toBytes s)).2.2 = er at *
  simp -implicitDefEqProofs [F10, c10, upd, h24, h2, h2i, e41, e, g2]
end Go.X.Try
