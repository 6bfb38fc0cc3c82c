import Derived.Test.YthcbhmgjkecppaaD6
set_option maxRecDepth 100000
set_option linter.unusedSimpArgs false
namespace Go.X.Try
open Go.IntWalk
theorem body59 (s : ByteArray) (i : Nat) (b most h n : Int) (sf sc : Option (Nat × Nat)) (X Y : List (List Sc)) (hi : i < s.size) (hs : s.size < 10000) (hb : (toBytes s)[i]? = some b) (hl : (cont Y sc).length ≤ 10000) :
    ∃ st1, evC T59 KK b59x0 (canon39 s i most sf sc X Y h n) = some (.norm, st1) ∧ St.head [0, 1, 16, 17] st1 = canon39 s (i + 1 : Nat) most sf none X (cont Y sc ++ [recI b]) h n := by
  have hr := toBytes_range s i b hb
  have hc : (i : Int) < s.size := by omega
  have hg : (toBytes s)[i]?.getD 0 = b := by rw [hb]; rfl
  have w2 : IntKind.i64.wrap ((i : Int) + 1) = (i : Int) + 1 := i64_in _ (by omega)
  have hm : ((cont Y sc).length + 1) * 24 ≤ 140737488355328 := by omega
  cases sc with
  | none =>
    simp only [cont] at hm ⊢
    cases sf <;> simp -implicitDefEqProofs [b59x0, canon39, pipeHp, pipeCells, slv, upd, hc, hi, hg, w2, hm, RC.len, RC.size, RC.app, RC.ofElems, recI]
  | some p =>
    obtain ⟨o, m⟩ := p
    simp only [cont, List.length_take, List.length_drop] at hm ⊢
    cases sf <;> simp -implicitDefEqProofs [b59x0, canon39, pipeHp, pipeCells, slv, upd, hc, hi, hg, w2, hm, RC.len, RC.size, RC.app, RC.ofElems, RC.cut, recI]
theorem end59 (s : ByteArray) (i : Nat) (most h n : Int) (sf sc : Option (Nat × Nat)) (X Y : List (List Sc)) (hi : s.size = i) :
    ∃ env, evC T59 KK b59x0 (canon39 s i most sf sc X Y h n) = some (.exit 0, ⟨env, [.ptr 0 0, .str s], pipeHp (some 0) most sf sc X Y h n⟩) := by
  simp -implicitDefEqProofs [b59x0, canon39, pipeHp, pipeCells, hi]
theorem loop59 (s : ByteArray) (hs : s.size < 10000) : ∀ (j i : Nat) (most h n : Int) (sf sc : Option (Nat × Nat)) (X Y : List (List Sc)) (k : Nat), i + j = s.size → (cont Y sc).length + j ≤ 10000 → okv Y sc → j < k →
    ∃ env sc' Y', loopH (evC T59 KK b59x0) [0, 1, 16, 17] k (canon39 s i most sf sc X Y h n) = some (.exit 0, ⟨env, [.ptr 0 0, .str s], pipeHp (some 0) most sf sc' X Y' h n⟩) ∧ cont Y' sc' = cont Y sc ++ ((toBytes s).drop i).map recI ∧ okv Y' sc'
  | 0, i, most, h, n, sf, sc, X, Y, k, hi, hl, hok, hk => by
    obtain ⟨env, e⟩ := end59 s i most h n sf sc X Y (by omega)
    rw [drop_end (by omega : s.size ≤ i)]
    exact ⟨env, sc, Y, loopH_exit e, by simp, hok⟩
  | j + 1, i, most, h, n, sf, sc, X, Y, k, hi, hl, hok, hk => by
    obtain ⟨b, hb, hd⟩ := drop_cons (by omega : i < s.size)
    obtain ⟨st1, e1, e2⟩ := body59 s i b most h n sf sc X Y (by omega) hs hb (by omega)
    obtain ⟨env, sf', X', p, q, r⟩ := loop59 s hs j (i + 1) most h n sf none X (cont Y sc ++ [recI b]) (k - 1) (by omega) (by simp only [cont, List.length_append, List.length_cons, List.length_nil] at hl ⊢; omega) trivial (by omega)
    refine ⟨env, sf', X', ?_, ?_, r⟩
    · rw [loopH_norm e1 (by omega), e2]; exact p
    · rw [q, hd]; simp [cont]
theorem f59 (s : ByteArray) (most h n : Int) (sf sc : Option (Nat × Nat)) (X Y : List (List Sc)) (hw : 0 ≤ most ∧ most ≤ 2048) (h1 : slen X sf ≤ 4000) (h2 : slen Y sc ≤ 4000) (hok : okv Y sc) (hf : (s.size : Int) ≤ most - slen X sf - slen Y sc) :
    ∃ sc' Y', F59 [.one (.ptr 0 0), .one (.str s)] (pipeHp (some 0) most sf sc X Y h n) = some (.one (.bool true), pipeHp (some 0) most sf sc' X Y' h n) ∧ cont Y' sc' = cont Y sc ++ (toBytes s).map recI ∧ okv Y' sc' := by
  have hlen := cont_len Y sc hok
  have e86 := f86 most h n sf sc X Y hw h1 h2
  have hf' : ¬ (most - slen X sf - slen Y sc < (s.size : Int)) := by omega
  obtain ⟨env, sf', X', p, q, r⟩ := loop59 s (by omega) s.size 0 most h n sf sc X Y KK (by omega) (by omega) hok (by rw [KK_eq]; omega)
  have z : ((0 : Nat) : Int) = 0 := rfl
  simp only [canon39, pipeHp, pipeCells, List.drop_zero, z] at p q e86
  refine ⟨sf', X', ?_, q, r⟩
  generalize slen X sf = lx at *
  generalize slen Y sc = ly at *
  cases sf <;> cases sc <;> cases sf' <;> simp only [slv] at p e86 <;> simp -implicitDefEqProofs [F59, c59, upd, pipeHp, pipeCells, slv, e86, hf', p]
theorem f59' (s : ByteArray) (most h n : Int) (sf sc : Option (Nat × Nat)) (X Y : List (List Sc)) (hw : 0 ≤ most ∧ most ≤ 2048) (h1 : slen X sf ≤ 4000) (h2 : slen Y sc ≤ 4000) (hf : most - slen X sf - slen Y sc < (s.size : Int)) :
    F59 [.one (.ptr 0 0), .one (.str s)] (pipeHp (some 0) most sf sc X Y h n) = some (.one (.bool false), pipeHp (some 0) most sf sc X Y h n) := by
  have e86 := f86 most h n sf sc X Y hw h1 h2
  simp only [pipeHp, pipeCells] at e86
  generalize slen X sf = lx at *
  generalize slen Y sc = ly at *
  cases sf <;> cases sc <;> simp only [slv] at e86 <;> simp -implicitDefEqProofs [F59, c59, upd, pipeHp, pipeCells, slv, e86, hf]
theorem f107 (most h n : Int) (sf sc : Option (Nat × Nat)) (X Y : List (List Sc)) :
    F107 [.one (.ptr 0 0)] (pipeHp (some 0) most sf sc X Y h n) = some (.tup [], pipeHp (some 0) most none none [] [] 7640891576956012808 0) := by
  cases sf <;> cases sc <;> simp -implicitDefEqProofs [F107, c107, upd, pipeHp, pipeCells, slv, F109, c109]
theorem f65 (most h n : Int) (sf sc : Option (Nat × Nat)) (X Y : List (List Sc)) (hok : okv Y sc) (hl : slen Y sc ≤ 4000) (B : List (List Sc)) (x0 x1 : Int) (x2 : Bool) (hb : cont Y sc = [.int .u8 x0, .int .u64 x1, .bool x2] :: B) :
    ∃ sc' Y', F65 [.one (.ptr 0 0)] (pipeHp (some 0) most sf sc X Y h n) = some (.tup [.agg [.int .u8 x0, .int .u64 x1, .bool x2], .one (.bool true)], pipeHp (some 0) most sf sc' X Y' h n) ∧ cont Y' sc' = B ∧ okv Y' sc' := by
  have e61 := f61 most h n sf sc X Y
  have hlen := cont_len Y sc hok
  rw [hb] at hlen
  simp only [List.length_cons] at hlen
  rw [← hlen] at e61
  cases sc with
  | none =>
    simp only [cont] at hb
    subst hb
    refine ⟨some (1, B.length), [.int .u8 x0, .int .u64 x1, .bool x2] :: B, ?_, ?_, ?_⟩
    · have z : ¬ ((B.length : Int) + 1 = 0) := by omega
      have z1 : (0 : Int) < (B.length : Int) + 1 := by omega
      have z2 : (1 : Int) ≤ (B.length : Int) + 1 := by omega
      simp only [pipeHp, pipeCells] at e61
      cases sf <;> simp only [slv] at e61 <;> simp -implicitDefEqProofs [F65, c65, upd, pipeHp, pipeCells, slv, e61, RC.len, RC.size, RC.elem, takeE, z, z1, z2]
    · simp [cont]
    · simp [okv]; omega
  | some p =>
    obtain ⟨o, m⟩ := p
    simp only [slen] at hlen
    subst hlen
    simp only [cont] at hb
    simp only [okv] at hok
    have hx : Y[o]? = some [.int .u8 x0, .int .u64 x1, .bool x2] := by
      have := congrArg (fun l => l[0]?) hb
      simpa [List.getElem?_take, List.getElem?_drop] using this
    have hx2 : Y[o]?.getD [] = [.int .u8 x0, .int .u64 x1, .bool x2] := by rw [hx]; rfl
    obtain ⟨hlt, hx3⟩ := List.getElem?_eq_some_iff.1 hx
    refine ⟨some (o + 1, B.length), Y, ?_, ?_, ?_⟩
    · have z : ¬ ((B.length : Int) + 1 = 0) := by omega
      have z1 : (0 : Int) < (B.length : Int) + 1 := by omega
      have z2 : (1 : Int) ≤ (B.length : Int) + 1 := by omega
      simp only [pipeHp, pipeCells] at e61
      cases sf <;> simp only [slv] at e61 <;> simp -implicitDefEqProofs [F65, c65, upd, pipeHp, pipeCells, slv, e61, RC.len, RC.size, RC.elem, takeE, z, z1, z2, hx2]
    · simp only [cont]
      have := congrArg (fun l => l.drop 1) hb
      simpa [List.drop_take, List.drop_drop, Nat.add_comm] using this
    · simp only [okv]; omega
theorem f65' (most h n : Int) (sf sc : Option (Nat × Nat)) (X Y : List (List Sc)) (hok : okv Y sc) (hb : cont Y sc = []) :
    F65 [.one (.ptr 0 0)] (pipeHp (some 0) most sf sc X Y h n) = some (.tup [.agg [.int .u8 0, .int .u64 0, .bool false], .one (.bool false)], pipeHp (some 0) most sf sc X Y h n) := by
  have e61 := f61 most h n sf sc X Y
  have hl := cont_len Y sc hok
  rw [hb] at hl
  rw [← hl] at e61
  simp only [pipeHp, pipeCells] at e61
  cases sf <;> cases sc <;> simp only [slv] at e61 <;> simp -implicitDefEqProofs [F65, c65, upd, pipeHp, pipeCells, slv, e61]
end Go.X.Try
