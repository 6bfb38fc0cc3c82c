import Derived.Test.YtcpgijcdmhehaaaD5
import Derived.Test.YtcpgijcdmhehaaaAu
set_option maxRecDepth 100000
set_option linter.unusedSimpArgs false
namespace Go.X.Try
open Go.IntWalk
def sbyte (p : Int × Int) (b : Int) : Int × Int := (sstep p.1 b, IntKind.u64.wrap (p.2 + 1))
def recS (p : Int × Int) (b : Int) : List Sc := [.int .u8 b, .int .u64 (sfin (sstep p.1 b) (IntKind.u64.wrap (p.2 + 1))), .bool true]
def sendR : Int × Int → List Int → List (List Sc)
  | _, [] => []
  | p, b :: l => recS p b :: sendR (sbyte p b) l
def recI (b : Int) : List Sc := [.int .u8 b, .int .u64 0, .bool false]
def okv (X : List (List Sc)) : Option (Nat × Nat) → Prop
  | none => True
  | some (o, n) => o + n ≤ X.length
theorem cont_len (X : List (List Sc)) (s : Option (Nat × Nat)) (h : okv X s) : (cont X s).length = slen X s := by
  cases s with
  | none => rfl
  | some p =>
    obtain ⟨o, n⟩ := p
    simp only [okv] at h
    simp only [cont, slen, List.length_take, List.length_drop]
    omega
theorem sendR_length : ∀ (l : List Int) (p : Int × Int), (sendR p l).length = l.length
  | [], _ => rfl
  | b :: l, p => by simp [sendR, sendR_length l]
theorem cont_le (X : List (List Sc)) (s : Option (Nat × Nat)) (h : okv X s) {n : Nat} (hn : slen X s ≤ n) : (cont X s).length ≤ n := by rw [cont_len X s h]; exact hn
theorem drop_cons {s : ByteArray} {i : Nat} (hi : i < s.size) : ∃ b, (toBytes s)[i]? = some b ∧ (toBytes s).drop i = b :: (toBytes s).drop (i + 1) := by
  obtain ⟨b, hb⟩ : ∃ b, (toBytes s)[i]? = some b := ⟨_, List.getElem?_eq_getElem (by rw [toBytes_length]; omega)⟩
  refine ⟨b, hb, ?_⟩
  obtain ⟨hlt', e⟩ := List.getElem?_eq_some_iff.1 hb
  rw [List.drop_eq_getElem_cons hlt', e]
theorem drop_end {s : ByteArray} {i : Nat} (hi : s.size ≤ i) : (toBytes s).drop i = [] := List.drop_eq_nil_of_le (by rw [toBytes_length]; exact hi)
theorem end30 (s : ByteArray) (i : Nat) (most h n : Int) (sf sc : Option (Nat × Nat)) (X Y : List (List Sc)) (hi : s.size = i) :
    ∃ env, evC T30 KK b30x0 (canon30 s i most sf sc X Y h n) = some (.exit 0, ⟨env, [.ptr 0 0, .str s], pipeHp (some 0) most sf sc X Y h n⟩) := by
  simp -implicitDefEqProofs [b30x0, canon30, pipeHp, pipeCells, hi]
theorem loop30 (s : ByteArray) (hs : s.size < 10000) : ∀ (j i : Nat) (most h n : Int) (sf sc : Option (Nat × Nat)) (X Y : List (List Sc)) (k : Nat), i + j = s.size → (cont X sf).length + j ≤ 10000 → okv X sf → j < k →
    ∃ env sf' X', loopH (evC T30 KK b30x0) [0, 1, 16, 17] k (canon30 s i most sf sc X Y h n) = some (.exit 0, ⟨env, [.ptr 0 0, .str s], pipeHp (some 0) most sf' sc X' Y (((toBytes s).drop i).foldl sbyte (h, n)).1 (((toBytes s).drop i).foldl sbyte (h, n)).2⟩) ∧ cont X' sf' = cont X sf ++ sendR (h, n) ((toBytes s).drop i) ∧ okv X' sf'
  | 0, i, most, h, n, sf, sc, X, Y, k, hi, hl, hok, hk => by
    obtain ⟨env, e⟩ := end30 s i most h n sf sc X Y (by omega)
    rw [drop_end (by omega : s.size ≤ i)]
    exact ⟨env, sf, X, loopH_exit e, by simp [sendR], hok⟩
  | j + 1, i, most, h, n, sf, sc, X, Y, k, hi, hl, hok, hk => by
    obtain ⟨b, hb, hd⟩ := drop_cons (by omega : i < s.size)
    obtain ⟨st1, e1, e2⟩ := body30 s i b most h n sf sc X Y (by omega) hs hb (by omega)
    obtain ⟨env, sf', X', p, q, r⟩ := loop30 s hs j (i + 1) most (sstep h b) (IntKind.u64.wrap (n + 1)) none sc (cont X sf ++ [recS (h, n) b]) Y (k - 1) (by omega) (by simp only [cont, List.length_append, List.length_cons, List.length_nil] at hl ⊢; omega) trivial (by omega)
    refine ⟨env, sf', X', ?_, ?_, r⟩
    · rw [loopH_norm e1 (by omega), e2, hd]; exact p
    · rw [q, hd]; simp [cont, sendR, sbyte]
theorem f30 (s : ByteArray) (most h n : Int) (sf sc : Option (Nat × Nat)) (X Y : List (List Sc)) (hw : 0 ≤ most ∧ most ≤ 2048) (h1 : slen X sf ≤ 4000) (h2 : slen Y sc ≤ 4000) (hok : okv X sf) (hf : (s.size : Int) ≤ most - slen X sf - slen Y sc) :
    ∃ sf' X', F30 [.one (.ptr 0 0), .one (.str s)] (pipeHp (some 0) most sf sc X Y h n) = some (.one (.bool true), pipeHp (some 0) most sf' sc X' Y ((toBytes s).foldl sbyte (h, n)).1 ((toBytes s).foldl sbyte (h, n)).2) ∧ cont X' sf' = cont X sf ++ sendR (h, n) (toBytes s) ∧ okv X' sf' := by
  have hlen := cont_len X sf hok
  have e66 := f66 most h n sf sc X Y hw h1 h2
  have hf' : ¬ (most - slen X sf - slen Y sc < (s.size : Int)) := by omega
  obtain ⟨env, sf', X', p, q, r⟩ := loop30 s (by omega) s.size 0 most h n sf sc X Y KK (by omega) (by omega) hok (by rw [KK_eq]; omega)
  have z : ((0 : Nat) : Int) = 0 := rfl
  simp only [canon30, pipeHp, pipeCells, List.drop_zero, z] at p q e66
  refine ⟨sf', X', ?_, q, r⟩
  generalize slen X sf = lx at *
  generalize slen Y sc = ly at *
  cases sf <;> cases sc <;> cases sf' <;> simp only [slv] at p e66 <;> simp -implicitDefEqProofs [F30, c30, upd, pipeHp, pipeCells, slv, e66, hf', p]
theorem f30' (s : ByteArray) (most h n : Int) (sf sc : Option (Nat × Nat)) (X Y : List (List Sc)) (hw : 0 ≤ most ∧ most ≤ 2048) (h1 : slen X sf ≤ 4000) (h2 : slen Y sc ≤ 4000) (hf : most - slen X sf - slen Y sc < (s.size : Int)) :
    F30 [.one (.ptr 0 0), .one (.str s)] (pipeHp (some 0) most sf sc X Y h n) = some (.one (.bool false), pipeHp (some 0) most sf sc X Y h n) := by
  have e66 := f66 most h n sf sc X Y hw h1 h2
  simp only [pipeHp, pipeCells] at e66
  generalize slen X sf = lx at *
  generalize slen Y sc = ly at *
  cases sf <;> cases sc <;> simp only [slv] at e66 <;> simp -implicitDefEqProofs [F30, c30, upd, pipeHp, pipeCells, slv, e66, hf]
end Go.X.Try
