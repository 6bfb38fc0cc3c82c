import Derived.Test.YtcpgijcdmhehaaaVa
import Derived.Test.YtcpgijcdmhehaaaD6
set_option maxRecDepth 100000
set_option linter.unusedSimpArgs false
namespace Go.X.Try
open Go.IntWalk
theorem fold_sb : ∀ (l : List Int) (h : Int) (n : Nat), n + l.length < 100000 → l.foldl sbyte (h, (n : Int)) = (l.foldl sstep h, ((n + l.length : Nat) : Int))
  | [], h, n, _ => by simp
  | b :: l, h, n, hl => by
    have hl' : n + 1 + l.length < 100000 := by simp only [List.length_cons] at hl; omega
    have w : IntKind.u64.wrap ((n : Int) + 1) = ((n + 1 : Nat) : Int) := by rw [u64_in _ (by omega)]; omega
    simp only [List.foldl_cons, sbyte, w]
    rw [fold_sb l (sstep h b) (n + 1) hl']
    simp only [List.length_cons, Prod.mk.injEq, true_and]
    omega
def canon73 (s : ByteArray) (h0 n0 i h n : Int) : St :=
  ⟨[(1, .one (.str s)), (2, .one (.ptr 0 0)), (4, .one (.ptr 1 0)), (7, .one (.int .i64 s.size)), (8, .one (.int .i64 i))], [.int .u64 h0, .int .u64 n0, .str s], [.cells none [.int .u64 h, .int .u64 n], .cells none [.int .u64 0, .int .u64 0]]⟩
theorem body73 (s : ByteArray) (h0 n0 h n b : Int) (i : Nat) (hi : i < s.size) (hs : s.size < 10000) (hb : (toBytes s)[i]? = some b) :
    ∃ st1, evC T73 KK b73x0 (canon73 s h0 n0 i h n) = some (.norm, st1) ∧ St.head [1, 2, 4, 7, 8] st1 = canon73 s h0 n0 (i + 1 : Nat) (sstep h b) (IntKind.u64.wrap (n + 1)) := by
  have hr := toBytes_range s i b hb
  have hc : (i : Int) < s.size := by omega
  have hg : (toBytes s)[i]?.getD 0 = b := by rw [hb]; rfl
  have w2 : IntKind.i64.wrap ((i : Int) + 1) = (i : Int) + 1 := i64_in _ (by omega)
  have e67 := f67 h n b hr.1 hr.2
  simp -implicitDefEqProofs [b73x0, canon73, upd, hc, hi, hg, w2, e67]
theorem end73 (s : ByteArray) (h0 n0 h n i : Int) (hi : ¬ i < s.size) :
    ∃ env, evC T73 KK b73x0 (canon73 s h0 n0 i h n) = some (.exit 0, ⟨env, [.int .u64 h0, .int .u64 n0, .str s], [.cells none [.int .u64 h, .int .u64 n], .cells none [.int .u64 0, .int .u64 0]]⟩) ∧ getT 2 env = .one (.ptr 0 0) ∧ getT 4 env = .one (.ptr 1 0) := by
  simp -implicitDefEqProofs [b73x0, canon73, upd, hi]
theorem loop73 (s : ByteArray) (h0 n0 : Int) (hs : s.size < 10000) : ∀ (j i : Nat) (h n : Int) (K : Nat), i + j = s.size → j < K →
    ∃ env, loopH (evC T73 KK b73x0) [1, 2, 4, 7, 8] K (canon73 s h0 n0 i h n) = some (.exit 0, ⟨env, [.int .u64 h0, .int .u64 n0, .str s], [.cells none [.int .u64 (((toBytes s).drop i).foldl sbyte (h, n)).1, .int .u64 (((toBytes s).drop i).foldl sbyte (h, n)).2], .cells none [.int .u64 0, .int .u64 0]]⟩) ∧ getT 2 env = .one (.ptr 0 0) ∧ getT 4 env = .one (.ptr 1 0)
  | 0, i, h, n, K, hi, hK => by
    obtain ⟨env, e, g⟩ := end73 s h0 n0 h n i (by omega)
    rw [drop_end (by omega : s.size ≤ i)]
    exact ⟨env, loopH_exit e, g⟩
  | j + 1, i, h, n, K, hi, hK => by
    obtain ⟨b, hb, hd⟩ := drop_cons (by omega : i < s.size)
    obtain ⟨st1, e1, e2⟩ := body73 s h0 n0 h n b i (by omega) hs hb
    obtain ⟨env, e, g⟩ := loop73 s h0 n0 hs j (i + 1) (sstep h b) (IntKind.u64.wrap (n + 1)) (K - 1) (by omega) (by omega)
    refine ⟨env, ?_, g⟩
    rw [loopH_norm e1 (by omega), e2, hd]; exact e
theorem f40 (s : ByteArray) (hs : s.size < 10000) : F40 [.one (.str s)] [] = some (.one (.int .u64 (sumL (toBytes s))), []) := by
  have e73 : F73 [.agg [.int .u64 7640891576956012808, .int .u64 0], .one (.str s)] [] = some (.agg [.int .u64 ((toBytes s).foldl sstep 7640891576956012808), .int .u64 s.size], []) := by
    obtain ⟨env, e, g2, g4⟩ := loop73 s 7640891576956012808 0 hs s.size 0 7640891576956012808 0 KK (by omega) (by rw [KK_eq]; omega)
    have hf := fold_sb (toBytes s) 7640891576956012808 0 (by rw [toBytes_length]; omega)
    rw [List.drop_zero, show (0 : Int) = ((0 : Nat) : Int) from rfl, hf, toBytes_length, Nat.zero_add] at e
    have z : ((0 : Nat) : Int) = 0 := rfl
    simp only [canon73, z] at e
    simp -implicitDefEqProofs [F73, c73, upd, e, g2, g4]
  have e68 := f68 ((toBytes s).foldl sstep 7640891576956012808) s.size
  have e64 : F64 [] [] = some (.agg [.int .u64 7640891576956012808, .int .u64 0], []) := by
    simp -implicitDefEqProofs [F64, c64, upd]
  unfold sumL
  rw [toBytes_length]
  simp -implicitDefEqProofs [F40, c40, upd, e64, e73, e68]
theorem e18' (s : ByteArray) (hs : s.size < 10000) : F18 [.one (.str s)] [] = some (.one (.int .u64 (sumL (toBytes s))), []) := by
  rw [e18 s hs]; unfold sumL; rw [toBytes_length]
theorem f17 (s : ByteArray) (hs : s.size < 10000) : F17 [.one (.str s)] [] = some (.one (.int .u64 (sumL (toBytes s))), []) := by
  have e := f40 s hs
  simp -implicitDefEqProofs [F17, c17, upd, e]
def tupSI (s : ByteArray) (e : Int) : AV := .tup [.one (.str s), .one (.int .i64 e)]
theorem f14l (s : ByteArray) (h : 256 < s.size) : F14 [.one (.str s)] [] = some (tupSI ⟨#[]⟩ 5, []) := by
  have h1 : (256 : Int) < s.size := by omega
  simp -implicitDefEqProofs [F14, c14, upd, h, h1, tupSI]
theorem f14 (s : ByteArray) (h : s.size ≤ 256) : F14 [.one (.str s)] [] = some (tupSI (ofBytes (dictB (toBytes s))) 0, []) := by
  have h1 : ¬ (256 : Int) < s.size := by omega
  have h2 : ¬ 256 < s.size := by omega
  have hr := sumL_range (toBytes s)
  have e17 := f17 s (by omega)
  have ep : toBytes ⟨#[80, 68]⟩ = [80, 68] := rfl
  have e46 := f46 ⟨#[80, 68]⟩ [] (by decide)
  rw [ep, List.nil_append] at e46
  have e47 := f47 (sumL (toBytes s)).toNat 8 [80, 68] (by omega) (by simp)
  have hz : sz 8 = 8 := by unfold sz; rfl
  rw [hz, show (((sumL (toBytes s)).toNat : Nat) : Int) = sumL (toBytes s) by omega] at e47
  have hlen : ([80, 68] ++ fixB (sumL (toBytes s)).toNat 8).length ≤ 80000 := by rw [List.length_append, fixB_length]; decide
  have e48 := f48 s ([80, 68] ++ fixB (sumL (toBytes s)).toNat 8) hlen (by omega)
  have hD : [80, 68] ++ fixB (sumL (toBytes s)).toNat 8 ++ grp s.size ++ toBytes s = dictB (toBytes s) := by
    unfold dictB
    rw [toBytes_length, List.append_assoc, List.append_assoc]
  rw [hD] at e48
  have e49 := f49 (dictB (toBytes s))
  generalize [80, 68] ++ fixB (sumL (toBytes s)).toNat 8 = q at *
  generalize dictB (toBytes s) = d at *
  generalize sumL (toBytes s) = m at *
  simp only [wHp] at e46 e47 e48 e49
  simp -implicitDefEqProofs [F14, c14, upd, h1, h2, tupSI, e17, e46, e47, e48, e49]
theorem f16 (s : ByteArray) (h : s.size ≤ 256) : F16 [.one (.str s)] [] = some (.one (.str (ofBytes (dictB (toBytes s)))), []) := by
  have hr := sumL_range (toBytes s)
  have e18 := e18' s (by omega)
  have e56 := f56 (sumL (toBytes s)).toNat 8 (by omega)
  have hz : sz 8 = 8 := by unfold sz; rfl
  rw [hz, show (((sumL (toBytes s)).toNat : Nat) : Int) = sumL (toBytes s) by omega] at e56
  have e57 := f57 s (by omega)
  have ep : (⟨#[80, 68]⟩ : ByteArray) = ofBytes [80, 68] := rfl
  have a1 := ofBytes_append [80, 68] (fixB (sumL (toBytes s)).toNat 8)
  have a2 := ofBytes_append ([80, 68] ++ fixB (sumL (toBytes s)).toNat 8) (grp s.size ++ toBytes s)
  have hD : [80, 68] ++ fixB (sumL (toBytes s)).toNat 8 ++ (grp s.size ++ toBytes s) = dictB (toBytes s) := by
    unfold dictB
    rw [toBytes_length]
  rw [hD] at a2
  have hm1 : (ofBytes [80, 68]).size + (ofBytes (fixB (sumL (toBytes s)).toNat 8)).size ≤ 9223372036854775807 := by rw [size_ofBytes, size_ofBytes, fixB_length]; decide
  have hm2 : (ofBytes ([80, 68] ++ fixB (sumL (toBytes s)).toNat 8)).size + (ofBytes (grp s.size ++ toBytes s)).size ≤ 9223372036854775807 := by
    have := grp_ten (v := s.size) (by omega)
    rw [size_ofBytes, size_ofBytes, List.length_append, fixB_length, List.length_append, size_toBytes]; simp only [List.length_cons, List.length_nil]; omega
  generalize [80, 68] ++ fixB (sumL (toBytes s)).toNat 8 = q at *
  generalize grp s.size ++ toBytes s = g at *
  generalize dictB (toBytes s) = d at *
  generalize fixB (sumL (toBytes s)).toNat 8 = fx at *
  generalize sumL (toBytes s) = m at *
  simp -implicitDefEqProofs [F16, c16, upd, e18, e56, e57, ep, a1, a2, hm1, hm2]
end Go.X.Try
