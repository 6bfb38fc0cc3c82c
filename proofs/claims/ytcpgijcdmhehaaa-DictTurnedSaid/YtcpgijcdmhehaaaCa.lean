import Derived.Test.YtcpgijcdmhehaaaB1
import Derived.Test.YtcpgijcdmhehaaaAx
set_option maxRecDepth 100000
set_option linter.unusedSimpArgs false
namespace Go.X.Try
open Go.IntWalk
/-- A number's bytes in groups. -/
def grp (v : Nat) : List Int := if _h : v < 128 then [(v : Int)] else ((v % 128 + 128 : Nat) : Int) :: grp (v / 128)
termination_by v
theorem grp_lt {v : Nat} (h : v < 128) : grp v = [(v : Int)] := by rw [grp, dif_pos h]
theorem grp_ge {v : Nat} (h : ¬ v < 128) : grp v = ((v % 128 + 128 : Nat) : Int) :: grp (v / 128) := by rw [grp, dif_neg h]
theorem grp_isB (v : Nat) : isB (grp v) := by
  induction v using Nat.strongRecOn with
  | ind v ih =>
  by_cases h : v < 128
  · rw [grp_lt h]; exact isB_one (by omega)
  · rw [grp_ge h]
    intro x hx
    rcases List.mem_cons.1 hx with rfl | hx
    · omega
    · exact ih (v / 128) (by omega) x hx
theorem grp_len : ∀ (n v : Nat), v < 128 ^ (n + 1) → (grp v).length ≤ n + 1
  | 0, v, h => by rw [grp_lt (by omega)]; simp
  | n + 1, v, h => by
    by_cases hv : v < 128
    · rw [grp_lt hv]; simp
    · rw [grp_ge hv, List.length_cons]
      have := grp_len n (v / 128) (by
        rw [Nat.div_lt_iff_lt_mul (by omega)]
        rw [Nat.pow_succ] at h
        exact h)
      omega
theorem grp_ten {v : Nat} (h : v < 2 ^ 64) : (grp v).length ≤ 10 := grp_len 9 v (by omega)
def wHp (g : Option Nat) (bs : List Int) : List Ob := [.cells g [.row 1], .rows (.ints .u8 bs)]
theorem or128 : ∀ x : Fin 256, bitsI .or .u8 (x.val : Int) 128 = ((x.val % 128 + 128 : Nat) : Int) := by decide +kernel
def canon78 (v0 v : Int) (bs : List Int) : St := ⟨[(0, .one (.ptr 0 0)), (1, .one (.int .u64 v))], [.ptr 0 0, .int .u64 v0], wHp (some 0) bs⟩
theorem body78 (v0 v c b v' : Int) (bs : List Int) (hv : 127 < v) (ec : IntKind.u8.wrap v = c) (eb : bitsI .or .u8 c 128 = b) (es : shrI .u64 v 7 = v') (hm : bs.length + 1 ≤ 140737488355328) :
    ∃ st1, evC T78 KK b78x0 (canon78 v0 v bs) = some (.norm, st1) ∧ St.head [0, 1] st1 = canon78 v0 v' (bs ++ [b]) := by
  simp -implicitDefEqProofs [b78x0, canon78, wHp, upd, hv, ec, eb, es, hm, RC.len, RC.size, RC.app, RC.ofElems]
theorem end78 (v0 v : Int) (bs : List Int) (hv : ¬ 127 < v) :
    ∃ env, evC T78 KK b78x0 (canon78 v0 v bs) = some (.exit 0, ⟨env, [.ptr 0 0, .int .u64 v0], wHp (some 0) bs⟩) ∧ getT 0 env = .one (.ptr 0 0) ∧ getT 1 env = .one (.int .u64 v) := by
  simp -implicitDefEqProofs [b78x0, canon78, upd, hv]
theorem loop78 (v0 : Int) (v : Nat) : ∀ (bs : List Int) (K : Nat), v < 2 ^ 64 → bs.length + (grp v).length ≤ 100000 → (grp v).length < K →
    ∃ env bs' u, loopH (evC T78 KK b78x0) [0, 1] K (canon78 v0 v bs) = some (.exit 0, ⟨env, [.ptr 0 0, .int .u64 v0], wHp (some 0) bs'⟩) ∧ getT 0 env = .one (.ptr 0 0) ∧ getT 1 env = .one (.int .u64 (u : Nat)) ∧ u < 128 ∧ bs' ++ [(u : Int)] = bs ++ grp v := by
  induction v using Nat.strongRecOn with
  | ind v ih =>
  intro bs K hv hl hK
  by_cases h : v < 128
  · obtain ⟨env, e, g0, g1⟩ := end78 v0 v bs (by omega)
    exact ⟨env, bs, v, loopH_exit e, g0, g1, h, by rw [grp_lt h]⟩
  · rw [grp_ge h] at hl hK ⊢
    simp only [List.length_cons] at hl hK
    have eb : bitsI .or .u8 ((v % 256 : Nat) : Int) 128 = ((v % 128 + 128 : Nat) : Int) := by
      have := or128 ⟨v % 256, by omega⟩
      simp only at this
      rw [this]; congr 1; omega
    obtain ⟨st1, e1, e2⟩ := body78 v0 v (v % 256 : Nat) (v % 128 + 128 : Nat) (v / 128 : Nat) bs (by omega) (by rw [IntKind.wrap_u8]; omega) eb (shr_in (n := 7) (by simp only [IntKind.bits]; omega)) (by omega)
    obtain ⟨env, bs', u, e, g0, g1, hu, hb⟩ := ih (v / 128) (by omega) (bs ++ [((v % 128 + 128 : Nat) : Int)]) (K - 1) (by omega) (by rw [List.length_append, List.length_cons, List.length_nil]; omega) (by omega)
    exact ⟨env, bs', u, by rw [loopH_norm e1 (by omega), e2]; exact e, g0, g1, hu, by rw [hb]; simp⟩
theorem f78n (v : Int) : F78 [.one .nilp, .one (.int .u64 v)] [] = some (.one .nilp, []) := by
  simp -implicitDefEqProofs [F78, c78, upd]
theorem f78 (v : Nat) (bs : List Int) (hv : v < 2 ^ 64) (hl : bs.length ≤ 90000) : F78 [.one (.ptr 0 0), .one (.int .u64 v)] (wHp (some 0) bs) = some (.one (.ptr 0 0), wHp (some 0) (bs ++ grp v)) := by
  have h10 := grp_ten hv
  obtain ⟨env, bs', u, e, g0, g1, hu, hb⟩ := loop78 v v bs KK hv (by omega) (by rw [KK_eq]; omega)
  have hbl := congrArg List.length hb
  simp only [List.length_append, List.length_cons, List.length_nil] at hbl
  have w : IntKind.u8.wrap (u : Int) = u := u8_in _ (by omega)
  have hm : bs'.length + 1 ≤ 140737488355328 := by omega
  simp only [canon78, wHp] at e
  rw [← hb]
  clear hb hbl
  simp -implicitDefEqProofs [F78, c78, upd, wHp, e, g0, g1, w, hm, RC.len, RC.size, RC.app, RC.ofElems]
theorem f49n : F49 [.one .nilp] [] = some (.one (.str ⟨#[]⟩), []) := by
  simp -implicitDefEqProofs [F49, c49, upd]
theorem f49 (bs : List Int) : F49 [.one (.ptr 0 0)] (wHp (some 0) bs) = some (.one (.str (ofBytes bs)), wHp (some 0) bs) := by
  simp -implicitDefEqProofs [F49, c49, upd, wHp]
/-! ### the reader -/
def rHp (g : Option Nat) (l : List Int) (bad : Bool) : List Ob := [.cells g [.str (ofBytes l), .bool bad]]
theorem f50 (s : ByteArray) : F50 [.one (.str s)] [] = some (.one (.ptr 0 0), rHp none (toBytes s) false) := by
  simp -implicitDefEqProofs [F50, c50, upd, rHp, ofBytes_toBytes]
theorem f54n : F54 [.one .nilp] [] = some (.one (.bool true), []) := by
  simp -implicitDefEqProofs [F54, c54, upd]
theorem f54 (l : List Int) (bad : Bool) : F54 [.one (.ptr 0 0)] (rHp (some 0) l bad) = some (.one (.bool bad), rHp (some 0) l bad) := by
  simp -implicitDefEqProofs [F54, c54, upd, rHp]
theorem f79 (l : List Int) (bad : Bool) : F79 [.one (.ptr 0 0)] (rHp (some 0) l bad) = some (.tup [], rHp (some 0) [] true) := by
  simp -implicitDefEqProofs [F79, c79, upd, rHp, ofBytes_nil]
theorem f79n : F79 [.one .nilp] [] = some (.tup [], []) := by
  simp -implicitDefEqProofs [F79, c79, upd]
theorem f55n : F55 [.one .nilp] [] = some (.one (.bool false), []) := by
  simp -implicitDefEqProofs [F55, c55, upd, f54n]
theorem f55 (l : List Int) (bad : Bool) : F55 [.one (.ptr 0 0)] (rHp (some 0) l bad) = some (.one (.bool (!bad && decide (l = []))), rHp (some 0) l bad) := by
  have e54 := f54 l bad
  have e0 := emptyS l
  simp only [rHp] at e54
  cases bad <;> simp -implicitDefEqProofs [F55, c55, upd, rHp, e54, e0]
theorem f51n (n : Int) : F51 [.one .nilp, .one (.int .i64 n)] [] = some (.one (.str ⟨#[]⟩), []) := by
  by_cases h : n < 0
  · simp -implicitDefEqProofs [F51, c51, upd, f54n, f79n, h]
  · simp -implicitDefEqProofs [F51, c51, upd, f54n, f79n, h]
theorem f51b (l : List Int) (n : Int) : F51 [.one (.ptr 0 0), .one (.int .i64 n)] (rHp (some 0) l true) = some (.one (.str (ofBytes [])), rHp (some 0) [] true) := by
  have e54 := f54 l true
  have e79 := f79 l true
  simp only [rHp, ofBytes_nil] at e54 e79 ⊢
  by_cases h : n < 0
  · simp -implicitDefEqProofs [F51, c51, upd, e54, e79, h]
  · simp -implicitDefEqProofs [F51, c51, upd, e54, e79, h]
theorem f51s (l : List Int) (n : Int) (h : (l.length : Int) < n) : F51 [.one (.ptr 0 0), .one (.int .i64 n)] (rHp (some 0) l false) = some (.one (.str (ofBytes [])), rHp (some 0) [] true) := by
  have e54 := f54 l false
  have e79 := f79 l false
  have h0 : ¬ n < 0 := by omega
  simp only [rHp, ofBytes_nil] at e54 e79 ⊢
  simp -implicitDefEqProofs [F51, c51, upd, e54, e79, h0, size_ofBytes, h]
theorem f51 (l : List Int) (n : Int) (m : Nat) (h : m = if n < 0 then 0 else n.toNat) (hm : m ≤ l.length) (hl : l.length ≤ 9223372036854775807) : F51 [.one (.ptr 0 0), .one (.int .i64 n)] (rHp (some 0) l false) = some (.one (.str (ofBytes (l.take m))), rHp (some 0) (l.drop m) false) := by
  have e54 := f54 l false
  have hmi : ¬ ((l.length : Int) < (m : Int)) := by omega
  have hmn : ¬ (l.length < m) := by omega
  have htk : List.take (l.length - m) (List.drop m l) = List.drop m l := List.take_of_length_le (by rw [List.length_drop]; omega)
  simp only [rHp] at e54 ⊢
  by_cases h0 : n < 0
  · rw [if_pos h0] at h
    subst h
    have hl0 : ¬ ((l.length : Int) < 0) := by omega
    simp -implicitDefEqProofs [F51, c51, upd, e54, size_ofBytes, h0, hl0, ofBytes_extract, htk, empty_ofBytes]
  · rw [if_neg h0] at h
    obtain ⟨k, rfl⟩ : ∃ k : Nat, n = k := ⟨n.toNat, by omega⟩
    rw [Int.toNat_natCast] at h
    subst h
    simp -implicitDefEqProofs [F51, c51, upd, e54, size_ofBytes, h0, hmi, hmn, hm, ofBytes_extract, htk]
end Go.X.Try
