import Derived.Test.YthcbhmgjkecppaaKf
set_option maxRecDepth 100000
set_option linter.unusedSimpArgs false
set_option linter.unusedVariables false
namespace Go.X.Try
open Go.IntWalk
/-! ### the program's count of bytes -/
def canon24i (t : Nat) (l X : List Int) (c i : Int) : St := ⟨[(3, .one (.row 0)), (5, .one (.int .u8 c)), (6, .one (.ro t (.ints .u8 l))), (7, .one (.int .i64 l.length)), (8, .one (.int .i64 i))], [.ro t (.ints .u8 l)], [.rows (.ints .i64 X)]⟩
def has24 (t : Nat) (l : List Int) (c i : Int) (env : Env) : Prop := getT 3 env = .one (.row 0) ∧ getT 5 env = .one (.int .u8 c) ∧ getT 6 env = .one (.ro t (.ints .u8 l)) ∧ getT 7 env = .one (.int .i64 l.length) ∧ getT 8 env = .one (.int .i64 i)
theorem body24i (t : Nat) (l X : List Int) (c i : Int) (wc : IntKind.i64.wrap c = c) (h : (X.length : Int) ≤ c) (hm : (X.length + 1) * 8 ≤ 140737488355328) :
    ∃ st1, evC T24 KK b24x0 (canon24i t l X c i) = some (.norm, st1) ∧ St.head [3, 5, 6, 7, 8] st1 = canon24i t l (X ++ [0]) c i := by
  simp -implicitDefEqProofs [b24x0, canon24i, upd, wc, h, hm, RC.ofElems, RC.app, RC.len, RC.size]
theorem end24i (t : Nat) (l X : List Int) (c i : Int) (wc : IntKind.i64.wrap c = c) (h : ¬ (X.length : Int) ≤ c) :
    ∃ env, evC T24 KK b24x0 (canon24i t l X c i) = some (.exit 2, ⟨env, [.ro t (.ints .u8 l)], [.rows (.ints .i64 X)]⟩) ∧ has24 t l c i env := by
  have h' : c < (X.length : Int) := by omega
  simp -implicitDefEqProofs [b24x0, canon24i, upd, wc, h, h', has24, RC.len]
theorem loop24i (t : Nat) (l : List Int) (c i : Int) (hc : 0 ≤ c ∧ c ≤ 255) : ∀ (j K : Nat) (X : List Int), (X.length + j = max X.length (c.toNat + 1)) → X.length ≤ 300 → j < K →
    ∃ env, loopH (evC T24 KK b24x0) [3, 5, 6, 7, 8] K (canon24i t l X c i) = some (.exit 2, ⟨env, [.ro t (.ints .u8 l)], [.rows (.ints .i64 (X ++ List.replicate j 0))]⟩) ∧ has24 t l c i env
  | 0, K, X, hj, hX, hK => by
    have wc : IntKind.i64.wrap c = c := i64_in _ (by omega)
    obtain ⟨env, e, g⟩ := end24i t l X c i wc (by omega)
    exact ⟨env, by rw [List.replicate_zero, List.append_nil]; exact loopH_exit e, g⟩
  | j + 1, K, X, hj, hX, hK => by
    have wc : IntKind.i64.wrap c = c := i64_in _ (by omega)
    obtain ⟨st1, e1, e2⟩ := body24i t l X c i wc (by omega) (by omega)
    obtain ⟨env, e, g⟩ := loop24i t l c i hc j (K - 1) (X ++ [0]) (by simp; omega) (by simp; omega) (by omega)
    refine ⟨env, ?_, g⟩
    rw [loopH_norm e1 (by omega), e2, e, List.append_assoc]
    rfl
def canon24 (t : Nat) (l X : List Int) (i : Int) : St := ⟨[(3, .one (.row 0)), (6, .one (.ro t (.ints .u8 l))), (7, .one (.int .i64 l.length)), (8, .one (.int .i64 i))], [.ro t (.ints .u8 l)], [.rows (.ints .i64 X)]⟩
theorem body24 (t : Nat) (l X Y : List Int) (c v v' i' : Int) (i : Nat) (env : Env) (hi : i < l.length) (hn' : l[i] = c)
    (he : loopH (evC T24 KK b24x0) [3, 5, 6, 7, 8] KK (canon24i t l X c i) = some (.exit 2, ⟨env, [.ro t (.ints .u8 l)], [.rows (.ints .i64 Y)]⟩)) (hg : has24 t l c i env)
    (hc0 : 0 ≤ c) (hc1 : c < Y.length) (hc2 : c.toNat < Y.length) (hv : Y[c.toNat] = v) (wv : IntKind.i64.wrap (v + 1) = v') (ei : IntKind.i64.wrap ((i : Int) + 1) = i') :
    ∃ st1, evC T24 KK b24x1 (canon24 t l X i) = some (.norm, st1) ∧ St.head [3, 6, 7, 8] st1 = canon24 t l (Y.set c.toNat v') i' := by
  have hi2 : (i : Int) < l.length := by omega
  have h0 : (0 : Int) ≤ i := by omega
  obtain ⟨g3, g5, g6, g7, g8⟩ := hg
  simp only [canon24i] at he
  simp -implicitDefEqProofs [b24x1, canon24, upd, hi, hi2, h0, hn', he, g3, g5, g6, g7, g8, hc0, hc1, hc2, hv, wv, ei, RC.len, RC.size, RC.get, RC.set]
theorem end24 (t : Nat) (l X : List Int) (i : Int) (hi : ¬ i < l.length) :
    ∃ env, evC T24 KK b24x1 (canon24 t l X i) = some (.exit 0, ⟨env, [.ro t (.ints .u8 l)], [.rows (.ints .i64 X)]⟩) ∧ getT 3 env = .one (.row 0) := by
  simp -implicitDefEqProofs [b24x1, canon24, upd, hi]
theorem cnt_grow (l : List Int) (i j : Nat) : (List.range (mxK l i)).map (cntK l i) ++ List.replicate j 0 = (List.range (mxK l i + j)).map (cntK l i) := by
  apply List.ext_getElem (by simp)
  intro k h1 h2
  rw [List.getElem_append]
  split
  · simp
  · rename_i h
    simp at h
    simp [cntK_zero l k i h]
theorem loop24 (t : Nat) (l : List Int) (hl : l.length ≤ 400) (hB : ∀ z ∈ l, 0 ≤ z ∧ z ≤ 255) : ∀ (j i : Nat) (K : Nat), i + j = l.length → j < K →
    ∃ env, loopH (evC T24 KK b24x1) [3, 6, 7, 8] K (canon24 t l ((List.range (mxK l i)).map (cntK l i)) i) = some (.exit 0, ⟨env, [.ro t (.ints .u8 l)], [.rows (.ints .i64 (ofK l))]⟩) ∧ getT 3 env = .one (.row 0)
  | 0, i, K, hi, hK => by
    obtain ⟨env, e, g⟩ := end24 t l ((List.range (mxK l i)).map (cntK l i)) i (by omega)
    have : i = l.length := by omega
    subst this
    exact ⟨env, loopH_exit e, g⟩
  | j + 1, i, K, hi, hK => by
    have hlt : i < l.length := by omega
    have hz := hB l[i] (List.getElem_mem hlt)
    have hm := mxK_le l hB i (by omega)
    have hs : mxK l (i + 1) = max (mxK l i) (l[i].toNat + 1) := by simp only [mxK, getD_at hlt]
    have hb := cntK_bound l l[i].toNat i
    obtain ⟨env0, he, hg⟩ := loop24i t l l[i] i hz (mxK l (i + 1) - mxK l i) KK ((List.range (mxK l i)).map (cntK l i)) (by simp; omega) (by simp; omega) (by rw [KK_eq]; omega)
    rw [cnt_grow, show mxK l i + (mxK l (i + 1) - mxK l i) = mxK l (i + 1) by omega] at he
    obtain ⟨st1, e1, e2⟩ := body24 t l _ ((List.range (mxK l (i + 1))).map (cntK l i)) l[i] (cntK l i l[i].toNat) (cntK l i l[i].toNat + 1) (i + 1 : Nat) i env0 hlt rfl he hg hz.1 (by simp; omega) (by simp; omega) (by simp) (i64_in _ (by omega)) (by rw [i64_in _ (by omega)]; omega)
    rw [cnt_set l i _ l[i] hlt rfl] at e2
    obtain ⟨env, e, g⟩ := loop24 t l hl hB j (i + 1) (K - 1) (by omega) (by omega)
    exact ⟨env, by rw [loopH_norm e1 (by omega), e2]; exact e, g⟩
theorem f24 (t : Nat) (l : List Int) (hl : l.length ≤ 400) (hB : ∀ z ∈ l, 0 ≤ z ∧ z ≤ 255) : F24 [.one (.ro t (.ints .u8 l))] [] = some (.one (.row 0), [.rows (.ints .i64 (ofK l))]) := by
  obtain ⟨env, e, g⟩ := loop24 t l hl hB l.length 0 KK (by omega) (by rw [KK_eq]; omega)
  have z : ((0 : Nat) : Int) = 0 := rfl
  have zx : (List.range (mxK l 0)).map (cntK l 0) = [] := rfl
  simp only [canon24, z, zx] at e
  simp -implicitDefEqProofs [F24, c24, upd, e, g, RC.len]
end Go.X.Try
