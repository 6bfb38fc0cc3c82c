import Derived.Test.YthcbhmgjkecppaaKe
set_option maxRecDepth 100000
set_option linter.unusedSimpArgs false
set_option linter.unusedVariables false
namespace Go.X.Try
open Go.IntWalk
/-! ### the document's count of bytes -/
def canon26a (t : Nat) (l : List Int) (m i : Int) : St := ⟨[(0, .one (.ro t (.ints .u8 l))), (3, .one (.int .i64 m)), (4, .one (.int .i64 i))], [.ro t (.ints .u8 l)], []⟩
theorem body26a (t : Nat) (l : List Int) (m n m' i' : Int) (i : Nat) (hi : i < l.length) (hn' : l[i] = n) (wn : IntKind.i64.wrap n = n) (hm : (if m < n then n else m) = m') (ei : IntKind.i64.wrap ((i : Int) + 1) = i') :
    ∃ st1, evC T26 KK b26x0 (canon26a t l m i) = some (.norm, st1) ∧ St.head [0, 3, 4] st1 = canon26a t l m' i' := by
  have hi2 : (i : Int) < l.length := by omega
  have h0 : (0 : Int) ≤ i := by omega
  by_cases hp : m < n
  · rw [if_pos hp] at hm; subst hm
    simp -implicitDefEqProofs [b26x0, canon26a, upd, hi, hi2, h0, hn', hp, wn, ei, RC.len, RC.size, RC.get]
  · rw [if_neg hp] at hm; subst hm
    simp -implicitDefEqProofs [b26x0, canon26a, upd, hi, hi2, h0, hn', hp, wn, ei, RC.len, RC.size, RC.get]
theorem end26a (t : Nat) (l : List Int) (m i : Int) (hi : ¬ i < l.length) :
    ∃ env, evC T26 KK b26x0 (canon26a t l m i) = some (.exit 0, ⟨env, [.ro t (.ints .u8 l)], []⟩) ∧ getT 3 env = .one (.int .i64 m) ∧ getT 0 env = .one (.ro t (.ints .u8 l)) := by
  simp -implicitDefEqProofs [b26x0, canon26a, upd, hi, RC.len]
theorem getD_at {l : List Int} {i : Nat} (h : i < l.length) : l.getD i 0 = l[i] := by
  rw [List.getD_eq_getElem?_getD, List.getElem?_eq_getElem h]; rfl
theorem loop26a (t : Nat) (l : List Int) (hl : l.length ≤ 400) (hB : ∀ z ∈ l, 0 ≤ z ∧ z ≤ 255) : ∀ (j i : Nat) (K : Nat), i + j = l.length → j < K →
    ∃ env, loopH (evC T26 KK b26x0) [0, 3, 4] K (canon26a t l ((mxK l i : Int) - 1) i) = some (.exit 0, ⟨env, [.ro t (.ints .u8 l)], []⟩) ∧ getT 3 env = .one (.int .i64 ((mxK l l.length : Int) - 1)) ∧ getT 0 env = .one (.ro t (.ints .u8 l))
  | 0, i, K, hi, hK => by
    obtain ⟨env, e, g⟩ := end26a t l ((mxK l i : Int) - 1) i (by omega)
    have : i = l.length := by omega
    exact ⟨env, loopH_exit e, by rw [← this]; exact g⟩
  | j + 1, i, K, hi, hK => by
    have hlt : i < l.length := by omega
    have hz := hB l[i] (List.getElem_mem hlt)
    obtain ⟨st1, e1, e2⟩ := body26a t l ((mxK l i : Int) - 1) l[i] ((mxK l (i + 1) : Int) - 1) (i + 1 : Nat) i hlt rfl (i64_in _ (by omega)) (by
      simp only [mxK, getD_at hlt]
      split <;> omega) (by rw [i64_in _ (by omega)]; omega)
    obtain ⟨env, e, g⟩ := loop26a t l hl hB j (i + 1) (K - 1) (by omega) (by omega)
    exact ⟨env, by rw [loopH_norm e1 (by omega), e2]; exact e, g⟩
def canon26b (t : Nat) (l X : List Int) (i : Int) : St := ⟨[(0, .one (.ro t (.ints .u8 l))), (5, .one (.row 0)), (6, .one (.int .i64 i))], [.ro t (.ints .u8 l)], [.rows (.ints .i64 X)]⟩
theorem body26b (t : Nat) (l X : List Int) (c v v' i' : Int) (i : Nat) (hi : i < l.length) (hn' : l[i] = c) (hc0 : 0 ≤ c) (hc1 : c < X.length) (hc2 : c.toNat < X.length) (hv : X[c.toNat] = v) (wv : IntKind.i64.wrap (v + 1) = v') (ei : IntKind.i64.wrap ((i : Int) + 1) = i') :
    ∃ st1, evC T26 KK b26x1 (canon26b t l X i) = some (.norm, st1) ∧ St.head [0, 5, 6] st1 = canon26b t l (X.set c.toNat v') i' := by
  have hi2 : (i : Int) < l.length := by omega
  have h0 : (0 : Int) ≤ i := by omega
  simp -implicitDefEqProofs [b26x1, canon26b, upd, hi, hi2, h0, hn', hc0, hc1, hc2, hv, wv, ei, RC.len, RC.size, RC.get, RC.set]
theorem end26b (t : Nat) (l X : List Int) (i : Int) (hi : ¬ i < l.length) :
    ∃ env, evC T26 KK b26x1 (canon26b t l X i) = some (.exit 2, ⟨env, [.ro t (.ints .u8 l)], [.rows (.ints .i64 X)]⟩) ∧ getT 5 env = .one (.row 0) := by
  simp -implicitDefEqProofs [b26x1, canon26b, upd, hi, RC.len]
theorem cnt_map (l : List Int) (i m : Nat) (k : Nat) (h : k < m) : ((List.range m).map (cntK l i))[k]'(by simpa using h) = cntK l i k := by simp
theorem cnt_set (l : List Int) (i m : Nat) (c : Int) (hlt : i < l.length) (hc : l[i] = c) : ((List.range m).map (cntK l i)).set c.toNat (cntK l i c.toNat + 1) = (List.range m).map (cntK l (i + 1)) := by
  apply List.ext_getElem (by simp)
  intro k h1 h2
  rw [List.getElem_set]
  simp only [List.getElem_map, List.getElem_range, cntK, getD_at hlt, hc]
  by_cases h : c.toNat = k
  · rw [if_pos h, if_pos h, h]
  · rw [if_neg h, if_neg h]; omega
theorem loop26b (t : Nat) (l : List Int) (hl : l.length ≤ 400) (hB : ∀ z ∈ l, 0 ≤ z ∧ z ≤ 255) : ∀ (j i : Nat) (K : Nat), i + j = l.length → j < K →
    ∃ env, loopH (evC T26 KK b26x1) [0, 5, 6] K (canon26b t l ((List.range (mxK l l.length)).map (cntK l i)) i) = some (.exit 2, ⟨env, [.ro t (.ints .u8 l)], [.rows (.ints .i64 (ofK l))]⟩) ∧ getT 5 env = .one (.row 0)
  | 0, i, K, hi, hK => by
    obtain ⟨env, e, g⟩ := end26b t l ((List.range (mxK l l.length)).map (cntK l i)) i (by omega)
    have : i = l.length := by omega
    subst this
    exact ⟨env, loopH_exit e, g⟩
  | j + 1, i, K, hi, hK => by
    have hlt : i < l.length := by omega
    have hz := hB l[i] (List.getElem_mem hlt)
    have hm : mxK l (i + 1) ≤ mxK l l.length := by
      have := mxK_mono l (i + 1) j
      rwa [show i + 1 + j = l.length by omega] at this
    have hm2 : l[i].toNat + 1 ≤ mxK l (i + 1) := by simp only [mxK, getD_at hlt]; omega
    have hb := cntK_bound l l[i].toNat i
    obtain ⟨st1, e1, e2⟩ := body26b t l ((List.range (mxK l l.length)).map (cntK l i)) l[i] (cntK l i l[i].toNat) (cntK l i l[i].toNat + 1) (i + 1 : Nat) i hlt rfl hz.1 (by simp; omega) (by simp; omega) (by simp) (i64_in _ (by omega)) (by rw [i64_in _ (by omega)]; omega)
    rw [cnt_set l i _ l[i] hlt rfl] at e2
    obtain ⟨env, e, g⟩ := loop26b t l hl hB j (i + 1) (K - 1) (by omega) (by omega)
    exact ⟨env, by rw [loopH_norm e1 (by omega), e2]; exact e, g⟩
theorem cnt0 (l : List Int) (m : Nat) : List.replicate m 0 = (List.range m).map (cntK l 0) := by
  apply List.ext_getElem (by simp)
  intro k h1 h2
  simp [cntK]
theorem f26 (t : Nat) (l : List Int) (hl : l.length ≤ 400) (hB : ∀ z ∈ l, 0 ≤ z ∧ z ≤ 255) : F26 [.one (.ro t (.ints .u8 l))] [] = some (.one (.row 0), [.rows (.ints .i64 (ofK l))]) := by
  obtain ⟨env, e, g1, g2⟩ := loop26a t l hl hB l.length 0 KK (by omega) (by rw [KK_eq]; omega)
  obtain ⟨env', e', g'⟩ := loop26b t l hl hB l.length 0 KK (by omega) (by rw [KK_eq]; omega)
  have z : ((0 : Nat) : Int) = 0 := rfl
  have z1 : ((mxK l 0 : Nat) : Int) - 1 = -1 := rfl
  have hm := mxK_le l hB l.length (Nat.le_refl _)
  rw [← cnt0] at e'
  simp only [canon26a, z1, z] at e
  simp only [canon26b, z] at e'
  have w : IntKind.i64.wrap (mxK l l.length : Int) = (mxK l l.length : Int) := i64_in _ (by omega)
  generalize hM : mxK l l.length = M at *
  have n1 : (M : Int) * 8 ≤ 140737488355328 := by omega
  have n2 : (0 : Int) ≤ M := by omega
  simp -implicitDefEqProofs [F26, c26, upd, e, g1, g2, w, n1, n2, mks_ints, e', g']
end Go.X.Try
