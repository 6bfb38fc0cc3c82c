import Derived.Test.YtemhdllnhgefkaaZ3
set_option linter.unusedVariables false
set_option linter.unusedSimpArgs false
set_option maxRecDepth 100000
set_option linter.unusedSimpArgs false
set_option linter.unusedVariables false
namespace Go.X.Try
open Go.IntWalk
/-! ### the parts of a share -/
def ptK (S T c : Int) : Int := if 0 < c then (if (c * S).tdiv T < 1 then 1 else (c * S).tdiv T) else 0
def canon76 (t : Nat) (l : List Int) (S T i : Int) (X : List Int) : St := ⟨[(1, .one (.int .i64 S)), (5, .one (.int .i64 T)), (6, .one (.row 0)), (14, .one (.ro t (.ints .i64 l))), (15, .one (.int .i64 l.length)), (16, .one (.int .i64 i))], [.ro t (.ints .i64 l), .int .i64 S], [.rows (.ints .i64 X)]⟩
theorem body76 (t : Nat) (l X X' : List Int) (S T n i' : Int) (i : Nat) (hi : i < l.length) (hX : X.length = l.length) (hn' : l[i] = n) (hT : ¬ T = 0) (wm : IntKind.i64.wrap (n * S) = n * S) (wq : IntKind.i64.wrap ((n * S).tdiv T) = (n * S).tdiv T)
    (he : (if 0 < n then X.set i (ptK S T n) else X) = X') (ei : IntKind.i64.wrap ((i : Int) + 1) = i') :
    ∃ st1, evC T76 KK b76x0 (canon76 t l S T i X) = some (.norm, st1) ∧ St.head [1, 5, 6, 14, 15, 16] st1 = canon76 t l S T i' X' := by
  have hi2 : (i : Int) < l.length := by omega
  have h0 : (0 : Int) ≤ i := by omega
  have hi3 : i < X.length := by omega
  have hi4 : (i : Int) < X.length := by omega
  by_cases hp : 0 < n
  · rw [if_pos hp] at he
    simp only [ptK, if_pos hp] at he
    by_cases hq : (n * S).tdiv T < 1
    · rw [if_pos hq] at he; subst he
      simp -implicitDefEqProofs [b76x0, canon76, upd, hi, hi2, hi3, hi4, h0, hn', hp, hT, wm, wq, hq, ei, RC.len, RC.size, RC.get, RC.set]
    · rw [if_neg hq] at he; subst he
      simp -implicitDefEqProofs [b76x0, canon76, upd, hi, hi2, hi3, hi4, h0, hn', hp, hT, wm, wq, hq, ei, RC.len, RC.size, RC.get, RC.set]
  · rw [if_neg hp] at he; subst he
    simp -implicitDefEqProofs [b76x0, canon76, upd, hi, hi2, h0, hn', hp, ei, RC.len, RC.size, RC.get]
theorem end76 (t : Nat) (l X : List Int) (S T i : Int) (hi : ¬ i < l.length) :
    ∃ env, evC T76 KK b76x0 (canon76 t l S T i X) = some (.exit 0, ⟨env, [.ro t (.ints .i64 l), .int .i64 S], [.rows (.ints .i64 X)]⟩) ∧ getT 6 env = .one (.row 0) := by
  simp -implicitDefEqProofs [b76x0, canon76, upd, hi]
theorem pt_bound {S T c : Int} (hS : 32 ≤ S ∧ S ≤ 512) (hT : 0 < T ∧ T ≤ 400) (hc : 0 ≤ c ∧ c ≤ T) : 0 ≤ ptK S T c ∧ ptK S T c ≤ S ∧ IntKind.i64.wrap (c * S) = c * S ∧ IntKind.i64.wrap ((c * S).tdiv T) = (c * S).tdiv T ∧ T * ptK S T c ≤ c * S + T := by
  have h1 : 0 ≤ c * S := Int.mul_nonneg hc.1 (by omega)
  have h2 : c * S ≤ T * S := Int.mul_le_mul_of_nonneg_right hc.2 (by omega)
  have h3 : T * S ≤ 400 * S := Int.mul_le_mul_of_nonneg_right hT.2 (by omega)
  have e : (c * S).tdiv T = c * S / T := Int.tdiv_eq_ediv_of_nonneg h1
  have q0 : 0 ≤ c * S / T := Int.ediv_nonneg h1 (by omega)
  have q1 : c * S / T ≤ S := by
    have : c * S / T ≤ T * S / T := Int.ediv_le_ediv hT.1 h2
    rw [Int.mul_ediv_cancel_left S (by omega)] at this
    exact this
  have q2 : T * (c * S / T) ≤ c * S := Int.mul_ediv_self_le (by omega)
  refine ⟨?_, ?_, i64_in _ (by omega), by rw [e]; exact i64_in _ (by omega), ?_⟩
  · unfold ptK; rw [e]; (repeat' split) <;> omega
  · unfold ptK; rw [e]; (repeat' split) <;> omega
  · unfold ptK; rw [e]
    by_cases hc0 : 0 < c
    · rw [if_pos hc0]
      by_cases hq : c * S / T < 1
      · rw [if_pos hq]; omega
      · rw [if_neg hq]; omega
    · rw [if_neg hc0]; omega
theorem loop76 (t : Nat) (l : List Int) (S T : Int) (hl : l.length ≤ 256) (hS : 32 ≤ S ∧ S ≤ 512) (hT : 0 < T ∧ T ≤ 400) (hc : ∀ z ∈ l, 0 ≤ z ∧ z ≤ T) : ∀ (j i : Nat) (X : List Int) (K : Nat), i + j = l.length → (hX : X.length = l.length) →
    (∀ k (h : k < l.length), X[k] = if k < i then ptK S T l[k] else 0) → j < K →
    ∃ env, loopH (evC T76 KK b76x0) [1, 5, 6, 14, 15, 16] K (canon76 t l S T i X) = some (.exit 0, ⟨env, [.ro t (.ints .i64 l), .int .i64 S], [.rows (.ints .i64 (l.map (ptK S T)))]⟩) ∧ getT 6 env = .one (.row 0)
  | 0, i, X, K, hi, hX, hk, hK => by
    obtain ⟨env, e, g⟩ := end76 t l X S T i (by omega)
    have : X = l.map (ptK S T) := by
      apply List.ext_getElem (by simp [hX])
      intro k h1 h2
      rw [hk k (by omega), if_pos (by omega)]; simp
    subst this
    exact ⟨env, loopH_exit e, g⟩
  | j + 1, i, X, K, hi, hX, hk, hK => by
    have hlt : i < l.length := by omega
    obtain ⟨p1, p2, p3, p4, _⟩ := pt_bound hS hT (hc l[i] (List.getElem_mem hlt))
    obtain ⟨st1, e1, e2⟩ := body76 t l X _ S T l[i] (i + 1 : Nat) i hlt hX rfl (by omega) p3 p4 rfl (by rw [i64_in _ (by omega)]; omega)
    obtain ⟨env, e, g⟩ := loop76 t l S T hl hS hT hc j (i + 1) (if 0 < l[i] then X.set i (ptK S T l[i]) else X) (K - 1) (by omega) (by split <;> simp [hX]) (fun k h => by
      by_cases hki : k = i
      · subst hki
        by_cases hp : 0 < l[k]
        · simp [hp]
        · have := hk k h
          simp [hp, ptK, this]
      · have := hk k h
        have hik : ¬ i = k := fun e => hki e.symm
        by_cases hp : 0 < l[i]
        · simp [hp, hik, List.getElem_set, this]
          by_cases hlt' : k < i
          · rw [if_pos hlt', if_pos (by omega)]
          · rw [if_neg hlt', if_neg (by omega)]
        · simp [hp, this]
          by_cases hlt' : k < i
          · rw [if_pos hlt', if_pos (by omega)]
          · rw [if_neg hlt', if_neg (by omega)]) (by omega)
    exact ⟨env, by rw [loopH_norm e1 (by omega), e2]; exact e, g⟩
end Go.X.Try
set_option maxRecDepth 100000
set_option linter.unusedSimpArgs false
set_option linter.unusedVariables false
namespace Go.X.Try
open Go.IntWalk
theorem mapM_repK {α β : Type} {f : α → Option β} {a : α} {b : β} (h : f a = some b) : ∀ n : Nat, List.mapM f (List.replicate n a) = some (List.replicate n b)
  | 0 => rfl
  | n + 1 => by rw [List.replicate_succ, List.mapM_cons, h, mapM_repK h n]; rfl
theorem mks_intsK (n : Nat) : RC.ofElems (.ints .i64 []) (List.replicate n [Sc.int .i64 0]) = some (.ints .i64 (List.replicate n 0)) := by
  simp only [RC.ofElems]
  rw [mapM_repK (b := (0 : Int))]
  · rfl
  · rfl
theorem f76 (t : Nat) (l : List Int) (S : Int) (hl : l.length ≤ 256) (hS : 32 ≤ S ∧ S ≤ 512) (hT : 0 < sumK l ∧ sumK l ≤ 400) (hc : ∀ z ∈ l, 0 ≤ z ∧ z ≤ sumK l) :
    F76 [.one (.ro t (.ints .i64 l)), .one (.int .i64 S)] [] = some (.one (.row 0), [.rows (.ints .i64 (l.map (ptK S (sumK l))))]) := by
  have e74 := fun t => f74 t l (by omega) fun z hz => by have := hc z hz; omega
  obtain ⟨env, e, g⟩ := loop76 t l S (sumK l) hl hS hT hc l.length 0 (List.replicate l.length 0) KK (by omega) (by simp) (fun k h => by simp) (by rw [KK_eq]; omega)
  have z : ((0 : Nat) : Int) = 0 := rfl
  have n1 : (l.length : Int) * 8 ≤ 140737488355328 := by omega
  have n2 : l.length * 8 ≤ 140737488355328 := by omega
  simp only [canon76, z] at e
  simp -implicitDefEqProofs [F76, c76, upd, e, g, e74, n1, n2, mks_intsK, RC.len]
/-- The sum of the parts is at most the size and one for each. -/
theorem sum_parts {S T : Int} (hS : 32 ≤ S ∧ S ≤ 512) (hT : 0 < T ∧ T ≤ 400) : ∀ (l : List Int), (∀ z ∈ l, 0 ≤ z ∧ z ≤ T) → 0 ≤ sumK (l.map (ptK S T)) ∧ T * sumK (l.map (ptK S T)) ≤ S * sumK l + T * l.length
  | [], _ => by simp [sumK]
  | x :: l, h => by
    obtain ⟨h0, h1⟩ := sum_parts hS hT l fun z hz => h z (by simp [hz])
    obtain ⟨p1, p2, _, _, p5⟩ := pt_bound hS hT (h x (by simp))
    simp only [List.map_cons, sumK, List.length_cons]
    refine ⟨by omega, ?_⟩
    have e1 : T * (ptK S T x + sumK (l.map (ptK S T))) = T * ptK S T x + T * sumK (l.map (ptK S T)) := Int.mul_add _ _ _
    have e2 : S * (x + sumK l) = x * S + S * sumK l := by rw [Int.mul_add, Int.mul_comm S x]
    have e3 : T * ((l.length + 1 : Nat) : Int) = T * (l.length : Int) + T := by rw [Int.natCast_add, Int.mul_add]; simp
    rw [e1, e2, e3]
    omega
theorem sum_parts_le {S : Int} (l : List Int) (hS : 32 ≤ S ∧ S ≤ 512) (hT : 0 < sumK l ∧ sumK l ≤ 400) (hc : ∀ z ∈ l, 0 ≤ z ∧ z ≤ sumK l) : 0 ≤ sumK (l.map (ptK S (sumK l))) ∧ sumK (l.map (ptK S (sumK l))) ≤ S + l.length := by
  obtain ⟨h0, h1⟩ := sum_parts hS hT l hc
  refine ⟨h0, ?_⟩
  have e : S * sumK l + sumK l * (l.length : Int) = sumK l * (S + l.length) := by rw [Int.mul_add, Int.mul_comm S]
  rw [e] at h1
  exact Int.le_of_mul_le_mul_left h1 hT.1
end Go.X.Try
set_option maxRecDepth 100000
set_option linter.unusedSimpArgs false
set_option linter.unusedVariables false
namespace Go.X.Try
open Go.IntWalk
/-! ### how often each number is among the first i; how many cells they need -/
def cntK (l : List Int) : Nat → Nat → Int
  | 0, _ => 0
  | i + 1, s => cntK l i s + (if (l.getD i 0).toNat = s then 1 else 0)
def mxK (l : List Int) : Nat → Nat
  | 0 => 0
  | i + 1 => max (mxK l i) ((l.getD i 0).toNat + 1)
def ofK (l : List Int) : List Int := (List.range (mxK l l.length)).map (cntK l l.length)
theorem cntK_bound (l : List Int) (s : Nat) : ∀ i : Nat, 0 ≤ cntK l i s ∧ cntK l i s ≤ i
  | 0 => by simp [cntK]
  | i + 1 => by
    have := cntK_bound l s i
    simp only [cntK]
    split <;> omega
theorem cntK_zero (l : List Int) (s : Nat) : ∀ i : Nat, mxK l i ≤ s → cntK l i s = 0
  | 0, _ => rfl
  | i + 1, h => by
    simp only [mxK] at h
    simp only [cntK]
    rw [cntK_zero l s i (by omega), if_neg (by omega)]; rfl
theorem mxK_le (l : List Int) (hB : ∀ z ∈ l, 0 ≤ z ∧ z ≤ 255) : ∀ i : Nat, i ≤ l.length → mxK l i ≤ 256
  | 0, _ => by simp [mxK]
  | i + 1, h => by
    have h1 := mxK_le l hB i (by omega)
    have h2 := hB (l.getD i 0) (by rw [List.getD_eq_getElem?_getD, List.getElem?_eq_getElem (by omega)]; exact List.getElem_mem _)
    simp only [mxK]; omega
theorem sumK_append : ∀ (a b : List Int), sumK (a ++ b) = sumK a + sumK b
  | [], b => by simp [sumK]
  | x :: a, b => by simp only [List.cons_append, sumK, sumK_append a b]; omega
theorem sum_cnt_succ (l : List Int) (i : Nat) : ∀ m : Nat, sumK ((List.range m).map (cntK l (i + 1))) = sumK ((List.range m).map (cntK l i)) + (if (l.getD i 0).toNat < m then 1 else 0)
  | 0 => by simp [sumK]
  | m + 1 => by
    rw [List.range_succ, List.map_append, List.map_append, sumK_append, sumK_append, sum_cnt_succ l i m]
    simp only [List.map_cons, List.map_nil, sumK, cntK]
    by_cases h : (l.getD i 0).toNat = m
    · rw [if_neg (by omega), if_pos h, if_pos (by omega)]; omega
    · rw [if_neg h]
      by_cases h2 : (l.getD i 0).toNat < m
      · rw [if_pos h2, if_pos (by omega)]; omega
      · rw [if_neg h2, if_neg (by omega)]; omega
theorem mxK_mono (l : List Int) (i j : Nat) : mxK l i ≤ mxK l (i + j) := by
  induction j with
  | zero => exact Nat.le_refl _
  | succ j ih => rw [← Nat.add_assoc]; simp only [mxK]; omega
theorem sum_cnt (l : List Int) (m : Nat) : ∀ i : Nat, mxK l i ≤ m → sumK ((List.range m).map (cntK l i)) = i
  | 0, _ => by
    have : ∀ m : Nat, sumK ((List.range m).map (cntK l 0)) = 0 := by
      intro m
      induction m with
      | zero => rfl
      | succ m ih => rw [List.range_succ, List.map_append, sumK_append, ih]; simp [sumK, cntK]
    rw [this]; rfl
  | i + 1, h => by
    simp only [mxK] at h
    rw [sum_cnt_succ, sum_cnt l m i (by omega), if_pos (by omega)]; omega
theorem sum_ofK (l : List Int) : sumK (ofK l) = l.length := sum_cnt l _ _ (Nat.le_refl _)
theorem ofK_len (l : List Int) : (ofK l).length = mxK l l.length := by simp [ofK]
theorem ofK_mem (l : List Int) : ∀ z ∈ ofK l, 0 ≤ z ∧ z ≤ l.length := by
  intro z hz
  simp only [ofK, List.mem_map] at hz
  obtain ⟨s, _, rfl⟩ := hz
  exact cntK_bound l s _
/-! ### the same numbers -/
def canon25 (t u : Nat) (l m : List Int) (i : Int) : St := ⟨[(0, .one (.ro t (.ints .i64 l))), (1, .one (.ro u (.ints .i64 m))), (12, .one (.int .i64 l.length)), (13, .one (.int .i64 i))], [.ro t (.ints .i64 l), .ro u (.ints .i64 m)], []⟩
end Go.X.Try
set_option maxRecDepth 100000
set_option linter.unusedSimpArgs false
set_option linter.unusedVariables false
namespace Go.X.Try
open Go.IntWalk
/-! ### the document's count of bytes -/
def canon26a (t : Nat) (l : List Int) (m i : Int) : St := ⟨[(0, .one (.ro t (.ints .u8 l))), (3, .one (.int .i64 m)), (4, .one (.int .i64 i))], [.ro t (.ints .u8 l)], []⟩
theorem getD_at {l : List Int} {i : Nat} (h : i < l.length) : l.getD i 0 = l[i] := by
  rw [List.getD_eq_getElem?_getD, List.getElem?_eq_getElem h]; rfl
def canon26b (t : Nat) (l X : List Int) (i : Int) : St := ⟨[(0, .one (.ro t (.ints .u8 l))), (5, .one (.row 0)), (6, .one (.int .i64 i))], [.ro t (.ints .u8 l)], [.rows (.ints .i64 X)]⟩
theorem cnt_map (l : List Int) (i m : Nat) (k : Nat) (h : k < m) : ((List.range m).map (cntK l i))[k]'(by simpa using h) = cntK l i k := by simp
theorem cnt_set (l : List Int) (i m : Nat) (c : Int) (hlt : i < l.length) (hc : l[i] = c) : ((List.range m).map (cntK l i)).set c.toNat (cntK l i c.toNat + 1) = (List.range m).map (cntK l (i + 1)) := by
  apply List.ext_getElem (by simp)
  intro k h1 h2
  rw [List.getElem_set]
  simp only [List.getElem_map, List.getElem_range, cntK, getD_at hlt, hc]
  by_cases h : c.toNat = k
  · rw [if_pos h, if_pos h, h]
  · rw [if_neg h, if_neg h]; omega
theorem cnt0 (l : List Int) (m : Nat) : List.replicate m 0 = (List.range m).map (cntK l 0) := by
  apply List.ext_getElem (by simp)
  intro k h1 h2
  simp [cntK]
end Go.X.Try
set_option maxRecDepth 100000
set_option linter.unusedSimpArgs false
set_option linter.unusedVariables false
namespace Go.X.Try
open Go.IntWalk
/-! ### the program's count of bytes -/
def canon33i (t : Nat) (l X : List Int) (c i : Int) : St := ⟨[(3, .one (.row 0)), (5, .one (.int .u8 c)), (6, .one (.ro t (.ints .u8 l))), (7, .one (.int .i64 l.length)), (8, .one (.int .i64 i))], [.ro t (.ints .u8 l)], [.rows (.ints .i64 X)]⟩
def has24 (t : Nat) (l : List Int) (c i : Int) (env : Env) : Prop := getT 3 env = .one (.row 0) ∧ getT 5 env = .one (.int .u8 c) ∧ getT 6 env = .one (.ro t (.ints .u8 l)) ∧ getT 7 env = .one (.int .i64 l.length) ∧ getT 8 env = .one (.int .i64 i)
theorem body33i (t : Nat) (l X : List Int) (c i : Int) (wc : IntKind.i64.wrap c = c) (h : (X.length : Int) ≤ c) (hm : (X.length + 1) * 8 ≤ 140737488355328) :
    ∃ st1, evC T33 KK b33x0 (canon33i t l X c i) = some (.norm, st1) ∧ St.head [3, 5, 6, 7, 8] st1 = canon33i t l (X ++ [0]) c i := by
  simp -implicitDefEqProofs [b33x0, canon33i, upd, wc, h, hm, RC.ofElems, RC.app, RC.len, RC.size]
theorem end33i (t : Nat) (l X : List Int) (c i : Int) (wc : IntKind.i64.wrap c = c) (h : ¬ (X.length : Int) ≤ c) :
    ∃ env, evC T33 KK b33x0 (canon33i t l X c i) = some (.exit 2, ⟨env, [.ro t (.ints .u8 l)], [.rows (.ints .i64 X)]⟩) ∧ has24 t l c i env := by
  have h' : c < (X.length : Int) := by omega
  simp -implicitDefEqProofs [b33x0, canon33i, upd, wc, h, h', has24, RC.len]
theorem loop33i (t : Nat) (l : List Int) (c i : Int) (hc : 0 ≤ c ∧ c ≤ 255) : ∀ (j K : Nat) (X : List Int), (X.length + j = max X.length (c.toNat + 1)) → X.length ≤ 300 → j < K →
    ∃ env, loopH (evC T33 KK b33x0) [3, 5, 6, 7, 8] K (canon33i t l X c i) = some (.exit 2, ⟨env, [.ro t (.ints .u8 l)], [.rows (.ints .i64 (X ++ List.replicate j 0))]⟩) ∧ has24 t l c i env
  | 0, K, X, hj, hX, hK => by
    have wc : IntKind.i64.wrap c = c := i64_in _ (by omega)
    obtain ⟨env, e, g⟩ := end33i t l X c i wc (by omega)
    exact ⟨env, by rw [List.replicate_zero, List.append_nil]; exact loopH_exit e, g⟩
  | j + 1, K, X, hj, hX, hK => by
    have wc : IntKind.i64.wrap c = c := i64_in _ (by omega)
    obtain ⟨st1, e1, e2⟩ := body33i t l X c i wc (by omega) (by omega)
    obtain ⟨env, e, g⟩ := loop33i t l c i hc j (K - 1) (X ++ [0]) (by simp; omega) (by simp; omega) (by omega)
    refine ⟨env, ?_, g⟩
    rw [loopH_norm e1 (by omega), e2, e, List.append_assoc]
    rfl
def canon33 (t : Nat) (l X : List Int) (i : Int) : St := ⟨[(3, .one (.row 0)), (6, .one (.ro t (.ints .u8 l))), (7, .one (.int .i64 l.length)), (8, .one (.int .i64 i))], [.ro t (.ints .u8 l)], [.rows (.ints .i64 X)]⟩
theorem body33 (t : Nat) (l X Y : List Int) (c v v' i' : Int) (i : Nat) (env : Env) (hi : i < l.length) (hn' : l[i] = c)
    (he : loopH (evC T33 KK b33x0) [3, 5, 6, 7, 8] KK (canon33i t l X c i) = some (.exit 2, ⟨env, [.ro t (.ints .u8 l)], [.rows (.ints .i64 Y)]⟩)) (hg : has24 t l c i env)
    (hc0 : 0 ≤ c) (hc1 : c < Y.length) (hc2 : c.toNat < Y.length) (hv : Y[c.toNat] = v) (wv : IntKind.i64.wrap (v + 1) = v') (ei : IntKind.i64.wrap ((i : Int) + 1) = i') :
    ∃ st1, evC T33 KK b33x1 (canon33 t l X i) = some (.norm, st1) ∧ St.head [3, 6, 7, 8] st1 = canon33 t l (Y.set c.toNat v') i' := by
  have hi2 : (i : Int) < l.length := by omega
  have h0 : (0 : Int) ≤ i := by omega
  obtain ⟨g3, g5, g6, g7, g8⟩ := hg
  simp only [canon33i] at he
  simp -implicitDefEqProofs [b33x1, canon33, upd, hi, hi2, h0, hn', he, g3, g5, g6, g7, g8, hc0, hc1, hc2, hv, wv, ei, RC.len, RC.size, RC.get, RC.set]
theorem end33 (t : Nat) (l X : List Int) (i : Int) (hi : ¬ i < l.length) :
    ∃ env, evC T33 KK b33x1 (canon33 t l X i) = some (.exit 0, ⟨env, [.ro t (.ints .u8 l)], [.rows (.ints .i64 X)]⟩) ∧ getT 3 env = .one (.row 0) := by
  simp -implicitDefEqProofs [b33x1, canon33, upd, hi]
theorem cnt_grow (l : List Int) (i j : Nat) : (List.range (mxK l i)).map (cntK l i) ++ List.replicate j 0 = (List.range (mxK l i + j)).map (cntK l i) := by
  apply List.ext_getElem (by simp)
  intro k h1 h2
  rw [List.getElem_append]
  split
  · simp
  · rename_i h
    simp at h
    simp [cntK_zero l k i h]
theorem loop33 (t : Nat) (l : List Int) (hl : l.length ≤ 400) (hB : ∀ z ∈ l, 0 ≤ z ∧ z ≤ 255) : ∀ (j i : Nat) (K : Nat), i + j = l.length → j < K →
    ∃ env, loopH (evC T33 KK b33x1) [3, 6, 7, 8] K (canon33 t l ((List.range (mxK l i)).map (cntK l i)) i) = some (.exit 0, ⟨env, [.ro t (.ints .u8 l)], [.rows (.ints .i64 (ofK l))]⟩) ∧ getT 3 env = .one (.row 0)
  | 0, i, K, hi, hK => by
    obtain ⟨env, e, g⟩ := end33 t l ((List.range (mxK l i)).map (cntK l i)) i (by omega)
    have : i = l.length := by omega
    subst this
    exact ⟨env, loopH_exit e, g⟩
  | j + 1, i, K, hi, hK => by
    have hlt : i < l.length := by omega
    have hz := hB l[i] (List.getElem_mem hlt)
    have hm := mxK_le l hB i (by omega)
    have hs : mxK l (i + 1) = max (mxK l i) (l[i].toNat + 1) := by simp only [mxK, getD_at hlt]
    have hb := cntK_bound l l[i].toNat i
    obtain ⟨env0, he, hg⟩ := loop33i t l l[i] i hz (mxK l (i + 1) - mxK l i) KK ((List.range (mxK l i)).map (cntK l i)) (by simp; omega) (by simp; omega) (by rw [KK_eq]; omega)
    rw [cnt_grow, show mxK l i + (mxK l (i + 1) - mxK l i) = mxK l (i + 1) by omega] at he
    obtain ⟨st1, e1, e2⟩ := body33 t l _ ((List.range (mxK l (i + 1))).map (cntK l i)) l[i] (cntK l i l[i].toNat) (cntK l i l[i].toNat + 1) (i + 1 : Nat) i env0 hlt rfl he hg hz.1 (by simp; omega) (by simp; omega) (by simp) (i64_in _ (by omega)) (by rw [i64_in _ (by omega)]; omega)
    rw [cnt_set l i _ l[i] hlt rfl] at e2
    obtain ⟨env, e, g⟩ := loop33 t l hl hB j (i + 1) (K - 1) (by omega) (by omega)
    exact ⟨env, by rw [loopH_norm e1 (by omega), e2]; exact e, g⟩
theorem f33 (t : Nat) (l : List Int) (hl : l.length ≤ 400) (hB : ∀ z ∈ l, 0 ≤ z ∧ z ≤ 255) : F33 [.one (.ro t (.ints .u8 l))] [] = some (.one (.row 0), [.rows (.ints .i64 (ofK l))]) := by
  obtain ⟨env, e, g⟩ := loop33 t l hl hB l.length 0 KK (by omega) (by rw [KK_eq]; omega)
  have z : ((0 : Nat) : Int) = 0 := rfl
  have zx : (List.range (mxK l 0)).map (cntK l 0) = [] := rfl
  simp only [canon33, z, zx] at e
  simp -implicitDefEqProofs [F33, c33, upd, e, g, RC.len]
end Go.X.Try
set_option maxRecDepth 100000
set_option linter.unusedSimpArgs false
set_option linter.unusedVariables false
namespace Go.X.Try
open Go.IntWalk
/-! ### the log for counts -/
def canon34 (t : Nat) (l : List Int) (log : Int) : St := ⟨[(0, .one (.ro t (.ints .i64 l))), (3, .one (.int .i64 log))], [.ro t (.ints .i64 l)], []⟩
theorem go30 (t : Nat) (l : List Int) (log p s T log' : Int) (e73 : ∀ t, F73 [.one (.ro t (.ints .i64 l))] [] = some (.one (.int .i64 s), [])) (e74 : ∀ t, F74 [.one (.ro t (.ints .i64 l))] [] = some (.one (.int .i64 T), []))
    (h9 : log < 9) (hlog : ¬ log < 0) (es : shlI .i64 1 log = p) (w4 : IntKind.i64.wrap (4 * s) = 4 * s) (ei : IntKind.i64.wrap (log + 1) = log') (h : p < 4 * s ∨ p < IntKind.i64.wrap (T.tdiv 8)) :
    ∃ st1, evC T34 KK b34x0 (canon34 t l log) = some (.norm, st1) ∧ St.head [0, 3] st1 = canon34 t l log' := by
  by_cases h1 : p < 4 * s
  · simp -implicitDefEqProofs [b34x0, canon34, upd, e73, e74, h9, hlog, es, w4, ei, h1]
  · have h2 : p < IntKind.i64.wrap (T.tdiv 8) := h.resolve_left h1
    simp -implicitDefEqProofs [b34x0, canon34, upd, e73, e74, h9, hlog, es, w4, ei, h1, h2]
theorem out30 (t : Nat) (l : List Int) (log p s T : Int) (e73 : ∀ t, F73 [.one (.ro t (.ints .i64 l))] [] = some (.one (.int .i64 s), [])) (e74 : ∀ t, F74 [.one (.ro t (.ints .i64 l))] [] = some (.one (.int .i64 T), []))
    (h9 : log < 9) (hlog : ¬ log < 0) (es : shlI .i64 1 log = p) (w4 : IntKind.i64.wrap (4 * s) = 4 * s) (h1 : ¬ p < 4 * s) (h2 : ¬ p < IntKind.i64.wrap (T.tdiv 8)) :
    ∃ env, evC T34 KK b34x0 (canon34 t l log) = some (.exit 0, ⟨env, [.ro t (.ints .i64 l)], []⟩) ∧ getT 3 env = .one (.int .i64 log) := by
  simp -implicitDefEqProofs [b34x0, canon34, upd, e73, e74, h9, hlog, es, w4, h1, h2]
theorem top30 (t : Nat) (l : List Int) (log : Int) (h9 : ¬ log < 9) :
    ∃ env, evC T34 KK b34x0 (canon34 t l log) = some (.exit 0, ⟨env, [.ro t (.ints .i64 l)], []⟩) ∧ getT 3 env = .one (.int .i64 log) := by
  simp -implicitDefEqProofs [b34x0, canon34, upd, h9]
theorem shl_pow {log : Int} (h : 5 ≤ log ∧ log ≤ 9) : shlI .i64 1 log = ((2 ^ log.toNat : Nat) : Int) ∧ 32 ≤ ((2 ^ log.toNat : Nat) : Int) ∧ ((2 ^ log.toNat : Nat) : Int) ≤ 512 := by
  have : log = 5 ∨ log = 6 ∨ log = 7 ∨ log = 8 ∨ log = 9 := by omega
  rcases this with rfl | rfl | rfl | rfl | rfl <;> decide
theorem loop34 (t : Nat) (l : List Int) (hl : l.length ≤ 256) (hB : ∀ z ∈ l, 0 ≤ z ∧ z ≤ 400) : ∀ (j : Nat) (log : Int) (K : Nat), 5 ≤ log → log + j = 9 → j < K →
    ∃ env log', loopH (evC T34 KK b34x0) [0, 3] K (canon34 t l log) = some (.exit 0, ⟨env, [.ro t (.ints .i64 l)], []⟩) ∧ getT 3 env = .one (.int .i64 log') ∧ 5 ≤ log' ∧ log' ≤ 9 ∧ symK l ≤ ((2 ^ log'.toNat : Nat) : Int)
  | 0, log, K, h5, h9, hK => by
    obtain ⟨env, e, g⟩ := top30 t l log (by omega)
    have := symK_bound l
    obtain rfl : log = 9 := by omega
    have e9 : (((2 ^ (9 : Int).toNat : Nat)) : Int) = 512 := rfl
    exact ⟨env, 9, loopH_exit e, g, by omega, by omega, by rw [e9]; omega⟩
  | j + 1, log, K, h5, h9, hK => by
    have e73 := fun t => f73 t l (by omega)
    have e74 := fun t => f74 t l (by omega) fun z hz => by have := hB z hz; omega
    obtain ⟨es, p1, p2⟩ := shl_pow (log := log) (by omega)
    have hs := symK_bound l
    have w4 : IntKind.i64.wrap (4 * symK l) = 4 * symK l := i64_in _ (by omega)
    by_cases h : ((2 ^ log.toNat : Nat) : Int) < 4 * symK l ∨ ((2 ^ log.toNat : Nat) : Int) < IntKind.i64.wrap ((sumK l).tdiv 8)
    · obtain ⟨st1, e1, e2⟩ := go30 t l log _ _ _ (log + 1) e73 e74 (by omega) (by omega) es w4 (i64_in _ (by omega)) h
      obtain ⟨env, log', e, g⟩ := loop34 t l hl hB j (log + 1) (K - 1) (by omega) (by omega) (by omega)
      exact ⟨env, log', by rw [loopH_norm e1 (by omega), e2]; exact e, g⟩
    · obtain ⟨env, e, g⟩ := out30 t l log _ _ _ e73 e74 (by omega) (by omega) es w4 (fun h1 => h (.inl h1)) (fun h1 => h (.inr h1))
      exact ⟨env, log, loopH_exit e, g, h5, by omega, by omega⟩
theorem f34 (t : Nat) (l : List Int) (hl : l.length ≤ 256) (hB : ∀ z ∈ l, 0 ≤ z ∧ z ≤ 400) (hp : 0 < sumK l) : ∃ log, F34 [.one (.ro t (.ints .i64 l))] [] = some (.one (.int .i64 log), []) ∧ 5 ≤ log ∧ log ≤ 9 ∧ symK l ≤ ((2 ^ log.toNat : Nat) : Int) := by
  have e72 := fun t => f72 t l hl fun z hz => by have := hB z hz; omega
  rw [decide_eq_true hp] at e72
  obtain ⟨env, log, e, g, h1, h2, h3⟩ := loop34 t l hl hB 4 5 KK (by omega) (by omega) (by rw [KK_eq]; omega)
  simp only [canon34] at e
  refine ⟨log, ?_, h1, h2, h3⟩
  simp -implicitDefEqProofs [F34, c34, upd, e72, e, g]
theorem f34z (t : Nat) (l : List Int) (hl : l.length ≤ 256) (hB : ∀ z ∈ l, 0 ≤ z ∧ z ≤ 400) (hp : ¬ 0 < sumK l) : F34 [.one (.ro t (.ints .i64 l))] [] = some (.one (.int .i64 0), []) := by
  have e72 := fun t => f72 t l hl fun z hz => by have := hB z hz; omega
  rw [decide_eq_false hp] at e72
  simp -implicitDefEqProofs [F34, c34, upd, e72]
end Go.X.Try
set_option maxRecDepth 100000
set_option linter.unusedSimpArgs false
namespace Go.X.Try
open Go.IntWalk
theorem e75 (n : Int) : F75 [.one (.int .i64 n)] [] = some (.one (.bool (decide (5 ≤ n ∧ n ≤ 9))), []) := by
  by_cases h : 5 ≤ n
  · by_cases h2 : n ≤ 9
    · simp -implicitDefEqProofs [F75, c75, upd, h, h2]
    · simp -implicitDefEqProofs [F75, c75, upd, h, h2]
  · simp -implicitDefEqProofs [F75, c75, upd, h]
end Go.X.Try
set_option maxRecDepth 100000
set_option linter.unusedSimpArgs false
set_option linter.unusedVariables false
namespace Go.X.Try
open Go.IntWalk
/-! ### a share of counts -/
def canon35 (t : Nat) (l X : List Int) (log left : Int) : St := ⟨[(7, .one (.row 0)), (8, .one (.int .i64 left))], [.ro t (.ints .i64 l), .int .i64 log], [.rows (.ints .i64 X)]⟩
theorem body35 (t : Nat) (l X : List Int) (log left left' : Int) (g : Nat) (hg : g < X.length) (e77 : F77 [.one (.ro 0 (.ints .i64 X))] [] = some (.one (.int .i64 (g : Nat)), [])) (h : left < 0) (el : IntKind.i64.wrap (left + 1) = left') :
    ∃ st1, evC T35 KK b35x0 (canon35 t l X log left) = some (.norm, st1) ∧ St.head [7, 8] st1 = canon35 t l (X.set g (IntKind.i64.wrap (X[g] - 1))) log left' := by
  have hg2 : (g : Int) < X.length := by omega
  have h0 : (0 : Int) ≤ g := by omega
  simp -implicitDefEqProofs [b35x0, canon35, upd, e77, h, el, hg, hg2, h0, RC.len, RC.size, RC.get, RC.set]
theorem end35 (t : Nat) (l X : List Int) (log left : Int) (h : ¬ left < 0) :
    ∃ env, evC T35 KK b35x0 (canon35 t l X log left) = some (.exit 0, ⟨env, [.ro t (.ints .i64 l), .int .i64 log], [.rows (.ints .i64 X)]⟩) ∧ getT 7 env = .one (.row 0) := by
  simp -implicitDefEqProofs [b35x0, canon35, upd, h]
theorem loop35 (t : Nat) (l : List Int) (log : Int) : ∀ (j : Nat) (left : Int) (X : List Int) (K : Nat), 0 ≤ left + j → -1000 ≤ left → 0 < X.length → X.length ≤ 256 → j < K →
    ∃ env Y, loopH (evC T35 KK b35x0) [7, 8] K (canon35 t l X log left) = some (.exit 0, ⟨env, [.ro t (.ints .i64 l), .int .i64 log], [.rows (.ints .i64 Y)]⟩) ∧ getT 7 env = .one (.row 0)
  | 0, left, X, K, h, hb, h0, h1, hK => by
    obtain ⟨env, e, g⟩ := end35 t l X log left (by omega)
    exact ⟨env, X, loopH_exit e, g⟩
  | j + 1, left, X, K, h, hb, h0, h1, hK => by
    by_cases hn : left < 0
    · obtain ⟨g, hg, e77, _⟩ := f77 0 X (by omega) h0
      obtain ⟨st1, e1, e2⟩ := body35 t l X log left (left + 1) g hg e77 hn (i64_in _ (by omega))
      obtain ⟨env, Y, e, q⟩ := loop35 t l log j (left + 1) (X.set g (IntKind.i64.wrap (X[g] - 1))) (K - 1) (by omega) (by omega) (by simpa using h0) (by simpa using h1) (by omega)
      exact ⟨env, Y, by rw [loopH_norm e1 (by omega), e2]; exact e, q⟩
    · obtain ⟨env, e, g⟩ := end35 t l X log left hn
      exact ⟨env, X, loopH_exit e, g⟩
theorem f35 (t : Nat) (l : List Int) (log : Int) (hl : 0 < l.length) (hl2 : l.length ≤ 256) (hT : 0 < sumK l ∧ sumK l ≤ 400) (hB : ∀ z ∈ l, 0 ≤ z ∧ z ≤ sumK l) (h5 : 5 ≤ log ∧ log ≤ 9) (hs : symK l ≤ ((2 ^ log.toNat : Nat) : Int)) :
    ∃ Y, F35 [.one (.ro t (.ints .i64 l)), .one (.int .i64 log)] [] = some (.tup [.one (.row 0), .one (.bool true)], [.rows (.ints .i64 Y)]) := by
  have e72 := fun t => f72 t l hl2 fun z hz => by have := hB z hz; omega
  rw [decide_eq_true hT.1] at e72
  have e75 := e75 log
  rw [decide_eq_true h5] at e75
  have e73 := fun t => f73 t l (by omega)
  obtain ⟨es, p1, p2⟩ := shl_pow (log := log) h5
  generalize ((2 ^ log.toNat : Nat) : Int) = S at *
  have e76 := fun t => f76 t l S hl2 ⟨p1, p2⟩ hT hB
  obtain ⟨q1, q2⟩ := sum_parts_le (S := S) l ⟨p1, p2⟩ hT hB
  have e74 := fun t => f74 t (l.map (ptK S (sumK l))) (by simp; omega) (fun z hz => by
    simp only [List.mem_map] at hz
    obtain ⟨c, hc, rfl⟩ := hz
    obtain ⟨a1, a2, _⟩ := pt_bound (c := c) ⟨p1, p2⟩ hT (hB c hc)
    omega)
  have hXl : (l.map (ptK S (sumK l))).length = l.length := by simp
  generalize hX : l.map (ptK S (sumK l)) = X at *
  generalize hσ : sumK X = σ at *
  have wl : IntKind.i64.wrap (S - σ) = S - σ := i64_in _ (by omega)
  have n1 : ¬ S < symK l := by omega
  have hlog : ¬ log < 0 := by omega
  by_cases hpos : 0 < S - σ
  · obtain ⟨g, hg, e77, _⟩ := f77 0 l (by omega) hl
    have hgX : g < X.length := by omega
    have hg2 : (g : Int) < X.length := by omega
    have h0 : (0 : Int) ≤ g := by omega
    obtain ⟨env, Y, e, q⟩ := loop35 t l log 0 (S - σ) (X.set g (IntKind.i64.wrap (X[g] + (S - σ)))) KK (by omega) (by omega) (by simp; omega) (by simp; omega) (by rw [KK_eq]; omega)
    simp only [canon35] at e
    generalize hd : S - σ = d at *
    refine ⟨Y, ?_⟩
    simp -implicitDefEqProofs [F35, c35, upd, e72, e75, e73, es, n1, hlog, e76, e74, hd, wl, hpos, e77, hgX, hg2, h0, e, q, RC.len, RC.size, RC.get, RC.set]
  · obtain ⟨env, Y, e, q⟩ := loop35 t l log 1000 (S - σ) X KK (by omega) (by omega) (by omega) (by omega) (by rw [KK_eq]; omega)
    simp only [canon35] at e
    generalize hd : S - σ = d at *
    refine ⟨Y, ?_⟩
    simp -implicitDefEqProofs [F35, c35, upd, e72, e75, e73, es, n1, hlog, e76, e74, hd, wl, hpos, e, q, RC.len, RC.size, RC.get, RC.set]
theorem f35z (t : Nat) (l : List Int) (log : Int) (hl : l.length ≤ 256) (hB : ∀ z ∈ l, 0 ≤ z ∧ z ≤ 400) (hp : ¬ 0 < sumK l) : F35 [.one (.ro t (.ints .i64 l)), .one (.int .i64 log)] [] = some (.tup [.one (.row 0), .one (.bool false)], [.rows (.ints .i64 [])]) := by
  have e72 := fun t => f72 t l hl fun z hz => by have := hB z hz; omega
  rw [decide_eq_false hp] at e72
  simp -implicitDefEqProofs [F35, c35, upd, e72]
end Go.X.Try
set_option maxRecDepth 100000
set_option linter.unusedSimpArgs false
namespace Go.X.Try
open Go.IntWalk
theorem l40 (w : Int) (hw : w ≤ 20) : ∀ (k : Nat) (j : Nat) (env : Env), getT 0 env = .one (.int .i64 w) → getT 3 env = .one (.int .i64 ((2 ^ j : Nat) : Int)) → getT 4 env = .one (.int .i64 j) → (j : Int) ≤ w → w - j < k →
    ∃ env', loopN (evC T40 KK b40x0) [0, 3, 4] k ⟨env, [.int .i64 w], []⟩ = some (.exit 0, ⟨env', [.int .i64 w], []⟩) ∧ getT 3 env' = .one (.int .i64 ((2 ^ w.toNat : Nat) : Int))
  | 0, j, env, _, _, _, _, h => by omega
  | k + 1, j, env, e0, e3, e4, hj, hk => by
    have hp : 2 ^ j ≤ 2 ^ 20 := Nat.pow_le_pow_right (by omega) (by omega)
    have hs : (2 ^ (j + 1) : Nat) = 2 ^ j * 2 := Nat.pow_succ 2 j
    by_cases hv : (j : Int) < w
    · obtain ⟨env', p, q⟩ := l40 w hw k (j + 1) [(4, .one (.int .i64 ((j + 1 : Nat) : Int))), (9, .one (.int .i64 ((j + 1 : Nat) : Int))), (8, .one (.int .i64 j)), (3, .one (.int .i64 ((2 ^ (j + 1) : Nat) : Int))), (11, .one (.int .i64 ((2 ^ (j + 1) : Nat) : Int))), (10, .one (.int .i64 ((2 ^ j : Nat) : Int))), (7, .one (.bool true)), (6, .one (.int .i64 w)), (5, .one (.int .i64 j)), (0, .one (.int .i64 w)), (3, .one (.int .i64 ((2 ^ j : Nat) : Int))), (4, .one (.int .i64 j))] rfl rfl rfl (by omega) (by omega)
      refine ⟨env', ?_, q⟩
      rw [← p, hs]
      generalize 2 ^ j = m at hp e3 ⊢
      simp [loopN, b40x0, e0, e3, e4, hv]
      rw [i64_in (m * 2) (by omega), i64_in (j + 1) (by omega)]
    · refine ⟨_, by simp [loopN, b40x0, e0, e3, e4, hv]; rfl, ?_⟩
      have : w.toNat = j := by omega
      rw [this]; simp
theorem e40 (w : Int) (h0 : 0 ≤ w) (h : w ≤ 20) : F40 [.one (.int .i64 w)] [] = some (.one (.int .i64 ((2 ^ w.toNat : Nat) : Int)), []) := by
  obtain ⟨env', p, q⟩ := l40 w h KK 0 [(4, .one (.int .i64 0)), (3, .one (.int .i64 1)), (2, .one (.int .i64 0)), (0, .one (.int .i64 w))] rfl rfl rfl h0 (by rw [KK_eq]; omega)
  simp [-loop_KK, F40, c40, p, q]
end Go.X.Try
set_option maxRecDepth 100000
set_option linter.unusedSimpArgs false
namespace Go.X.Try
open Go.IntWalk
def chk15 : Int → List Int → Bool
  | left, [] => decide (left = 0)
  | left, n :: l => if n < 0 ∨ left < n then false else chk15 (left - n) l
def sumL : List Int → Int
  | [] => 0
  | x :: l => x + sumL l
def okN : List Int → Bool
  | [] => true
  | x :: l => decide (0 ≤ x ∧ x ≤ 1000) && okN l
theorem sumL_nonneg : ∀ {l : List Int}, okN l = true → 0 ≤ sumL l
  | [], _ => Int.le_refl _
  | x :: l, h => by
    simp only [okN, Bool.and_eq_true, decide_eq_true_eq] at h
    have := sumL_nonneg h.2
    simp only [sumL]; omega
theorem chk15_eq : ∀ (l : List Int) (left : Int), 0 ≤ left → left ≤ 1000 → chk15 left l = (okN l && decide (sumL l = left))
  | [], left, _, _ => by
    simp only [chk15, okN, sumL, Bool.true_and]
    exact decide_eq_decide.2 ⟨fun h => h.symm, fun h => h.symm⟩
  | n :: l, left, h0, h1 => by
    show (if n < 0 ∨ left < n then false else chk15 (left - n) l) = (decide (0 ≤ n ∧ n ≤ 1000) && okN l && decide (n + sumL l = left))
    by_cases h : n < 0 ∨ left < n
    · rw [if_pos h]
      rcases h with h | h
      · rw [decide_eq_false (by omega : ¬ (0 ≤ n ∧ n ≤ 1000))]; rfl
      · cases ho : okN l with
        | false => simp
        | true =>
          have := sumL_nonneg ho
          rw [decide_eq_false (by omega : ¬ (n + sumL l = left))]; simp
    · rw [if_neg h, chk15_eq l (left - n) (by omega) (by omega), decide_eq_true (by omega : 0 ≤ n ∧ n ≤ 1000), Bool.true_and]
      congr 1
      exact decide_eq_decide.2 (by omega)
def canon41 (t : Nat) (l : List Int) (log left i : Int) : St := ⟨[(5, .one (.int .i64 left)), (18, .one (.ro t (.ints .i64 l))), (19, .one (.int .i64 l.length)), (20, .one (.int .i64 i))], [.ro t (.ints .i64 l), .int .i64 log], []⟩
theorem body41 (t : Nat) (l : List Int) (log left n left' i' : Int) (i : Nat) (hi : i < l.length) (hn : l[i]?.getD 0 = n) (h1 : ¬ n < 0) (h2 : ¬ left < n) (el : IntKind.i64.wrap (left - n) = left') (ei : IntKind.i64.wrap ((i : Int) + 1) = i') :
    ∃ st1, evC T41 KK b41x0 (canon41 t l log left i) = some (.norm, st1) ∧ St.head [5, 18, 19, 20] st1 = canon41 t l log left' i' := by
  have hn' : l[i] = n := by rw [List.getElem?_eq_getElem hi] at hn; exact hn
  have hi2 : (i : Int) < l.length := by omega
  simp -implicitDefEqProofs [b41x0, canon41, upd, hi, hi2, hn, hn', h1, h2, el, ei, RC.len, RC.size, RC.get]
theorem bad15 (t : Nat) (l : List Int) (log left n : Int) (i : Nat) (hi : i < l.length) (hn : l[i]?.getD 0 = n) (h : n < 0 ∨ left < n) :
    ∃ env, evC T41 KK b41x0 (canon41 t l log left i) = some (.ret, ⟨env, [.ro t (.ints .i64 l), .int .i64 log], []⟩) ∧ getT 4 env = .one (.bool false) := by
  have hn' : l[i] = n := by rw [List.getElem?_eq_getElem hi] at hn; exact hn
  have hi2 : (i : Int) < l.length := by omega
  by_cases h1 : n < 0
  · simp -implicitDefEqProofs [b41x0, canon41, upd, hi, hi2, hn, hn', h1, RC.len, RC.size, RC.get]
  · have h2 : left < n := by omega
    simp -implicitDefEqProofs [b41x0, canon41, upd, hi, hi2, hn, hn', h1, h2, RC.len, RC.size, RC.get]
theorem end41 (t : Nat) (l : List Int) (log left i : Int) (hi : ¬ i < l.length) :
    ∃ env, evC T41 KK b41x0 (canon41 t l log left i) = some (.exit 0, ⟨env, [.ro t (.ints .i64 l), .int .i64 log], []⟩) ∧ getT 5 env = .one (.int .i64 left) := by
  simp -implicitDefEqProofs [b41x0, canon41, upd, hi]
theorem loop41 (t : Nat) (l : List Int) (log : Int) (hl : l.length ≤ 300) : ∀ (j i : Nat) (left : Int) (K : Nat), i + j = l.length → 0 ≤ left → left ≤ 1000 → j < K →
    (∃ env left', loopH (evC T41 KK b41x0) [5, 18, 19, 20] K (canon41 t l log left i) = some (.exit 0, ⟨env, [.ro t (.ints .i64 l), .int .i64 log], []⟩) ∧ getT 5 env = .one (.int .i64 left') ∧ chk15 left (l.drop i) = decide (left' = 0)) ∨
    (∃ env, loopH (evC T41 KK b41x0) [5, 18, 19, 20] K (canon41 t l log left i) = some (.ret, ⟨env, [.ro t (.ints .i64 l), .int .i64 log], []⟩) ∧ getT 4 env = .one (.bool false) ∧ chk15 left (l.drop i) = false)
  | 0, i, left, K, hi, h0, h1, hK => by
    obtain ⟨env, e, g⟩ := end41 t l log left i (by omega)
    exact .inl ⟨env, left, loopH_exit e, g, by rw [List.drop_eq_nil_of_le (by omega)]; rfl⟩
  | j + 1, i, left, K, hi, h0, h1, hK => by
    have hlt : i < l.length := by omega
    have hg : l[i]?.getD 0 = l[i] := by rw [List.getElem?_eq_getElem hlt]; rfl
    rw [List.drop_eq_getElem_cons hlt]
    generalize l[i] = n at hg
    simp only [chk15]
    by_cases h : n < 0 ∨ left < n
    · obtain ⟨env, e, g⟩ := bad15 t l log left n i hlt hg h
      exact .inr ⟨env, loopH_ret e, g, by rw [if_pos h]⟩
    · obtain ⟨st1, e1, e2⟩ := body41 t l log left n (left - n) (i + 1 : Nat) i hlt hg (by omega) (by omega) (i64_in _ (by omega)) (by rw [i64_in _ (by omega)]; omega)
      rw [if_neg h]
      rcases loop41 t l log hl j (i + 1) (left - n) (K - 1) (by omega) (by omega) (by omega) (by omega) with ⟨env, l', e, g, q⟩ | ⟨env, e, g, q⟩
      · exact .inl ⟨env, l', by rw [loopH_norm e1 (by omega), e2]; exact e, g, q⟩
      · exact .inr ⟨env, by rw [loopH_norm e1 (by omega), e2]; exact e, g, q⟩
def fairB (l : List Int) (log : Int) : Bool := decide (5 ≤ log ∧ log ≤ 9 ∧ l.length ≤ 256) && (okN l && decide (sumL l = ((2 ^ log.toNat : Nat) : Int)))
theorem pow9 {log : Int} (h : 5 ≤ log ∧ log ≤ 9) : 32 ≤ 2 ^ log.toNat ∧ 2 ^ log.toNat ≤ 512 :=
  ⟨(Nat.pow_le_pow_right (n := 2) (by omega) (by omega : 5 ≤ log.toNat) : 2 ^ 5 ≤ _), (Nat.pow_le_pow_right (n := 2) (by omega) (by omega : log.toNat ≤ 9) : _ ≤ 2 ^ 9)⟩
theorem f41 (t : Nat) (l : List Int) (log : Int) (hl : l.length ≤ 300) : F41 [.one (.ro t (.ints .i64 l)), .one (.int .i64 log)] [] = some (.one (.bool (fairB l log)), []) := by
  have e75 := e75 log
  unfold fairB
  by_cases h5 : 5 ≤ log ∧ log ≤ 9
  · rw [decide_eq_true h5] at e75
    by_cases h256 : l.length ≤ 256
    · have hp := pow9 h5
      have n1 : ¬ (256 : Int) < l.length := by omega
      have n2 : ¬ 256 < l.length := by omega
      have es : shlI .i64 1 log = ((2 ^ log.toNat : Nat) : Int) := by
        have e1 : (1 : Int) * 2 ^ Nat.min log.toNat 64 = ((2 ^ log.toNat : Nat) : Int) := by
          rw [show Nat.min log.toNat 64 = log.toNat from Nat.min_eq_left (by omega)]; simp
        show IntKind.i64.wrap _ = _
        have e2 : (1 : Int) * 2 ^ Nat.min log.toNat IntKind.i64.bits = ((2 ^ log.toNat : Nat) : Int) := e1
        rw [e2]
        exact i64_in _ (by omega)
      have hlog : ¬ log < 0 := by omega
      have hpI : (32 : Int) ≤ ((2 ^ log.toNat : Nat) : Int) ∧ ((2 ^ log.toNat : Nat) : Int) ≤ 512 := by omega
      rw [decide_eq_true (by omega : 5 ≤ log ∧ log ≤ 9 ∧ l.length ≤ 256), Bool.true_and, ← chk15_eq l _ (by omega) (by omega)]
      generalize ((2 ^ log.toNat : Nat) : Int) = S at *
      have z : ((0 : Nat) : Int) = 0 := rfl
      rcases loop41 t l log hl l.length 0 S KK (by omega) (by omega) (by omega) (by rw [KK_eq]; omega) with ⟨env, l', e, g, q⟩ | ⟨env, e, g, q⟩
      · rw [List.drop_zero] at q
        simp only [canon41, z] at e
        rw [q]
        by_cases hl0 : l' = 0
        · simp -implicitDefEqProofs [F41, c41, upd, e75, n1, n2, h256, es, hlog, e, g, hl0, RC.len]
        · simp -implicitDefEqProofs [F41, c41, upd, e75, n1, n2, h256, es, hlog, e, g, hl0, RC.len]
      · rw [List.drop_zero] at q
        simp only [canon41, z] at e
        rw [q]
        simp -implicitDefEqProofs [F41, c41, upd, e75, n1, n2, h256, es, hlog, e, g, RC.len]
    · have n1 : (256 : Int) < l.length := by omega
      have n2 : 256 < l.length := by omega
      rw [decide_eq_false (by omega : ¬ (5 ≤ log ∧ log ≤ 9 ∧ l.length ≤ 256)), Bool.false_and]
      simp -implicitDefEqProofs [F41, c41, upd, e75, n1, n2, RC.len]
  · rw [decide_eq_false h5] at e75
    rw [decide_eq_false (by omega : ¬ (5 ≤ log ∧ log ≤ 9 ∧ l.length ≤ 256)), Bool.false_and]
    simp -implicitDefEqProofs [F41, c41, upd, e75]
def canon16 (t : Nat) (l : List Int) (log s i : Int) : St := ⟨[(0, .one (.ro t (.ints .i64 l))), (1, .one (.int .i64 log)), (5, .one (.int .i64 s)), (6, .one (.int .i64 i))], [.ro t (.ints .i64 l), .int .i64 log], []⟩
theorem body16 (t : Nat) (l : List Int) (log s n s' i' : Int) (i : Nat) (hi : i < l.length) (hn : l[i]?.getD 0 = n) (h1 : ¬ n < 0) (h2 : ¬ 1000 < n) (el : IntKind.i64.wrap (s + n) = s') (ei : IntKind.i64.wrap ((i : Int) + 1) = i') :
    ∃ st1, evC T16 KK b16x0 (canon16 t l log s i) = some (.norm, st1) ∧ St.head [0, 1, 5, 6] st1 = canon16 t l log s' i' := by
  have hn' : l[i] = n := by rw [List.getElem?_eq_getElem hi] at hn; exact hn
  have hi2 : (i : Int) < l.length := by omega
  simp -implicitDefEqProofs [b16x0, canon16, upd, hi, hi2, hn, hn', h1, h2, el, ei, RC.len, RC.size, RC.get]
theorem bad16 (t : Nat) (l : List Int) (log s n : Int) (i : Nat) (hi : i < l.length) (hn : l[i]?.getD 0 = n) (h : n < 0 ∨ 1000 < n) :
    ∃ env, evC T16 KK b16x0 (canon16 t l log s i) = some (.ret, ⟨env, [.ro t (.ints .i64 l), .int .i64 log], []⟩) ∧ getT 4 env = .one (.bool false) := by
  have hn' : l[i] = n := by rw [List.getElem?_eq_getElem hi] at hn; exact hn
  have hi2 : (i : Int) < l.length := by omega
  by_cases h1 : n < 0
  · simp -implicitDefEqProofs [b16x0, canon16, upd, hi, hi2, hn, hn', h1, RC.len, RC.size, RC.get]
  · have h2 : 1000 < n := by omega
    simp -implicitDefEqProofs [b16x0, canon16, upd, hi, hi2, hn, hn', h1, h2, RC.len, RC.size, RC.get]
theorem end16 (t : Nat) (l : List Int) (log s i : Int) (hi : ¬ i < l.length) :
    ∃ env, evC T16 KK b16x0 (canon16 t l log s i) = some (.exit 0, ⟨env, [.ro t (.ints .i64 l), .int .i64 log], []⟩) ∧ getT 1 env = .one (.int .i64 log) ∧ getT 5 env = .one (.int .i64 s) := by
  simp -implicitDefEqProofs [b16x0, canon16, upd, hi, RC.len]
theorem loop16 (t : Nat) (l : List Int) (log : Int) (hl : l.length ≤ 300) : ∀ (j i : Nat) (s : Int) (K : Nat), i + j = l.length → 0 ≤ s → s ≤ 1000 * i → j < K →
    (∃ env, loopH (evC T16 KK b16x0) [0, 1, 5, 6] K (canon16 t l log s i) = some (.exit 0, ⟨env, [.ro t (.ints .i64 l), .int .i64 log], []⟩) ∧ getT 1 env = .one (.int .i64 log) ∧ getT 5 env = .one (.int .i64 (s + sumL (l.drop i))) ∧ okN (l.drop i) = true) ∨
    (∃ env, loopH (evC T16 KK b16x0) [0, 1, 5, 6] K (canon16 t l log s i) = some (.ret, ⟨env, [.ro t (.ints .i64 l), .int .i64 log], []⟩) ∧ getT 4 env = .one (.bool false) ∧ okN (l.drop i) = false)
  | 0, i, s, K, hi, h0, h1, hK => by
    obtain ⟨env, e, g1, g⟩ := end16 t l log s i (by omega)
    exact .inl ⟨env, loopH_exit e, g1, by rw [List.drop_eq_nil_of_le (by omega), g]; simp [sumL], by rw [List.drop_eq_nil_of_le (by omega)]; rfl⟩
  | j + 1, i, s, K, hi, h0, h1, hK => by
    have hlt : i < l.length := by omega
    have hg : l[i]?.getD 0 = l[i] := by rw [List.getElem?_eq_getElem hlt]; rfl
    rw [List.drop_eq_getElem_cons hlt]
    generalize l[i] = n at hg
    simp only [okN, sumL]
    by_cases h : n < 0 ∨ 1000 < n
    · obtain ⟨env, e, g⟩ := bad16 t l log s n i hlt hg h
      exact .inr ⟨env, loopH_ret e, g, by rw [decide_eq_false (by omega)]; rfl⟩
    · obtain ⟨st1, e1, e2⟩ := body16 t l log s n (s + n) (i + 1 : Nat) i hlt hg (by omega) (by omega) (i64_in _ (by omega)) (by rw [i64_in _ (by omega)]; omega)
      rw [decide_eq_true (by omega), Bool.true_and]
      rcases loop16 t l log hl j (i + 1) (s + n) (K - 1) (by omega) (by omega) (by omega) (by omega) with ⟨env, e, g1, g, q⟩ | ⟨env, e, g, q⟩
      · exact .inl ⟨env, by rw [loopH_norm e1 (by omega), e2]; exact e, g1, by rw [g, Int.add_assoc], q⟩
      · exact .inr ⟨env, by rw [loopH_norm e1 (by omega), e2]; exact e, g, q⟩
theorem f16 (t : Nat) (l : List Int) (log : Int) (hl : l.length ≤ 300) : F16 [.one (.ro t (.ints .i64 l)), .one (.int .i64 log)] [] = some (.one (.bool (fairB l log)), []) := by
  unfold fairB
  by_cases h5 : log < 5
  · rw [decide_eq_false (by omega : ¬ (5 ≤ log ∧ log ≤ 9 ∧ l.length ≤ 256)), Bool.false_and]
    simp -implicitDefEqProofs [F16, c16, upd, h5]
  · by_cases h9 : 9 < log
    · rw [decide_eq_false (by omega : ¬ (5 ≤ log ∧ log ≤ 9 ∧ l.length ≤ 256)), Bool.false_and]
      simp -implicitDefEqProofs [F16, c16, upd, h5, h9]
    · by_cases h256 : l.length ≤ 256
      · have n1 : ¬ (256 : Int) < l.length := by omega
        have n2 : ¬ 256 < l.length := by omega
        have e40 := e40 log (by omega) (by omega)
        rw [decide_eq_true (by omega : 5 ≤ log ∧ log ≤ 9 ∧ l.length ≤ 256), Bool.true_and]
        generalize ((2 ^ log.toNat : Nat) : Int) = S at *
        have z : ((0 : Nat) : Int) = 0 := rfl
        rcases loop16 t l log hl l.length 0 0 KK (by omega) (by omega) (by omega) (by rw [KK_eq]; omega) with ⟨env, e, g1, g, q⟩ | ⟨env, e, g, q⟩
        · rw [List.drop_zero] at q g
          rw [Int.zero_add] at g
          simp only [canon16, z] at e
          rw [q, Bool.true_and]
          by_cases hs : sumL l = S
          · simp -implicitDefEqProofs [F16, c16, upd, h5, h9, n1, n2, h256, e, g1, g, e40, hs, RC.len]
          · simp -implicitDefEqProofs [F16, c16, upd, h5, h9, n1, n2, h256, e, g1, g, e40, hs, RC.len]
        · rw [List.drop_zero] at q
          simp only [canon16, z] at e
          rw [q, Bool.false_and]
          simp -implicitDefEqProofs [F16, c16, upd, h5, h9, n1, n2, h256, e, g, RC.len]
      · have n1 : (256 : Int) < l.length := by omega
        have n2 : 256 < l.length := by omega
        rw [decide_eq_false (by omega : ¬ (5 ≤ log ∧ log ≤ 9 ∧ l.length ≤ 256)), Bool.false_and]
        simp -implicitDefEqProofs [F16, c16, upd, h5, h9, n1, n2, RC.len]
end Go.X.Try
set_option linter.unusedVariables false
namespace Go.X
/-! ### symbols at places -/
def runs : Nat → List Nat → List Nat
  | _, [] => []
  | s, n :: l => List.replicate n s ++ runs (s + 1) l
theorem runs_length : ∀ (l : List Nat) (s : Nat), (runs s l).length = l.sum
  | [], _ => rfl
  | n :: l, s => by simp [runs, runs_length l]
theorem runs_count : ∀ (l : List Nat) (s x : Nat), (runs s l).count x = if s ≤ x then (l[x - s]?).getD 0 else 0
  | [], s, x => by simp [runs]
  | n :: l, s, x => by
    simp only [runs, List.count_append, List.count_replicate, runs_count l (s + 1) x]
    by_cases h : s = x
    · subst h; simp; omega
    · have hb : (s == x) = false := by simpa using h
      rw [hb]
      by_cases h2 : s ≤ x
      · rw [if_pos (by omega : s + 1 ≤ x), if_pos h2]
        obtain ⟨d, hd⟩ : ∃ d, x - s = d + 1 := ⟨x - s - 1, by omega⟩
        rw [hd, show x - (s + 1) = d by omega]
        simp
      · simp only [Bool.false_eq_true, if_false]
        rw [if_neg (by omega), if_neg h2]
theorem runs_lt : ∀ (l : List Nat) (s : Nat), ∀ x ∈ runs s l, s ≤ x ∧ x < s + l.length
  | [], _, x, h => by simp [runs] at h
  | n :: l, s, x, h => by
    simp only [runs, List.mem_append, List.mem_replicate] at h
    simp only [List.length_cons]
    rcases h with ⟨_, rfl⟩ | h
    · omega
    · have := runs_lt l (s + 1) x h; omega
def place (size step : Nat) : List Nat → Nat → List Nat → List Nat × Nat
  | out, a, [] => (out, a)
  | out, a, s :: l => place size step (out.set a s) ((a + step) % size) l
theorem place_append (size step : Nat) : ∀ (l m : List Nat) (out : List Nat) (a : Nat), place size step out a (l ++ m) = place size step (place size step out a l).1 (place size step out a l).2 m
  | [], m, out, a => rfl
  | s :: l, m, out, a => by simp only [List.cons_append, place]; exact place_append size step l m _ _
theorem place_length (size step : Nat) : ∀ (l : List Nat) (out : List Nat) (a : Nat), (place size step out a l).1.length = out.length
  | [], out, a => rfl
  | s :: l, out, a => by simp only [place]; rw [place_length]; simp
theorem place_at {size step : Nat} (h0 : 0 < size) : ∀ (l : List Nat) (out : List Nat) (a : Nat), a < size → (place size step out a l).2 = (a + l.length * step) % size ∧ (place size step out a l).2 < size
  | [], out, a, h => by simp [place, Nat.mod_eq_of_lt h, h]
  | s :: l, out, a, h => by
    simp only [place]
    obtain ⟨h1, h2⟩ := place_at h0 l (out.set a s) ((a + step) % size) (Nat.mod_lt _ h0)
    refine ⟨?_, h2⟩
    rw [h1, Nat.mod_add_mod, List.length_cons, Nat.succ_mul]
    congr 1; omega
theorem place_keep (size step : Nat) : ∀ (l : List Nat) (out : List Nat) (a j : Nat), (∀ k, k < l.length → (a + k * step) % size ≠ j) → a < size → (place size step out a l).1[j]? = out[j]?
  | [], out, a, j, _, _ => rfl
  | s :: l, out, a, j, h, ha => by
    simp only [place]
    rw [place_keep size step l _ _ _ (fun k hk => ?_) (Nat.mod_lt _ (by omega))]
    · have h0 := h 0 (by simp)
      rw [Nat.zero_mul, Nat.add_zero, Nat.mod_eq_of_lt ha] at h0
      rw [List.getElem?_set_ne h0]
    · have := h (k + 1) (by simpa using hk)
      rw [Nat.mod_add_mod, Nat.add_assoc, Nat.add_comm step, ← Nat.succ_mul]; exact this
theorem place_get {size step : Nat} : ∀ (l : List Nat) (out : List Nat) (a : Nat), a < size → out.length = size → (∀ k k', k < k' → k' < l.length → (a + k * step) % size ≠ (a + k' * step) % size) →
    ∀ k, k < l.length → (place size step out a l).1[(a + k * step) % size]? = l[k]?
  | [], out, a, _, _, _, k, hk => by simp at hk
  | s :: l, out, a, ha, hl, hd, k, hk => by
    simp only [place]
    have hsh : ∀ k, ((a + step) % size + k * step) % size = (a + (k + 1) * step) % size := fun k => by
      rw [Nat.mod_add_mod, Nat.add_assoc, Nat.add_comm step, ← Nat.succ_mul]
    cases k with
    | zero =>
      rw [Nat.zero_mul, Nat.add_zero, Nat.mod_eq_of_lt ha]
      rw [place_keep size step l _ _ _ (fun k hk => ?_) (Nat.mod_lt _ (by omega))]
      · rw [List.getElem?_set_self (by omega)]; rfl
      · rw [hsh]
        have := hd 0 (k + 1) (by omega) (by simpa using hk)
        rw [Nat.zero_mul, Nat.add_zero, Nat.mod_eq_of_lt ha] at this
        exact this.symm
    | succ k =>
      rw [← hsh, place_get l _ _ (Nat.mod_lt _ (by omega)) (by simpa using hl) (fun k k' h1 h2 => ?_) k (by simpa using hk)]
      · simp
      · rw [hsh, hsh]
        exact hd (k + 1) (k' + 1) (by omega) (by simpa using h2)
theorem step_inj {L step : Nat} (ho : step % 2 = 1) {k k' : Nat} (h : k < k') (hs : k' < k + 2 ^ L) : (k * step) % 2 ^ L ≠ (k' * step) % 2 ^ L := by
  intro e
  have h1 : (k' * step - k * step) % 2 ^ L = 0 := Nat.sub_mod_eq_zero_of_mod_eq e.symm
  rw [← Nat.sub_mul] at h1
  have h2 : 2 ^ L ∣ (k' - k) * step := Nat.dvd_of_mod_eq_zero h1
  have hc : Nat.Coprime (2 ^ L) step := by
    apply Nat.Coprime.pow_left
    rw [Nat.coprime_iff_gcd_eq_one, Nat.gcd_rec, ho]; rfl
  have h3 := hc.dvd_of_dvd_mul_right h2
  have := Nat.le_of_dvd (by omega) h3
  omega
/-! ### a map of places onto themselves -/
theorem nodup_le : ∀ (m : Nat) (l : List Nat), l.Nodup → (∀ x ∈ l, x < m) → l.length ≤ m
  | 0, l, _, h => by
    cases l with
    | nil => simp
    | cons x l => have := h x (by simp); omega
  | m + 1, l, hn, h => by
    have := nodup_le m (l.erase m) (hn.erase m) (fun x hx => by
      have h1 := h x (List.mem_of_mem_erase hx)
      have h2 : x ≠ m := by rintro rfl; exact (List.Nodup.not_mem_erase hn) hx
      omega)
    have h3 := List.length_erase (a := m) (l := l)
    split at h3 <;> omega
theorem perm_range {l : List Nat} {n : Nat} (hn : l.Nodup) (hl : l.length = n) (h : ∀ x ∈ l, x < n) : l.Perm (List.range n) := by
  rw [List.perm_iff_count]
  intro a
  rw [hn.count, List.nodup_range.count]
  by_cases ha : a ∈ l
  · rw [if_pos ha, if_pos (List.mem_range.2 (h a ha))]
  · rw [if_neg ha]
    split
    · rename_i h2
      exfalso
      have := nodup_le n (a :: l) (List.nodup_cons.2 ⟨ha, hn⟩) (fun x hx => by
        rcases List.mem_cons.1 hx with rfl | hx
        · exact List.mem_range.1 h2
        · exact h x hx)
      simp at this; omega
    · rfl
/-- The symbols of the places. -/
def symOf (sh : List Nat) : List Nat := (place sh.sum (sh.sum / 2 + sh.sum / 8 + 3) (List.replicate sh.sum 0) 0 (runs 0 sh)).1
section
variable {sh : List Nat} {L : Nat}
theorem step_odd (hL : 5 ≤ L) : (2 ^ L / 2 + 2 ^ L / 8 + 3) % 2 = 1 := by
  obtain ⟨m, rfl⟩ : ∃ m, L = m + 5 := ⟨L - 5, by omega⟩
  rw [Nat.pow_add]; omega
theorem symOf_length : (symOf sh).length = sh.sum := by unfold symOf; rw [place_length]; simp
theorem symOf_perm (hs : sh.sum = 2 ^ L) (hL : 5 ≤ L) : (symOf sh).Perm (runs 0 sh) := by
  have hpos := Nat.two_pow_pos L
  have ho := step_odd hL
  unfold symOf
  rw [hs]
  generalize 2 ^ L / 2 + 2 ^ L / 8 + 3 = st at *
  have hrl : (runs 0 sh).length = 2 ^ L := by rw [runs_length, hs]
  have hne : ∀ k k', k < k' → k' < (runs 0 sh).length → (0 + k * st) % 2 ^ L ≠ (0 + k' * st) % 2 ^ L := fun k k' h1 h2 => by
    rw [Nat.zero_add, Nat.zero_add]; exact step_inj ho h1 (by omega)
  have hget := place_get (runs 0 sh) (List.replicate (2 ^ L) 0) 0 hpos (by simp) hne
  generalize hS : (place (2 ^ L) st (List.replicate (2 ^ L) 0) 0 (runs 0 sh)).1 = S at *
  have hSl : S.length = 2 ^ L := by rw [← hS, place_length]; simp
  have hp : ((List.range (2 ^ L)).map fun k => (0 + k * st) % 2 ^ L).Perm (List.range (2 ^ L)) := by
    refine perm_range ?_ (by simp) (fun x hx => ?_)
    · refine List.pairwise_iff_getElem.2 fun i j hi hj hij => ?_
      simp only [List.getElem_map, List.getElem_range]
      exact hne i j hij (by simp at hj; omega)
    · obtain ⟨k, _, rfl⟩ := List.mem_map.1 hx
      exact Nat.mod_lt _ hpos
  have h2 := hp.map fun i => S.getD i 0
  have e1 : (List.range (2 ^ L)).map (fun i => S.getD i 0) = S := by
    apply List.ext_getElem (by simp [hSl])
    intro i h1 h2
    simp [List.getD, List.getElem?_eq_getElem h2]
  have e2 : ((List.range (2 ^ L)).map fun k => (0 + k * st) % 2 ^ L).map (fun i => S.getD i 0) = runs 0 sh := by
    apply List.ext_getElem (by simp [hrl])
    intro i h1 h2
    have := hget i h2
    simp only [List.getElem_map, List.getElem_range, List.getD, this, List.getElem?_eq_getElem h2, Option.getD_some]
  rw [e1, e2] at h2
  exact h2.symm
theorem sym_count (hs : sh.sum = 2 ^ L) (hL : 5 ≤ L) (x : Nat) : (symOf sh).count x = (sh[x]?).getD 0 := by
  rw [(symOf_perm hs hL).count_eq, runs_count]; simp
theorem sym_lt (hs : sh.sum = 2 ^ L) (hL : 5 ≤ L) {i x : Nat} (h : (symOf sh)[i]? = some x) : x < sh.length := by
  have := runs_lt sh 0 x ((symOf_perm hs hL).mem_iff.1 (List.mem_of_getElem? h))
  omega
/-- How often the symbol came before. -/
def rkS (S : List Nat) (i : Nat) : Nat := (S.take i).count (S.getD i 0)
theorem count_take_le (S : List Nat) (i x : Nat) : (S.take i).count x ≤ S.count x := (List.take_sublist i S).count_le x
theorem count_take_succ {S : List Nat} {i x : Nat} (h : i < S.length) : (S.take (i + 1)).count x = (S.take i).count x + if S[i] = x then 1 else 0 := by
  rw [List.take_add_one, List.count_append, List.getElem?_eq_getElem h]
  simp [List.count_singleton]
theorem rk_lt {S : List Nat} {i x : Nat} (h : S[i]? = some x) : (S.take i).count x < S.count x := by
  have hi := (List.getElem?_eq_some_iff.1 h).1
  have hx := (List.getElem?_eq_some_iff.1 h).2
  have := count_take_succ (x := x) hi
  rw [hx, if_pos rfl] at this
  have := count_take_le S (i + 1) x
  omega
theorem count_mono (S : List Nat) (x : Nat) {i j : Nat} (h : i ≤ j) : (S.take i).count x ≤ (S.take j).count x := by
  have e : S.take i = (S.take j).take i := by rw [List.take_take, Nat.min_eq_left h]
  rw [e]; exact count_take_le _ _ _
theorem rk_strict {S : List Nat} {i j x : Nat} (hi : S[i]? = some x) (h : i < j) : (S.take i).count x < (S.take j).count x := by
  have hil := (List.getElem?_eq_some_iff.1 hi).1
  have hx := (List.getElem?_eq_some_iff.1 hi).2
  have := count_take_succ (x := x) hil
  rw [hx, if_pos rfl] at this
  have := count_mono S x (show i + 1 ≤ j by omega)
  omega
theorem rk_find : ∀ (S : List Nat) (x j : Nat), j < S.count x → ∃ i, S[i]? = some x ∧ (S.take i).count x = j
  | [], x, j, h => by simp at h
  | y :: S, x, j, h => by
    by_cases e : y = x
    · subst e
      cases j with
      | zero => exact ⟨0, rfl, by simp⟩
      | succ j =>
        obtain ⟨i, h1, h2⟩ := rk_find S y j (by simpa using h)
        exact ⟨i + 1, by simpa using h1, by simp [h2]⟩
    · have hb : (y == x) = false := by simpa using e
      obtain ⟨i, h1, h2⟩ := rk_find S x j (by simpa [List.count_cons, hb] using h)
      exact ⟨i + 1, by simpa using h1, by simp [List.count_cons, hb, h2]⟩
theorem rk_inj {S : List Nat} {i j x : Nat} (hi : S[i]? = some x) (hj : S[j]? = some x) (h : (S.take i).count x = (S.take j).count x) : i = j := by
  rcases Nat.lt_trichotomy i j with h1 | h1 | h1
  · have := rk_strict hi h1; omega
  · exact h1
  · have := rk_strict hj h1; omega
end
/-! ### where a symbol's states lie in the list of all -/
def fstS (sh : List Nat) (s : Nat) : Nat := (sh.take s).sum
theorem fstS_succ {sh : List Nat} {s : Nat} (h : s < sh.length) : fstS sh (s + 1) = fstS sh s + sh[s] := by
  unfold fstS
  rw [List.take_add_one, List.getElem?_eq_getElem h, List.sum_append]; simp
theorem fstS_mono (sh : List Nat) {s t : Nat} (h : s ≤ t) : fstS sh s ≤ fstS sh t := by
  induction h with
  | refl => exact Nat.le_refl _
  | @step m _ ih =>
    rcases Nat.lt_or_ge m sh.length with hm | hm
    · rw [fstS_succ hm]; omega
    · unfold fstS at ih ⊢
      rw [List.take_of_length_le (by omega : sh.length ≤ m + 1)]
      rw [List.take_of_length_le hm] at ih; exact ih
theorem fstS_le (sh : List Nat) (s : Nat) : fstS sh s ≤ sh.sum := by
  have := fstS_mono sh (Nat.le_max_left s sh.length)
  have e : fstS sh (max s sh.length) = sh.sum := by unfold fstS; rw [List.take_of_length_le (by omega)]
  omega
theorem slot_lt {sh : List Nat} {s j n : Nat} (h : sh[s]? = some n) (hj : j < n) : fstS sh s + j < sh.sum := by
  obtain ⟨h1, h2⟩ := List.getElem?_eq_some_iff.1 h
  have := fstS_succ h1
  have := fstS_le sh (s + 1)
  omega
theorem slot_inj {sh : List Nat} {s t j k n m : Nat} (hs : sh[s]? = some n) (ht : sh[t]? = some m) (hj : j < n) (hk : k < m) (e : fstS sh s + j = fstS sh t + k) : s = t ∧ j = k := by
  obtain ⟨a1, a2⟩ := List.getElem?_eq_some_iff.1 hs
  obtain ⟨b1, b2⟩ := List.getElem?_eq_some_iff.1 ht
  have c1 := fstS_succ a1
  have c2 := fstS_succ b1
  rcases Nat.lt_trichotomy s t with h | h | h
  · have := fstS_mono sh (show s + 1 ≤ t by omega); omega
  · subst h; exact ⟨rfl, by omega⟩
  · have := fstS_mono sh (show t + 1 ≤ s by omega); omega
end Go.X
set_option linter.unusedVariables false
namespace Go.X
/-! ### a state's cell -/
theorem cell_bd {L y : Nat} (h1 : 1 ≤ y) (h2 : y < 2 ^ (L + 1)) : 1 ≤ bl y ∧ bl y ≤ L + 1 ∧ 2 ^ L ≤ y * 2 ^ (L + 1 - bl y) ∧ (y + 1) * 2 ^ (L + 1 - bl y) ≤ 2 ^ (L + 1) := by
  obtain ⟨b1, b2, b3⟩ := bl_pos h1
  have b4 := bl_le h2
  generalize bl y = w at *
  refine ⟨b3, b4, ?_, ?_⟩
  · have : 2 ^ L = 2 ^ (w - 1) * 2 ^ (L + 1 - w) := by rw [← Nat.pow_add]; congr 1; omega
    rw [this]; exact Nat.mul_le_mul_right _ b1
  · have : 2 ^ (L + 1) = 2 ^ w * 2 ^ (L + 1 - w) := by rw [← Nat.pow_add]; congr 1; omega
    rw [this]; exact Nat.mul_le_mul_right _ b2
theorem bits_div {L x k : Nat} (h1 : 2 ^ L ≤ x) (h2 : x < 2 ^ (L + 1)) (hk : 2 ^ k ≤ x) : L + 1 - bl (x / 2 ^ k) = k := by
  have := bl_div k hk
  rw [bl_unique h1 h2] at this
  omega
theorem back_iff {L n x k y : Nat} (hn : 1 ≤ n) (hx1 : 2 ^ L ≤ x) (hx2 : x < 2 ^ (L + 1)) (hk : x / 2 ^ k < 2 * n) (hk2 : n ≤ x / 2 ^ k) (y1 : n ≤ y) (y2 : y < 2 * n) :
    (y * 2 ^ (L + 1 - bl y) ≤ x ∧ x < (y + 1) * 2 ^ (L + 1 - bl y)) ↔ y = x / 2 ^ k := by
  have hp : ∀ j, 0 < 2 ^ j := fun j => Nat.two_pow_pos j
  have hkx : 2 ^ k ≤ x := by
    rcases Nat.lt_or_ge x (2 ^ k) with h | h
    · rw [Nat.div_eq_of_lt h] at hk2; omega
    · exact h
  have half : ∀ a d : Nat, 0 < d → a / 2 ^ d ≤ a / 2 := fun a d hd => by
    apply Nat.div_le_div_left
    · have : 2 ^ 1 ≤ 2 ^ d := Nat.pow_le_pow_right (by omega) hd
      omega
    · omega
  constructor
  · rintro ⟨h1, h2⟩
    generalize L + 1 - bl y = b at *
    have hy : y = x / 2 ^ b := by
      apply Nat.le_antisymm
      · exact (Nat.le_div_iff_mul_le (hp b)).2 h1
      · have := (Nat.div_lt_iff_lt_mul (hp b)).2 h2; omega
    rcases Nat.lt_trichotomy b k with h | h | h
    · obtain ⟨d, rfl⟩ : ∃ d, k = b + d := ⟨k - b, by omega⟩
      rw [Nat.pow_add, ← Nat.div_div_eq_div_mul, ← hy] at hk2
      have := half y d (by omega); omega
    · rw [hy, h]
    · obtain ⟨d, rfl⟩ : ∃ d, b = k + d := ⟨b - k, by omega⟩
      rw [Nat.pow_add, ← Nat.div_div_eq_div_mul] at hy
      have := half (x / 2 ^ k) d (by omega); omega
  · rintro rfl
    rw [bits_div hx1 hx2 hkx]
    refine ⟨Nat.div_mul_le_self _ _, ?_⟩
    rw [Nat.mul_comm]; exact Nat.lt_mul_div_succ x (hp k)
/-- The widths of a symbol's states, one behind the other. -/
def gsum (L n : Nat) : Nat → Nat
  | 0 => 0
  | m + 1 => gsum L n m + 2 ^ (L + 1 - bl (n + m))
theorem gsum_all {L n : Nat} (hn : 1 ≤ n) (hL : n ≤ 2 ^ L) : gsum L n n = 2 ^ L := by
  obtain ⟨b1, b2, b3⟩ := bl_pos hn
  have hpl : 2 ^ (L + 1) = 2 * 2 ^ L := by rw [Nat.pow_succ]; omega
  have b4 : bl n ≤ L + 1 := bl_le (by have := Nat.two_pow_pos L; omega)
  by_cases hw : bl n = L + 1
  · rw [hw, Nat.add_sub_cancel] at b1
    have e : n = 2 ^ L := by omega
    have : ∀ m, m ≤ n → gsum L n m = m := by
      intro m
      induction m with
      | zero => intro _; rfl
      | succ m ih =>
        intro h
        rw [gsum, ih (by omega), bl_unique (n := n + m) (k := L) (by omega) (by omega), Nat.sub_self, Nat.pow_zero]
    rw [this n (Nat.le_refl _), e]
  · generalize hwe : bl n = w at *
    have hpw : 2 ^ w = 2 * 2 ^ (w - 1) := by rw [← Nat.pow_succ']; congr 1; omega
    have hpw2 : 2 ^ (w + 1) = 2 * 2 ^ w := by rw [Nat.pow_succ]; omega
    obtain ⟨p, hp⟩ : ∃ p, n + p = 2 ^ w := ⟨2 ^ w - n, by omega⟩
    obtain ⟨d, hd⟩ : ∃ d, L = w + d := ⟨L - w, by omega⟩
    have g1 : ∀ y, 2 ^ (w - 1) ≤ y → y < 2 ^ w → 2 ^ (L + 1 - bl y) = 2 * 2 ^ d := fun y h1 h2 => by
      have : bl y = w - 1 + 1 := bl_unique h1 (by rw [show w - 1 + 1 = w by omega]; exact h2)
      rw [this, show L + 1 - (w - 1 + 1) = d + 1 by omega, Nat.pow_succ]; omega
    have g2 : ∀ y, 2 ^ w ≤ y → y < 2 ^ (w + 1) → 2 ^ (L + 1 - bl y) = 2 ^ d := fun y h1 h2 => by
      rw [bl_unique h1 h2, show L + 1 - (w + 1) = d by omega]
    generalize hh : 2 ^ d = h at *
    have s1 : ∀ m, m ≤ p → gsum L n m = 2 * h * m := by
      intro m
      induction m with
      | zero => intro _; rfl
      | succ m ih =>
        intro hm
        rw [gsum, ih (by omega), g1 (n + m) (by omega) (by omega), Nat.mul_succ]
    have s2 : ∀ r, p + r ≤ n → gsum L n (p + r) = 2 * h * p + h * r := by
      intro r
      induction r with
      | zero => intro _; rw [Nat.add_zero, s1 p (Nat.le_refl _)]; simp
      | succ r ih =>
        intro hr
        rw [← Nat.add_assoc, gsum, ih (by omega), g2 (n + (p + r)) (by omega) (by omega), Nat.mul_succ]; omega
    obtain ⟨r, hr⟩ : ∃ r, n = p + r := ⟨n - p, by omega⟩
    have := s2 r (by omega)
    rw [← hr] at this
    rw [this, hd, Nat.pow_add, ← hp, hh, hr]
    simp only [Nat.add_mul, Nat.mul_comm h]
    have e1 : 2 * h * p = p * h + p * h := by rw [Nat.mul_assoc, Nat.mul_comm h]; omega
    omega
/-! ### numbers of a share -/
def natsOf (l : List Int) : List Nat := l.map Int.toNat
theorem natsOf_length (l : List Int) : (natsOf l).length = l.length := by simp [natsOf]
theorem natsOf_get (l : List Int) (i : Nat) : (natsOf l)[i]? = (l[i]?).map Int.toNat := by simp [natsOf]
/-- A symbol's state: what it counts as, its bits, and where those begin that are behind it. -/
def yOf (sh : List Nat) (i : Nat) : Nat := sh.getD ((symOf sh).getD i 0) 0 + rkS (symOf sh) i
def bOf (L : Nat) (sh : List Nat) (i : Nat) : Nat := L + 1 - bl (yOf sh i)
def baseOf (L : Nat) (sh : List Nat) (i : Nat) : Nat := yOf sh i * 2 ^ bOf L sh i - 2 ^ L
theorem y_bd {sh : List Nat} {L i s : Nat} (hs : sh.sum = 2 ^ L) (hL : 5 ≤ L) (h : (symOf sh)[i]? = some s) : ∃ n, sh[s]? = some n ∧ yOf sh i = n + ((symOf sh).take i).count s ∧ ((symOf sh).take i).count s < n ∧ n ≤ 2 ^ L := by
  have h1 := sym_lt hs hL h
  have h2 := rk_lt h
  rw [sym_count hs hL, List.getElem?_eq_getElem h1] at h2
  refine ⟨sh[s], List.getElem?_eq_getElem h1, ?_, by simpa using h2, ?_⟩
  · unfold yOf rkS
    simp [List.getD, h, List.getElem?_eq_getElem h1]
  · have := fstS_succ h1
    have := fstS_le sh (s + 1)
    omega
end Go.X
set_option maxRecDepth 100000
set_option linter.unusedSimpArgs false
set_option linter.unusedVariables false
namespace Go.X.Try
open Go.IntWalk
theorem sumL_ge {x : Int} {l : List Int} (h : okN (x :: l) = true) : 0 ≤ x ∧ x ≤ sumL (x :: l) ∧ okN l = true := by
  simp only [okN, Bool.and_eq_true, decide_eq_true_eq] at h
  have := sumL_nonneg h.2
  exact ⟨h.1.1, by simp only [sumL]; omega, h.2⟩
theorem shl9 {log : Int} (h : 5 ≤ log ∧ log ≤ 9) : shlI .i64 1 log = ((2 ^ log.toNat : Nat) : Int) := by
  have hp2 := pow9 h
  have hmin : Nat.min log.toNat 64 = log.toNat := Nat.min_eq_left (by omega)
  have : shlI .i64 1 log = IntKind.i64.wrap (1 * 2 ^ Nat.min log.toNat 64) := rfl
  rw [this, hmin, Int.one_mul]
  have e2 : (2 : Int) ^ log.toNat = ((2 ^ log.toNat : Nat) : Int) := by push_cast; rfl
  rw [e2]
  exact i64_in _ (by omega)
theorem fair_parts {l : List Int} {log : Int} (h : fairB l log = true) : (5 ≤ log ∧ log ≤ 9) ∧ l.length ≤ 256 ∧ okN l = true ∧ sumL l = ((2 ^ log.toNat : Nat) : Int) := by
  unfold fairB at h
  simp only [Bool.and_eq_true, decide_eq_true_eq] at h
  exact ⟨⟨h.1.1, h.1.2.1⟩, h.1.2.2, h.2.1, h.2.2⟩
theorem nats_sum : ∀ {l : List Int}, okN l = true → ((natsOf l).sum : Int) = sumL l
  | [], _ => rfl
  | x :: l, h => by
    obtain ⟨p1, p2, p3⟩ := sumL_ge h
    have := nats_sum p3
    simp only [natsOf, List.map_cons, List.sum_cons, sumL] at this ⊢
    omega
theorem nats_back : ∀ {l : List Int}, okN l = true → (natsOf l).map (fun (n : Nat) => (n : Int)) = l
  | [], _ => rfl
  | x :: l, h => by
    obtain ⟨p1, p2, p3⟩ := sumL_ge h
    simp only [natsOf, List.map_cons] at *
    rw [show ((x.toNat : Nat) : Int) = x by omega]
    have := nats_back p3
    simp only [natsOf] at this
    rw [this]
/-- What a share is: a log of 5 to 9, up to 256 numbers, with that sum. -/
structure Shr (l : List Int) (L : Nat) (sh : List Nat) : Prop where
  lo : 5 ≤ L
  hi : L ≤ 9
  len : sh.length ≤ 256
  eq : l = sh.map fun (n : Nat) => (n : Int)
  sum : sh.sum = 2 ^ L
theorem shr_of {l : List Int} {log : Int} (h : fairB l log = true) : ∃ L : Nat, log = L ∧ Shr l L (natsOf l) := by
  obtain ⟨h1, h2, h3, h4⟩ := fair_parts h
  refine ⟨log.toNat, by omega, by omega, by omega, by rw [natsOf_length]; omega, (nats_back h3).symm, ?_⟩
  have := nats_sum h3
  rw [h4] at this
  exact_mod_cast this
theorem Shr.size {l : List Int} {L : Nat} {sh : List Nat} (S : Shr l L sh) : 32 ≤ 2 ^ L ∧ 2 ^ L ≤ 512 :=
  ⟨(Nat.pow_le_pow_right (n := 2) (by omega) S.lo : 2 ^ 5 ≤ _), (Nat.pow_le_pow_right (n := 2) (by omega) S.hi : _ ≤ 2 ^ 9)⟩
def ci (o : List Nat) : List Int := o.map fun (n : Nat) => (n : Int)
theorem ci_length (o : List Nat) : (ci o).length = o.length := by simp [ci]
theorem ci_set (o : List Nat) (a s : Nat) : (ci o).set a (s : Int) = ci (o.set a s) := by simp [ci, List.map_set]
theorem ci_get {o : List Nat} {i n : Nat} (h : o[i]? = some n) : (ci o)[i]? = some (n : Int) := by simp [ci, h]
theorem and_mask {x L : Nat} (hx : x < 2 ^ 60) (hL : L ≤ 9) : bitsI .and .i64 (x : Int) ((2 ^ L - 1 : Nat) : Int) = ((x % 2 ^ L : Nat) : Int) := by
  have : 2 ^ L ≤ 2 ^ 9 := Nat.pow_le_pow_right (by omega) hL
  rw [bitsI_and_i64 (by omega) (by omega), Nat.and_two_pow_sub_one_eq_mod]
theorem mapM_rep {α β : Type} {f : α → Option β} {a : α} {b : β} (h : f a = some b) : ∀ n : Nat, List.mapM f (List.replicate n a) = some (List.replicate n b)
  | 0 => rfl
  | n + 1 => by rw [List.replicate_succ, List.mapM_cons, h, mapM_rep h n]; rfl
theorem mks_ints (k : IntKind) (n : Nat) : RC.ofElems (.ints k []) (List.replicate n [Sc.int k 0]) = some (.ints k (List.replicate n 0)) := by
  simp only [RC.ofElems]
  rw [mapM_rep (b := (0 : Int))]
  · rfl
  · simp
theorem mks_recs (n m : Nat) (z : List Sc) (h : z.length = m) : RC.ofElems (.recs m []) (List.replicate n z) = some (.recs m (List.replicate n z)) := by
  simp only [RC.ofElems]
  rw [if_pos]
  simp [h]
/-! ### the symbols of the places -/
def canon42i (t : Nat) (l : List Int) (size step s n at_ k : Int) (out : List Int) : St :=
  ⟨[(1, .one (.int .i64 size)), (5, .one (.row 0)), (6, .one (.int .i64 step)), (7, .one (.int .i64 at_)), (8, .one (.int .i64 s)), (18, .one (.ro t (.ints .i64 l))), (19, .one (.int .i64 l.length)), (20, .one (.int .i64 s)), (25, .one (.int .i64 n)), (26, .one (.int .i64 k))],
    [.ro t (.ints .i64 l), .int .i64 size], [.rows (.ints .u8 out)]⟩
theorem body42i (t : Nat) (l : List Int) (size step s n k k' v m at' : Int) (at_ : Nat) (out : List Int) (hk : k < n) (ha : at_ < out.length) (ws : IntKind.u8.wrap s = s) (wv : IntKind.i64.wrap ((at_ : Int) + step) = v) (wm : IntKind.i64.wrap (size - 1) = m) (hb : bitsI .and .i64 v m = at') (wk : IntKind.i64.wrap (k + 1) = k') :
    ∃ st1, evC T42 KK b42x0 (canon42i t l size step s n at_ k out) = some (.norm, st1) ∧ St.head [1, 5, 6, 7, 8, 18, 19, 20, 25, 26] st1 = canon42i t l size step s n at' k' (out.set at_ s) := by
  have ha' : (at_ : Int) < out.length := by omega
  simp -implicitDefEqProofs [b42x0, canon42i, upd, hk, ha, ha', ws, wv, wm, hb, wk, RC.len, RC.size, RC.set]
theorem end42i (t : Nat) (l : List Int) (size step s n at_ k : Int) (out : List Int) (hk : ¬ k < n) :
    evC T42 KK b42x0 (canon42i t l size step s n at_ k out) = some (.exit 2, ⟨(27, .one (.bool false)) :: (canon42i t l size step s n at_ k out).env, (canon42i t l size step s n at_ k out).rts, (canon42i t l size step s n at_ k out).hp⟩) := by
  simp -implicitDefEqProofs [b42x0, canon42i, upd, hk]
theorem loop42i (t : Nat) (l : List Int) {L : Nat} (hL : L ≤ 9) (step s n : Nat) (hs : s < 256) (hst : step ≤ 2000) : ∀ (j k at_ : Nat) (out : List Nat) (K : Nat), k + j = n → n ≤ 512 → at_ < 2 ^ L → out.length = 2 ^ L → j < K →
    loopH (evC T42 KK b42x0) [1, 5, 6, 7, 8, 18, 19, 20, 25, 26] K (canon42i t l (2 ^ L : Nat) step s n at_ k (ci out)) =
      some (.exit 2, ⟨(27, .one (.bool false)) :: (canon42i t l (2 ^ L : Nat) step s n (place (2 ^ L) step out at_ (List.replicate j s)).2 n (ci (place (2 ^ L) step out at_ (List.replicate j s)).1)).env, (canon42i t l (2 ^ L : Nat) step s n 0 0 []).rts, [.rows (.ints .u8 (ci (place (2 ^ L) step out at_ (List.replicate j s)).1))]⟩)
  | 0, k, at_, out, K, hj, hn, ha, ho, hK => by
    obtain rfl : k = n := by omega
    rw [loopH_exit (end42i t l _ _ _ _ _ _ _ (by omega))]
    simp only [List.replicate_zero, place]
    rfl
  | j + 1, k, at_, out, K, hj, hn, ha, ho, hK => by
    have hp : 2 ^ L ≤ 2 ^ 9 := Nat.pow_le_pow_right (by omega) hL
    have hp0 := Nat.two_pow_pos L
    have wm : IntKind.i64.wrap (((2 ^ L : Nat) : Int) - 1) = ((2 ^ L - 1 : Nat) : Int) := by rw [i64_in _ (by omega)]; omega
    have hb := and_mask (x := at_ + step) (L := L) (by omega) hL
    obtain ⟨st1, e1, e2⟩ := body42i t l (2 ^ L : Nat) step s n k ((k + 1 : Nat) : Int) ((at_ + step : Nat) : Int) _ _ at_ (ci out) (by omega) (by rw [ci_length]; omega) (u8_in _ (by omega)) (by rw [i64_in _ (by omega)]; omega) wm hb (by rw [i64_in _ (by omega)]; omega)
    rw [loopH_norm e1 (by omega), e2, ci_set]
    rw [loop42i t l hL step s n hs hst j (k + 1) ((at_ + step) % 2 ^ L) (out.set at_ s) (K - 1) (by omega) hn (Nat.mod_lt _ hp0) (by simpa using ho) (by omega)]
    simp only [List.replicate_succ, place]
def canon42 (t : Nat) (l : List Int) (size step at_ i : Int) (out : List Int) : St :=
  ⟨[(1, .one (.int .i64 size)), (5, .one (.row 0)), (6, .one (.int .i64 step)), (7, .one (.int .i64 at_)), (18, .one (.ro t (.ints .i64 l))), (19, .one (.int .i64 l.length)), (20, .one (.int .i64 i))],
    [.ro t (.ints .i64 l), .int .i64 size], [.rows (.ints .u8 out)]⟩
theorem body42 (t : Nat) (l : List Int) (size step n at_ at' i' : Int) (i : Nat) (out out' : List Int) (hi : i < l.length) (hn : l[i]? = some n) (wi : IntKind.i64.wrap ((i : Int) + 1) = i')
    (e : loopH (evC T42 KK b42x0) [1, 5, 6, 7, 8, 18, 19, 20, 25, 26] KK (canon42i t l size step i n at_ 0 out) = some (.exit 2, ⟨(27, .one (.bool false)) :: (canon42i t l size step i n at' n out').env, (canon42i t l size step i n 0 0 []).rts, [.rows (.ints .u8 out')]⟩)) :
    ∃ st1, evC T42 KK b42x1 (canon42 t l size step at_ i out) = some (.norm, st1) ∧ St.head [1, 5, 6, 7, 18, 19, 20] st1 = canon42 t l size step at' i' out' := by
  have hii : (i : Int) < l.length := by omega
  have hn' : ∀ hh, l[i]'hh = n := fun hh => by rw [List.getElem?_eq_getElem hh] at hn; simpa using hn
  simp only [canon42i] at e
  simp -implicitDefEqProofs [b42x1, canon42, upd, hi, hii, hn, hn', wi, e, RC.len, RC.size, RC.get]
theorem end42 (t : Nat) (l : List Int) (size step at_ i : Int) (out : List Int) (hi : ¬ i < l.length) :
    ∃ env, evC T42 KK b42x1 (canon42 t l size step at_ i out) = some (.exit 0, ⟨env, (canon42 t l size step at_ i out).rts, [.rows (.ints .u8 out)]⟩) ∧ getT 5 env = .one (.row 0) := by
  simp -implicitDefEqProofs [b42x1, canon42, upd, hi]
theorem loop42 (t : Nat) (l : List Int) (sh : List Nat) {L : Nat} (S : Shr l L sh) (step : Nat) (hst : step ≤ 2000) : ∀ (j i at_ : Nat) (out : List Nat) (K : Nat), i + j = sh.length → at_ < 2 ^ L → out.length = 2 ^ L → j < K →
    ∃ env, loopH (evC T42 KK b42x1) [1, 5, 6, 7, 18, 19, 20] K (canon42 t l (2 ^ L : Nat) step at_ i (ci out)) = some (.exit 0, ⟨env, [.ro t (.ints .i64 l), .int .i64 (2 ^ L : Nat)], [.rows (.ints .u8 (ci (place (2 ^ L) step out at_ (runs i (sh.drop i))).1))]⟩) ∧ getT 5 env = .one (.row 0)
  | 0, i, at_, out, K, hj, ha, ho, hK => by
    have hl : l.length = sh.length := by rw [S.eq]; simp
    obtain ⟨env, e, g⟩ := end42 t l (2 ^ L : Nat) step at_ i (ci out) (by omega)
    rw [List.drop_eq_nil_of_le (by omega)]
    simp only [runs, place]
    exact ⟨env, loopH_exit e, g⟩
  | j + 1, i, at_, out, K, hj, ha, ho, hK => by
    have hl : l.length = sh.length := by rw [S.eq]; simp
    have hlen := S.len
    have hi : i < sh.length := by omega
    have hg : l[i]? = some ((sh[i] : Nat) : Int) := by rw [S.eq]; simp [hi]
    have hle : sh[i] ≤ 512 := by
      have h1 := fstS_succ hi
      have h2 := fstS_le sh (i + 1)
      have := S.sum
      have := S.size
      omega
    have hpos := Nat.two_pow_pos L
    have ein := loop42i t l S.hi step i sh[i] (by omega) hst sh[i] 0 at_ out KK (by omega) hle ha ho (by rw [KK_eq]; omega)
    obtain ⟨st1, e1, e2⟩ := body42 t l (2 ^ L : Nat) step _ at_ _ ((i + 1 : Nat) : Int) i (ci out) _ (by omega) hg (by rw [i64_in _ (by omega)]; omega) ein
    have ha' := place_at (step := step) hpos (List.replicate sh[i] i) out at_ ha
    obtain ⟨env, q1, q2⟩ := loop42 t l sh S step hst j (i + 1) (place (2 ^ L) step out at_ (List.replicate sh[i] i)).2 (place (2 ^ L) step out at_ (List.replicate sh[i] i)).1 (K - 1) (by omega) ha'.2 (by rw [place_length]; exact ho) (by omega)
    refine ⟨env, ?_, q2⟩
    rw [loopH_norm e1 (by omega), e2, q1, List.drop_eq_getElem_cons hi]
    simp only [runs, place_append]
theorem f42 (t : Nat) (l : List Int) (sh : List Nat) {L : Nat} (S : Shr l L sh) : F42 [.one (.ro t (.ints .i64 l)), .one (.int .i64 (2 ^ L : Nat))] [] = some (.one (.row 0), [.rows (.ints .u8 (ci (symOf sh)))]) := by
  have hp := S.size
  obtain ⟨env, e, g⟩ := loop42 t l sh S (2 ^ L / 2 + 2 ^ L / 8 + 3) (by omega) sh.length 0 0 (List.replicate (2 ^ L) 0) KK (by omega) (by omega) (by simp) (by rw [KK_eq]; have := S.len; omega)
  have hsym : (place (2 ^ L) (2 ^ L / 2 + 2 ^ L / 8 + 3) (List.replicate (2 ^ L) 0) 0 (runs 0 (sh.drop 0))).1 = symOf sh := by
    unfold symOf; rw [S.sum]; rfl
  rw [hsym] at e
  have e1 : shrI .i64 ((2 ^ L : Nat) : Int) 1 = ((2 ^ L / 2 : Nat) : Int) := shr_in (k := .i64) (x := 2 ^ L) (n := 1) (by decide)
  have e3 : shrI .i64 ((2 ^ L : Nat) : Int) 3 = ((2 ^ L / 8 : Nat) : Int) := shr_in (k := .i64) (x := 2 ^ L) (n := 3) (by decide)
  have cz : ci (List.replicate (2 ^ L) 0) = List.replicate (2 ^ L) 0 := by simp [ci]
  rw [cz] at e
  generalize hsz : 2 ^ L = sz at *
  have w1 : IntKind.i64.wrap (((sz / 2 : Nat) : Int) + ((sz / 8 : Nat) : Int)) = ((sz / 2 + sz / 8 : Nat) : Int) := by rw [i64_in _ (by omega)]; omega
  have w2 : IntKind.i64.wrap (((sz / 2 + sz / 8 : Nat) : Int) + 3) = ((sz / 2 + sz / 8 + 3 : Nat) : Int) := by rw [i64_in _ (by omega)]; omega
  have hm : (sz : Int) ≤ 140737488355328 := by omega
  have z : ((0 : Nat) : Int) = 0 := rfl
  generalize ((sz / 2 : Nat) : Int) = q2 at *
  generalize ((sz / 8 : Nat) : Int) = q8 at *
  generalize ((sz / 2 + sz / 8 : Nat) : Int) = q28 at *
  generalize ((sz / 2 + sz / 8 + 3 : Nat) : Int) = st at *
  simp only [canon42, z] at e
  simp -implicitDefEqProofs [F42, c42, upd, e, g, e1, e3, w1, w2, hm, mks_ints, RC.len]
end Go.X.Try
set_option maxRecDepth 100000
set_option linter.unusedSimpArgs false
namespace Go.X.Try
open Go.IntWalk
theorem tab85 : ∀ b : Fin 256, (toBytes lit85x0)[b.val]?.getD 0 = (bl b.val : Int) := by decide +kernel
theorem tab59_size : lit85x0.size = 256 := by decide +kernel
theorem blI (v : Int) (k : Nat) (h : (2 ^ k : Nat) ≤ v.toNat) : (bl v.toNat : Int) = k + bl (v / ((2 ^ k : Nat) : Int)).toNat := by
  rw [bl_div k h]
  have : (v / ((2 ^ k : Nat) : Int)).toNat = v.toNat / 2 ^ k := by
    rcases Int.eq_ofNat_of_zero_le (show 0 ≤ v by have := Nat.two_pow_pos k; omega) with ⟨m, rfl⟩
    rw [← Int.natCast_ediv, Int.toNat_natCast, Int.toNat_natCast]
  rw [this]; simp
theorem tabK (x K : Int) (h : 0 ≤ x) (h' : x < 256) (hK : 0 ≤ K ∧ K ≤ 24) : (0 ≤ x ∧ x < 256) ∧ IntKind.i64.wrap (K + IntKind.i64.wrap ((toBytes lit85x0)[x.toNat]?.getD 0)) = K + bl x.toNat := by
  have e : (toBytes lit85x0)[x.toNat]?.getD 0 = (bl x.toNat : Int) := tab85 ⟨x.toNat, by omega⟩
  have := bl_le (n := x.toNat) (k := 8) (by omega)
  refine ⟨⟨h, h'⟩, ?_⟩
  rw [e, i64_in (bl x.toNat) (by omega), i64_in _ (by omega)]
theorem e85 (v : Int) (h0 : 0 ≤ v) (h : v < 4294967296) : F85 [.one (.int .u32 v)] [] = some (.one (.int .i64 (bl v.toNat)), []) := by
  by_cases h1 : 65536 ≤ v
  · have a1 := blI v 16 (by omega)
    by_cases h2 : 256 ≤ v / 65536
    · have a2 := blI (v / 65536) 8 (by omega)
      obtain ⟨p, q⟩ := tabK (v / 65536 / 256) 24 (by omega) (by omega) (by omega)
      simp (disch := omega) [F85, c85, h1, h2, i64_in, u8_in, shrI_eq, IntKind.bits, tab59_size]
      exact ⟨p, by rw [q]; simp at a1 a2 ⊢; omega⟩
    · obtain ⟨p, q⟩ := tabK (v / 65536) 16 (by omega) (by omega) (by omega)
      simp (disch := omega) [F85, c85, h1, h2, i64_in, u8_in, shrI_eq, IntKind.bits, tab59_size]
      exact ⟨p, by rw [q]; simp at a1 ⊢; omega⟩
  · by_cases h2 : 256 ≤ v
    · have a2 := blI v 8 (by omega)
      obtain ⟨p, q⟩ := tabK (v / 256) 8 (by omega) (by omega) (by omega)
      simp (disch := omega) [F85, c85, h1, h2, i64_in, u8_in, shrI_eq, IntKind.bits, tab59_size]
      exact ⟨p, by rw [q]; simp at a2 ⊢; omega⟩
    · obtain ⟨p, q⟩ := tabK v 0 (by omega) (by omega) (by omega)
      simp (disch := omega) [F85, c85, h1, h2, i64_in, u8_in, shrI_eq, IntKind.bits, tab59_size]
      exact ⟨p, by simpa using q⟩
theorem e43 (v : Int) (h0 : 0 ≤ v) (h : v < 4294967296) : F43 [.one (.int .u32 v)] [] = some (.one (.int .i64 (bl v.toNat)), []) := by
  simp [F43, c43, upd, e85 v h0 h]
end Go.X.Try
set_option maxRecDepth 100000
set_option linter.unusedSimpArgs false
namespace Go.X.Try
open Go.IntWalk
/-- The numbers that have a code. -/
theorem l52 (r : Int) : ∀ (k : Nat) (v n : Int) (env : Env), getT 0 env = .one (.int .u32 v) → getT 3 env = .one (.int .i64 n) → 0 ≤ v → v < 4294967296 → 0 ≤ n → n + bl v.toNat ≤ 100 → bl v.toNat < k →
    ∃ env', loopN (evC T52 KK b52x0) [0, 3] k ⟨env, [.int .u32 r], []⟩ = some (.exit 0, ⟨env', [.int .u32 r], []⟩) ∧ getT 3 env' = .one (.int .i64 (n + bl v.toNat))
  | 0, v, n, env, _, _, _, _, _, _, h => by omega
  | k + 1, v, n, env, e0, e3, h0, h1, hn, hn', hk => by
    by_cases hv : 0 < v
    · have hb := bl_half (n := v.toNat) (by omega)
      have e2 : (v / 2).toNat = v.toNat / 2 := by omega
      obtain ⟨env', p, q⟩ := l52 r k (v / 2) (n + 1) [(3, .one (.int .i64 (n + 1))), (9, .one (.int .i64 (n + 1))), (8, .one (.int .i64 n)), (0, .one (.int .u32 (v / 2))), (7, .one (.int .u32 (v / 2))), (6, .one (.int .u32 v)), (5, .one (.bool true)), (4, .one (.int .u32 v)), (0, .one (.int .u32 v)), (3, .one (.int .i64 n))] rfl rfl (by omega) (by omega) (by omega) (by rw [e2]; omega) (by rw [e2]; omega)
      refine ⟨env', ?_, by rw [q, e2, hb, show n + 1 + (bl (v.toNat / 2) : Int) = n + ((bl (v.toNat / 2) + 1 : Nat) : Int) by omega]⟩
      rw [← p]
      simp (disch := omega) [loopN, b52x0, e0, e3, hv, u32_quo, i64_in]
    · obtain rfl : v = 0 := by omega
      simp [loopN, b52x0, e0, e3, bl]
theorem e52 (v : Int) (h0 : 0 ≤ v) (h : v < 4294967296) : F52 [.one (.int .u32 v)] [] = some (.one (.int .i64 (bl v.toNat)), []) := by
  have hb := bl_le (n := v.toNat) (k := 32) (by omega)
  obtain ⟨env', p, q⟩ := l52 v KK v 0 [(3, .one (.int .i64 0)), (2, .one (.int .i64 0)), (0, .one (.int .u32 v))] rfl rfl h0 h (by omega) (by omega) (by rw [KK_eq]; omega)
  simp [-loop_KK, F52, c52, p, q]
end Go.X.Try
set_option maxRecDepth 100000
set_option linter.unusedSimpArgs false
set_option linter.unusedVariables false
namespace Go.X.Try
open Go.IntWalk
/-! ### the table's objects -/
def tabHp (g : Option Nat) (L : Int) (cs : List (List Sc)) (l fi al : List Int) : List Ob :=
  [.cells g [.int .i64 L, .row 1, .row 2, .row 3, .row 4], .rows (.recs 3 cs), .rows (.ints .i64 l), .rows (.ints .i64 fi), .rows (.ints .i64 al)]
def canon17a (t : Nat) (l : List Int) (L size at_ i : Int) (cs : List (List Sc)) (fi al : List Int) : St :=
  ⟨[(0, .one (.ro t (.ints .i64 l))), (1, .one (.int .i64 L)), (6, .one (.int .i64 size)), (7, .one (.ptr 0 0)), (8, .one (.int .i64 at_)), (34, .one (.ro t (.ints .i64 l))), (35, .one (.int .i64 l.length)), (36, .one (.int .i64 i))],
    [.ro t (.ints .i64 l), .int .i64 L], tabHp none L cs l fi al⟩
theorem body17a (t : Nat) (l : List Int) (L size at_ n at' i' : Int) (i : Nat) (cs : List (List Sc)) (fi al : List Int) (hi : i < l.length) (hf : fi.length = l.length) (hn : l[i]? = some n) (wa : IntKind.i64.wrap (at_ + n) = at') (wi : IntKind.i64.wrap ((i : Int) + 1) = i') :
    ∃ st1, evC T17 KK b17x0 (canon17a t l L size at_ i cs fi al) = some (.norm, st1) ∧ St.head [0, 1, 6, 7, 8, 34, 35, 36] st1 = canon17a t l L size at' i' cs (fi.set i at_) al := by
  have hii : (i : Int) < l.length := by omega
  have hn' : ∀ hh, l[i]'hh = n := fun hh => by rw [List.getElem?_eq_getElem hh] at hn; simpa using hn
  simp -implicitDefEqProofs [b17x0, canon17a, tabHp, upd, hi, hii, hf, hn, hn', wa, wi, RC.len, RC.size, RC.get, RC.set]
theorem end17a (t : Nat) (l : List Int) (L size at_ i : Int) (cs : List (List Sc)) (fi al : List Int) (hi : ¬ i < l.length) :
    evC T17 KK b17x0 (canon17a t l L size at_ i cs fi al) = some (.exit 0, ⟨(37, .one (.bool false)) :: (canon17a t l L size at_ i cs fi al).env, (canon17a t l L size at_ i cs fi al).rts, tabHp none L cs l fi al⟩) := by
  simp -implicitDefEqProofs [b17x0, canon17a, upd, hi]
def fiTo (sh : List Nat) (i : Nat) : List Int := (List.range sh.length).map fun s => if s < i then ((fstS sh s : Nat) : Int) else 0
theorem fiTo_length (sh : List Nat) (i : Nat) : (fiTo sh i).length = sh.length := by simp [fiTo]
theorem fiTo_set {sh : List Nat} {i : Nat} (h : i < sh.length) : (fiTo sh i).set i ((fstS sh i : Nat) : Int) = fiTo sh (i + 1) := by
  apply List.ext_getElem (by simp [fiTo])
  intro k h1 h2
  rw [List.getElem_set]
  simp only [fiTo, List.getElem_map, List.getElem_range]
  by_cases e : i = k
  · subst e; simp
  · rw [if_neg e]
    by_cases h3 : k < i
    · rw [if_pos h3, if_pos (by omega)]
    · rw [if_neg h3, if_neg (by omega)]
theorem loop17a (t : Nat) (l : List Int) (sh : List Nat) {L : Nat} (S : Shr l L sh) (cs : List (List Sc)) (al : List Int) : ∀ (j i : Nat) (K : Nat), i + j = sh.length → j < K →
    ∃ at', loopH (evC T17 KK b17x0) [0, 1, 6, 7, 8, 34, 35, 36] K (canon17a t l L (2 ^ L : Nat) (fstS sh i : Nat) i cs (fiTo sh i) al) = some (.exit 0, ⟨(37, .one (.bool false)) :: (canon17a t l L (2 ^ L : Nat) at' sh.length cs (fiTo sh sh.length) al).env, [.ro t (.ints .i64 l), .int .i64 L], tabHp none L cs l (fiTo sh sh.length) al⟩)
  | 0, i, K, hj, hK => by
    have hl : l.length = sh.length := by rw [S.eq]; simp
    obtain rfl : i = sh.length := by omega
    exact ⟨_, loopH_exit (end17a t l L (2 ^ L : Nat) _ _ cs _ al (by omega))⟩
  | j + 1, i, K, hj, hK => by
    have hl : l.length = sh.length := by rw [S.eq]; simp
    have hi : i < sh.length := by omega
    have hlen := S.len
    have hg : l[i]? = some ((sh[i] : Nat) : Int) := by rw [S.eq]; simp [hi]
    have h1 := fstS_succ hi
    have h2 := fstS_le sh (i + 1)
    have h3 := S.sum
    have h4 := S.size
    obtain ⟨st1, e1, e2⟩ := body17a t l L (2 ^ L : Nat) (fstS sh i : Nat) _ ((fstS sh (i + 1) : Nat) : Int) ((i + 1 : Nat) : Int) i cs (fiTo sh i) al (by omega) (by rw [fiTo_length]; omega) hg (by rw [i64_in _ (by omega)]; omega) (by rw [i64_in _ (by omega)]; omega)
    obtain ⟨at', e⟩ := loop17a t l sh S cs al j (i + 1) (K - 1) (by omega) (by omega)
    refine ⟨at', ?_⟩
    rw [loopH_norm e1 (by omega), e2, fiTo_set hi, e]
def canon17b (t : Nat) (l : List Int) (L size i : Int) (cs : List (List Sc)) (fi al me sy : List Int) : St :=
  ⟨[(0, .one (.ro t (.ints .i64 l))), (1, .one (.int .i64 L)), (6, .one (.int .i64 size)), (7, .one (.ptr 0 0)), (11, .one (.row 5)), (57, .one (.row 6)), (58, .one (.int .i64 sy.length)), (59, .one (.int .i64 i))],
    [.ro t (.ints .i64 l), .int .i64 L], tabHp none L cs l fi al ++ [.rows (.ints .i64 me), .rows (.ints .u8 sy)]⟩
theorem body17b (t : Nat) (l : List Int) (L size n m x f w b0 b xs base m' i' : Int) (i s q : Nat) (c0 c1 c2 : Sc) (cs : List (List Sc)) (fi al me sy : List Int) (hi : i < sy.length) (hcl : cs.length = sy.length) (hs : sy[i]? = some (s : Int)) (hn : l[s]? = some n) (hm : me[s]? = some m) (hf : fi[s]? = some f)
    (wx : IntKind.i64.wrap (n + m) = x) (wq : IntKind.i64.wrap (f + m) = (q : Int)) (hq : q < al.length) (wm : IntKind.i64.wrap (m + 1) = m') (wu : IntKind.u32.wrap x = x) (e43 : F43 [.one (.int .u32 x)] [] = some (.one (.int .i64 w), [])) (wb0 : IntKind.i64.wrap (L - w) = b0) (wb : IntKind.i64.wrap (b0 + 1) = b) (hb : ¬ b < 0)
    (hx : shlI .i64 x b = xs) (wbs : IntKind.i64.wrap (xs - size) = base) (hc : cs[i]? = some [c0, c1, c2]) (wi : IntKind.i64.wrap ((i : Int) + 1) = i') :
    ∃ st1, evC T17 KK b17x1 (canon17b t l L size i cs fi al me sy) = some (.norm, st1) ∧ St.head [0, 1, 6, 7, 11, 57, 58, 59] st1 = canon17b t l L size i' (cs.set i [.int .u8 s, .int .i64 b, .int .i64 base]) fi (al.set q i) (me.set s m') sy := by
  have hii : (i : Int) < sy.length := by omega
  have hs' : ∀ hh, sy[i]'hh = s := fun hh => by rw [List.getElem?_eq_getElem hh] at hs; simpa using hs
  have hn' : ∀ hh, l[s]'hh = n := fun hh => by rw [List.getElem?_eq_getElem hh] at hn; simpa using hn
  have hm' : ∀ hh, me[s]'hh = m := fun hh => by rw [List.getElem?_eq_getElem hh] at hm; simpa using hm
  have hf' : ∀ hh, fi[s]'hh = f := fun hh => by rw [List.getElem?_eq_getElem hh] at hf; simpa using hf
  have hc' : ∀ hh, cs[i]'hh = [c0, c1, c2] := fun hh => by rw [List.getElem?_eq_getElem hh] at hc; simpa using hc
  have l1 := (List.getElem?_eq_some_iff.1 hn).1
  have l2 := (List.getElem?_eq_some_iff.1 hm).1
  have l3 := (List.getElem?_eq_some_iff.1 hf).1
  have l4 := (List.getElem?_eq_some_iff.1 hc).1
  have l1i : (s : Int) < l.length := by omega
  have l2i : (s : Int) < me.length := by omega
  have l3i : (s : Int) < fi.length := by omega
  have l4i : (i : Int) < cs.length := by omega
  have hqi : (q : Int) < al.length := by omega
  simp -implicitDefEqProofs [b17x1, canon17b, tabHp, upd, hi, hii, hcl, hs, hs', hn, hn', hm, hm', hf, hf', hc, hc', l1, l2, l3, l4, l1i, l2i, l3i, l4i, hq, hqi, wx, wq, wm, wu, e43, wb0, wb, hb, hx, wbs, wi, RC.len, RC.size, RC.get, RC.set]
end Go.X.Try
set_option maxRecDepth 100000
set_option linter.unusedSimpArgs false
set_option linter.unusedVariables false
namespace Go.X.Try
open Go.IntWalk
def cellSc (L : Nat) (sh : List Nat) (i : Nat) : List Sc := [.int .u8 (((symOf sh).getD i 0 : Nat) : Int), .int .i64 ((bOf L sh i : Nat) : Int), .int .i64 ((baseOf L sh i : Nat) : Int)]
def cellsTo (L : Nat) (sh : List Nat) (st : Nat) : List (List Sc) := (List.range (2 ^ L)).map fun i => if i < st then cellSc L sh i else [.int .u8 0, .int .i64 0, .int .i64 0]
def metTo (sh : List Nat) (st : Nat) : List Int := (List.range sh.length).map fun s => ((((symOf sh).take st).count s : Nat) : Int)
theorem cellsTo_length (L : Nat) (sh : List Nat) (st : Nat) : (cellsTo L sh st).length = 2 ^ L := by simp [cellsTo]
theorem metTo_length (sh : List Nat) (st : Nat) : (metTo sh st).length = sh.length := by simp [metTo]
theorem cellsTo_set (L : Nat) (sh : List Nat) (st : Nat) : (cellsTo L sh st).set st (cellSc L sh st) = cellsTo L sh (st + 1) := by
  apply List.ext_getElem (by simp [cellsTo])
  intro k h1 h2
  rw [List.getElem_set]
  simp only [cellsTo, List.getElem_map, List.getElem_range]
  by_cases e : st = k
  · subst e; simp
  · rw [if_neg e]
    by_cases h3 : k < st
    · rw [if_pos h3, if_pos (by omega)]
    · rw [if_neg h3, if_neg (by omega)]
theorem metTo_set {sh : List Nat} {st s : Nat} (h : (symOf sh)[st]? = some s) : (metTo sh st).set s (((((symOf sh).take st).count s + 1 : Nat)) : Int) = metTo sh (st + 1) := by
  obtain ⟨h1, h2⟩ := List.getElem?_eq_some_iff.1 h
  apply List.ext_getElem (by simp [metTo])
  intro k h3 h4
  rw [List.getElem_set]
  simp only [metTo, List.getElem_map, List.getElem_range, count_take_succ h1, h2]
  by_cases e : s = k
  · subst e; simp
  · rw [if_neg e, if_neg e]; rfl
/-- Where each state lies in the list of all. -/
def AllOk (sh : List Nat) (st : Nat) (al : List Int) : Prop := ∀ i s, i < st → (symOf sh)[i]? = some s → al[fstS sh s + ((symOf sh).take i).count s]? = some (i : Int)
theorem end17b (t : Nat) (l : List Int) (L size i : Int) (cs : List (List Sc)) (fi al me sy : List Int) (hi : ¬ i < sy.length) :
    evC T17 KK b17x1 (canon17b t l L size i cs fi al me sy) = some (.exit 2, ⟨(60, .one (.bool false)) :: (canon17b t l L size i cs fi al me sy).env, (canon17b t l L size i cs fi al me sy).rts, tabHp none L cs l fi al ++ [.rows (.ints .i64 me), .rows (.ints .u8 sy)]⟩) := by
  simp -implicitDefEqProofs [b17x1, canon17b, upd, hi]
theorem loop17b (t : Nat) (l : List Int) (sh : List Nat) {L : Nat} (S : Shr l L sh) : ∀ (j st : Nat) (al : List Int) (K : Nat), st + j = 2 ^ L → al.length = 2 ^ L → AllOk sh st al → j < K →
    ∃ al', loopH (evC T17 KK b17x1) [0, 1, 6, 7, 11, 57, 58, 59] K (canon17b t l L (2 ^ L : Nat) st (cellsTo L sh st) (fiTo sh sh.length) al (metTo sh st) (ci (symOf sh))) =
      some (.exit 2, ⟨(60, .one (.bool false)) :: (canon17b t l L (2 ^ L : Nat) (2 ^ L : Nat) (cellsTo L sh (2 ^ L)) (fiTo sh sh.length) al' (metTo sh (2 ^ L)) (ci (symOf sh))).env, [.ro t (.ints .i64 l), .int .i64 L], tabHp none L (cellsTo L sh (2 ^ L)) l (fiTo sh sh.length) al' ++ [.rows (.ints .i64 (metTo sh (2 ^ L))), .rows (.ints .u8 (ci (symOf sh)))]⟩) ∧ al'.length = 2 ^ L ∧ AllOk sh (2 ^ L) al'
  | 0, st, al, K, hj, hal, hok, hK => by
    obtain rfl : st = 2 ^ L := by omega
    have hsl : (ci (symOf sh)).length = 2 ^ L := by rw [ci_length, symOf_length, S.sum]
    exact ⟨al, loopH_exit (end17b t l L _ _ _ _ _ _ _ (by omega)), hal, hok⟩
  | j + 1, st, al, K, hj, hal, hok, hK => by
    have hsz := S.size
    have hsl : (symOf sh).length = 2 ^ L := by rw [symOf_length, S.sum]
    have hi : st < (symOf sh).length := by omega
    obtain ⟨s, hs⟩ : ∃ s, (symOf sh)[st]? = some s := ⟨_, List.getElem?_eq_getElem hi⟩
    obtain ⟨n, hn, hy, hr, hnL⟩ := y_bd S.sum S.lo hs
    have hsl2 := (List.getElem?_eq_some_iff.1 hn).1
    have hlen := S.len
    have hq := slot_lt hn hr
    rw [S.sum] at hq
    generalize hc : ((symOf sh).take st).count s = c at *
    have hfs := fstS_le sh s
    rw [S.sum] at hfs
    have hyb : yOf sh st < 2 ^ (L + 1) := by rw [Nat.pow_succ]; omega
    obtain ⟨b1, b2, b3, b4⟩ := cell_bd (L := L) (y := yOf sh st) (by omega) hyb
    have hL9 := S.hi
    have e43 := e43 ((n + c : Nat) : Int) (by omega) (by omega)
    rw [Int.toNat_natCast, ← hy] at e43
    have hb : bOf L sh st = L + 1 - bl (yOf sh st) := rfl
    have hbase : baseOf L sh st = yOf sh st * 2 ^ bOf L sh st - 2 ^ L := rfl
    rw [← hb] at b3 b4
    have hpw : 2 ^ (L + 1) ≤ 1024 := by rw [Nat.pow_succ]; omega
    have hmul : yOf sh st * 2 ^ bOf L sh st ≤ 1024 := by
      have : yOf sh st * 2 ^ bOf L sh st ≤ (yOf sh st + 1) * 2 ^ bOf L sh st := Nat.mul_le_mul_right _ (by omega)
      omega
    have hshl : shlI .i64 ((yOf sh st : Nat) : Int) ((bOf L sh st : Nat) : Int) = ((yOf sh st * 2 ^ bOf L sh st : Nat) : Int) := by
      have hmin : Nat.min (((bOf L sh st : Nat) : Int)).toNat 64 = bOf L sh st := by rw [Int.toNat_natCast]; exact Nat.min_eq_left (by omega)
      have : shlI .i64 ((yOf sh st : Nat) : Int) ((bOf L sh st : Nat) : Int) = IntKind.i64.wrap (((yOf sh st : Nat) : Int) * 2 ^ Nat.min (((bOf L sh st : Nat) : Int)).toNat 64) := rfl
      rw [this, hmin]
      have e2 : ((yOf sh st : Nat) : Int) * (2 : Int) ^ bOf L sh st = ((yOf sh st * 2 ^ bOf L sh st : Nat) : Int) := by push_cast; rfl
      rw [e2]; exact i64_in _ (by omega)
    have hcell : (cellsTo L sh st)[st]? = some [.int .u8 0, .int .i64 0, .int .i64 0] := by
      simp [cellsTo, List.getElem?_map, List.getElem?_range (show st < 2 ^ L by omega)]
    obtain ⟨st1, q1, q2⟩ := body17b t l L (2 ^ L : Nat) (n : Nat) (c : Nat) ((yOf sh st : Nat) : Int) ((fstS sh s : Nat) : Int) ((bl (yOf sh st) : Nat) : Int) ((L : Int) - bl (yOf sh st)) ((bOf L sh st : Nat) : Int) ((yOf sh st * 2 ^ bOf L sh st : Nat) : Int) ((baseOf L sh st : Nat) : Int) ((c + 1 : Nat) : Int) ((st + 1 : Nat) : Int) st s (fstS sh s + c) _ _ _ (cellsTo L sh st) (fiTo sh sh.length) al (metTo sh st) (ci (symOf sh))
      (by rw [ci_length]; omega) (by rw [cellsTo_length, ci_length, hsl]) (ci_get hs) (by rw [S.eq, List.getElem?_map, hn]; rfl) (by simp [metTo, List.getElem?_map, List.getElem?_range hsl2, hc]) (by simp [fiTo, List.getElem?_map, List.getElem?_range hsl2, hsl2])
      (by rw [i64_in _ (by omega)]; omega) (by rw [i64_in _ (by omega)]; omega) (by omega) (by rw [i64_in _ (by omega)]; omega) (u32_in _ (by omega)) e43 (i64_in _ (by omega)) (by rw [i64_in _ (by omega)]; omega) (by omega) hshl (by rw [i64_in _ (by omega)]; omega) hcell (by rw [i64_in _ (by omega)]; omega)
    have ecell : [Sc.int .u8 (s : Int), .int .i64 ((bOf L sh st : Nat) : Int), .int .i64 ((baseOf L sh st : Nat) : Int)] = cellSc L sh st := by simp [cellSc, List.getD, hs]
    have emet := metTo_set hs
    rw [hc] at emet
    rw [ecell, cellsTo_set, emet] at q2
    obtain ⟨al', r1, r2, r3⟩ := loop17b t l sh S j (st + 1) (al.set (fstS sh s + c) st) (K - 1) (by omega) (by simpa using hal) (fun i s' hi' hs' => by
      rcases Nat.lt_or_ge i st with h | h
      · have hold := hok i s' h hs'
        obtain ⟨n', hn', _, hr', _⟩ := y_bd S.sum S.lo hs'
        rw [List.getElem?_set_ne]
        · exact hold
        · intro e
          obtain ⟨rfl, e2⟩ := slot_inj hn hn' hr hr' e
          have := rk_strict hs' h
          omega
      · obtain rfl : i = st := by omega
        rw [hs] at hs'; simp at hs'; subst hs'
        rw [hc, List.getElem?_set_self (by omega)]) (by omega)
    refine ⟨al', ?_, r2, r3⟩
    rw [loopH_norm q1 (by omega), q2, r1]
theorem f17n (t : Nat) (l : List Int) (log : Int) (hl : l.length ≤ 300) (hf : fairB l log = false) : F17 [.one (.ro t (.ints .i64 l)), .one (.int .i64 log)] [] = some (.tup [.one .nilp, .one (.bool false)], []) := by
  have e41 := fun t => f41 t l log hl
  rw [hf] at e41
  simp -implicitDefEqProofs [F17, c17, upd, e41]
theorem f17 (t : Nat) (l : List Int) (sh : List Nat) {L : Nat} (S : Shr l L sh) (hf : fairB l L = true) :
    ∃ al, F17 [.one (.ro t (.ints .i64 l)), .one (.int .i64 L)] [] = some (.tup [.one (.ptr 0 0), .one (.bool true)], tabHp none L (cellsTo L sh (2 ^ L)) l (fiTo sh sh.length) al) ∧ al.length = 2 ^ L ∧ AllOk sh (2 ^ L) al := by
  have hl : l.length = sh.length := by rw [S.eq]; simp
  have hlen := S.len
  have hsz := S.size
  have e41 := fun t => f41 t l L (by omega)
  rw [hf] at e41
  have e42 := fun t => f42 t l sh S
  have es := shl9 (log := (L : Int)) ⟨by have := S.lo; omega, by have := S.hi; omega⟩
  rw [Int.toNat_natCast] at es
  have hn0 : ¬ (L : Int) < 0 := by omega
  obtain ⟨at', ea⟩ := loop17a t l sh S (List.replicate (2 ^ L) [.int .u8 0, .int .i64 0, .int .i64 0]) (List.replicate (2 ^ L) 0) sh.length 0 KK (by omega) (by rw [KK_eq]; omega)
  obtain ⟨al', eb, h1, h2⟩ := loop17b t l sh S (2 ^ L) 0 (List.replicate (2 ^ L) 0) KK (by omega) (by simp) (fun i s h _ => by omega) (by rw [KK_eq]; omega)
  refine ⟨al', ?_, h1, h2⟩
  have c0 : cellsTo L sh 0 = List.replicate (2 ^ L) [.int .u8 0, .int .i64 0, .int .i64 0] := by
    apply List.ext_getElem (by simp [cellsTo]); intro k _ _; simp [cellsTo]
  have m0 : metTo sh 0 = List.replicate l.length 0 := by
    apply List.ext_getElem (by simp [metTo, hl]); intro k _ _; simp [metTo]
  have f0 : fiTo sh 0 = List.replicate l.length 0 := by
    apply List.ext_getElem (by simp [fiTo, hl]); intro k _ _; simp [fiTo]
  have g0 : fstS sh 0 = 0 := by simp [fstS]
  have hsl : (ci (symOf sh)).length = 2 ^ L := by rw [ci_length, symOf_length, S.sum]
  have z : ((0 : Nat) : Int) = 0 := rfl
  rw [c0, m0] at eb
  rw [f0, g0] at ea
  generalize hcs : cellsTo L sh (2 ^ L) = cs at *
  generalize hme : metTo sh (2 ^ L) = me at *
  generalize hfi : fiTo sh sh.length = fi at *
  generalize hsy : ci (symOf sh) = sy at *
  have n1 : (l.length : Int) * 8 ≤ 140737488355328 := by omega
  have n2 : l.length * 8 ≤ 140737488355328 := by omega
  generalize hszz : 2 ^ L = sz at *
  have n3 : (sz : Int) * 24 ≤ 140737488355328 := by omega
  have n4 : (sz : Int) * 8 ≤ 140737488355328 := by omega
  have mk1 := fun n => mks_recs n 3 [.int .u8 0, .int .i64 0, .int .i64 0] rfl
  simp only [canon17a, canon17b, tabHp, z, hsl, List.cons_append, List.nil_append] at ea eb
  simp -implicitDefEqProofs [F17, c17, upd, tabHp, e41, e42, es, hn0, ea, eb, n1, n2, n3, n4, mk1, mks_ints, hsl, RC.len, RC.size, RC.app]
end Go.X.Try
set_option maxRecDepth 100000
set_option linter.unusedSimpArgs false
set_option linter.unusedVariables false
namespace Go.X.Try
open Go.IntWalk
theorem f101 (L : Int) (cs : List (List Sc)) (l fi al : List Int) : F101 [.one (.ptr 0 0)] (tabHp (some 0) L cs l fi al) = some (.one (.int .i64 cs.length), tabHp (some 0) L cs l fi al) := by
  simp -implicitDefEqProofs [F101, c101, upd, tabHp, RC.len, RC.size]
theorem f101z : F101 [.one .nilp] [] = some (.one (.int .i64 0), []) := by
  simp -implicitDefEqProofs [F101, c101, upd]
theorem f46 (L : Int) (cs : List (List Sc)) (l fi al : List Int) : F46 [.one (.ptr 0 0)] (tabHp (some 0) L cs l fi al) = some (.one (.int .i64 L), tabHp (some 0) L cs l fi al) := by
  simp -implicitDefEqProofs [F46, c46, upd, tabHp, RC.len, RC.size]
theorem f46z : F46 [.one .nilp] [] = some (.one (.int .i64 0), []) := by
  simp -implicitDefEqProofs [F46, c46, upd]
theorem f87 (L st : Int) (cs : List (List Sc)) (l fi al : List Int) : F87 [.one (.ptr 0 0), .one (.int .i64 st)] (tabHp (some 0) L cs l fi al) = some (.one (.bool (decide (0 ≤ st ∧ st < cs.length))), tabHp (some 0) L cs l fi al) := by
  have e := f101 L cs l fi al
  simp only [tabHp] at e
  by_cases h : 0 ≤ st
  · simp -implicitDefEqProofs [F87, c87, upd, tabHp, e, h]
  · simp -implicitDefEqProofs [F87, c87, upd, tabHp, e, h]
theorem f87z (st : Int) : F87 [.one .nilp, .one (.int .i64 st)] [] = some (.one (.bool false), []) := by
  by_cases h : 0 ≤ st
  · have h2 : ¬ st < 0 := by omega
    simp -implicitDefEqProofs [F87, c87, upd, f101z, h, h2]
  · simp -implicitDefEqProofs [F87, c87, upd, f101z, h]
def cel (c : List Sc) (b : Bool) : AV := .tup [.agg (c.map Sc.sv), .one (.bool b)]
theorem f47 (L s b base : Int) (st : Nat) (cs : List (List Sc)) (l fi al : List Int) (hc : cs[st]? = some [.int .u8 s, .int .i64 b, .int .i64 base]) : F47 [.one (.ptr 0 0), .one (.int .i64 st)] (tabHp (some 0) L cs l fi al) = some (cel [.int .u8 s, .int .i64 b, .int .i64 base] true, tabHp (some 0) L cs l fi al) := by
  have e := f87 L st cs l fi al
  have hl := (List.getElem?_eq_some_iff.1 hc).1
  have hc' : ∀ hh, cs[st]'hh = [Sc.int .u8 s, .int .i64 b, .int .i64 base] := fun hh => by rw [List.getElem?_eq_getElem hh] at hc; simpa using hc
  have h0 : (0 : Int) ≤ st := by omega
  have h1 : (st : Int) < cs.length := by omega
  simp only [tabHp, h0, h1, and_self, decide_true] at e
  simp -implicitDefEqProofs [F47, c47, upd, tabHp, cel, e, hl, h1, hc, hc', takeE, RC.len, RC.size, RC.get, RC.elem]
theorem f47n (L st : Int) (cs : List (List Sc)) (l fi al : List Int) (h : ¬ (0 ≤ st ∧ st < cs.length)) : F47 [.one (.ptr 0 0), .one (.int .i64 st)] (tabHp (some 0) L cs l fi al) = some (cel [.int .u8 0, .int .i64 0, .int .i64 0] false, tabHp (some 0) L cs l fi al) := by
  have e := f87 L st cs l fi al
  simp only [tabHp, h, decide_false] at e
  simp -implicitDefEqProofs [F47, c47, upd, tabHp, cel, e]
theorem f47z (st : Int) : F47 [.one .nilp, .one (.int .i64 st)] [] = some (cel [.int .u8 0, .int .i64 0, .int .i64 0] false, []) := by
  simp -implicitDefEqProofs [F47, c47, upd, cel, f87z]
theorem f48n (L st m : Int) (cs : List (List Sc)) (l fi al : List Int) (h : ¬ (0 ≤ st ∧ st < cs.length)) : F48 [.one (.ptr 0 0), .one (.int .i64 st), .one (.int .i64 m)] (tabHp (some 0) L cs l fi al) = some (.tup [.one (.int .i64 0), .one (.bool false)], tabHp (some 0) L cs l fi al) := by
  have e := f47n L st cs l fi al h
  simp only [tabHp, cel] at e
  simp -implicitDefEqProofs [F48, c48, upd, tabHp, e]
theorem f48 (L m s b base p r : Int) (st : Nat) (cs : List (List Sc)) (l fi al : List Int) (hc : cs[st]? = some [.int .u8 s, .int .i64 b, .int .i64 base]) (hb : ¬ b < 0) (hp : shlI .i64 1 b = p) (hr : 0 ≤ m → m < p → IntKind.i64.wrap (base + m) = r) :
    F48 [.one (.ptr 0 0), .one (.int .i64 st), .one (.int .i64 m)] (tabHp (some 0) L cs l fi al) = some (if 0 ≤ m ∧ m < p then .tup [.one (.int .i64 r), .one (.bool true)] else .tup [.one (.int .i64 0), .one (.bool false)], tabHp (some 0) L cs l fi al) := by
  have e := f47 L s b base st cs l fi al hc
  simp only [tabHp, cel, List.map_cons, List.map_nil, Sc.sv] at e
  by_cases h0 : 0 ≤ m
  · have h0' : ¬ m < 0 := by omega
    by_cases h1 : m < p
    · have h1' : ¬ p ≤ m := by omega
      have hr' := hr h0 h1
      simp -implicitDefEqProofs [F48, c48, upd, tabHp, e, hb, hp, h0, h0', h1, h1', hr']
    · have h1' : p ≤ m := by omega
      simp -implicitDefEqProofs [F48, c48, upd, tabHp, e, hb, hp, h0, h0', h1, h1']
  · have h0' : m < 0 := by omega
    simp -implicitDefEqProofs [F48, c48, upd, tabHp, e, hb, hp, h0, h0']
/-! ### back -/
def canon90 (st : Int) (sb n x k L : Int) (cs : List (List Sc)) (l fi al : List Int) : St :=
  ⟨[(0, .one (.ptr 0 0)), (2, .one (.int .u8 sb)), (10, .one (.int .i64 n)), (11, .one (.int .i64 x)), (12, .one (.int .i64 k))], [.ptr 0 0, .int .i64 st, .int .u8 sb], tabHp (some 0) L cs l fi al⟩
theorem body90 (st : Int) (sb n x k L y n2 k' : Int) (cs : List (List Sc)) (l fi al : List Int) (hk : ¬ k < 0) (hy : shrI .i64 x k = y) (wn : IntKind.i64.wrap (2 * n) = n2) (h : n2 ≤ y) (wk : IntKind.i64.wrap (k + 1) = k') :
    ∃ st1, evC T90 KK b90x0 (canon90 st sb n x k L cs l fi al) = some (.norm, st1) ∧ St.head [0, 2, 10, 11, 12] st1 = canon90 st sb n x k' L cs l fi al := by
  simp -implicitDefEqProofs [b90x0, canon90, tabHp, upd, hk, hy, wn, h, wk]
theorem end90 (st : Int) (sb n x k L y n2 : Int) (cs : List (List Sc)) (l fi al : List Int) (hk : ¬ k < 0) (hy : shrI .i64 x k = y) (wn : IntKind.i64.wrap (2 * n) = n2) (h : ¬ n2 ≤ y) :
    ∃ env, evC T90 KK b90x0 (canon90 st sb n x k L cs l fi al) = some (.exit 0, ⟨env, [.ptr 0 0, .int .i64 st, .int .u8 sb], tabHp (some 0) L cs l fi al⟩) ∧ getT 0 env = .one (.ptr 0 0) ∧ getT 2 env = .one (.int .u8 sb) ∧ getT 10 env = .one (.int .i64 n) ∧ getT 11 env = .one (.int .i64 x) ∧ getT 12 env = .one (.int .i64 k) := by
  simp -implicitDefEqProofs [b90x0, canon90, tabHp, upd, hk, hy, wn, h]
theorem f90n (L st : Int) (sb : Nat) (hsb : sb < 256) (cs : List (List Sc)) (l fi al : List Int) (h : ¬ (0 ≤ st ∧ st < cs.length) ∨ ¬ (sb : Int) < l.length ∨ l[sb]? = some 0) :
    F90 [.one (.ptr 0 0), .one (.int .i64 st), .one (.int .u8 sb)] (tabHp (some 0) L cs l fi al) = some (.tup [.one (.int .i64 0), .one (.int .i64 0), .one (.int .i64 0), .one (.bool false)], tabHp (some 0) L cs l fi al) := by
  have e := f87 L st cs l fi al
  have wb : IntKind.i64.wrap (sb : Int) = sb := i64_in _ (by omega)
  simp only [tabHp] at e
  by_cases h0 : 0 ≤ st ∧ st < cs.length
  · rw [decide_eq_true h0] at e
    by_cases h1 : (sb : Int) < l.length
    · have h1n : sb < l.length := by omega
      have h2 : l[sb]? = some 0 := by
        rcases h with h | h | h
        · exact absurd h0 h
        · exact absurd h1 h
        · exact h
      have h2' : ∀ hh, l[sb]'hh = 0 := fun hh => by rw [List.getElem?_eq_getElem hh] at h2; simpa using h2
      have h1' : ¬ (l.length : Int) ≤ sb := by omega
      have h1'' : ¬ l.length ≤ sb := by omega
      simp -implicitDefEqProofs [F90, c90, upd, tabHp, e, wb, h1, h1n, h1', h1'', h2, h2', RC.len, RC.size, RC.get]
    · have h1' : (l.length : Int) ≤ sb := by omega
      have h1'' : l.length ≤ sb := by omega
      simp -implicitDefEqProofs [F90, c90, upd, tabHp, e, wb, h1, h1', h1'', RC.len, RC.size]
  · rw [decide_eq_false h0] at e
    simp -implicitDefEqProofs [F90, c90, upd, tabHp, e]
end Go.X.Try
set_option maxRecDepth 100000
set_option linter.unusedSimpArgs false
set_option linter.unusedVariables false
namespace Go.X.Try
open Go.IntWalk
theorem loop90 (st : Int) (sb L : Int) (n x : Nat) (hn : 1 ≤ n ∧ n ≤ 512) (hx : x < 2 ^ 10) (cs : List (List Sc)) (l fi al : List Int) : ∀ (j k K : Nat), k + j = 10 → (∀ i, i < k → 2 * n ≤ x / 2 ^ i) → j < K →
    ∃ (k' : Nat) (env : Env), loopH (evC T90 KK b90x0) [0, 2, 10, 11, 12] K (canon90 st sb n x k L cs l fi al) = some (.exit 0, ⟨env, [.ptr 0 0, .int .i64 st, .int .u8 sb], tabHp (some 0) L cs l fi al⟩) ∧ x / 2 ^ k' < 2 * n ∧ (∀ i, i < k' → 2 * n ≤ x / 2 ^ i) ∧ k' ≤ 10 ∧
      getT 0 env = .one (.ptr 0 0) ∧ getT 2 env = .one (.int .u8 sb) ∧ getT 10 env = .one (.int .i64 n) ∧ getT 11 env = .one (.int .i64 x) ∧ getT 12 env = .one (.int .i64 k') := by
  intro j
  induction j with
  | zero =>
    intro k K hj hb hK
    obtain rfl : k = 10 := by omega
    have h0 : x / 2 ^ 10 = 0 := Nat.div_eq_of_lt hx
    obtain ⟨env, e, g⟩ := end90 st sb n x (10 : Nat) L ((x / 2 ^ 10 : Nat) : Int) ((2 * n : Nat) : Int) cs l fi al (by omega) (shr_in (k := .i64) (by decide)) (by rw [i64_in _ (by omega)]; omega) (by omega)
    exact ⟨10, env, loopH_exit e, by omega, hb, Nat.le_refl _, g⟩
  | succ j ih =>
    intro k K hj hb hK
    have hsh : shrI .i64 (x : Int) (k : Int) = ((x / 2 ^ k : Nat) : Int) := shr_in (k := .i64) (by show k ≤ 64; omega)
    by_cases h : 2 * n ≤ x / 2 ^ k
    · obtain ⟨st1, e1, e2⟩ := body90 st sb n x k L ((x / 2 ^ k : Nat) : Int) ((2 * n : Nat) : Int) ((k + 1 : Nat) : Int) cs l fi al (by omega) hsh (by rw [i64_in _ (by omega)]; omega) (by omega) (by rw [i64_in _ (by omega)]; omega)
      obtain ⟨k', env, q1, q2⟩ := ih (k + 1) (K - 1) (by omega) (fun i hi => by
        rcases Nat.lt_or_ge i k with h' | h'
        · exact hb i h'
        · rw [show i = k by omega]; exact h) (by omega)
      refine ⟨k', env, ?_, q2⟩
      rw [loopH_norm e1 (by omega), e2, q1]
    · obtain ⟨env, e, g⟩ := end90 st sb n x k L ((x / 2 ^ k : Nat) : Int) ((2 * n : Nat) : Int) cs l fi al (by omega) hsh (by rw [i64_in _ (by omega)]; omega) (by omega)
      exact ⟨k, env, loopH_exit e, by omega, hb, by omega, g⟩
theorem shl1 {k : Nat} (h : k ≤ 20) : shlI .i64 1 (k : Int) = ((2 ^ k : Nat) : Int) := by
  have hp : 2 ^ k ≤ 2 ^ 20 := Nat.pow_le_pow_right (by omega) h
  have hmin : Nat.min ((k : Int)).toNat 64 = k := by rw [Int.toNat_natCast]; exact Nat.min_eq_left (by omega)
  have : shlI .i64 1 (k : Int) = IntKind.i64.wrap (1 * 2 ^ Nat.min ((k : Int)).toNat 64) := rfl
  rw [this, hmin, Int.one_mul]
  have e2 : (2 : Int) ^ k = ((2 ^ k : Nat) : Int) := by push_cast; rfl
  rw [e2]
  generalize (2 ^ k : Nat) = p at *
  exact i64_in _ (by omega)
theorem and_mask10 {x L : Nat} (hx : x < 2 ^ 60) (hL : L ≤ 10) : bitsI .and .i64 (x : Int) ((2 ^ L - 1 : Nat) : Int) = ((x % 2 ^ L : Nat) : Int) := by
  have : 2 ^ L ≤ 2 ^ 10 := Nat.pow_le_pow_right (by omega) hL
  rw [bitsI_and_i64 (by omega) (by omega), Nat.and_two_pow_sub_one_eq_mod]
theorem f90 (L : Int) (st sb n f : Nat) (hsb : sb < 256) (cs : List (List Sc)) (l fi al : List Int) (hst : st < cs.length) (hcs : cs.length ≤ 512) (hl : l[sb]? = some (n : Int)) (hn : 1 ≤ n ∧ n ≤ 512) (hf : fi[sb]? = some (f : Int)) (hf2 : f ≤ 512) :
    ∃ k : Nat, (st + cs.length) / 2 ^ k < 2 * n ∧ (∀ i, i < k → 2 * n ≤ (st + cs.length) / 2 ^ i) ∧ k ≤ 10 ∧ ∀ (q : Nat) (v : Int), f + (st + cs.length) / 2 ^ k = q + n → al[q]? = some v →
      F90 [.one (.ptr 0 0), .one (.int .i64 st), .one (.int .u8 sb)] (tabHp (some 0) L cs l fi al) = some (.tup [.one (.int .i64 v), .one (.int .i64 ((st + cs.length) % 2 ^ k : Nat)), .one (.int .i64 k), .one (.bool true)], tabHp (some 0) L cs l fi al) := by
  have e87 := f87 L st cs l fi al
  rw [decide_eq_true (by omega)] at e87
  have wb : IntKind.i64.wrap (sb : Int) = sb := i64_in _ (by omega)
  have wx : IntKind.i64.wrap ((st : Int) + cs.length) = ((st + cs.length : Nat) : Int) := by rw [i64_in _ (by omega)]; omega
  obtain ⟨k, env, e, h1, h2, h3, g0, g2, g10, g11, g12⟩ := loop90 st sb L n (st + cs.length) hn (by omega) cs l fi al 10 0 KK (by omega) (fun i hi => by omega) (by rw [KK_eq]; omega)
  refine ⟨k, h1, h2, h3, fun q v hq hv => ?_⟩
  have hll := (List.getElem?_eq_some_iff.1 hl).1
  have hlf := (List.getElem?_eq_some_iff.1 hf).1
  have hla := (List.getElem?_eq_some_iff.1 hv).1
  have hl' : ∀ hh, l[sb]'hh = n := fun hh => by rw [List.getElem?_eq_getElem hh] at hl; simpa using hl
  have hf' : ∀ hh, fi[sb]'hh = f := fun hh => by rw [List.getElem?_eq_getElem hh] at hf; simpa using hf
  have hv' : ∀ hh, al[q]'hh = v := fun hh => by rw [List.getElem?_eq_getElem hh] at hv; simpa using hv
  have i1 : (sb : Int) < l.length := by omega
  have i1' : ¬ (l.length : Int) ≤ sb := by omega
  have i1'' : ¬ l.length ≤ sb := by omega
  have i2 : (sb : Int) < fi.length := by omega
  have i3 : (q : Int) < al.length := by omega
  have hn0 : ¬ (n : Int) = 0 := by omega
  have hn0' : ¬ n = 0 := by omega
  have z : ((0 : Nat) : Int) = 0 := rfl
  have hk0 : ¬ (k : Int) < 0 := by omega
  have hsh : shrI .i64 ((st + cs.length : Nat) : Int) (k : Int) = (((st + cs.length) / 2 ^ k : Nat) : Int) := shr_in (k := .i64) (by show k ≤ 64; omega)
  have hs1 := shl1 (k := k) (by omega)
  have hpk : 2 ^ k ≤ 2 ^ 10 := Nat.pow_le_pow_right (by omega) h3
  have hpk0 := Nat.two_pow_pos k
  have hm1 : IntKind.i64.wrap (((2 ^ k : Nat) : Int) - 1) = ((2 ^ k - 1 : Nat) : Int) := by rw [i64_in _ (by omega)]; omega
  have ha := and_mask10 (x := st + cs.length) (L := k) (by omega) h3
  generalize hxx : st + cs.length = x at *
  generalize hyy : x / 2 ^ k = y at *
  have wq1 : IntKind.i64.wrap ((f : Int) + (y : Int)) = ((f + y : Nat) : Int) := by rw [i64_in _ (by omega)]; omega
  have wq2 : IntKind.i64.wrap (((f + y : Nat) : Int) - n) = (q : Int) := by rw [i64_in _ (by omega)]; omega
  generalize ((x % 2 ^ k : Nat) : Int) = r at *
  generalize ((2 ^ k - 1 : Nat) : Int) = mk at *
  generalize ((2 ^ k : Nat) : Int) = pk at *
  generalize ((f + y : Nat) : Int) = fy at *
  simp only [canon90, tabHp, z] at e e87
  simp -implicitDefEqProofs [F90, c90, upd, tabHp, e87, e, g0, g2, g10, g11, g12, wb, wx, hll, hlf, hla, hl, hl', hf, hf', hv, hv', i1, i1', i1'', i2, i3, hn0, hn0', hk0, hsh, hs1, hm1, ha, wq1, wq2, RC.len, RC.size, RC.get]
end Go.X.Try
set_option maxRecDepth 100000
set_option linter.unusedSimpArgs false
set_option linter.unusedVariables false
namespace Go.X.Try
open Go.IntWalk
/-! ### the document's table: the symbols -/
def symCs (o : List Nat) : List (List Sc) := o.map fun (s : Nat) => [Sc.int .u8 (s : Int), .int .i64 0, .int .i64 0]
theorem symCs_length (o : List Nat) : (symCs o).length = o.length := by simp [symCs]
theorem symCs_set (o : List Nat) (a s : Nat) : (symCs o).set a [.int .u8 (s : Int), .int .i64 0, .int .i64 0] = symCs (o.set a s) := by simp [symCs, List.map_set]
def canon20a (t : Nat) (l : List Int) (L size at_ s k : Int) (cs : List (List Sc)) : St :=
  ⟨[(0, .one (.ro t (.ints .i64 l))), (1, .one (.int .i64 L)), (5, .one (.int .i64 size)), (6, .one (.row 0)), (7, .one (.int .i64 at_)), (8, .one (.int .i64 s)), (9, .one (.int .i64 k))],
    [.ro t (.ints .i64 l), .int .i64 L], [.rows (.recs 3 cs)]⟩
theorem body20a (t : Nat) (l : List Int) (L size n k k' h8 h2 v v2 v3 at' s0 : Int) (at_ s : Nat) (cs : List (List Sc)) (hs : l[s]? = some n) (hk : k < n) (ha : cs[at_]? = some [.int .u8 s0, .int .i64 0, .int .i64 0]) (ws : IntKind.u8.wrap (s : Int) = s) (w2 : IntKind.i64.wrap (size.tdiv 2) = h2) (w8 : IntKind.i64.wrap (size.tdiv 8) = h8)
    (wv : IntKind.i64.wrap ((at_ : Int) + h2) = v) (wv2 : IntKind.i64.wrap (v + h8) = v2) (wv3 : IntKind.i64.wrap (v2 + 3) = v3) (hsz : ¬ size = 0) (hm : v3.tmod size = at') (wk : IntKind.i64.wrap (k + 1) = k') :
    ∃ st1, evC T20 KK b20x0 (canon20a t l L size at_ s k cs) = some (.norm, st1) ∧ St.head [0, 1, 5, 6, 7, 8, 9] st1 = canon20a t l L size at' s k' (cs.set at_ [.int .u8 (s : Int), .int .i64 0, .int .i64 0]) := by
  have l1 := (List.getElem?_eq_some_iff.1 hs).1
  have l2 := (List.getElem?_eq_some_iff.1 ha).1
  have l1i : (s : Int) < l.length := by omega
  have l2i : (at_ : Int) < cs.length := by omega
  have hs' : ∀ hh, l[s]'hh = n := fun hh => by rw [List.getElem?_eq_getElem hh] at hs; simpa using hs
  have ha' : ∀ hh, cs[at_]'hh = [Sc.int .u8 s0, .int .i64 0, .int .i64 0] := fun hh => by rw [List.getElem?_eq_getElem hh] at ha; simpa using ha
  simp -implicitDefEqProofs [b20x0, canon20a, upd, l1, l2, l1i, l2i, hs, hs', hk, ha, ha', ws, w2, w8, wv, wv2, wv3, hsz, hm, wk, RC.len, RC.size, RC.get, RC.set]
theorem end20a (t : Nat) (l : List Int) (L size n at_ k : Int) (s : Nat) (cs : List (List Sc)) (hs : l[s]? = some n) (hk : ¬ k < n) :
    ∃ env, evC T20 KK b20x0 (canon20a t l L size at_ s k cs) = some (.exit 2, ⟨env, [.ro t (.ints .i64 l), .int .i64 L], [.rows (.recs 3 cs)]⟩) ∧ getT 0 env = .one (.ro t (.ints .i64 l)) ∧ getT 1 env = .one (.int .i64 L) ∧ getT 5 env = .one (.int .i64 size) ∧ getT 6 env = .one (.row 0) ∧ getT 7 env = .one (.int .i64 at_) ∧ getT 8 env = .one (.int .i64 s) := by
  have l1 := (List.getElem?_eq_some_iff.1 hs).1
  have l1i : (s : Int) < l.length := by omega
  have hs' : ∀ hh, l[s]'hh = n := fun hh => by rw [List.getElem?_eq_getElem hh] at hs; simpa using hs
  simp -implicitDefEqProofs [b20x0, canon20a, upd, l1, l1i, hs, hs', hk, RC.len, RC.size, RC.get]
theorem loop20a (t : Nat) (l : List Int) {L : Nat} (hL : 5 ≤ L ∧ L ≤ 9) (s n : Nat) (hs : s < 256) (hg : l[s]? = some (n : Int)) : ∀ (j k at_ : Nat) (out : List Nat) (K : Nat), k + j = n → n ≤ 512 → at_ < 2 ^ L → out.length = 2 ^ L → j < K →
    ∃ env, loopH (evC T20 KK b20x0) [0, 1, 5, 6, 7, 8, 9] K (canon20a t l L (2 ^ L : Nat) at_ s k (symCs out)) =
      some (.exit 2, ⟨env, [.ro t (.ints .i64 l), .int .i64 L], [.rows (.recs 3 (symCs (place (2 ^ L) (2 ^ L / 2 + 2 ^ L / 8 + 3) out at_ (List.replicate j s)).1))]⟩) ∧
      getT 0 env = .one (.ro t (.ints .i64 l)) ∧ getT 1 env = .one (.int .i64 L) ∧ getT 5 env = .one (.int .i64 (2 ^ L : Nat)) ∧ getT 6 env = .one (.row 0) ∧ getT 7 env = .one (.int .i64 (place (2 ^ L) (2 ^ L / 2 + 2 ^ L / 8 + 3) out at_ (List.replicate j s)).2) ∧ getT 8 env = .one (.int .i64 s)
  | 0, k, at_, out, K, hj, hn, ha, ho, hK => by
    obtain rfl : k = n := by omega
    obtain ⟨env, e, g⟩ := end20a t l L (2 ^ L : Nat) _ at_ k s (symCs out) hg (by omega)
    simp only [List.replicate_zero, place]
    exact ⟨env, loopH_exit e, g⟩
  | j + 1, k, at_, out, K, hj, hn, ha, ho, hK => by
    have hp : 2 ^ L ≤ 2 ^ 9 := Nat.pow_le_pow_right (by omega) hL.2
    have hp0 := Nat.two_pow_pos L
    have t2 : IntKind.i64.wrap (((2 ^ L : Nat) : Int).tdiv 2) = ((2 ^ L / 2 : Nat) : Int) := by
      rw [show ((2 ^ L : Nat) : Int).tdiv 2 = ((2 ^ L / 2 : Nat) : Int) from (Int.ofNat_tdiv _ 2).symm]; exact i64_in _ (by omega)
    have t8 : IntKind.i64.wrap (((2 ^ L : Nat) : Int).tdiv 8) = ((2 ^ L / 8 : Nat) : Int) := by
      rw [show ((2 ^ L : Nat) : Int).tdiv 8 = ((2 ^ L / 8 : Nat) : Int) from (Int.ofNat_tdiv _ 8).symm]; exact i64_in _ (by omega)
    obtain ⟨s0, hs0⟩ : ∃ s0, out[at_]? = some s0 := ⟨_, List.getElem?_eq_getElem (by omega)⟩
    have hc : (symCs out)[at_]? = some [Sc.int .u8 (s0 : Int), .int .i64 0, .int .i64 0] := by simp [symCs, hs0]
    have hmod : (((at_ + (2 ^ L / 2 + 2 ^ L / 8 + 3) : Nat) : Int)).tmod ((2 ^ L : Nat) : Int) = (((at_ + (2 ^ L / 2 + 2 ^ L / 8 + 3)) % 2 ^ L : Nat) : Int) := (Int.ofNat_tmod _ _).symm
    obtain ⟨st1, e1, e2⟩ := body20a t l L (2 ^ L : Nat) n k ((k + 1 : Nat) : Int) _ _ ((at_ + 2 ^ L / 2 : Nat) : Int) ((at_ + 2 ^ L / 2 + 2 ^ L / 8 : Nat) : Int) ((at_ + (2 ^ L / 2 + 2 ^ L / 8 + 3) : Nat) : Int) _ s0 at_ s (symCs out) hg (by omega) hc (u8_in _ (by omega)) t2 t8
      (by rw [i64_in _ (by omega)]; omega) (by rw [i64_in _ (by omega)]; omega) (by rw [i64_in _ (by omega)]; omega) (by omega) hmod (by rw [i64_in _ (by omega)]; omega)
    obtain ⟨env, q1, q2⟩ := loop20a t l hL s n hs hg j (k + 1) ((at_ + (2 ^ L / 2 + 2 ^ L / 8 + 3)) % 2 ^ L) (out.set at_ s) (K - 1) (by omega) hn (Nat.mod_lt _ hp0) (by simpa using ho) (by omega)
    refine ⟨env, ?_, ?_⟩
    · rw [loopH_norm e1 (by omega), e2, symCs_set, q1]
      simp only [List.replicate_succ, place]
    · simp only [List.replicate_succ, place]; exact q2
def canon20b (t : Nat) (l : List Int) (L size at_ s : Int) (cs : List (List Sc)) : St :=
  ⟨[(0, .one (.ro t (.ints .i64 l))), (1, .one (.int .i64 L)), (5, .one (.int .i64 size)), (6, .one (.row 0)), (7, .one (.int .i64 at_)), (8, .one (.int .i64 s))],
    [.ro t (.ints .i64 l), .int .i64 L], [.rows (.recs 3 cs)]⟩
theorem body20b (t : Nat) (l : List Int) (L size at_ at' s' : Int) (s : Nat) (cs cs' : List (List Sc)) (env : Env) (hi : s < l.length) (wi : IntKind.i64.wrap ((s : Int) + 1) = s')
    (e : loopH (evC T20 KK b20x0) [0, 1, 5, 6, 7, 8, 9] KK (canon20a t l L size at_ s 0 cs) = some (.exit 2, ⟨env, [.ro t (.ints .i64 l), .int .i64 L], [.rows (.recs 3 cs')]⟩))
    (g0 : getT 0 env = .one (.ro t (.ints .i64 l))) (g1 : getT 1 env = .one (.int .i64 L)) (g5 : getT 5 env = .one (.int .i64 size)) (g6 : getT 6 env = .one (.row 0)) (g7 : getT 7 env = .one (.int .i64 at')) (g8 : getT 8 env = .one (.int .i64 s)) :
    ∃ st1, evC T20 KK b20x1 (canon20b t l L size at_ s cs) = some (.norm, st1) ∧ St.head [0, 1, 5, 6, 7, 8] st1 = canon20b t l L size at' s' cs' := by
  have hii : (s : Int) < l.length := by omega
  simp only [canon20a] at e
  simp -implicitDefEqProofs [b20x1, canon20b, upd, hi, hii, wi, e, g0, g1, g5, g6, g7, g8, RC.len]
theorem end20b (t : Nat) (l : List Int) (L size at_ s : Int) (cs : List (List Sc)) (hi : ¬ s < l.length) :
    ∃ env, evC T20 KK b20x1 (canon20b t l L size at_ s cs) = some (.exit 0, ⟨env, [.ro t (.ints .i64 l), .int .i64 L], [.rows (.recs 3 cs)]⟩) ∧ getT 0 env = .one (.ro t (.ints .i64 l)) ∧ getT 1 env = .one (.int .i64 L) ∧ getT 5 env = .one (.int .i64 size) ∧ getT 6 env = .one (.row 0) := by
  simp -implicitDefEqProofs [b20x1, canon20b, upd, hi, RC.len]
theorem loop20b (t : Nat) (l : List Int) (sh : List Nat) {L : Nat} (S : Shr l L sh) : ∀ (j i at_ : Nat) (out : List Nat) (K : Nat), i + j = sh.length → at_ < 2 ^ L → out.length = 2 ^ L → j < K →
    ∃ env, loopH (evC T20 KK b20x1) [0, 1, 5, 6, 7, 8] K (canon20b t l L (2 ^ L : Nat) at_ i (symCs out)) = some (.exit 0, ⟨env, [.ro t (.ints .i64 l), .int .i64 L], [.rows (.recs 3 (symCs (place (2 ^ L) (2 ^ L / 2 + 2 ^ L / 8 + 3) out at_ (runs i (sh.drop i))).1))]⟩) ∧
      getT 0 env = .one (.ro t (.ints .i64 l)) ∧ getT 1 env = .one (.int .i64 L) ∧ getT 5 env = .one (.int .i64 (2 ^ L : Nat)) ∧ getT 6 env = .one (.row 0)
  | 0, i, at_, out, K, hj, ha, ho, hK => by
    have hl : l.length = sh.length := by rw [S.eq]; simp
    obtain ⟨env, e, g⟩ := end20b t l L (2 ^ L : Nat) at_ i (symCs out) (by omega)
    rw [List.drop_eq_nil_of_le (by omega)]
    simp only [runs, place]
    exact ⟨env, loopH_exit e, g⟩
  | j + 1, i, at_, out, K, hj, ha, ho, hK => by
    have hl : l.length = sh.length := by rw [S.eq]; simp
    have hlen := S.len
    have hi : i < sh.length := by omega
    have hg : l[i]? = some ((sh[i] : Nat) : Int) := by rw [S.eq]; simp [hi]
    have hle : sh[i] ≤ 512 := by
      have h1 := fstS_succ hi
      have h2 := fstS_le sh (i + 1)
      have := S.sum
      have := S.size
      omega
    have hpos := Nat.two_pow_pos L
    obtain ⟨env0, ein, g0, g1, g5, g6, g7, g8⟩ := loop20a t l ⟨S.lo, S.hi⟩ i sh[i] (by omega) hg sh[i] 0 at_ out KK (by omega) hle ha ho (by rw [KK_eq]; omega)
    obtain ⟨st1, e1, e2⟩ := body20b t l L (2 ^ L : Nat) at_ _ ((i + 1 : Nat) : Int) i (symCs out) _ env0 (by omega) (by rw [i64_in _ (by omega)]; omega) ein g0 g1 g5 g6 g7 g8
    have ha' := place_at (step := 2 ^ L / 2 + 2 ^ L / 8 + 3) hpos (List.replicate sh[i] i) out at_ ha
    obtain ⟨env, q1, q2⟩ := loop20b t l sh S j (i + 1) _ (place (2 ^ L) (2 ^ L / 2 + 2 ^ L / 8 + 3) out at_ (List.replicate sh[i] i)).1 (K - 1) (by omega) ha'.2 (by rw [place_length]; exact ho) (by omega)
    refine ⟨env, ?_, q2⟩
    rw [loopH_norm e1 (by omega), e2, q1, List.drop_eq_getElem_cons hi]
    simp only [runs, place_append]
end Go.X.Try
set_option maxRecDepth 100000
set_option linter.unusedSimpArgs false
set_option linter.unusedVariables false
namespace Go.X.Try
open Go.IntWalk
/-! ### the document's table: bits and bases -/
def canon20c (t : Nat) (l : List Int) (L size s x i : Int) (cs : List (List Sc)) : St :=
  ⟨[(0, .one (.ro t (.ints .i64 l))), (1, .one (.int .i64 L)), (5, .one (.int .i64 size)), (6, .one (.row 0)), (10, .one (.int .i64 s)), (11, .one (.int .i64 x)), (12, .one (.int .i64 i))],
    [.ro t (.ints .i64 l), .int .i64 L], [.rows (.recs 3 cs)]⟩
theorem skip37c (t : Nat) (l : List Int) (L size x n i' s0 c1 c2 : Int) (s i : Nat) (cs : List (List Sc)) (hs : l[s]? = some n) (hn : 0 < n) (hi : (i : Int) < size) (hc : cs[i]? = some [.int .u8 s0, .int .i64 c1, .int .i64 c2]) (ws : IntKind.i64.wrap s0 = s0) (hne : ¬ s0 = s) (wi : IntKind.i64.wrap ((i : Int) + 1) = i') :
    ∃ st1, evC T20 KK b20x2 (canon20c t l L size s x i cs) = some (.norm, st1) ∧ St.head [0, 1, 5, 6, 10, 11, 12] st1 = canon20c t l L size s x i' cs := by
  have l1 := (List.getElem?_eq_some_iff.1 hs).1
  have l2 := (List.getElem?_eq_some_iff.1 hc).1
  have l1i : (s : Int) < l.length := by omega
  have l2i : (i : Int) < cs.length := by omega
  have hs' : ∀ hh, l[s]'hh = n := fun hh => by rw [List.getElem?_eq_getElem hh] at hs; simpa using hs
  have hc' : ∀ hh, cs[i]'hh = [Sc.int .u8 s0, .int .i64 c1, .int .i64 c2] := fun hh => by rw [List.getElem?_eq_getElem hh] at hc; simpa using hc
  simp -implicitDefEqProofs [b20x2, canon20c, upd, l1, l2, l1i, l2i, hs, hs', hn, hi, hc, hc', ws, hne, wi, RC.len, RC.size, RC.get, RC.set]
theorem body20c (t : Nat) (l : List Int) (L size x n i' x' w b0 b p xp base c1 c2 : Int) (s i : Nat) (cs : List (List Sc)) (hs : l[s]? = some n) (hn : 0 < n) (hi : (i : Int) < size) (hc : cs[i]? = some [.int .u8 (s : Int), .int .i64 c1, .int .i64 c2]) (ws : IntKind.i64.wrap (s : Int) = s)
    (wu : IntKind.u32.wrap x = x) (e52 : F52 [.one (.int .u32 x)] [] = some (.one (.int .i64 w), [])) (wb0 : IntKind.i64.wrap (L - w) = b0) (wb : IntKind.i64.wrap (b0 + 1) = b) (e40 : F40 [.one (.int .i64 b)] [] = some (.one (.int .i64 p), [])) (wxp : IntKind.i64.wrap (x * p) = xp) (wbs : IntKind.i64.wrap (xp - size) = base)
    (wx : IntKind.i64.wrap (x + 1) = x') (wi : IntKind.i64.wrap ((i : Int) + 1) = i') :
    ∃ st1, evC T20 KK b20x2 (canon20c t l L size s x i cs) = some (.norm, st1) ∧ St.head [0, 1, 5, 6, 10, 11, 12] st1 = canon20c t l L size s x' i' (cs.set i [.int .u8 (s : Int), .int .i64 b, .int .i64 base]) := by
  have l1 := (List.getElem?_eq_some_iff.1 hs).1
  have l2 := (List.getElem?_eq_some_iff.1 hc).1
  have l1i : (s : Int) < l.length := by omega
  have l2i : (i : Int) < cs.length := by omega
  have hs' : ∀ hh, l[s]'hh = n := fun hh => by rw [List.getElem?_eq_getElem hh] at hs; simpa using hs
  have hc' : ∀ hh, cs[i]'hh = [Sc.int .u8 (s : Int), .int .i64 c1, .int .i64 c2] := fun hh => by rw [List.getElem?_eq_getElem hh] at hc; simpa using hc
  simp -implicitDefEqProofs [b20x2, canon20c, upd, l1, l2, l1i, l2i, hs, hs', hn, hi, hc, hc', ws, wu, e52, wb0, wb, e40, wxp, wbs, wx, wi, RC.len, RC.size, RC.get, RC.set]
theorem end20c (t : Nat) (l : List Int) (L size x n i : Int) (s : Nat) (cs : List (List Sc)) (hs : l[s]? = some n) (h : ¬ i < size ∨ ¬ 0 < n) :
    ∃ env, evC T20 KK b20x2 (canon20c t l L size s x i cs) = some (.exit 6, ⟨env, [.ro t (.ints .i64 l), .int .i64 L], [.rows (.recs 3 cs)]⟩) ∧ getT 0 env = .one (.ro t (.ints .i64 l)) ∧ getT 1 env = .one (.int .i64 L) ∧ getT 5 env = .one (.int .i64 size) ∧ getT 6 env = .one (.row 0) ∧ getT 10 env = .one (.int .i64 s) := by
  have l1 := (List.getElem?_eq_some_iff.1 hs).1
  have l1i : (s : Int) < l.length := by omega
  have hs' : ∀ hh, l[s]'hh = n := fun hh => by rw [List.getElem?_eq_getElem hh] at hs; simpa using hs
  by_cases h1 : i < size
  · have h2 : ¬ 0 < n := by rcases h with h | h; exact absurd h1 h; exact h
    simp -implicitDefEqProofs [b20x2, canon20c, upd, l1, l1i, hs, hs', h1, h2, RC.len, RC.size, RC.get]
  · simp -implicitDefEqProofs [b20x2, canon20c, upd, h1]
/-- The cells when the symbols below s are done, and of s the states below i. -/
def cellsAt (L : Nat) (sh : List Nat) (s i : Nat) : List (List Sc) := (List.range (2 ^ L)).map fun j => if (symOf sh).getD j 0 < s ∨ ((symOf sh).getD j 0 = s ∧ j < i) then cellSc L sh j else [.int .u8 (((symOf sh).getD j 0 : Nat) : Int), .int .i64 0, .int .i64 0]
theorem cellsAt_get (L : Nat) (sh : List Nat) (s i j : Nat) (h : j < 2 ^ L) : ∃ c1 c2 : Int, (cellsAt L sh s i)[j]? = some [.int .u8 (((symOf sh).getD j 0 : Nat) : Int), .int .i64 c1, .int .i64 c2] := by
  simp only [cellsAt, List.getElem?_map, List.getElem?_range h, Option.map_some]
  split
  · exact ⟨_, _, rfl⟩
  · exact ⟨_, _, rfl⟩
theorem cellsAt_skip {L : Nat} {sh : List Nat} {s i : Nat} (h : (symOf sh).getD i 0 ≠ s) : cellsAt L sh s (i + 1) = cellsAt L sh s i := by
  apply List.map_congr_left
  intro j _
  by_cases e : j = i
  · subst e
    have : ((symOf sh).getD j 0 < s ∨ ((symOf sh).getD j 0 = s ∧ j < j + 1)) ↔ ((symOf sh).getD j 0 < s ∨ ((symOf sh).getD j 0 = s ∧ j < j)) := by omega
    simp only [this]
  · have : (j < i + 1) ↔ j < i := by omega
    simp only [this]
theorem cellsAt_set {L : Nat} {sh : List Nat} {s i : Nat} (h : (symOf sh).getD i 0 = s) : (cellsAt L sh s i).set i (cellSc L sh i) = cellsAt L sh s (i + 1) := by
  apply List.ext_getElem (by simp [cellsAt])
  intro k h1 h2
  rw [List.getElem_set]
  simp only [cellsAt, List.getElem_map, List.getElem_range]
  by_cases e : i = k
  · subst e; rw [if_pos rfl, if_pos (.inr ⟨h, by omega⟩)]
  · rw [if_neg e]
    have : (k < i + 1) ↔ k < i := by omega
    simp only [this]
theorem cellsAt_next {L : Nat} {sh : List Nat} {s : Nat} : cellsAt L sh s (2 ^ L) = cellsAt L sh (s + 1) 0 := by
  apply List.map_congr_left
  intro j hj
  have hj := List.mem_range.1 hj
  have : ((symOf sh).getD j 0 < s ∨ ((symOf sh).getD j 0 = s ∧ j < 2 ^ L)) ↔ ((symOf sh).getD j 0 < s + 1 ∨ ((symOf sh).getD j 0 = s + 1 ∧ j < 0)) := by omega
  simp only [this]
theorem cellsAt_none {L : Nat} {sh : List Nat} {s : Nat} (h : ∀ j, j < 2 ^ L → (symOf sh).getD j 0 ≠ s) : cellsAt L sh s 0 = cellsAt L sh (s + 1) 0 := by
  apply List.map_congr_left
  intro j hj
  have hj := h j (List.mem_range.1 hj)
  have : ((symOf sh).getD j 0 < s ∨ ((symOf sh).getD j 0 = s ∧ j < 0)) ↔ ((symOf sh).getD j 0 < s + 1 ∨ ((symOf sh).getD j 0 = s + 1 ∧ j < 0)) := by omega
  simp only [this]
theorem getD_some {S : List Nat} {i s : Nat} (h : S[i]? = some s) : S.getD i 0 = s := by simp [List.getD, h]
theorem loop20c (t : Nat) (l : List Int) (sh : List Nat) {L : Nat} (S : Shr l L sh) (s n : Nat) (hs : sh[s]? = some n) (hn : 0 < n) : ∀ (j i : Nat) (K : Nat), i + j = 2 ^ L → j < K →
    ∃ env, loopH (evC T20 KK b20x2) [0, 1, 5, 6, 10, 11, 12] K (canon20c t l L (2 ^ L : Nat) s (n + ((symOf sh).take i).count s : Nat) i (cellsAt L sh s i)) = some (.exit 6, ⟨env, [.ro t (.ints .i64 l), .int .i64 L], [.rows (.recs 3 (cellsAt L sh (s + 1) 0))]⟩) ∧
      getT 0 env = .one (.ro t (.ints .i64 l)) ∧ getT 1 env = .one (.int .i64 L) ∧ getT 5 env = .one (.int .i64 (2 ^ L : Nat)) ∧ getT 6 env = .one (.row 0) ∧ getT 10 env = .one (.int .i64 s)
  | 0, i, K, hj, hK => by
    obtain rfl : i = 2 ^ L := by omega
    have hg : l[s]? = some (n : Int) := by rw [S.eq, List.getElem?_map, hs]; rfl
    obtain ⟨env, e, g⟩ := end20c t l L (2 ^ L : Nat) (n + ((symOf sh).take (2 ^ L)).count s : Nat) n (2 ^ L : Nat) s (cellsAt L sh s (2 ^ L)) hg (.inl (by omega))
    rw [cellsAt_next] at e ⊢
    exact ⟨env, loopH_exit e, g⟩
  | j + 1, i, K, hj, hK => by
    have hsz := S.size
    have hsl : (symOf sh).length = 2 ^ L := by rw [symOf_length, S.sum]
    have hi : i < (symOf sh).length := by omega
    have hlen := S.len
    have hsl2 := (List.getElem?_eq_some_iff.1 hs).1
    have hg : l[s]? = some (n : Int) := by rw [S.eq, List.getElem?_map, hs]; rfl
    obtain ⟨s', hs'⟩ : ∃ s', (symOf sh)[i]? = some s' := ⟨_, List.getElem?_eq_getElem hi⟩
    have hsD := getD_some hs'
    obtain ⟨c1, c2, hc⟩ := cellsAt_get L sh s i i (by omega)
    rw [hsD] at hc
    have hlt' := sym_lt S.sum S.lo hs'
    have hcs := count_take_succ (x := s) hi
    rw [show (symOf sh)[i] = s' from (List.getElem?_eq_some_iff.1 hs').2] at hcs
    by_cases e : s' = s
    · subst e
      rw [if_pos rfl] at hcs
      obtain ⟨n', hn', hy, hr, hnL⟩ := y_bd S.sum S.lo hs'
      rw [hs] at hn'; simp at hn'; subst hn'
      generalize hce : ((symOf sh).take i).count s' = c at *
      have hyb : yOf sh i < 2 ^ (L + 1) := by rw [Nat.pow_succ]; omega
      obtain ⟨b1, b2, b3, b4⟩ := cell_bd (L := L) (y := yOf sh i) (by omega) hyb
      have hL9 := S.hi
      have e52 := e52 ((n + c : Nat) : Int) (by omega) (by omega)
      rw [Int.toNat_natCast, ← hy] at e52
      have hb : bOf L sh i = L + 1 - bl (yOf sh i) := rfl
      have hbase : baseOf L sh i = yOf sh i * 2 ^ bOf L sh i - 2 ^ L := rfl
      rw [← hb] at b3 b4
      have hpw : 2 ^ (L + 1) ≤ 1024 := by rw [Nat.pow_succ]; omega
      have hmul : yOf sh i * 2 ^ bOf L sh i ≤ 1024 := by
        have : yOf sh i * 2 ^ bOf L sh i ≤ (yOf sh i + 1) * 2 ^ bOf L sh i := Nat.mul_le_mul_right _ (by omega)
        omega
      have e40 := e40 ((bOf L sh i : Nat) : Int) (by omega) (by omega)
      rw [Int.toNat_natCast] at e40
      have wxp : IntKind.i64.wrap (((yOf sh i : Nat) : Int) * ((2 ^ bOf L sh i : Nat) : Int)) = ((yOf sh i * 2 ^ bOf L sh i : Nat) : Int) := by
        rw [← Int.natCast_mul]; exact i64_in _ (by omega)
      obtain ⟨st1, q1, q2⟩ := body20c t l L (2 ^ L : Nat) ((yOf sh i : Nat) : Int) n ((i + 1 : Nat) : Int) ((n + (c + 1) : Nat) : Int) ((bl (yOf sh i) : Nat) : Int) ((L : Int) - bl (yOf sh i)) ((bOf L sh i : Nat) : Int) ((2 ^ bOf L sh i : Nat) : Int) _ ((baseOf L sh i : Nat) : Int) c1 c2 s' i (cellsAt L sh s' i) hg (by omega) (by omega) hc
        (i64_in _ (by omega)) (u32_in _ (by omega)) e52 (i64_in _ (by omega)) (by rw [i64_in _ (by omega)]; omega) e40 wxp (by rw [i64_in _ (by omega)]; omega) (by rw [i64_in _ (by omega)]; omega) (by rw [i64_in _ (by omega)]; omega)
      have ecell : [Sc.int .u8 (s' : Int), .int .i64 ((bOf L sh i : Nat) : Int), .int .i64 ((baseOf L sh i : Nat) : Int)] = cellSc L sh i := by simp [cellSc, List.getD, hs']
      rw [ecell, cellsAt_set hsD] at q2
      obtain ⟨env, r1, r2⟩ := loop20c t l sh S s' n hs hn j (i + 1) (K - 1) (by omega) (by omega)
      rw [hcs] at r1
      refine ⟨env, ?_, r2⟩
      rw [← hy, loopH_norm q1 (by omega), q2, r1]
    · rw [if_neg e] at hcs
      have hcs : ((symOf sh).take (i + 1)).count s = ((symOf sh).take i).count s := hcs
      obtain ⟨st1, q1, q2⟩ := skip37c t l L (2 ^ L : Nat) (n + ((symOf sh).take i).count s : Nat) n ((i + 1 : Nat) : Int) s' c1 c2 s i (cellsAt L sh s i) hg (by omega) (by omega) hc (i64_in _ (by omega)) (by omega) (by rw [i64_in _ (by omega)]; omega)
      obtain ⟨env, r1, r2⟩ := loop20c t l sh S s n hs hn j (i + 1) (K - 1) (by omega) (by omega)
      rw [hcs, cellsAt_skip (by rw [hsD]; exact e)] at r1
      refine ⟨env, ?_, r2⟩
      rw [loopH_norm q1 (by omega), q2, r1]
def canon20d (t : Nat) (l : List Int) (L size s : Int) (cs : List (List Sc)) : St :=
  ⟨[(0, .one (.ro t (.ints .i64 l))), (1, .one (.int .i64 L)), (5, .one (.int .i64 size)), (6, .one (.row 0)), (10, .one (.int .i64 s))],
    [.ro t (.ints .i64 l), .int .i64 L], [.rows (.recs 3 cs)]⟩
theorem body20d (t : Nat) (l : List Int) (L size n s' : Int) (s : Nat) (cs cs' : List (List Sc)) (env : Env) (hs : l[s]? = some n) (wi : IntKind.i64.wrap ((s : Int) + 1) = s')
    (e : loopH (evC T20 KK b20x2) [0, 1, 5, 6, 10, 11, 12] KK (canon20c t l L size s n 0 cs) = some (.exit 6, ⟨env, [.ro t (.ints .i64 l), .int .i64 L], [.rows (.recs 3 cs')]⟩))
    (g0 : getT 0 env = .one (.ro t (.ints .i64 l))) (g1 : getT 1 env = .one (.int .i64 L)) (g5 : getT 5 env = .one (.int .i64 size)) (g6 : getT 6 env = .one (.row 0)) (g10 : getT 10 env = .one (.int .i64 s)) :
    ∃ st1, evC T20 KK b20x3 (canon20d t l L size s cs) = some (.norm, st1) ∧ St.head [0, 1, 5, 6, 10] st1 = canon20d t l L size s' cs' := by
  have l1 := (List.getElem?_eq_some_iff.1 hs).1
  have l1i : (s : Int) < l.length := by omega
  have hs' : ∀ hh, l[s]'hh = n := fun hh => by rw [List.getElem?_eq_getElem hh] at hs; simpa using hs
  simp only [canon20c] at e
  simp -implicitDefEqProofs [b20x3, canon20d, upd, l1, l1i, hs, hs', wi, e, g0, g1, g5, g6, g10, RC.len, RC.size, RC.get]
theorem end20d (t : Nat) (l : List Int) (L size s : Int) (cs : List (List Sc)) (hi : ¬ s < l.length) :
    ∃ env, evC T20 KK b20x3 (canon20d t l L size s cs) = some (.exit 4, ⟨env, [.ro t (.ints .i64 l), .int .i64 L], [.rows (.recs 3 cs)]⟩) ∧ getT 6 env = .one (.row 0) := by
  simp -implicitDefEqProofs [b20x3, canon20d, upd, hi, RC.len]
theorem loop20d (t : Nat) (l : List Int) (sh : List Nat) {L : Nat} (S : Shr l L sh) : ∀ (j s : Nat) (K : Nat), s + j = sh.length → j < K →
    ∃ env, loopH (evC T20 KK b20x3) [0, 1, 5, 6, 10] K (canon20d t l L (2 ^ L : Nat) s (cellsAt L sh s 0)) = some (.exit 4, ⟨env, [.ro t (.ints .i64 l), .int .i64 L], [.rows (.recs 3 (cellsTo L sh (2 ^ L)))]⟩) ∧ getT 6 env = .one (.row 0)
  | 0, s, K, hj, hK => by
    have hl : l.length = sh.length := by rw [S.eq]; simp
    obtain rfl : s = sh.length := by omega
    obtain ⟨env, e, g⟩ := end20d t l L (2 ^ L : Nat) sh.length (cellsAt L sh sh.length 0) (by omega)
    have : cellsAt L sh sh.length 0 = cellsTo L sh (2 ^ L) := by
      apply List.map_congr_left
      intro j hj
      have hj := List.mem_range.1 hj
      have hsl : (symOf sh).length = 2 ^ L := by rw [symOf_length, S.sum]
      have h1 : (symOf sh)[j]? = some (symOf sh)[j] := List.getElem?_eq_getElem (by omega)
      have h2 := sym_lt S.sum S.lo h1
      rw [getD_some h1, if_pos (.inl h2), if_pos hj]
    rw [this] at e ⊢
    exact ⟨env, loopH_exit e, g⟩
  | j + 1, s, K, hj, hK => by
    have hl : l.length = sh.length := by rw [S.eq]; simp
    have hlen := S.len
    have hsz := S.size
    have hi : s < sh.length := by omega
    have hs : sh[s]? = some sh[s] := List.getElem?_eq_getElem hi
    have hg : l[s]? = some ((sh[s] : Nat) : Int) := by rw [S.eq]; simp [hi]
    have key : ∃ env, loopH (evC T20 KK b20x2) [0, 1, 5, 6, 10, 11, 12] KK (canon20c t l L (2 ^ L : Nat) s (sh[s] : Nat) (0 : Nat) (cellsAt L sh s 0)) = some (.exit 6, ⟨env, [.ro t (.ints .i64 l), .int .i64 L], [.rows (.recs 3 (cellsAt L sh (s + 1) 0))]⟩) ∧
      getT 0 env = .one (.ro t (.ints .i64 l)) ∧ getT 1 env = .one (.int .i64 L) ∧ getT 5 env = .one (.int .i64 (2 ^ L : Nat)) ∧ getT 6 env = .one (.row 0) ∧ getT 10 env = .one (.int .i64 s) := by
      rcases Nat.eq_zero_or_pos sh[s] with h0 | h0
      · obtain ⟨env, e, g⟩ := end20c t l L (2 ^ L : Nat) (sh[s] : Nat) (sh[s] : Nat) (0 : Nat) s (cellsAt L sh s 0) hg (.inr (by omega))
        have hno : ∀ j, j < 2 ^ L → (symOf sh).getD j 0 ≠ s := by
          intro j hj e
          have hsl : (symOf sh).length = 2 ^ L := by rw [symOf_length, S.sum]
          have h1 : (symOf sh)[j]? = some (symOf sh)[j] := List.getElem?_eq_getElem (by omega)
          rw [getD_some h1] at e
          rw [e] at h1
          have := rk_lt h1
          rw [sym_count S.sum S.lo, hs, h0] at this
          simp at this
        rw [cellsAt_none hno] at e
        rw [cellsAt_none hno]
        exact ⟨env, loopH_exit e, g⟩
      · have := loop20c t l sh S s sh[s] hs h0 (2 ^ L) 0 KK (by omega) (by rw [KK_eq]; omega)
        simpa using this
    obtain ⟨env0, ein, g0, g1, g5, g6, g10⟩ := key
    obtain ⟨st1, e1, e2⟩ := body20d t l L (2 ^ L : Nat) (sh[s] : Nat) ((s + 1 : Nat) : Int) s (cellsAt L sh s 0) _ env0 hg (by rw [i64_in _ (by omega)]; omega) ein g0 g1 g5 g6 g10
    obtain ⟨env, q1, q2⟩ := loop20d t l sh S j (s + 1) (K - 1) (by omega) (by omega)
    refine ⟨env, ?_, q2⟩
    rw [loopH_norm e1 (by omega), e2, q1]
theorem f20 (t : Nat) (l : List Int) (sh : List Nat) {L : Nat} (S : Shr l L sh) : F20 [.one (.ro t (.ints .i64 l)), .one (.int .i64 L)] [] = some (.one (.row 0), [.rows (.recs 3 (cellsTo L sh (2 ^ L)))]) := by
  have hsz := S.size
  have hlen := S.len
  have h5 := S.lo
  have h9 := S.hi
  have e40 := e40 (L : Int) (by omega) (by omega)
  rw [Int.toNat_natCast] at e40
  obtain ⟨env, ea, g0, g1, g5, g6⟩ := loop20b t l sh S sh.length 0 0 (List.replicate (2 ^ L) 0) KK (by omega) (by omega) (by simp) (by rw [KK_eq]; omega)
  obtain ⟨env2, eb, k6⟩ := loop20d t l sh S sh.length 0 KK (by omega) (by rw [KK_eq]; omega)
  have hsym : (place (2 ^ L) (2 ^ L / 2 + 2 ^ L / 8 + 3) (List.replicate (2 ^ L) 0) 0 (runs 0 (sh.drop 0))).1 = symOf sh := by
    unfold symOf; rw [S.sum]; rfl
  have hc0 : symCs (symOf sh) = cellsAt L sh 0 0 := by
    have hsl : (symOf sh).length = 2 ^ L := by rw [symOf_length, S.sum]
    apply List.ext_getElem (by simp [symCs, cellsAt, hsl])
    intro k h1 h2
    have hk : k < (symOf sh).length := by simpa [symCs] using h1
    simp [symCs, cellsAt, List.getD, List.getElem?_eq_getElem hk]
  have hz : symCs (List.replicate (2 ^ L) 0) = List.replicate (2 ^ L) [.int .u8 0, .int .i64 0, .int .i64 0] := by simp [symCs]
  rw [hsym, hc0, hz] at ea
  generalize cellsAt L sh 0 0 = cs0 at *
  generalize hcs : cellsTo L sh (2 ^ L) = cs at *
  generalize 2 ^ L = sz at *
  have n3 : (sz : Int) * 24 ≤ 140737488355328 := by omega
  have mk1 := fun n => mks_recs n 3 [.int .u8 0, .int .i64 0, .int .i64 0] rfl
  have z : ((0 : Nat) : Int) = 0 := rfl
  simp only [canon20b, canon20d, z] at ea eb
  simp -implicitDefEqProofs [F20, c20, upd, e40, ea, eb, g0, g1, g5, g6, k6, n3, mk1, RC.len, RC.size]
end Go.X.Try
set_option maxRecDepth 100000
set_option linter.unusedSimpArgs false
set_option linter.unusedVariables false
namespace Go.X.Try
open Go.IntWalk
theorem cellsTo_get {L : Nat} {sh : List Nat} {i : Nat} (h : i < 2 ^ L) : (cellsTo L sh (2 ^ L))[i]? = some (cellSc L sh i) := by
  simp [cellsTo, List.getElem?_map, List.getElem?_range h, h]
theorem awk_cell : (cellsTo 5 [32] 32)[7]? = some [Sc.int .u8 0, .int .i64 0, .int .i64 7] := by decide +kernel
theorem awk_fair : fairB [32] 5 = true := by decide
theorem awk_shr : Shr [32] 5 [32] := ⟨by decide, by decide, by decide, rfl, by decide⟩
def canon8 (l : List Int) (L st i : Int) (cs : List (List Sc)) (fi al : List Int) : St :=
  ⟨[(2, .one (.int .i64 st)), (7, .one (.ptr 0 0)), (11, .one (.row 5)), (72, .one (.row 5)), (73, .one (.int .i64 cs.length)), (74, .one (.int .i64 i))],
    [.ro 0 (.ints .i64 l), .int .i64 L, .int .i64 st], tabHp none L cs l fi al ++ [.rows (.recs 3 cs)]⟩
end Go.X.Try
set_option maxRecDepth 100000
set_option linter.unusedSimpArgs false
set_option linter.unusedVariables false
namespace Go.X.Try
open Go.IntWalk
/-! ### the document's state ahead -/
def canon68 (t : Nat) (st sb i : Int) (cs : List (List Sc)) : St :=
  ⟨[(0, .one (.ro t (.recs 3 cs))), (1, .one (.int .i64 st)), (2, .one (.int .u8 sb)), (9, .one (.int .i64 i))], [.ro t (.recs 3 cs), .int .i64 st, .int .u8 sb], []⟩
theorem miss49 (t : Nat) (st sb s b base p e i' : Int) (i : Nat) (cs : List (List Sc)) (hc : cs[i]? = some [.int .u8 s, .int .i64 b, .int .i64 base]) (e40 : F40 [.one (.int .i64 b)] [] = some (.one (.int .i64 p), [])) (we : IntKind.i64.wrap (base + p) = e) (h : ¬ s = sb ∨ ¬ base ≤ st ∨ ¬ st < e) (wi : IntKind.i64.wrap ((i : Int) + 1) = i') :
    ∃ st1, evC T68 KK b68x0 (canon68 t st sb i cs) = some (.norm, st1) ∧ St.head [0, 1, 2, 9] st1 = canon68 t st sb i' cs := by
  have l2 := (List.getElem?_eq_some_iff.1 hc).1
  have l2i : (i : Int) < cs.length := by omega
  have hc' : ∀ hh, cs[i]'hh = [Sc.int .u8 s, .int .i64 b, .int .i64 base] := fun hh => by rw [List.getElem?_eq_getElem hh] at hc; simpa using hc
  by_cases h1 : s = sb
  · subst h1
    by_cases h2 : base ≤ st
    · have h3 : ¬ st < e := by
        rcases h with h | h | h
        · exact absurd rfl h
        · exact absurd h2 h
        · exact h
      simp -implicitDefEqProofs [b68x0, canon68, upd, l2, l2i, hc, hc', wi, e40, we, h2, h3, takeE, RC.len, RC.size, RC.get, RC.elem]
    · simp -implicitDefEqProofs [b68x0, canon68, upd, l2, l2i, hc, hc', wi, e40, we, h2, takeE, RC.len, RC.size, RC.get, RC.elem]
  · simp -implicitDefEqProofs [b68x0, canon68, upd, l2, l2i, hc, hc', wi, e40, we, h1, takeE, RC.len, RC.size, RC.get, RC.elem]
theorem hit49 (t : Nat) (st s b base p e r : Int) (i : Nat) (cs : List (List Sc)) (hc : cs[i]? = some [.int .u8 s, .int .i64 b, .int .i64 base]) (e40 : F40 [.one (.int .i64 b)] [] = some (.one (.int .i64 p), [])) (we : IntKind.i64.wrap (base + p) = e) (h2 : base ≤ st) (h3 : st < e) (wr : IntKind.i64.wrap (st - base) = r) :
    ∃ env hp, evC T68 KK b68x0 (canon68 t st s i cs) = some (.ret, ⟨env, [.ro t (.recs 3 cs), .int .i64 st, .int .u8 s], hp⟩) ∧ getT 6 env = .one (.int .i64 i) ∧ getT 7 env = .one (.int .i64 r) ∧ getT 8 env = .one (.bool true) := by
  have l2 := (List.getElem?_eq_some_iff.1 hc).1
  have l2i : (i : Int) < cs.length := by omega
  have hc' : ∀ hh, cs[i]'hh = [Sc.int .u8 s, .int .i64 b, .int .i64 base] := fun hh => by rw [List.getElem?_eq_getElem hh] at hc; simpa using hc
  simp -implicitDefEqProofs [b68x0, canon68, upd, l2, l2i, hc, hc', e40, we, h2, h3, wr, takeE, RC.len, RC.size, RC.get, RC.elem]
theorem end68 (t : Nat) (st sb i : Int) (cs : List (List Sc)) (h : ¬ i < cs.length) :
    ∃ env, evC T68 KK b68x0 (canon68 t st sb i cs) = some (.exit 0, ⟨env, [.ro t (.recs 3 cs), .int .i64 st, .int .u8 sb], []⟩) := by
  simp -implicitDefEqProofs [b68x0, canon68, upd, h, RC.len]
/-- A cell in which a state lies. -/
def inCell (st sb : Int) : List Sc → Bool
  | [.int _ s, .int _ b, .int _ base] => decide (s = sb ∧ base ≤ st ∧ st < base + ((2 ^ b.toNat : Nat) : Int))
  | _ => false
/-- What a table's cells are. -/
def CellOk (c : List Sc) : Prop := ∃ s b base : Int, c = [.int .u8 s, .int .i64 b, .int .i64 base] ∧ 0 ≤ b ∧ b ≤ 10 ∧ 0 ≤ base ∧ base ≤ 2000
theorem pw10 {b : Int} (h0 : 0 ≤ b) (h1 : b ≤ 10) : (((2 ^ b.toNat : Nat)) : Int) ≤ 1024 ∧ 1 ≤ (((2 ^ b.toNat : Nat)) : Int) := by
  have : 2 ^ b.toNat ≤ 2 ^ 10 := Nat.pow_le_pow_right (by omega) (by omega)
  have := Nat.two_pow_pos b.toNat
  omega
theorem loop68 (t : Nat) (st sb : Int) (cs : List (List Sc)) (hcs : cs.length ≤ 1000) (hok : ∀ (i : Nat) (c : List Sc), cs[i]? = some c → CellOk c) (i0 : Nat) (hb : ∀ (i : Nat) (c : List Sc), i < i0 → cs[i]? = some c → inCell st sb c = false) : ∀ (j i K : Nat), i + j = i0 → i0 ≤ cs.length → j < K →
    ∃ K', 0 < K' ∧ K ≤ K' + j ∧ loopH (evC T68 KK b68x0) [0, 1, 2, 9] K (canon68 t st sb i cs) = loopH (evC T68 KK b68x0) [0, 1, 2, 9] K' (canon68 t st sb i0 cs)
  | 0, i, K, hj, h0, hK => by
    obtain rfl : i = i0 := by omega
    exact ⟨K, hK, by omega, rfl⟩
  | j + 1, i, K, hj, h0, hK => by
    obtain ⟨c, hc⟩ : ∃ c, cs[i]? = some c := ⟨_, List.getElem?_eq_getElem (by omega)⟩
    obtain ⟨s, b, base, rfl, b0, b1, b2, b3⟩ := hok i c hc
    have hm := hb i _ (by omega) hc
    have hp := pw10 b0 b1
    have e40 := e40 b b0 (by omega)
    simp only [inCell, decide_eq_false_iff_not] at hm
    obtain ⟨st1, e1, e2⟩ := miss49 t st sb s b base _ _ ((i + 1 : Nat) : Int) i cs hc e40 (i64_in _ (by omega)) (by
      by_cases x1 : s = sb
      · by_cases x2 : base ≤ st
        · exact .inr (.inr fun x3 => hm ⟨x1, x2, x3⟩)
        · exact .inr (.inl x2)
      · exact .inl x1) (by rw [i64_in _ (by omega)]; omega)
    obtain ⟨K', q1, q2, q3⟩ := loop68 t st sb cs hcs hok i0 hb j (i + 1) (K - 1) (by omega) h0 (by omega)
    exact ⟨K', q1, by omega, by rw [loopH_norm e1 (by omega), e2, q3]⟩
theorem f68 (t : Nat) (st s b base : Int) (cs : List (List Sc)) (hcs : cs.length ≤ 1000) (hok : ∀ (i : Nat) (c : List Sc), cs[i]? = some c → CellOk c) (i0 : Nat) (hb : ∀ (i : Nat) (c : List Sc), i < i0 → cs[i]? = some c → inCell st s c = false) (hc : cs[i0]? = some [.int .u8 s, .int .i64 b, .int .i64 base]) (hin : base ≤ st ∧ st < base + ((2 ^ b.toNat : Nat) : Int)) :
    F68 [.one (.ro t (.recs 3 cs)), .one (.int .i64 st), .one (.int .u8 s)] [] = some (.tup [.one (.int .i64 i0), .one (.int .i64 (st - base)), .one (.bool true)], []) := by
  have l2 := (List.getElem?_eq_some_iff.1 hc).1
  obtain ⟨s', b', base', e0, b0, b1, b2, b3⟩ := hok i0 _ hc
  simp only [List.cons.injEq, Sc.int.injEq, true_and, and_true] at e0
  obtain ⟨rfl, rfl, rfl⟩ := e0
  have hp := pw10 b0 b1
  have e40 := e40 b b0 (by omega)
  obtain ⟨K', q1, q2, q3⟩ := loop68 t st s cs hcs hok i0 hb i0 0 KK (by omega) (by omega) (by rw [KK_eq]; omega)
  obtain ⟨env, hp', r1, r6, r7, r8⟩ := hit49 t st s b base _ _ (st - base) i0 cs hc e40 (i64_in _ (by omega)) hin.1 hin.2 (i64_in _ (by omega))
  rw [loopH_ret r1] at q3
  have z : ((0 : Nat) : Int) = 0 := rfl
  simp only [canon68, z] at q3
  simp -implicitDefEqProofs [F68, c68, upd, q3, r6, r7, r8, RC.len]
theorem f68n (t : Nat) (st s : Int) (cs : List (List Sc)) (hcs : cs.length ≤ 1000) (hok : ∀ (i : Nat) (c : List Sc), cs[i]? = some c → CellOk c) (hb : ∀ (i : Nat) (c : List Sc), i < cs.length → cs[i]? = some c → inCell st s c = false) :
    F68 [.one (.ro t (.recs 3 cs)), .one (.int .i64 st), .one (.int .u8 s)] [] = some (.tup [.one (.int .i64 0), .one (.int .i64 0), .one (.bool false)], []) := by
  obtain ⟨K', q1, q2, q3⟩ := loop68 t st s cs hcs hok cs.length hb cs.length 0 KK (by omega) (by omega) (by rw [KK_eq]; omega)
  obtain ⟨env, r1⟩ := end68 t st s cs.length cs (by omega)
  rw [loopH_exit r1] at q3
  have z : ((0 : Nat) : Int) = 0 := rfl
  simp only [canon68, z] at q3
  simp -implicitDefEqProofs [F68, c68, upd, q3, RC.len]
/-! ### a share's cells -/
theorem cellSc_ok {l : List Int} {sh : List Nat} {L : Nat} (S : Shr l L sh) {i : Nat} (hi : i < 2 ^ L) : ∃ s n : Nat, (symOf sh)[i]? = some s ∧ sh[s]? = some n ∧ yOf sh i = n + ((symOf sh).take i).count s ∧ ((symOf sh).take i).count s < n ∧ n ≤ 2 ^ L ∧ s < 256 ∧
    cellSc L sh i = [.int .u8 s, .int .i64 (bOf L sh i : Nat), .int .i64 (baseOf L sh i : Nat)] ∧ bOf L sh i ≤ L ∧ baseOf L sh i + 2 ^ L = yOf sh i * 2 ^ bOf L sh i ∧ (yOf sh i + 1) * 2 ^ bOf L sh i ≤ 2 ^ (L + 1) := by
  have hsl : (symOf sh).length = 2 ^ L := by rw [symOf_length, S.sum]
  obtain ⟨s, hs⟩ : ∃ s, (symOf sh)[i]? = some s := ⟨_, List.getElem?_eq_getElem (by omega)⟩
  obtain ⟨n, hn, hy, hr, hnL⟩ := y_bd S.sum S.lo hs
  have hlt := sym_lt S.sum S.lo hs
  have hlen := S.len
  have hyb : yOf sh i < 2 ^ (L + 1) := by rw [Nat.pow_succ]; omega
  obtain ⟨b1, b2, b3, b4⟩ := cell_bd (L := L) (y := yOf sh i) (by omega) hyb
  have hb : bOf L sh i = L + 1 - bl (yOf sh i) := rfl
  have hbase : baseOf L sh i = yOf sh i * 2 ^ bOf L sh i - 2 ^ L := rfl
  rw [← hb] at b3 b4
  exact ⟨s, n, hs, hn, hy, hr, hnL, by omega, by simp [cellSc, List.getD, hs], by omega, by omega, b4⟩
theorem cells_ok {l : List Int} {sh : List Nat} {L : Nat} (S : Shr l L sh) (i : Nat) (c : List Sc) (h : (cellsTo L sh (2 ^ L))[i]? = some c) : CellOk c := by
  have hi : i < 2 ^ L := by have := (List.getElem?_eq_some_iff.1 h).1; rw [cellsTo_length] at this; exact this
  rw [cellsTo_get hi] at h
  simp only [Option.some.injEq] at h
  subst h
  obtain ⟨s, n, h1, h2, h3, h4, h5, h6, h7, h8, h9, h10⟩ := cellSc_ok S hi
  have hsz := S.size
  have h9' := S.hi
  have hmul : yOf sh i * 2 ^ bOf L sh i ≤ (yOf sh i + 1) * 2 ^ bOf L sh i := Nat.mul_le_mul_right _ (by omega)
  rw [Nat.pow_succ] at h10
  exact ⟨s, _, _, h7, by omega, by omega, by omega, by omega⟩
end Go.X.Try
set_option maxRecDepth 100000
set_option linter.unusedSimpArgs false
set_option linter.unusedVariables false
namespace Go.X.Try
open Go.IntWalk
theorem u8_rng (x : Int) : ∃ n : Nat, IntKind.u8.wrap x = n ∧ n < 256 := by
  have h : 0 ≤ IntKind.u8.wrap x ∧ IntKind.u8.wrap x < 256 := by
    simp [IntKind.wrap, IntKind.bits, IntKind.signed]
    omega
  exact ⟨(IntKind.u8.wrap x).toNat, by omega, by omega⟩
/-- In which state of a symbol another one lies. -/
theorem in_iff {l : List Int} {sh : List Nat} {L : Nat} (S : Shr l L sh) {st sb n k i : Nat} (hst : st < 2 ^ L) (hn : sh[sb]? = some n) (hn1 : 1 ≤ n) (hk1 : (st + 2 ^ L) / 2 ^ k < 2 * n) (hk2 : n ≤ (st + 2 ^ L) / 2 ^ k) (hi : i < 2 ^ L) :
    inCell st sb (cellSc L sh i) = decide ((symOf sh)[i]? = some sb ∧ n + ((symOf sh).take i).count sb = (st + 2 ^ L) / 2 ^ k) := by
  obtain ⟨s, m, h1, h2, h3, h4, h5, h6, h7, h8, h9, h10⟩ := cellSc_ok S hi
  rw [h7]
  simp only [inCell, h1, Option.some.injEq, Int.toNat_natCast]
  by_cases e : s = sb
  · subst e
    rw [hn] at h2; simp at h2; subst h2
    have hb : bOf L sh i = L + 1 - bl (yOf sh i) := rfl
    have := back_iff (L := L) (n := n) (x := st + 2 ^ L) (k := k) (y := yOf sh i) hn1 (by omega) (by rw [Nat.pow_succ]; omega) hk1 hk2 (by omega) (by omega)
    rw [← hb] at this
    rw [← h3]
    congr 1
    rw [eq_iff_iff]
    simp only [true_and]
    rw [← this, Nat.add_mul, Nat.one_mul]
    constructor
    · rintro ⟨a, b⟩; omega
    · rintro ⟨a, b⟩; exact ⟨by omega, by omega⟩
  · have : ¬ (s : Int) = sb := by omega
    simp [e, this]
end Go.X.Try
set_option maxRecDepth 100000
set_option linter.unusedSimpArgs false
set_option linter.unusedVariables false
namespace Go.X.Try
open Go.IntWalk
/-! ### the state ahead: which cell -/
theorem ex_k (n : Nat) (hn : 1 ≤ n) : ∀ (m x : Nat), x ≤ m → n ≤ x → ∃ k, x / 2 ^ k < 2 * n ∧ n ≤ x / 2 ^ k
  | 0, x, h, h1 => by omega
  | m + 1, x, h, h1 => by
    by_cases hx : x < 2 * n
    · exact ⟨0, by simpa using hx, by simpa using h1⟩
    · obtain ⟨k, a, b⟩ := ex_k n hn m (x / 2) (by omega) (by omega)
      refine ⟨k + 1, ?_, ?_⟩ <;> rw [Nat.pow_succ, Nat.mul_comm, ← Nat.div_div_eq_div_mul] <;> assumption
def bk (L : Nat) (sh : List Nat) (st sb : Nat) : Option Nat := (List.range (2 ^ L)).find? fun i => inCell st sb (cellSc L sh i)
theorem in_cell {l : List Int} {sh : List Nat} {L : Nat} (S : Shr l L sh) {i : Nat} (hi : i < 2 ^ L) (st sb : Nat) :
    inCell st sb (cellSc L sh i) = true ↔ (symOf sh)[i]? = some sb ∧ baseOf L sh i ≤ st ∧ st < baseOf L sh i + 2 ^ bOf L sh i := by
  obtain ⟨s, m, h1, h2, h3, h4, h5, h6, h7, h8, h9, h10⟩ := cellSc_ok S hi
  rw [h7, h1]
  simp only [inCell, decide_eq_true_eq, Int.toNat_natCast, Option.some.injEq]
  omega
theorem bk_uniq {l : List Int} {sh : List Nat} {L : Nat} (S : Shr l L sh) {st sb i j : Nat} (hst : st < 2 ^ L) (hi : i < 2 ^ L) (hj : j < 2 ^ L) (h1 : inCell st sb (cellSc L sh i) = true) (h2 : inCell st sb (cellSc L sh j) = true) : i = j := by
  have a1 := (in_cell S hi st sb).1 h1
  obtain ⟨n, hn, hy, hr, hnL⟩ := y_bd S.sum S.lo a1.1
  obtain ⟨k, hk1, hk2⟩ := ex_k n (by omega) (st + 2 ^ L) (st + 2 ^ L) (by omega) (by omega)
  rw [in_iff S hst hn (by omega) hk1 hk2 hi, decide_eq_true_eq] at h1
  rw [in_iff S hst hn (by omega) hk1 hk2 hj, decide_eq_true_eq] at h2
  exact rk_inj h1.1 h2.1 (by omega)
theorem bk_some {l : List Int} {sh : List Nat} {L : Nat} (S : Shr l L sh) {st sb i : Nat} (h : bk L sh st sb = some i) :
    i < 2 ^ L ∧ (symOf sh)[i]? = some sb ∧ baseOf L sh i ≤ st ∧ st < baseOf L sh i + 2 ^ bOf L sh i := by
  have h1 := List.find?_some h
  have h2 := List.mem_of_find?_eq_some h
  rw [List.mem_range] at h2
  exact ⟨h2, (in_cell S h2 st sb).1 h1⟩
theorem bk_of {l : List Int} {sh : List Nat} {L : Nat} (S : Shr l L sh) {st sb i : Nat} (hst : st < 2 ^ L) (hi : i < 2 ^ L) (h : (symOf sh)[i]? = some sb) (h1 : baseOf L sh i ≤ st) (h2 : st < baseOf L sh i + 2 ^ bOf L sh i) : bk L sh st sb = some i := by
  have hc := (in_cell S hi st sb).2 ⟨h, h1, h2⟩
  cases e : bk L sh st sb with
  | none =>
    have := List.find?_eq_none.1 e i (List.mem_range.2 hi)
    exact absurd hc this
  | some j =>
    have h3 := List.find?_some e
    have h4 := List.mem_of_find?_eq_some e
    rw [List.mem_range] at h4
    rw [bk_uniq S hst hi h4 hc h3]
theorem bk_before {L : Nat} {sh : List Nat} {st sb i : Nat} (h : bk L sh st sb = some i) {j : Nat} (hj : j < i) : inCell st sb (cellSc L sh j) = false := by
  obtain ⟨_, us, vs, e, hn⟩ := List.find?_eq_some_iff_append.1 h
  have hlen : us.length = i := by
    have h1 : (List.range (2 ^ L))[us.length]? = some i := by rw [e]; simp
    rw [List.getElem?_eq_some_iff] at h1
    obtain ⟨_, h1⟩ := h1
    simpa using h1
  have hjm : j ∈ us := by
    have h1 : (List.range (2 ^ L))[j]? = us[j]? := by rw [e]; exact List.getElem?_append_left (by omega)
    have h2 : j < 2 ^ L := by
      have := congrArg List.length e
      simp only [List.length_range, List.length_append, List.length_cons] at this
      omega
    rw [List.getElem?_range h2] at h1
    exact List.mem_of_getElem? h1.symm
  have := hn j hjm
  simpa using this
/-- Symbols that have no state. -/
theorem bk_none {l : List Int} {sh : List Nat} {L : Nat} (S : Shr l L sh) {st sb : Nat} (hst : st < 2 ^ L) : bk L sh st sb = none ↔ ¬ ∃ n, sh[sb]? = some n ∧ 0 < n := by
  constructor
  · rintro h ⟨n, hn, h0⟩
    have hle : n ≤ 2 ^ L := by
      obtain ⟨h3, h4⟩ := List.getElem?_eq_some_iff.1 hn
      have h1 := fstS_succ h3
      have h2 := fstS_le sh (sb + 1)
      have := S.sum
      omega
    obtain ⟨k, hk1, hk2⟩ := ex_k n h0 (st + 2 ^ L) (st + 2 ^ L) (by omega) (by omega)
    obtain ⟨i, hi, hrk⟩ := rk_find (symOf sh) sb ((st + 2 ^ L) / 2 ^ k - n) (by rw [sym_count S.sum S.lo, hn]; simp; omega)
    have hsyl : (symOf sh).length = 2 ^ L := by rw [symOf_length, S.sum]
    have hil : i < 2 ^ L := by have := (List.getElem?_eq_some_iff.1 hi).1; omega
    have h1 := List.find?_eq_none.1 h i (List.mem_range.2 hil)
    rw [in_iff S hst hn h0 hk1 hk2 hil] at h1
    exact h1 (by simp only [decide_eq_true_eq]; exact ⟨hi, by omega⟩)
  · intro h
    cases e : bk L sh st sb with
    | none => rfl
    | some i =>
      obtain ⟨h1, h2, _⟩ := bk_some S e
      obtain ⟨n, hn, _, hr, _⟩ := y_bd S.sum S.lo h2
      exact absurd ⟨n, hn, by omega⟩ h
/-! ### the functions that tell it -/
def bkO (L : Nat) (sh : List Nat) (st : Nat) : Option Nat → AV
  | some i => .tup [.one (.int .i64 i), .one (.int .i64 (st - baseOf L sh i : Nat)), .one (.int .i64 (bOf L sh i : Nat)), .one (.bool true)]
  | none => .tup [.one (.int .i64 0), .one (.int .i64 0), .one (.int .i64 0), .one (.bool false)]
def bkR (L : Nat) (sh : List Nat) (st : Nat) : Option Nat → AV
  | some i => .tup [.one (.int .i64 i), .one (.int .i64 (st - baseOf L sh i : Nat)), .one (.bool true)]
  | none => .tup [.one (.int .i64 0), .one (.int .i64 0), .one (.bool false)]
def tabOf (g : Option Nat) (L : Nat) (sh : List Nat) (l al : List Int) : List Ob := tabHp g L (cellsTo L sh (2 ^ L)) l (fiTo sh sh.length) al
theorem bk90 {l : List Int} {sh : List Nat} {L : Nat} (S : Shr l L sh) {al : List Int} (hok : AllOk sh (2 ^ L) al) {st sb : Nat} (hst : st < 2 ^ L) (hsb : sb < 256) :
    F90 [.one (.ptr 0 0), .one (.int .i64 st), .one (.int .u8 sb)] (tabOf (some 0) L sh l al) = some (bkO L sh st (bk L sh st sb), tabOf (some 0) L sh l al) := by
  have hsz := S.size
  have h9 := S.hi
  have hlen := S.len
  have hl : l.length = sh.length := by rw [S.eq]; simp
  have hcl : (cellsTo L sh (2 ^ L)).length = 2 ^ L := cellsTo_length _ _ _
  unfold tabOf
  cases e : bk L sh st sb with
  | none =>
    have h0 := (bk_none S hst).1 e
    refine f90n L st sb hsb _ l _ al (.inr ?_)
    by_cases hs : sb < sh.length
    · right
      have hnn : sh[sb]? = some sh[sb] := List.getElem?_eq_getElem hs
      have hg : l[sb]? = some ((sh[sb] : Nat) : Int) := by rw [S.eq, List.getElem?_map, hnn]; rfl
      rw [hg]
      rcases Nat.eq_zero_or_pos sh[sb] with h | h
      · rw [h]; rfl
      · exact absurd ⟨_, hnn, h⟩ h0
    · left; omega
  | some i =>
    obtain ⟨hil, hi, hb1, hb2⟩ := bk_some S e
    obtain ⟨s', n, q1, hnn, q3, q4, hle, q6, q7, q8, q9, q10⟩ := cellSc_ok S hil
    rw [hi] at q1; simp at q1; subst q1
    have hsl : sb < sh.length := (List.getElem?_eq_some_iff.1 hnn).1
    have hg : l[sb]? = some (n : Int) := by rw [S.eq, List.getElem?_map, hnn]; rfl
    have hfle := fstS_le sh sb
    rw [S.sum] at hfle
    obtain ⟨k, hk1, hk2, hk3, hrun⟩ := f90 L st sb n (fstS sh sb) hsb (cellsTo L sh (2 ^ L)) l (fiTo sh sh.length) al (by omega) (by omega) hg (by omega) (by simp [fiTo, List.getElem?_map, List.getElem?_range hsl, hsl]) (by omega)
    rw [hcl] at hk1 hk2 hrun
    have hk4 : n ≤ (st + 2 ^ L) / 2 ^ k := by
      rcases Nat.eq_zero_or_pos k with h | h
      · subst h; rw [Nat.pow_zero, Nat.div_one]; omega
      · obtain ⟨d, rfl⟩ : ∃ d, k = d + 1 := ⟨k - 1, by omega⟩
        have := hk2 d (by omega)
        rw [Nat.pow_succ, ← Nat.div_div_eq_div_mul]; omega
    have hic := (in_cell S hil st sb).2 ⟨hi, hb1, hb2⟩
    rw [in_iff S hst hnn (by omega) hk1 hk4 hil, decide_eq_true_eq] at hic
    have hal0 := hok i sb hil hi
    have e48 := hrun (fstS sh sb + ((symOf sh).take i).count sb) i (by omega) hal0
    have hy0 : yOf sh i = (st + 2 ^ L) / 2 ^ k := by omega
    have hkx : 2 ^ k ≤ st + 2 ^ L := by
      rcases Nat.lt_or_ge (st + 2 ^ L) (2 ^ k) with h | h
      · rw [Nat.div_eq_of_lt h] at hk4; omega
      · exact h
    have hbk : bOf L sh i = k := by unfold bOf; rw [hy0]; exact bits_div (by omega) (by rw [Nat.pow_succ]; omega) hkx
    rw [hbk, hy0] at q9
    have hdm := Nat.div_add_mod (st + 2 ^ L) (2 ^ k)
    rw [Nat.mul_comm] at hdm
    have hvb : st - baseOf L sh i = (st + 2 ^ L) % 2 ^ k := by omega
    simp only [bkO, hbk, hvb]
    exact e48
theorem bk68 (t : Nat) {l : List Int} {sh : List Nat} {L : Nat} (S : Shr l L sh) {st sb : Nat} (hst : st < 2 ^ L) :
    F68 [.one (.ro t (.recs 3 (cellsTo L sh (2 ^ L)))), .one (.int .i64 st), .one (.int .u8 sb)] [] = some (bkR L sh st (bk L sh st sb), []) := by
  have hsz := S.size
  have okA := cells_ok S
  have hcl : (cellsTo L sh (2 ^ L)).length = 2 ^ L := cellsTo_length _ _ _
  cases e : bk L sh st sb with
  | none =>
    refine f68n t st sb (cellsTo L sh (2 ^ L)) (by omega) okA (fun i c hi hc => ?_)
    have hil : i < 2 ^ L := by omega
    rw [cellsTo_get hil] at hc
    simp only [Option.some.injEq] at hc; subst hc
    simpa using List.find?_eq_none.1 e i (List.mem_range.2 hil)
  | some i =>
    obtain ⟨hil, hi, hb1, hb2⟩ := bk_some S e
    obtain ⟨s', n, q1, hnn, q3, q4, hle, q6, q7, q8, q9, q10⟩ := cellSc_ok S hil
    rw [hi] at q1; simp at q1; subst q1
    have hci := cellsTo_get (sh := sh) hil
    rw [q7] at hci
    have e68 := f68 t st sb (bOf L sh i : Nat) (baseOf L sh i : Nat) (cellsTo L sh (2 ^ L)) (by omega) okA i (fun j c hj hc => by
      have hjl : j < 2 ^ L := by omega
      rw [cellsTo_get hjl] at hc
      simp only [Option.some.injEq] at hc; subst hc
      exact bk_before e hj) hci (by rw [Int.toNat_natCast]; omega)
    have hvb : (st : Int) - (baseOf L sh i : Nat) = ((st - baseOf L sh i : Nat) : Int) := by omega
    rw [hvb] at e68
    exact e68
end Go.X.Try
set_option maxRecDepth 100000
set_option linter.unusedSimpArgs false
namespace Go.X.Try
open Go.IntWalk
def bufHp (g : Option Nat) (bs : List Int) (n : Int) : List Ob := [.cells g [.row 1, .int .i64 n], .rows (.ints .u8 bs)]
theorem f91a (n : Int) (h : 0 ≤ n ∧ n ≤ 32) : F91 [.one (.int .i64 n)] [] = some (.one (.bool true), []) := by
  obtain ⟨h1, h2⟩ := h
  simp -implicitDefEqProofs [F91, c91, h1, h2]
theorem f91b (n : Int) (h : n < 0 ∨ 32 < n) : F91 [.one (.int .i64 n)] [] = some (.one (.bool false), []) := by
  by_cases h1 : 0 ≤ n
  · have h2 : ¬ n ≤ 32 := by omega
    simp -implicitDefEqProofs [F91, c91, h1, h2]
  · simp -implicitDefEqProofs [F91, c91, h1]
def canon44 (n v got : Int) (bs : List Int) (at_ : Int) : St :=
  ⟨[(0, .one (.ptr 0 0)), (1, .one (.int .i64 n)), (6, .one (.int .u32 v)), (7, .one (.int .i64 got))], [.ptr 0 0, .int .i64 n], bufHp (some 0) bs at_⟩
end Go.X.Try
set_option maxRecDepth 100000
set_option linter.unusedSimpArgs false
namespace Go.X.Try
open Go.IntWalk
def canon69 (v n i : Int) (out : List Int) : St :=
  ⟨[(0, .one (.int .u32 v)), (1, .one (.int .i64 n)), (5, .one (.row 0)), (6, .one (.int .i64 i))], [.int .u32 v, .int .i64 n], [.rows (.ints .i64 out)]⟩
theorem body69 (v n i i' s r : Int) (out : List Int) (h : i < n) (hi0 : ¬ i < 0) (es : shrI .u32 v i = s) (ew : IntKind.i64.wrap s = s) (er : s.tmod 2 = r) (ei : IntKind.i64.wrap (i + 1) = i') (hm : (out.length + 1) * 8 ≤ 140737488355328) :
    ∃ st1, evC T69 KK b69x0 (canon69 v n i out) = some (.norm, st1) ∧ St.head [0, 1, 5, 6] st1 = canon69 v n i' (out ++ [r]) := by
  simp -implicitDefEqProofs [b69x0, canon69, upd, h, hi0, es, ew, er, ei, hm, RC.len, RC.size, RC.app, RC.ofElems]
theorem end69 (v n i : Int) (out : List Int) (h : ¬ i < n) :
    ∃ env, evC T69 KK b69x0 (canon69 v n i out) = some (.exit 0, ⟨env, [.int .u32 v, .int .i64 n], [.rows (.ints .i64 out)]⟩) ∧ getT 5 env = .one (.row 0) := by
  simp -implicitDefEqProofs [b69x0, canon69, upd, h]
theorem loop69 (v n : Nat) (hv : v < 2 ^ 32) (hn : n ≤ 32) : ∀ (j i : Nat) (K : Nat), i + j = n → j < K →
    ∃ env, loopH (evC T69 KK b69x0) [0, 1, 5, 6] K (canon69 v n i (ofN v i)) = some (.exit 0, ⟨env, [.int .u32 v, .int .i64 n], [.rows (.ints .i64 (ofN v n))]⟩) ∧ getT 5 env = .one (.row 0)
  | 0, i, K, hi, hK => by
    obtain rfl : i = n := by omega
    obtain ⟨env, e, g⟩ := end69 v i i (ofN v i) (by omega)
    exact ⟨env, loopH_exit e, g⟩
  | j + 1, i, K, hi, hK => by
    have hs : v / 2 ^ i < 2 ^ 32 := Nat.lt_of_le_of_lt (Nat.div_le_self _ _) hv
    have ew : IntKind.i64.wrap ((v / 2 ^ i : Nat) : Int) = ((v / 2 ^ i : Nat) : Int) := by
      generalize v / 2 ^ i = s at hs ⊢
      exact i64_in _ (by omega)
    have er : ((v / 2 ^ i : Nat) : Int).tmod 2 = ((v / 2 ^ i % 2 : Nat) : Int) := by
      generalize v / 2 ^ i = s
      rw [Int.tmod_eq_emod_of_nonneg (by omega)]; omega
    obtain ⟨st1, e1, e2⟩ := body69 v n i (i + 1 : Nat) (v / 2 ^ i : Nat) (v / 2 ^ i % 2 : Nat) (ofN v i) (by omega) (by omega) (shr_in (by simp only [IntKind.bits]; omega)) ew er (by rw [i64_in _ (by omega)]; omega) (by rw [ofN_length]; omega)
    obtain ⟨env, e, g⟩ := loop69 v n hv hn j (i + 1) (K - 1) (by omega) (by omega)
    refine ⟨env, ?_, g⟩
    rw [loopH_norm e1 (by omega), e2, ← ofN_snoc]
    exact e
theorem f69 (v n : Nat) (hv : v < 2 ^ 32) (hn : n ≤ 32) : F69 [.one (.int .u32 v), .one (.int .i64 n)] [] = some (.one (.row 0), [.rows (.ints .i64 (ofN v n))]) := by
  obtain ⟨env, e, g⟩ := loop69 v n hv hn n 0 KK (by omega) (by rw [KK_eq]; omega)
  have z : ((0 : Nat) : Int) = 0 := rfl
  simp only [canon69, ofN, z] at e
  simp -implicitDefEqProofs [F69, c69, upd, e, g]
def canon51 (t : Nat) (l : List Int) (v i : Int) : St :=
  ⟨[(0, .one (.ro t (.ints .i64 l))), (3, .one (.int .u32 v)), (4, .one (.int .i64 i))], [.ro t (.ints .i64 l)], []⟩
theorem body51 (t : Nat) (l : List Int) (v i i' b m s : Int) (h : 0 ≤ i) (hi : i < l.length) (hb : l[i.toNat]?.getD 0 = b) (em : IntKind.u32.wrap (v * 2) = m) (ew : IntKind.u32.wrap b = b) (es : IntKind.u32.wrap (m + b) = s) (ei : IntKind.i64.wrap (i - 1) = i') :
    ∃ st1, evC T51 KK b51x0 (canon51 t l v i) = some (.norm, st1) ∧ St.head [0, 3, 4] st1 = canon51 t l s i' := by
  have hb' : l[i.toNat]'(by omega) = b := by rw [List.getElem?_eq_getElem (by omega)] at hb; exact hb
  simp -implicitDefEqProofs [b51x0, canon51, upd, h, hi, hb, hb', em, ew, es, ei, RC.len, RC.size, RC.get]
theorem end51 (t : Nat) (l : List Int) (v i : Int) (h : ¬ 0 ≤ i) :
    ∃ env, evC T51 KK b51x0 (canon51 t l v i) = some (.exit 0, ⟨env, [.ro t (.ints .i64 l)], []⟩) ∧ getT 3 env = .one (.int .u32 v) := by
  simp -implicitDefEqProofs [b51x0, canon51, upd, h]
theorem loop51 (t : Nat) (l : List Int) (hN : isN l) (hl : l.length ≤ 32) : ∀ (j : Nat) (K : Nat), j ≤ l.length → j < K →
    ∃ env, loopH (evC T51 KK b51x0) [0, 3, 4] K (canon51 t l (leN (l.drop j) : Nat) ((j : Int) - 1)) = some (.exit 0, ⟨env, [.ro t (.ints .i64 l)], []⟩) ∧ getT 3 env = .one (.int .u32 (leN l : Nat))
  | 0, K, hj, hK => by
    obtain ⟨env, e, g⟩ := end51 t l (leN (l.drop 0) : Nat) (((0 : Nat) : Int) - 1) (by omega)
    exact ⟨env, loopH_exit e, g⟩
  | j + 1, K, hj, hK => by
    have hlt : j < l.length := by omega
    have hd : l.drop j = l[j] :: l.drop (j + 1) := List.drop_eq_getElem_cons hlt
    have hb := hN l[j] (List.getElem_mem hlt)
    have hN2 : isN (l.drop (j + 1)) := fun x hx => hN x (List.mem_of_mem_drop hx)
    have hv := leN_lt hN2
    rw [List.length_drop] at hv
    have hv2 : leN (l.drop (j + 1)) < 2 ^ 31 := Nat.lt_of_lt_of_le hv (Nat.pow_le_pow_right (by omega) (by omega))
    have hs : leN (l.drop j) = l[j].toNat + 2 * leN (l.drop (j + 1)) := by rw [hd]; rfl
    have hg : l[(((j + 1 : Nat) : Int) - 1).toNat]?.getD 0 = l[j] := by
      rw [show (((j + 1 : Nat) : Int) - 1).toNat = j by omega, List.getElem?_eq_getElem hlt]; rfl
    have hs2 : (leN (l.drop j) : Int) = 2 * leN (l.drop (j + 1)) + l[j] := by omega
    obtain ⟨st1, e1, e2⟩ := body51 t l (leN (l.drop (j + 1)) : Nat) (((j + 1 : Nat) : Int) - 1) ((j : Int) - 1) l[j] (2 * leN (l.drop (j + 1)) : Nat) (leN (l.drop j) : Nat) (by omega) (by omega) hg (by rw [u32_in _ (by omega)]; omega) (u32_in _ (by omega)) (by rw [u32_in _ (by omega)]; omega) (by rw [i64_in _ (by omega)]; omega)
    obtain ⟨env, e, g⟩ := loop51 t l hN hl j (K - 1) (by omega) (by omega)
    exact ⟨env, by rw [loopH_norm e1 (by omega), e2]; exact e, g⟩
theorem f51 (t : Nat) (l : List Int) (hN : isN l) (hl : l.length ≤ 32) : F51 [.one (.ro t (.ints .i64 l))] [] = some (.one (.int .u32 (leN l : Nat)), []) := by
  obtain ⟨env, e, g⟩ := loop51 t l hN hl l.length KK (by omega) (by rw [KK_eq]; omega)
  have w : IntKind.i64.wrap ((l.length : Int) - 1) = (l.length : Int) - 1 := i64_in _ (by omega)
  have z : ((0 : Nat) : Int) = 0 := rfl
  rw [List.drop_length] at e
  simp only [canon51, leN, z] at e
  simp -implicitDefEqProofs [F51, c51, upd, RC.len, w, e, g]
def canon88 (t : Nat) (bs : List Int) (i : Int) (out : List Int) : St :=
  ⟨[(0, .one (.ro t (.ints .u8 bs))), (3, .one (.row 0)), (4, .one (.int .i64 i))], [.ro t (.ints .u8 bs)], [.rows (.ints .i64 out)]⟩
theorem body88 (t : Nat) (bs : List Int) (i : Nat) (b : Int) (out add : List Int) (hi : i < bs.length) (hl : bs.length ≤ 100000) (hb : bs[i]?.getD 0 = b) (ew : IntKind.u32.wrap b = b) (e69 : F69 [.one (.int .u32 b), .one (.int .i64 8)] [] = some (.one (.row 0), [.rows (.ints .i64 add)])) (hm : (out.length + add.length) * 8 ≤ 140737488355328) :
    ∃ st1, evC T88 KK b88x0 (canon88 t bs i out) = some (.norm, st1) ∧ St.head [0, 3, 4] st1 = canon88 t bs (i + 1 : Nat) (out ++ add) := by
  have hb' : bs[i] = b := by rw [List.getElem?_eq_getElem hi] at hb; exact hb
  have hi2 : (i : Int) < bs.length := by omega
  have w : IntKind.i64.wrap ((i : Int) + 1) = (i : Int) + 1 := i64_in _ (by omega)
  simp -implicitDefEqProofs [b88x0, canon88, upd, hi, hi2, hb, hb', ew, e69, hm, w, RC.len, RC.size, RC.get, RC.app]
theorem end88 (t : Nat) (bs : List Int) (i : Nat) (out : List Int) (hi : bs.length ≤ i) :
    ∃ env, evC T88 KK b88x0 (canon88 t bs i out) = some (.exit 0, ⟨env, [.ro t (.ints .u8 bs)], [.rows (.ints .i64 out)]⟩) ∧ getT 3 env = .one (.row 0) := by
  have hi2 : ¬ (i : Int) < bs.length := by omega
  simp -implicitDefEqProofs [b88x0, canon88, upd, hi2, RC.len]
theorem loop88 (t : Nat) (bs : List Int) (hB : isB bs) (hl : bs.length ≤ 100000) : ∀ (j i : Nat) (out : List Int) (K : Nat), i + j = bs.length → isN out → out.length = 8 * i → leN out = leB (bs.take i) → j < K →
    ∃ env out', loopH (evC T88 KK b88x0) [0, 3, 4] K (canon88 t bs i out) = some (.exit 0, ⟨env, [.ro t (.ints .u8 bs)], [.rows (.ints .i64 out')]⟩) ∧ getT 3 env = .one (.row 0) ∧ isN out' ∧ out'.length = 8 * bs.length ∧ leN out' = leB bs
  | 0, i, out, K, hi, hN, hlen, hv, hK => by
    obtain rfl : i = bs.length := by omega
    obtain ⟨env, e, g⟩ := end88 t bs bs.length out (Nat.le_refl _)
    rw [List.take_length] at hv
    exact ⟨env, out, loopH_exit e, g, hN, hlen, hv⟩
  | j + 1, i, out, K, hi, hN, hlen, hv, hK => by
    have hlt : i < bs.length := by omega
    have hb := hB bs[i] (List.getElem_mem hlt)
    have hg : bs[i]?.getD 0 = bs[i] := by rw [List.getElem?_eq_getElem hlt]; rfl
    obtain ⟨β, hβ⟩ : ∃ β : Nat, bs[i] = β := ⟨bs[i].toNat, by omega⟩
    have e69 := f69 β 8 (by omega) (by omega)
    rw [← hβ] at e69
    obtain ⟨st1, e1, e2⟩ := body88 t bs i bs[i] out (ofN β 8) hlt hl hg (u32_in _ (by omega)) e69 (by rw [ofN_length]; omega)
    obtain ⟨env, out', e, g, r1, r2, r3⟩ := loop88 t bs hB hl j (i + 1) (out ++ ofN β 8) (K - 1) (by omega) (fun x hx => by
        rcases List.mem_append.1 hx with hx | hx
        · exact hN x hx
        · exact ofN_isN 8 β x hx) (by rw [List.length_append, ofN_length]; omega) (by
        rw [← List.take_append_getElem hlt, leB_append, leN_append, hv, hlen, List.length_take, Nat.min_eq_left (by omega), leN_ofN, Nat.mod_eq_of_lt (by omega), hβ]
        simp [leB]) (by omega)
    exact ⟨env, out', by rw [loopH_norm e1 (by omega), e2]; exact e, g, r1, r2, r3⟩
theorem f88 (t : Nat) (bs : List Int) (hB : isB bs) (hl : bs.length ≤ 90000) : ∃ out, F88 [.one (.ro t (.ints .u8 bs))] [] = some (.one (.row 0), [.rows (.ints .i64 out)]) ∧ isN out ∧ out.length = 8 * bs.length ∧ leN out = leB bs := by
  obtain ⟨env, out, e, g, r⟩ := loop88 t bs hB (by omega) bs.length 0 [] KK (by omega) (by simp [isN]) rfl rfl (by rw [KK_eq]; omega)
  have z : ((0 : Nat) : Int) = 0 := rfl
  simp only [canon88, z] at e
  refine ⟨out, ?_, r⟩
  simp -implicitDefEqProofs [F88, c88, upd, e, g]
end Go.X.Try
set_option maxRecDepth 100000
set_option linter.unusedSimpArgs false
namespace Go.X.Try
open Go.IntWalk
def canon55 (v0 n0 v n : Int) (bs : List Int) (c : Int) : St :=
  ⟨[(0, .one (.ptr 0 0)), (1, .one (.int .u32 v)), (2, .one (.int .i64 n))], [.ptr 0 0, .int .u32 v0, .int .i64 n0], bufHp (some 0) bs c⟩
theorem body55z (v0 n0 v n c e k q mk p r y v' c' n' : Int) (bs : List Int) (hn : 0 < n) (hk : k = if e < n then e else n) (hk0 : ¬ k < 0) (hm : bs.length + 1 ≤ 100000)
    (ea : bitsI .and .i64 c 7 = 0) (ee : IntKind.i64.wrap 8 = e) (eq : shlI .u32 1 k = q) (emk : IntKind.u32.wrap (q - 1) = mk) (ep : bitsI .and .u32 v mk = p) (epc : IntKind.u8.wrap p = p) (er : shlI .u8 p 0 = r) (ey : bitsI .or .u8 0 r = y)
    (ev : shrI .u32 v k = v') (ec : IntKind.i64.wrap (c + k) = c') (en : IntKind.i64.wrap (n - k) = n') :
    ∃ st1, evC T55 KK b55x0 (canon55 v0 n0 v n bs c) = some (.norm, st1) ∧ St.head [0, 1, 2] st1 = canon55 v0 n0 v' n' (bs ++ [y]) c' := by
  have hm' : bs.length + 1 ≤ 140737488355328 := by omega
  have w : IntKind.i64.wrap (bs.length : Int) = bs.length := i64_in _ (by omega)
  have hb1 : (bs.length : Int) < (bs.length : Int) + 1 := by omega
  by_cases hc : e < n
  · rw [if_pos hc] at hk
    subst hk
    simp -implicitDefEqProofs [b55x0, canon55, bufHp, upd, hn, hc, hk0, hm', hb1, ea, ee, eq, emk, ep, epc, er, ey, ev, ec, en, w, RC.len, RC.size, RC.get, RC.set, RC.app, RC.ofElems]
  · rw [if_neg hc] at hk
    subst hk
    have en0 : IntKind.i64.wrap 0 = n' := by rw [← en]; congr 1; omega
    simp -implicitDefEqProofs [b55x0, canon55, bufHp, upd, hn, hc, hk0, hm', hb1, ea, ee, eq, emk, ep, epc, er, ey, ev, ec, en, en0, w, RC.len, RC.size, RC.get, RC.set, RC.app, RC.ofElems]
theorem body55s (v0 n0 v n c a e k q mk p r x y v' c' n' : Int) (i : Nat) (bs : List Int) (hn : 0 < n) (hk : k = if e < n then e else n) (hk0 : ¬ k < 0) (ha : ¬ a = 0) (ha0 : ¬ a < 0) (hi : i < bs.length) (hx : bs[i]?.getD 0 = x)
    (ea : bitsI .and .i64 c 7 = a) (ee : IntKind.i64.wrap (8 - a) = e) (ei : IntKind.i64.wrap ((bs.length : Int) - 1) = i) (eq : shlI .u32 1 k = q) (emk : IntKind.u32.wrap (q - 1) = mk) (ep : bitsI .and .u32 v mk = p) (epc : IntKind.u8.wrap p = p) (er : shlI .u8 p a = r) (ey : bitsI .or .u8 x r = y)
    (ev : shrI .u32 v k = v') (ec : IntKind.i64.wrap (c + k) = c') (en : IntKind.i64.wrap (n - k) = n') :
    ∃ st1, evC T55 KK b55x0 (canon55 v0 n0 v n bs c) = some (.norm, st1) ∧ St.head [0, 1, 2] st1 = canon55 v0 n0 v' n' (bs.set i y) c' := by
  have hx' : bs[i] = x := by rw [List.getElem?_eq_getElem hi] at hx; exact hx
  have hi2 : (i : Int) < bs.length := by omega
  by_cases hc : e < n
  · rw [if_pos hc] at hk
    subst hk
    simp -implicitDefEqProofs [b55x0, canon55, bufHp, upd, hn, hc, hk0, ha, ha0, hi, hi2, hx, hx', ea, ee, ei, eq, emk, ep, epc, er, ey, ev, ec, en, RC.len, RC.size, RC.get, RC.set, RC.app, RC.ofElems]
  · rw [if_neg hc] at hk
    subst hk
    have en0 : IntKind.i64.wrap 0 = n' := by rw [← en]; congr 1; omega
    simp -implicitDefEqProofs [b55x0, canon55, bufHp, upd, hn, hc, hk0, ha, ha0, hi, hi2, hx, hx', ea, ee, ei, eq, emk, ep, epc, er, ey, ev, ec, en, en0, RC.len, RC.size, RC.get, RC.set, RC.app, RC.ofElems]
theorem end55 (v0 n0 v n c : Int) (bs : List Int) (hn : ¬ 0 < n) :
    ∃ env, evC T55 KK b55x0 (canon55 v0 n0 v n bs c) = some (.exit 0, ⟨env, [.ptr 0 0, .int .u32 v0, .int .i64 n0], bufHp (some 0) bs c⟩) := by
  simp -implicitDefEqProofs [b55x0, canon55, upd, hn]
/-- What a writer holds: c bits, the number N. -/
structure Holds (bs : List Int) (c N : Nat) : Prop where
  isB : isB bs
  len : bs.length = (c + 7) / 8
  val : leB bs = N
  lt : N < 2 ^ c
theorem u8_mask {v k : Nat} (hk : k ≤ 8) : v % 2 ^ k < 256 := by
  have e1 : v % 2 ^ k < 2 ^ k := Nat.mod_lt _ (Nat.two_pow_pos k)
  have e2 : 2 ^ k ≤ 2 ^ 8 := Nat.pow_le_pow_right (n := 2) (by omega) hk
  omega
theorem shl1_u32 {k : Nat} (hk : k ≤ 8) : shlI .u32 1 (k : Int) = ((2 ^ k : Nat) : Int) := by
  have hpk : (2 : Nat) ^ k ≤ 2 ^ 8 := Nat.pow_le_pow_right (by omega) (by omega)
  have := shl_in (k := .u32) (x := 1) (n := k) rfl (by simp only [IntKind.bits]; omega) (by simp only [IntKind.bits]; omega)
  rw [Nat.one_mul] at this
  exact this
theorem mask_u32 {k : Nat} (hk : k ≤ 8) : IntKind.u32.wrap (((2 ^ k : Nat) : Int) - 1) = ((2 ^ k - 1 : Nat) : Int) := by
  have hpk : (2 : Nat) ^ k ≤ 2 ^ 8 := Nat.pow_le_pow_right (by omega) (by omega)
  have hp0 := Nat.two_pow_pos k
  generalize (2 : Nat) ^ k = P at hpk hp0 ⊢
  rw [u32_in _ (by omega)]; omega
theorem step55 (v0 n0 : Int) (v n c N : Nat) (bs : List Int) (h : Holds bs c N) (hn : 0 < n) (hn2 : n ≤ 32) (hv : v < 2 ^ 32) (hc : c ≤ 700000) :
    ∃ st1 bs' k, evC T55 KK b55x0 (canon55 v0 n0 v n bs c) = some (.norm, st1) ∧ St.head [0, 1, 2] st1 = canon55 v0 n0 (v / 2 ^ k : Nat) (n - k : Nat) bs' (c + k : Nat) ∧ Holds bs' (c + k) (N + v % 2 ^ k * 2 ^ c) ∧ 0 < k ∧ k ≤ n := by
  obtain ⟨hB, hlen, hval, hlt⟩ := h
  obtain ⟨a, ha⟩ : ∃ a, a = c % 8 := ⟨_, rfl⟩
  obtain ⟨k, hk⟩ : ∃ k, k = if 8 - a < n then 8 - a else n := ⟨_, rfl⟩
  have hk1 : 0 < k ∧ a + k ≤ 8 ∧ k ≤ n := by subst hk; split <;> omega
  have hkI : (k : Int) = if ((8 - a : Nat) : Int) < (n : Int) then ((8 - a : Nat) : Int) else n := by
    rw [hk]
    by_cases d : 8 - a < n
    · rw [if_pos d, if_pos (by omega)]
    · rw [if_neg d, if_neg (by omega)]
  have hp : v % 2 ^ k < 256 := u8_mask (by omega)
  have hpk : v % 2 ^ k < 2 ^ k := Nat.mod_lt _ (Nat.two_pow_pos k)
  have ea : bitsI .and .i64 (c : Int) 7 = (a : Int) := by rw [and7_i64 (by omega), ← ha]
  have ee : IntKind.i64.wrap (8 - (a : Int)) = ((8 - a : Nat) : Int) := by rw [i64_in _ (by omega)]; omega
  have ep := mask_and (k := .u32) (x := v) (n := k) rfl (by simp only [IntKind.bits]; omega) (by simp only [IntKind.bits]; omega)
  have epc : IntKind.u8.wrap ((v % 2 ^ k : Nat) : Int) = ((v % 2 ^ k : Nat) : Int) := by
    generalize v % 2 ^ k = p at hp ⊢
    exact u8_in _ (by omega)
  have ev : shrI .u32 (v : Int) (k : Int) = ((v / 2 ^ k : Nat) : Int) := shr_in (by simp only [IntKind.bits]; omega)
  have ec : IntKind.i64.wrap ((c : Int) + k) = ((c + k : Nat) : Int) := by rw [i64_in _ (by omega)]; omega
  have en : IntKind.i64.wrap ((n : Int) - k) = ((n - k : Nat) : Int) := by rw [i64_in _ (by omega)]; omega
  have hpa : v % 2 ^ k * 2 ^ a < 256 := by
    have e1 : v % 2 ^ k * 2 ^ a < 2 ^ k * 2 ^ a := Nat.mul_lt_mul_of_pos_right hpk (Nat.two_pow_pos a)
    rw [← Nat.pow_add] at e1
    have e2 : 2 ^ (k + a) ≤ 2 ^ 8 := Nat.pow_le_pow_right (n := 2) (by omega) (by omega)
    omega
  have hlt' : N + v % 2 ^ k * 2 ^ c < 2 ^ (c + k) := by
    have e1 : (v % 2 ^ k + 1) * 2 ^ c ≤ 2 ^ k * 2 ^ c := Nat.mul_le_mul_right _ hpk
    rw [← Nat.pow_add, Nat.add_mul, Nat.one_mul, Nat.add_comm k c] at e1
    omega
  have er : shlI .u8 ((v % 2 ^ k : Nat) : Int) (a : Int) = ((v % 2 ^ k * 2 ^ a : Nat) : Int) := shl_in rfl (by simp only [IntKind.bits]; omega) (by simp only [IntKind.bits]; exact hpa)
  by_cases h0 : a = 0
  · subst h0
    have ey : bitsI .or .u8 0 ((v % 2 ^ k * 2 ^ 0 : Nat) : Int) = ((v % 2 ^ k * 2 ^ 0 : Nat) : Int) := by
      have := or_add (k := .u8) (x := 0) (y := v % 2 ^ k) (n := 0) rfl (by omega) (by simp only [IntKind.bits]; rw [Nat.zero_add]; exact hpa)
      rw [Nat.zero_add] at this
      exact this
    have ee0 : IntKind.i64.wrap 8 = ((8 - 0 : Nat) : Int) := by rw [i64_in _ (by omega)]; rfl
    obtain ⟨st1, e1, e2⟩ := body55z v0 n0 v n c (8 - 0 : Nat) k (2 ^ k : Nat) (2 ^ k - 1 : Nat) (v % 2 ^ k : Nat) (v % 2 ^ k * 2 ^ 0 : Nat) (v % 2 ^ k * 2 ^ 0 : Nat) (v / 2 ^ k : Nat) (c + k : Nat) (n - k : Nat) bs (by omega) hkI (by omega) (by omega) ea ee0 (shl1_u32 (by omega)) (mask_u32 (by omega)) ep epc er ey ev ec en
    refine ⟨st1, _, k, e1, e2, ⟨?_, ?_, ?_, hlt'⟩, hk1.1, hk1.2.2⟩
    · intro x hx
      rcases List.mem_append.1 hx with hx | hx
      · exact hB x hx
      · simp only [List.mem_cons, List.not_mem_nil, or_false] at hx
        subst hx
        rw [Nat.pow_zero, Nat.mul_one]
        generalize v % 2 ^ k = p at hp ⊢
        omega
    · rw [List.length_append, List.length_cons, List.length_nil]; omega
    · rw [leB_append, hval, show 8 * bs.length = c by omega]
      simp only [leB, Int.toNat_natCast, Nat.pow_zero, Nat.mul_one, Nat.mul_zero, Nat.add_zero]
      rw [Nat.mul_comm]
  · obtain ⟨i, hi⟩ : ∃ i, i = c / 8 := ⟨_, rfl⟩
    have hca : c = 8 * i + a := by omega
    have hil : i < bs.length := by omega
    obtain ⟨b, hbi⟩ : ∃ b, bs[i]? = some b := ⟨_, List.getElem?_eq_getElem hil⟩
    have hbr := hB b (List.mem_of_getElem? hbi)
    obtain ⟨β, rfl⟩ : ∃ β : Nat, b = β := ⟨b.toNat, by omega⟩
    have hβ := leB_at hB hbi
    rw [hval, Int.toNat_natCast] at hβ
    have hβa : β < 2 ^ a := by
      rw [← hβ]
      refine Nat.lt_of_le_of_lt (Nat.mod_le _ _) ?_
      rw [Nat.div_lt_iff_lt_mul (Nat.two_pow_pos _), ← Nat.pow_add, show a + 8 * i = c by omega]
      exact hlt
    have hy : β + v % 2 ^ k * 2 ^ a < 256 := by
      have e1 : (v % 2 ^ k + 1) * 2 ^ a ≤ 2 ^ k * 2 ^ a := Nat.mul_le_mul_right _ hpk
      have e2 : 2 ^ (k + a) ≤ 2 ^ 8 := Nat.pow_le_pow_right (n := 2) (by omega) (by omega)
      rw [← Nat.pow_add, Nat.add_mul, Nat.one_mul] at e1
      omega
    have ey : bitsI .or .u8 (β : Int) ((v % 2 ^ k * 2 ^ a : Nat) : Int) = ((β + v % 2 ^ k * 2 ^ a : Nat) : Int) := or_add rfl hβa (by simp only [IntKind.bits]; exact hy)
    obtain ⟨st1, e1, e2⟩ := body55s v0 n0 v n c a (8 - a : Nat) k (2 ^ k : Nat) (2 ^ k - 1 : Nat) (v % 2 ^ k : Nat) (v % 2 ^ k * 2 ^ a : Nat) β (β + v % 2 ^ k * 2 ^ a : Nat) (v / 2 ^ k : Nat) (c + k : Nat) (n - k : Nat) i bs (by omega) hkI (by omega) (by omega) (by omega) hil (by rw [hbi]; rfl) ea ee (by rw [i64_in _ (by omega)]; omega) (shl1_u32 (by omega)) (mask_u32 (by omega)) ep epc er ey ev ec en
    refine ⟨st1, _, k, e1, e2, ⟨?_, ?_, ?_, hlt'⟩, hk1.1, hk1.2.2⟩
    · intro x hx
      rcases List.mem_or_eq_of_mem_set hx with hx | hx
      · exact hB x hx
      · subst hx
        generalize β + v % 2 ^ k * 2 ^ a = y at hy ⊢
        omega
    · rw [List.length_set]; omega
    · have := leB_set (d := v % 2 ^ k * 2 ^ a) hB hbi
      rw [hval, Nat.mul_assoc, ← Nat.pow_add, show a + 8 * i = c by omega] at this
      rw [← this]
      congr 2
theorem loop55 (v0 n0 : Int) : ∀ (n v c N : Nat) (bs : List Int) (K : Nat), Holds bs c N → n ≤ 32 → v < 2 ^ 32 → c + n ≤ 700000 → n < K →
    ∃ env bs', loopH (evC T55 KK b55x0) [0, 1, 2] K (canon55 v0 n0 v n bs c) = some (.exit 0, ⟨env, [.ptr 0 0, .int .u32 v0, .int .i64 n0], bufHp (some 0) bs' (c + n : Nat)⟩) ∧ Holds bs' (c + n) (N + v % 2 ^ n * 2 ^ c) := by
  intro n
  induction n using Nat.strongRecOn with
  | ind n ih =>
  intro v c N bs K h hn hv hc hK
  by_cases h0 : 0 < n
  · obtain ⟨st1, bs', k, e1, e2, h', hk0, hkn⟩ := step55 v0 n0 v n c N bs h h0 hn hv (by omega)
    obtain ⟨env, bs2, e, h2⟩ := ih (n - k) (by omega) (v / 2 ^ k) (c + k) _ bs' (K - 1) h' (by omega) (Nat.lt_of_le_of_lt (Nat.div_le_self _ _) hv) (by omega) (by omega)
    rw [show c + k + (n - k) = c + n by omega] at e h2
    refine ⟨env, bs2, by rw [loopH_norm e1 (by omega), e2]; exact e, ?_⟩
    have hm := mod_more v k (n - k)
    rw [show k + (n - k) = n by omega] at hm
    rw [hm, Nat.add_mul, Nat.mul_assoc, ← Nat.pow_add, show k + c = c + k by omega, ← Nat.add_assoc]
    exact h2
  · obtain rfl : n = 0 := by omega
    obtain ⟨env, e⟩ := end55 v0 n0 v (0 : Nat) c bs (by omega)
    refine ⟨env, bs, loopH_exit e, ?_⟩
    rw [Nat.pow_zero, Nat.mod_one, Nat.zero_mul]
    exact h
theorem f55a (v n c : Int) (bs : List Int) (h : n < 0 ∨ 32 < n) : F55 [.one (.ptr 0 0), .one (.int .u32 v), .one (.int .i64 n)] (bufHp (some 0) bs c) = some (.one (.bool false), bufHp (some 0) bs c) := by
  have e91 := f91b n h
  simp -implicitDefEqProofs [F55, c55, upd, bufHp, e91]
theorem f55 (v n c N : Nat) (bs : List Int) (h : Holds bs c N) (hn : n ≤ 32) (hv : v < 2 ^ 32) (hc : c + n ≤ 700000) :
    ∃ bs', F55 [.one (.ptr 0 0), .one (.int .u32 v), .one (.int .i64 n)] (bufHp (some 0) bs c) = some (.one (.bool true), bufHp (some 0) bs' (c + n : Nat)) ∧ Holds bs' (c + n) (N + v % 2 ^ n * 2 ^ c) := by
  have e91 := f91a (n : Int) (by omega)
  obtain ⟨env, bs', e, h'⟩ := loop55 v n n v c N bs KK h hn hv hc (by rw [KK_eq]; omega)
  refine ⟨bs', ?_, h'⟩
  simp only [canon55, bufHp] at e
  generalize ((c + n : Nat) : Int) = c' at *
  simp -implicitDefEqProofs [F55, c55, upd, bufHp, e91, e]
theorem f92 (bs : List Int) (c : Int) (h : bs.length ≤ 100000) : F92 [.one (.ptr 0 0)] (bufHp (some 0) bs c) = some (.one (.row 2), bufHp (some 0) bs c ++ [.rows (.ints .u8 bs)]) := by
  have hm : bs.length ≤ 140737488355328 := by omega
  simp -implicitDefEqProofs [F92, c92, upd, bufHp, hm, RC.len, RC.size, RC.app]
theorem f93 (bs : List Int) (c : Int) : F93 [.one (.ptr 0 0)] (bufHp (some 0) bs c) = some (.one (.int .i64 c), bufHp (some 0) bs c) := by
  simp -implicitDefEqProofs [F93, c93, upd, bufHp]
theorem holds0 : Holds [] 0 0 := ⟨by simp [isB], rfl, rfl, by omega⟩
end Go.X.Try
set_option maxRecDepth 100000
set_option linter.unusedSimpArgs false
namespace Go.X.Try
open Go.IntWalk
def canon71 (t : Nat) (l : List Int) (i : Int) (out : List Int) : St :=
  ⟨[(0, .one (.ro t (.ints .i64 l))), (3, .one (.row 0)), (4, .one (.int .i64 i))], [.ro t (.ints .i64 l)], [.rows (.ints .u8 out)]⟩
theorem body71a (t : Nat) (l : List Int) (i : Nat) (out : List Int) (hi : i < l.length) (hl : l.length ≤ 100000) (ho : out.length ≤ 100000) (ea : (i : Int).tmod 8 = 0) (hb : l[i]?.getD 0 = 0) :
    ∃ st1, evC T71 KK b71x0 (canon71 t l i out) = some (.norm, st1) ∧ St.head [0, 3, 4] st1 = canon71 t l (i + 1 : Nat) (out ++ [0]) := by
  have hb' : l[i] = 0 := by rw [List.getElem?_eq_getElem hi] at hb; exact hb
  have hi2 : (i : Int) < l.length := by omega
  have w : IntKind.i64.wrap ((i : Int) + 1) = (i : Int) + 1 := i64_in _ (by omega)
  have hm : out.length + 1 ≤ 140737488355328 := by omega
  simp -implicitDefEqProofs [b71x0, canon71, upd, hi, hi2, ea, hb, hb', hm, w, RC.len, RC.size, RC.get, RC.app, RC.ofElems]
theorem body71b (t : Nat) (l : List Int) (i : Nat) (out : List Int) (hi : i < l.length) (hl : l.length ≤ 100000) (ho : out.length ≤ 100000) (ea : (i : Int).tmod 8 = 0) (hb : l[i]?.getD 0 = 1) (eq : IntKind.i64.wrap ((i : Int) / 8) = out.length) :
    ∃ st1, evC T71 KK b71x0 (canon71 t l i out) = some (.norm, st1) ∧ St.head [0, 3, 4] st1 = canon71 t l (i + 1 : Nat) (out ++ [1]) := by
  have hb' : l[i] = 1 := by rw [List.getElem?_eq_getElem hi] at hb; exact hb
  have hi2 : (i : Int) < l.length := by omega
  have w : IntKind.i64.wrap ((i : Int) + 1) = (i : Int) + 1 := i64_in _ (by omega)
  have hm : out.length + 1 ≤ 140737488355328 := by omega
  have hb1 : (out.length : Int) < (out.length : Int) + 1 := by omega
  have s1 : shlI .u8 1 0 = 1 := by decide
  have s2 : bitsI .or .u8 0 1 = 1 := by decide
  simp -implicitDefEqProofs [b71x0, canon71, upd, hi, hi2, ea, hb, hb', hm, hb1, w, eq, s1, s2, RC.len, RC.size, RC.get, RC.set, RC.app, RC.ofElems]
theorem body71c (t : Nat) (l : List Int) (i : Nat) (a : Int) (out : List Int) (hi : i < l.length) (hl : l.length ≤ 100000) (ho : out.length ≤ 100000) (ea : (i : Int).tmod 8 = a) (ha : ¬ a = 0) (hb : l[i]?.getD 0 = 0) :
    ∃ st1, evC T71 KK b71x0 (canon71 t l i out) = some (.norm, st1) ∧ St.head [0, 3, 4] st1 = canon71 t l (i + 1 : Nat) out := by
  have hb' : l[i] = 0 := by rw [List.getElem?_eq_getElem hi] at hb; exact hb
  have hi2 : (i : Int) < l.length := by omega
  have w : IntKind.i64.wrap ((i : Int) + 1) = (i : Int) + 1 := i64_in _ (by omega)
  simp -implicitDefEqProofs [b71x0, canon71, upd, hi, hi2, ea, ha, hb, hb', w, RC.len, RC.size, RC.get]
theorem body71d (t : Nat) (l : List Int) (i q : Nat) (a s x y : Int) (out : List Int) (hi : i < l.length) (hl : l.length ≤ 100000) (ho : out.length ≤ 100000) (ea : (i : Int).tmod 8 = a) (ha : ¬ a = 0) (ha0 : ¬ a < 0) (hb : l[i]?.getD 0 = 1) (eq : IntKind.i64.wrap ((i : Int) / 8) = q) (hq : q < out.length) (hx : out[q]?.getD 0 = x) (es : shlI .u8 1 a = s) (ey : bitsI .or .u8 x s = y) :
    ∃ st1, evC T71 KK b71x0 (canon71 t l i out) = some (.norm, st1) ∧ St.head [0, 3, 4] st1 = canon71 t l (i + 1 : Nat) (out.set q y) := by
  have hb' : l[i] = 1 := by rw [List.getElem?_eq_getElem hi] at hb; exact hb
  have hx' : out[q] = x := by rw [List.getElem?_eq_getElem hq] at hx; exact hx
  have hi2 : (i : Int) < l.length := by omega
  have hq2 : (q : Int) < out.length := by omega
  have w : IntKind.i64.wrap ((i : Int) + 1) = (i : Int) + 1 := i64_in _ (by omega)
  simp -implicitDefEqProofs [b71x0, canon71, upd, hi, hi2, hq, hq2, ea, ha, ha0, hb, hb', hx, hx', eq, es, ey, w, RC.len, RC.size, RC.get, RC.set]
theorem end71 (t : Nat) (l : List Int) (i : Nat) (out : List Int) (hi : l.length ≤ i) :
    ∃ env, evC T71 KK b71x0 (canon71 t l i out) = some (.exit 0, ⟨env, [.ro t (.ints .i64 l)], [.rows (.ints .u8 out)]⟩) ∧ getT 3 env = .one (.row 0) := by
  have hi2 : ¬ (i : Int) < l.length := by omega
  simp -implicitDefEqProofs [b71x0, canon71, upd, hi2, RC.len]
theorem step71 (t : Nat) (l : List Int) (i N : Nat) (out : List Int) (hN : isN l) (hi : i < l.length) (hl : l.length ≤ 100000) (h : Holds out i N) :
    ∃ st1 out', evC T71 KK b71x0 (canon71 t l i out) = some (.norm, st1) ∧ St.head [0, 3, 4] st1 = canon71 t l (i + 1 : Nat) out' ∧ Holds out' (i + 1) (N + l[i].toNat * 2 ^ i) := by
  obtain ⟨hB, hlen, hval, hlt⟩ := h
  have hg : l[i]?.getD 0 = l[i] := by rw [List.getElem?_eq_getElem hi]; rfl
  have hm : (i : Int).tmod 8 = ((i % 8 : Nat) : Int) := by rw [Int.tmod_eq_emod_of_nonneg (by omega)]; omega
  have hd : IntKind.i64.wrap ((i : Int) / 8) = ((i / 8 : Nat) : Int) := by
    rw [i64_in _ (by omega)]; omega
  have hp : 2 ^ (i + 1) = 2 * 2 ^ i := by rw [Nat.pow_succ]; omega
  rcases hN l[i] (List.getElem_mem hi) with hb | hb <;> rw [hb] at hg ⊢
  · by_cases ha : i % 8 = 0
    · obtain ⟨st1, e1, e2⟩ := body71a t l i out hi hl (by omega) (by rw [hm, ha]; rfl) hg
      refine ⟨st1, _, e1, e2, ⟨?_, ?_, ?_, ?_⟩⟩
      · intro x hx
        rcases List.mem_append.1 hx with hx | hx
        · exact hB x hx
        · simp only [List.mem_cons, List.not_mem_nil, or_false] at hx
          omega
      · rw [List.length_append, List.length_cons, List.length_nil]; omega
      · rw [leB_append, hval]; simp [leB]
      · simp only [Int.toNat_zero, Nat.zero_mul]; omega
    · obtain ⟨st1, e1, e2⟩ := body71c t l i _ out hi hl (by omega) hm (by omega) hg
      refine ⟨st1, _, e1, e2, ⟨hB, by omega, ?_, ?_⟩⟩
      · rw [hval]; simp
      · simp only [Int.toNat_zero, Nat.zero_mul]; omega
  · have one : (1 : Int).toNat = 1 := rfl
    rw [one, Nat.one_mul]
    by_cases ha : i % 8 = 0
    · obtain ⟨st1, e1, e2⟩ := body71b t l i out hi hl (by omega) (by rw [hm, ha]; rfl) hg (by rw [hd]; omega)
      refine ⟨st1, _, e1, e2, ⟨?_, ?_, ?_, ?_⟩⟩
      · intro x hx
        rcases List.mem_append.1 hx with hx | hx
        · exact hB x hx
        · simp only [List.mem_cons, List.not_mem_nil, or_false] at hx
          omega
      · rw [List.length_append, List.length_cons, List.length_nil]; omega
      · rw [leB_append, hval, show 8 * out.length = i by omega]; simp [leB]
      · omega
    · obtain ⟨a, ha'⟩ : ∃ a, a = i % 8 := ⟨_, rfl⟩
      obtain ⟨q, hq⟩ : ∃ q, q = i / 8 := ⟨_, rfl⟩
      rw [← ha'] at hm ha
      rw [← hq] at hd
      have hql : q < out.length := by omega
      obtain ⟨b, hbi⟩ : ∃ b, out[q]? = some b := ⟨_, List.getElem?_eq_getElem hql⟩
      have hbr := hB b (List.mem_of_getElem? hbi)
      obtain ⟨β, rfl⟩ : ∃ β : Nat, b = β := ⟨b.toNat, by omega⟩
      have hβ := leB_at hB hbi
      rw [hval, Int.toNat_natCast] at hβ
      have hβa : β < 2 ^ a := by
        rw [← hβ]
        refine Nat.lt_of_le_of_lt (Nat.mod_le _ _) ?_
        rw [Nat.div_lt_iff_lt_mul (Nat.two_pow_pos _), ← Nat.pow_add, show a + 8 * q = i by omega]
        exact hlt
      have hp7 : 2 ^ a ≤ 2 ^ 7 := Nat.pow_le_pow_right (by omega) (by omega)
      have es : shlI .u8 1 (a : Int) = ((1 * 2 ^ a : Nat) : Int) := shl_in (k := .u8) (x := 1) rfl (by simp only [IntKind.bits]; omega) (by simp only [IntKind.bits]; omega)
      have ey : bitsI .or .u8 (β : Int) ((1 * 2 ^ a : Nat) : Int) = ((β + 1 * 2 ^ a : Nat) : Int) := or_add rfl hβa (by simp only [IntKind.bits]; omega)
      obtain ⟨st1, e1, e2⟩ := body71d t l i q a _ β _ out hi hl (by omega) hm (by omega) (by omega) hg hd hql (by rw [hbi]; rfl) es ey
      refine ⟨st1, _, e1, e2, ⟨?_, ?_, ?_, ?_⟩⟩
      · intro x hx
        rcases List.mem_or_eq_of_mem_set hx with hx | hx
        · exact hB x hx
        · subst hx
          generalize (2 : Nat) ^ a = P at hp7 hβa ⊢
          omega
      · rw [List.length_set]; omega
      · have := leB_set (d := 1 * 2 ^ a) hB hbi
        rw [hval, Nat.one_mul, ← Nat.pow_add, show a + 8 * q = i by omega] at this
        rw [← this, Nat.one_mul]
        congr 2
      · omega
theorem loop71 (t : Nat) (l : List Int) (hN : isN l) (hl : l.length ≤ 90000) : ∀ (j i : Nat) (out : List Int) (K : Nat), i + j = l.length → Holds out i (leN (l.take i)) → j < K →
    ∃ env out', loopH (evC T71 KK b71x0) [0, 3, 4] K (canon71 t l i out) = some (.exit 0, ⟨env, [.ro t (.ints .i64 l)], [.rows (.ints .u8 out')]⟩) ∧ getT 3 env = .one (.row 0) ∧ Holds out' l.length (leN l)
  | 0, i, out, K, hi, h, hK => by
    obtain rfl : i = l.length := by omega
    obtain ⟨env, e, g⟩ := end71 t l l.length out (Nat.le_refl _)
    rw [List.take_length] at h
    exact ⟨env, out, loopH_exit e, g, h⟩
  | j + 1, i, out, K, hi, h, hK => by
    have hlt : i < l.length := by omega
    obtain ⟨st1, out', e1, e2, h'⟩ := step71 t l i _ out hN hlt (by omega) h
    have hv : leN (l.take (i + 1)) = leN (l.take i) + l[i].toNat * 2 ^ i := by
      rw [← List.take_append_getElem hlt, leN_append, List.length_take, Nat.min_eq_left (by omega)]
      simp [leN, Nat.mul_comm]
    rw [← hv] at h'
    obtain ⟨env, out2, e, g, r⟩ := loop71 t l hN hl j (i + 1) out' (K - 1) (by omega) h' (by omega)
    exact ⟨env, out2, by rw [loopH_norm e1 (by omega), e2]; exact e, g, r⟩
theorem f71 (t : Nat) (l : List Int) (hN : isN l) (hl : l.length ≤ 90000) : ∃ out, F71 [.one (.ro t (.ints .i64 l))] [] = some (.one (.row 0), [.rows (.ints .u8 out)]) ∧ Holds out l.length (leN l) := by
  obtain ⟨env, out, e, g, r⟩ := loop71 t l hN hl l.length 0 [] KK (by omega) holds0 (by rw [KK_eq]; omega)
  have z : ((0 : Nat) : Int) = 0 := rfl
  simp only [canon71, z] at e
  refine ⟨out, ?_, r⟩
  simp -implicitDefEqProofs [F71, c71, upd, e, g]
end Go.X.Try
set_option maxRecDepth 100000
set_option linter.unusedSimpArgs false
namespace Go.X.Try
open Go.IntWalk
theorem f49n : F49 [.one .nilp] [] = some (.one (.int .i64 0), []) := by
  simp -implicitDefEqProofs [F49, c49, upd]
theorem f49 (bs : List Int) (n : Int) : F49 [.one (.ptr 0 0)] (bufHp (some 0) bs n) = some (.one (.int .i64 n), bufHp (some 0) bs n) := by
  simp -implicitDefEqProofs [F49, c49, upd, bufHp]
theorem f86 (bs : List Int) (n at_ i a s w b : Int) (ei : shrI .i64 at_ 3 = i) (hi0 : 0 ≤ i) (hi : i < bs.length) (hb : bs[i.toNat]?.getD 0 = b) (ea : bitsI .and .i64 at_ 7 = a) (ha : ¬ a < 0) (es : shrI .u8 b a = s) (ec : IntKind.u32.wrap s = s) (ew : bitsI .and .u32 s 1 = w) :
    F86 [.one (.ptr 0 0), .one (.int .i64 at_)] (bufHp (some 0) bs n) = some (.one (.int .u32 w), bufHp (some 0) bs n) := by
  have hb' : bs[i.toNat]'(by omega) = b := by rw [List.getElem?_eq_getElem (by omega)] at hb; exact hb
  simp -implicitDefEqProofs [F86, c86, upd, bufHp, ei, hi0, hi, hb, hb', ea, ha, es, ec, ew, RC.len, RC.size, RC.get]
theorem bit66 (bs : List Int) (n : Int) (at_ : Nat) (hB : isB bs) (hl : bs.length ≤ 100000) (h : at_ < 8 * bs.length) : F86 [.one (.ptr 0 0), .one (.int .i64 at_)] (bufHp (some 0) bs n) = some (.one (.int .u32 ((leB bs / 2 ^ at_ % 2 : Nat) : Int)), bufHp (some 0) bs n) := by
  obtain ⟨a, ha⟩ : ∃ a, a = at_ % 8 := ⟨_, rfl⟩
  obtain ⟨i, hi⟩ : ∃ i, i = at_ / 8 := ⟨_, rfl⟩
  have hib : i < bs.length := by omega
  obtain ⟨b, hbi⟩ : ∃ b, bs[i]? = some b := ⟨_, List.getElem?_eq_getElem hib⟩
  have hbr := hB b (List.mem_of_getElem? hbi)
  obtain ⟨β, rfl⟩ : ∃ β : Nat, b = β := ⟨b.toNat, by omega⟩
  have hβ := leB_at hB hbi
  rw [Int.toNat_natCast] at hβ
  have hs1 : β / 2 ^ a < 256 := Nat.lt_of_le_of_lt (Nat.div_le_self _ _) (by omega)
  have ec : IntKind.u32.wrap ((β / 2 ^ a : Nat) : Int) = ((β / 2 ^ a : Nat) : Int) := by
    generalize β / 2 ^ a = s1 at hs1 ⊢
    exact u32_in _ (by omega)
  have hv : β / 2 ^ a % 2 = leB bs / 2 ^ at_ % 2 := by
    have := byte_bits (N := leB bs) (i := i) (a := a) (k := 1) (by omega)
    rw [hβ, show 8 * i + a = at_ by omega] at this
    exact this
  have ew : bitsI .and .u32 ((β / 2 ^ a : Nat) : Int) 1 = ((leB bs / 2 ^ at_ % 2 : Nat) : Int) := by
    rw [← hv]
    exact mask_and (k := .u32) (n := 1) rfl (by simp only [IntKind.bits]; omega) (by simp only [IntKind.bits]; omega)
  exact f86 bs n at_ i a _ _ β (by rw [show (3 : Int) = ((3 : Nat) : Int) from rfl, shr_in (by simp only [IntKind.bits]; omega), show (2 : Nat) ^ 3 = 8 from rfl, ← hi]) (by omega) (by omega) (by rw [Int.toNat_natCast, hbi]; rfl) (by rw [and7_i64 (by omega), ← ha]) (by omega) (shr_in (by simp only [IntKind.bits]; omega)) ec ew
def canon45 (n0 v i : Int) (bs : List Int) (n : Int) : St :=
  ⟨[(0, .one (.ptr 0 0)), (6, .one (.int .u32 v)), (25, .one (.int .i64 n0)), (26, .one (.int .i64 i))], [.ptr 0 0, .int .i64 n0], bufHp (some 0) bs n⟩
theorem body45 (n0 v i n n' w s v' i' : Int) (bs : List Int) (hi : i < n0) (en : IntKind.i64.wrap (n - 1) = n') (es : shlI .u32 v 1 = s) (ev : bitsI .or .u32 s w = v') (ei : IntKind.i64.wrap (i + 1) = i')
    (e86 : F86 [.one (.ptr 0 0), .one (.int .i64 n')] (bufHp (some 0) bs n') = some (.one (.int .u32 w), bufHp (some 0) bs n')) :
    ∃ st1, evC T45 KK b45x0 (canon45 n0 v i bs n) = some (.norm, st1) ∧ St.head [0, 6, 25, 26] st1 = canon45 n0 v' i' bs n' := by
  simp only [bufHp] at e86
  simp -implicitDefEqProofs [b45x0, canon45, bufHp, upd, hi, en, es, ev, ei, e86]
theorem end45 (n0 v i n : Int) (bs : List Int) (hi : ¬ i < n0) :
    ∃ env, evC T45 KK b45x0 (canon45 n0 v i bs n) = some (.exit 0, ⟨env, [.ptr 0 0, .int .i64 n0], bufHp (some 0) bs n⟩) ∧ getT 6 env = .one (.int .u32 v) := by
  simp -implicitDefEqProofs [b45x0, canon45, upd, hi]
theorem loop45 (bs : List Int) (n0 m : Nat) (hB : isB bs) (hl : bs.length ≤ 100000) (hm : m ≤ 8 * bs.length) (hn : n0 ≤ 32) (hnm : n0 ≤ m) : ∀ (j i : Nat) (K : Nat), i + j = n0 → j < K →
    ∃ env, loopH (evC T45 KK b45x0) [0, 6, 25, 26] K (canon45 n0 (leB bs / 2 ^ (m - i) % 2 ^ i : Nat) i bs (m - i : Nat)) = some (.exit 0, ⟨env, [.ptr 0 0, .int .i64 n0], bufHp (some 0) bs (m - n0 : Nat)⟩) ∧ getT 6 env = .one (.int .u32 (leB bs / 2 ^ (m - n0) % 2 ^ n0 : Nat))
  | 0, i, K, hi, hK => by
    obtain rfl : i = n0 := by omega
    obtain ⟨env, e, g⟩ := end45 i (leB bs / 2 ^ (m - i) % 2 ^ i : Nat) i (m - i : Nat) bs (by omega)
    exact ⟨env, loopH_exit e, g⟩
  | j + 1, i, K, hi, hK => by
    have hv : leB bs / 2 ^ (m - i) % 2 ^ i < 2 ^ i := Nat.mod_lt _ (Nat.two_pow_pos i)
    have hp : 2 ^ i ≤ 2 ^ 31 := Nat.pow_le_pow_right (by omega) (by omega)
    have hstep : leB bs / 2 ^ (m - (i + 1)) % 2 ^ (i + 1) = leB bs / 2 ^ (m - (i + 1)) % 2 + leB bs / 2 ^ (m - i) % 2 ^ i * 2 := by
      have := mod_more (leB bs / 2 ^ (m - (i + 1))) 1 i
      rw [Nat.add_comm 1 i, Nat.div_div_eq_div_mul, ← Nat.pow_add, show m - (i + 1) + 1 = m - i by omega, Nat.pow_one] at this
      exact this
    have hbit : leB bs / 2 ^ (m - (i + 1)) % 2 < 2 ^ 1 := Nat.mod_lt _ (by omega)
    have e86 := bit66 bs ((m - (i + 1) : Nat) : Int) (m - (i + 1)) hB hl (by omega)
    generalize hV : leB bs / 2 ^ (m - i) % 2 ^ i = V at *
    generalize hW : leB bs / 2 ^ (m - (i + 1)) % 2 = Wb at *
    have es : shlI .u32 (V : Int) 1 = ((V * 2 : Nat) : Int) := by
      have := shl_in (k := .u32) (x := V) (n := 1) rfl (by simp only [IntKind.bits]; omega) (by simp only [IntKind.bits]; omega)
      simpa using this
    have ev : bitsI .or .u32 ((V * 2 : Nat) : Int) (Wb : Int) = ((Wb + V * 2 : Nat) : Int) := by
      have h1 := bitsI_or (k := .u32) (x := V * 2) (y := Wb) rfl (by simp only [IntKind.bits]; omega) (by simp only [IntKind.bits]; omega)
      have h2 := Nat.shiftLeft_add_eq_or_of_lt hbit V
      rw [Nat.shiftLeft_eq, Nat.pow_one] at h2
      rw [h1, ← h2, Nat.add_comm]
    obtain ⟨st1, e1, e2⟩ := body45 n0 V i (m - i : Nat) (m - (i + 1) : Nat) Wb (V * 2 : Nat) (Wb + V * 2 : Nat) (i + 1 : Nat) bs (by omega) (by rw [i64_in _ (by omega)]; omega) es ev (by rw [i64_in _ (by omega)]; omega) e86
    obtain ⟨env, e, g⟩ := loop45 bs n0 m hB hl hm hn hnm j (i + 1) (K - 1) (by omega) (by omega)
    refine ⟨env, ?_, g⟩
    rw [loopH_norm e1 (by omega), e2, ← hstep]
    exact e
def tup2 (v : Int) (ok : Bool) : AV := .tup [.one (.int .u32 v), .one (.bool ok)]
theorem f45n (n : Int) : F45 [.one .nilp, .one (.int .i64 n)] [] = some (tup2 0 false, []) := by
  simp -implicitDefEqProofs [F45, c45, upd, tup2]
theorem f45a (bs : List Int) (m n : Int) (h : n < 0 ∨ 32 < n ∨ m < n) : F45 [.one (.ptr 0 0), .one (.int .i64 n)] (bufHp (some 0) bs m) = some (tup2 0 false, bufHp (some 0) bs m) := by
  by_cases h1 : n < 0
  · simp -implicitDefEqProofs [F45, c45, upd, tup2, bufHp, h1]
  · by_cases h2 : 32 < n
    · simp -implicitDefEqProofs [F45, c45, upd, tup2, bufHp, h1, h2]
    · have h3 : m < n := by omega
      simp -implicitDefEqProofs [F45, c45, upd, tup2, bufHp, h1, h2, h3]
theorem f45 (bs : List Int) (m n : Nat) (hB : isB bs) (hl : bs.length ≤ 100000) (hm : m ≤ 8 * bs.length) (hn : n ≤ 32) (hnm : n ≤ m) : F45 [.one (.ptr 0 0), .one (.int .i64 n)] (bufHp (some 0) bs m) = some (tup2 (leB bs / 2 ^ (m - n) % 2 ^ n : Nat) true, bufHp (some 0) bs (m - n : Nat)) := by
  obtain ⟨env, e, g⟩ := loop45 bs n m hB hl hm hn hnm n 0 KK (by omega) (by rw [KK_eq]; omega)
  have z : ((0 : Nat) : Int) = 0 := rfl
  have h1 : ¬ (n : Int) < 0 := by omega
  have h2 : ¬ (32 : Int) < n := by omega
  have h2' : ¬ 32 < n := by omega
  have h3 : ¬ (m : Int) < n := by omega
  have h3' : ¬ m < n := by omega
  simp only [canon45, bufHp, Nat.pow_zero, Nat.mod_one, Nat.sub_zero, z] at e
  generalize ((leB bs / 2 ^ (m - n) % 2 ^ n : Nat) : Int) = v at *
  generalize ((m - n : Nat) : Int) = m' at *
  simp -implicitDefEqProofs [F45, c45, upd, tup2, bufHp, h1, h2, h2', hn, h3, h3', e, g]
theorem f44z (t : Nat) (bs : List Int) (h : bs = [] ∨ bs.getLast? = some 0) (hl : bs.length ≤ 100000) : F44 [.one (.ro t (.ints .u8 bs))] [] = some (.tup [.one .nilp, .one (.bool false)], []) := by
  by_cases h0 : bs = []
  · subst h0
    simp -implicitDefEqProofs [F44, c44, upd, RC.len]
  · have hp : 0 < bs.length := List.length_pos_iff.2 h0
    have hlast : bs.getLast? = some 0 := h.resolve_left h0
    rw [List.getLast?_eq_getElem?] at hlast
    have w : IntKind.i64.wrap ((bs.length : Int) - 1) = ((bs.length - 1 : Nat) : Int) := by rw [i64_in _ (by omega)]; omega
    have hi : ((bs.length - 1 : Nat) : Int) < bs.length := by omega
    have hi2 : bs.length - 1 < bs.length := by omega
    have hb : bs[bs.length - 1]?.getD 0 = 0 := by rw [hlast]; rfl
    have hb' : bs[bs.length - 1] = 0 := by rw [List.getElem?_eq_getElem hi2] at hb; exact hb
    have hn : ¬ ((bs.length : Int) = 0) := by omega
    simp -implicitDefEqProofs [F44, c44, upd, h0, hn, w, hi, hi2, hb, hb', RC.len, RC.size, RC.get]
theorem f44 (t : Nat) (bs : List Int) (b : Int) (hB : isB bs) (h : bs.getLast? = some b) (hb0 : b ≠ 0) (hl : bs.length ≤ 100000) : F44 [.one (.ro t (.ints .u8 bs))] [] = some (.tup [.one (.ptr 0 0), .one (.bool true)], bufHp none bs (8 * (bs.length - 1) + (bl b.toNat - 1) : Nat)) := by
  have h0 : bs ≠ [] := by rintro rfl; simp at h
  have hp : 0 < bs.length := List.length_pos_iff.2 h0
  rw [List.getLast?_eq_getElem?] at h
  have hbr := hB b (List.mem_of_getElem? h)
  have w : IntKind.i64.wrap ((bs.length : Int) - 1) = ((bs.length - 1 : Nat) : Int) := by rw [i64_in _ (by omega)]; omega
  have hi : ((bs.length - 1 : Nat) : Int) < bs.length := by omega
  have hi2 : bs.length - 1 < bs.length := by omega
  have hb : bs[bs.length - 1]?.getD 0 = b := by rw [h]; rfl
  have hb' : bs[bs.length - 1] = b := by rw [List.getElem?_eq_getElem hi2] at hb; exact hb
  have hn : ¬ ((bs.length : Int) = 0) := by omega
  have wb : IntKind.u32.wrap b = b := u32_in _ (by omega)
  have e43 := e43 b hbr.1 (by omega)
  obtain ⟨h1, h2, h3⟩ := bl_pos (n := b.toNat) (by omega)
  have hbl := bl_le (n := b.toNat) (k := 8) (by omega)
  have wt : IntKind.i64.wrap ((bl b.toNat : Int) - 1) = ((bl b.toNat - 1 : Nat) : Int) := by rw [i64_in _ (by omega)]; omega
  have w8 : IntKind.i64.wrap (8 * ((bs.length - 1 : Nat) : Int)) = ((8 * (bs.length - 1) : Nat) : Int) := by rw [i64_in _ (by omega)]; omega
  have ws : IntKind.i64.wrap (((8 * (bs.length - 1) : Nat) : Int) + ((bl b.toNat - 1 : Nat) : Int)) = ((8 * (bs.length - 1) + (bl b.toNat - 1) : Nat) : Int) := by rw [i64_in _ (by omega)]; omega
  have hm : bs.length ≤ 140737488355328 := by omega
  generalize ((8 * (bs.length - 1) + (bl b.toNat - 1) : Nat) : Int) = q at *
  generalize ((8 * (bs.length - 1) : Nat) : Int) = q1 at *
  generalize ((bl b.toNat - 1 : Nat) : Int) = q2 at *
  simp -implicitDefEqProofs [F44, c44, upd, bufHp, h0, hn, w, hi, hi2, hb, hb', hb0, wb, e43, wt, w8, ws, hm, RC.len, RC.size, RC.get, RC.app]
end Go.X.Try
set_option maxRecDepth 100000
set_option linter.unusedSimpArgs false
namespace Go.X.Try
open Go.IntWalk
theorem f56z (bs : List Int) (c : Nat) (hl : bs.length ≤ 90000) (hc : c = 8 * bs.length) : F56 [.one (.ptr 0 0)] (bufHp (some 0) bs c) = some (.one (.row 2), bufHp (some 0) bs c ++ [.rows (.ints .u8 (bs ++ [1]))]) := by
  have e92 := f92 bs c (by omega)
  have e93 := f93 bs c
  have ea : bitsI .and .i64 (c : Int) 7 = 0 := by rw [and7_i64 (by omega)]; omega
  have ei : shrI .i64 (c : Int) 3 = bs.length := by rw [show (3 : Int) = ((3 : Nat) : Int) from rfl, shr_in (by simp only [IntKind.bits]; omega), show (2 : Nat) ^ 3 = 8 from rfl]; omega
  have s1 : shlI .u8 1 0 = 1 := by decide
  have s2 : bitsI .or .u8 0 1 = 1 := by decide
  have hm : bs.length + 1 ≤ 140737488355328 := by omega
  have hb1 : (bs.length : Int) < (bs.length : Int) + 1 := by omega
  simp only [bufHp, List.cons_append, List.nil_append] at e92 e93
  generalize (c : Int) = C at *
  simp -implicitDefEqProofs [F56, c56, upd, bufHp, e92, e93, ea, ei, s1, s2, hm, hb1, RC.len, RC.size, RC.get, RC.set, RC.app, RC.ofElems]
theorem f56s (bs : List Int) (c : Nat) (a s x y : Int) (i : Nat) (ea : bitsI .and .i64 (c : Int) 7 = a) (ha : ¬ a = 0) (ha0 : ¬ a < 0) (ei : shrI .i64 (c : Int) 3 = i) (hi : i < bs.length) (hx : bs[i]?.getD 0 = x) (es : shlI .u8 1 a = s) (ey : bitsI .or .u8 x s = y) (hl : bs.length ≤ 90000) :
    F56 [.one (.ptr 0 0)] (bufHp (some 0) bs c) = some (.one (.row 2), bufHp (some 0) bs c ++ [.rows (.ints .u8 (bs.set i y))]) := by
  have e92 := f92 bs c (by omega)
  have e93 := f93 bs c
  have hx' : bs[i] = x := by rw [List.getElem?_eq_getElem hi] at hx; exact hx
  have hi2 : (i : Int) < bs.length := by omega
  simp only [bufHp, List.cons_append, List.nil_append] at e92 e93
  generalize (c : Int) = C at *
  simp -implicitDefEqProofs [F56, c56, upd, bufHp, e92, e93, ea, ha, ha0, ei, hi, hi2, hx, hx', es, ey, RC.len, RC.size, RC.get, RC.set, RC.app, RC.ofElems]
theorem f56 (bs : List Int) (c N : Nat) (h : Holds bs c N) (hc : c ≤ 700000) : ∃ out, F56 [.one (.ptr 0 0)] (bufHp (some 0) bs c) = some (.one (.row 2), bufHp (some 0) bs c ++ [.rows (.ints .u8 out)]) ∧ Holds out (c + 1) (N + 2 ^ c) := by
  obtain ⟨hB, hlen, hval, hlt⟩ := h
  have hp : 2 ^ (c + 1) = 2 * 2 ^ c := by rw [Nat.pow_succ]; omega
  by_cases h0 : c % 8 = 0
  · refine ⟨_, f56z bs c (by omega) (by omega), isB_append hB (isB_one (by omega)), ?_, ?_, by omega⟩
    · rw [List.length_append, List.length_cons, List.length_nil]; omega
    · rw [leB_append, hval, show 8 * bs.length = c by omega]; simp [leB]
  · obtain ⟨a, ha⟩ : ∃ a, a = c % 8 := ⟨_, rfl⟩
    obtain ⟨q, hq⟩ : ∃ q, q = c / 8 := ⟨_, rfl⟩
    have hql : q < bs.length := by omega
    obtain ⟨b, hbi⟩ : ∃ b, bs[q]? = some b := ⟨_, List.getElem?_eq_getElem hql⟩
    have hbr := hB b (List.mem_of_getElem? hbi)
    obtain ⟨β, rfl⟩ : ∃ β : Nat, b = β := ⟨b.toNat, by omega⟩
    have hβ := leB_at hB hbi
    rw [hval, Int.toNat_natCast] at hβ
    have hβa : β < 2 ^ a := by
      rw [← hβ]
      refine Nat.lt_of_le_of_lt (Nat.mod_le _ _) ?_
      rw [Nat.div_lt_iff_lt_mul (Nat.two_pow_pos _), ← Nat.pow_add, show a + 8 * q = c by omega]
      exact hlt
    have hp7 : 2 ^ a ≤ 2 ^ 7 := Nat.pow_le_pow_right (by omega) (by omega)
    have es : shlI .u8 1 (a : Int) = ((1 * 2 ^ a : Nat) : Int) := shl_in (k := .u8) (x := 1) rfl (by simp only [IntKind.bits]; omega) (by simp only [IntKind.bits]; omega)
    have ey : bitsI .or .u8 (β : Int) ((1 * 2 ^ a : Nat) : Int) = ((β + 1 * 2 ^ a : Nat) : Int) := or_add rfl hβa (by simp only [IntKind.bits]; omega)
    refine ⟨_, f56s bs c a _ β _ q (by rw [and7_i64 (by omega), ← ha]) (by omega) (by omega) (by rw [show (3 : Int) = ((3 : Nat) : Int) from rfl, shr_in (by simp only [IntKind.bits]; omega), show (2 : Nat) ^ 3 = 8 from rfl, ← hq]) hql (by rw [hbi]; rfl) es ey (by omega), ?_, ?_, ?_, by omega⟩
    · intro x hx
      rcases List.mem_or_eq_of_mem_set hx with hx | hx
      · exact hB x hx
      · subst hx
        generalize (2 : Nat) ^ a = P at hp7 hβa ⊢
        omega
    · rw [List.length_set]; omega
    · have := leB_set (d := 1 * 2 ^ a) hB hbi
      rw [hval, Nat.one_mul, ← Nat.pow_add, show a + 8 * q = c by omega] at this
      rw [← this, Nat.one_mul]
      congr 2
theorem f30 (t : Nat) (l : List Int) (hN : isN l) (hl : l.length ≤ 80000) : ∃ out, F30 [.one (.ro t (.ints .i64 l))] [] = some (.one (.row 0), [.rows (.ints .u8 out)]) ∧ Holds out (l.length + 1) (leN l + 2 ^ l.length) := by
  have hN1 : isN (l ++ [1]) := fun x hx => by
    rcases List.mem_append.1 hx with hx | hx
    · exact hN x hx
    · simp only [List.mem_cons, List.not_mem_nil, or_false] at hx
      exact .inr hx
  have hlen1 : (l ++ [1]).length = l.length + 1 := by simp
  obtain ⟨out, e, ho⟩ := f71 0 (l ++ [1]) hN1 (by rw [hlen1]; omega)
  refine ⟨out, ?_, ?_⟩
  · have hm : (l.length + 1) * 8 ≤ 140737488355328 := by omega
    have hm2 : l.length * 8 ≤ 140737488355328 := by omega
    simp -implicitDefEqProofs [F30, c30, upd, e, hm, hm2, RC.len, RC.size, RC.app, RC.ofElems]
  · rw [hlen1, leN_append] at ho
    simpa [leN] using ho
def canon50 (t : Nat) (bs l : List Int) (k : Int) : St := ⟨[(4, .one (.row 0)), (5, .one (.int .i64 k))], [.ro t (.ints .u8 bs)], [.rows (.ints .i64 l)]⟩
theorem body50 (t : Nat) (bs l : List Int) (k : Nat) (k' : Int) (hk : k < l.length) (hb : l[k]?.getD 0 = 0) (ek : IntKind.i64.wrap ((k : Int) - 1) = k') :
    ∃ st1, evC T50 KK b50x0 (canon50 t bs l k) = some (.norm, st1) ∧ St.head [4, 5] st1 = canon50 t bs l k' := by
  have hb' : l[k] = 0 := by rw [List.getElem?_eq_getElem hk] at hb; exact hb
  have hk2 : (k : Int) < l.length := by omega
  simp -implicitDefEqProofs [b50x0, canon50, upd, hk, hk2, hb, hb', ek, RC.len, RC.size, RC.get]
theorem end50 (t : Nat) (bs l : List Int) (k : Nat) (hk : k < l.length) (hb : l[k]?.getD 0 = 1) :
    ∃ env, evC T50 KK b50x0 (canon50 t bs l k) = some (.exit 0, ⟨env, [.ro t (.ints .u8 bs)], [.rows (.ints .i64 l)]⟩) ∧ getT 4 env = .one (.row 0) ∧ getT 5 env = .one (.int .i64 k) := by
  have hb' : l[k] = 1 := by rw [List.getElem?_eq_getElem hk] at hb; exact hb
  have hk2 : (k : Int) < l.length := by omega
  simp -implicitDefEqProofs [b50x0, canon50, upd, hk, hk2, hb, hb', RC.len, RC.size, RC.get]
theorem loop50 (t : Nat) (bs l : List Int) (hN : isN l) (hl : l.length ≤ 800000) (hpos : 0 < leN l) : ∀ (k K : Nat), k < l.length → leN l < 2 ^ (k + 1) → k < K →
    ∃ env, loopH (evC T50 KK b50x0) [4, 5] K (canon50 t bs l k) = some (.exit 0, ⟨env, [.ro t (.ints .u8 bs)], [.rows (.ints .i64 l)]⟩) ∧ getT 4 env = .one (.row 0) ∧ getT 5 env = .one (.int .i64 (bl (leN l) - 1 : Nat)) ∧ bl (leN l) - 1 < l.length
  | k, K, hk, hlt, hK => by
    have hb := hN l[k] (List.getElem_mem hk)
    have hg : l[k]?.getD 0 = l[k] := by rw [List.getElem?_eq_getElem hk]; rfl
    have hat := leN_at hN (List.getElem?_eq_getElem hk)
    have hp : 2 ^ (k + 1) = 2 ^ k * 2 := Nat.pow_succ 2 k
    have hp0 := Nat.two_pow_pos k
    have hq : leN l / 2 ^ k < 2 := by rw [Nat.div_lt_iff_lt_mul hp0]; omega
    rcases hb with hb | hb
    · rw [hb] at hat hg
      have hq0 : leN l / 2 ^ k = 0 := by
        simp only [Int.toNat_zero] at hat
        generalize leN l / 2 ^ k = Q at hat hq ⊢
        omega
      have hlt2 : leN l < 2 ^ k := (Nat.div_eq_zero_iff_lt hp0).1 hq0
      cases k with
      | zero => omega
      | succ k =>
        obtain ⟨st1, e1, e2⟩ := body50 t bs l (k + 1) k hk hg (by rw [i64_in _ (by omega)]; omega)
        obtain ⟨env, e, g⟩ := loop50 t bs l hN hl hpos k (K - 1) (by omega) hlt2 (by omega)
        exact ⟨env, by rw [loopH_norm e1 (by omega), e2]; exact e, g⟩
    · rw [hb] at hat hg
      have hq1 : leN l / 2 ^ k = 1 := by
        have h1 : (1 : Int).toNat = 1 := rfl
        rw [h1] at hat
        generalize leN l / 2 ^ k = Q at hat hq ⊢
        omega
      have hge : 2 ^ k ≤ leN l := by
        have := Nat.div_mul_le_self (leN l) (2 ^ k)
        rw [hq1] at this
        omega
      have hbl := bl_unique hge hlt
      obtain ⟨env, e, g4, g5⟩ := end50 t bs l k hk hg
      exact ⟨env, loopH_exit e, g4, by rw [hbl, Nat.add_sub_cancel]; exact g5, by omega⟩
theorem f50z (t : Nat) (bs : List Int) (h : bs = [] ∨ bs.getLast? = some 0) (hl : bs.length ≤ 90000) : F50 [.one (.ro t (.ints .u8 bs))] [] = some (.tup [.one (.row 0), .one (.bool false)], [.rows (.ints .i64 [])]) := by
  by_cases h0 : bs = []
  · subst h0
    simp -implicitDefEqProofs [F50, c50, upd, RC.len]
  · have hp : 0 < bs.length := List.length_pos_iff.2 h0
    have hlast : bs.getLast? = some 0 := h.resolve_left h0
    rw [List.getLast?_eq_getElem?] at hlast
    have w : IntKind.i64.wrap ((bs.length : Int) - 1) = ((bs.length - 1 : Nat) : Int) := by rw [i64_in _ (by omega)]; omega
    have hi : ((bs.length - 1 : Nat) : Int) < bs.length := by omega
    have hi2 : bs.length - 1 < bs.length := by omega
    have hb : bs[bs.length - 1]?.getD 0 = 0 := by rw [hlast]; rfl
    have hb' : bs[bs.length - 1] = 0 := by rw [List.getElem?_eq_getElem hi2] at hb; exact hb
    have hn : ¬ ((bs.length : Int) = 0) := by omega
    simp -implicitDefEqProofs [F50, c50, upd, h0, hn, w, hi, hi2, hb, hb', RC.len, RC.size, RC.get]
/-- Bytes whose last one is not 0: how long their number is. -/
theorem bl_leB {bs : List Int} {b : Int} (hB : isB bs) (h : bs.getLast? = some b) (hb0 : b ≠ 0) : bl (leB bs) = 8 * (bs.length - 1) + bl b.toNat ∧ 0 < leB bs := by
  have h0 : bs ≠ [] := by rintro rfl; simp at h
  have hp : 0 < bs.length := List.length_pos_iff.2 h0
  rw [List.getLast?_eq_getElem?] at h
  have hbr := hB b (List.mem_of_getElem? h)
  have hat := leB_at hB h
  have hlt := leB_lt hB
  have hq : leB bs / 2 ^ (8 * (bs.length - 1)) < 256 := by
    rw [Nat.div_lt_iff_lt_mul (Nat.two_pow_pos _)]
    have : 2 ^ (8 * bs.length) = 256 * 2 ^ (8 * (bs.length - 1)) := by
      rw [show 8 * bs.length = 8 + 8 * (bs.length - 1) by omega, Nat.pow_add]
    omega
  rw [Nat.mod_eq_of_lt hq] at hat
  have hge : 2 ^ (8 * (bs.length - 1)) ≤ leB bs := by
    have := Nat.div_mul_le_self (leB bs) (2 ^ (8 * (bs.length - 1)))
    rw [hat] at this
    have h1 : 1 * 2 ^ (8 * (bs.length - 1)) ≤ b.toNat * 2 ^ (8 * (bs.length - 1)) := Nat.mul_le_mul_right _ (by omega)
    omega
  have := Nat.two_pow_pos (8 * (bs.length - 1))
  exact ⟨by rw [bl_div _ hge, hat], by omega⟩
theorem f50 (t : Nat) (bs : List Int) (b : Int) (hB : isB bs) (h : bs.getLast? = some b) (hb0 : b ≠ 0) (hl : bs.length ≤ 10000) :
    ∃ A, F50 [.one (.ro t (.ints .u8 bs))] [] = some (.tup [.one (.view 0 0 (bl (leB bs) - 1)), .one (.bool true)], [.rows (.ints .i64 A)]) ∧ isN A ∧ leN A = leB bs ∧ bl (leB bs) - 1 < A.length ∧ A.length = 8 * bs.length := by
  have h0 : bs ≠ [] := by rintro rfl; simp at h
  have hp : 0 < bs.length := List.length_pos_iff.2 h0
  have hbl := bl_leB hB h hb0
  obtain ⟨A, e88, hN, hlen, hv⟩ := f88 0 bs hB (by omega)
  obtain ⟨env, e, g4, g5, hbk⟩ := loop50 t bs A hN (by omega) (by rw [hv]; exact hbl.2) (A.length - 1) KK (by omega) (by rw [show A.length - 1 + 1 = A.length by omega]; exact leN_lt hN) (by rw [KK_eq]; omega)
  rw [hv] at g5 hbk
  rw [List.getLast?_eq_getElem?] at h
  have w : IntKind.i64.wrap ((bs.length : Int) - 1) = ((bs.length - 1 : Nat) : Int) := by rw [i64_in _ (by omega)]; omega
  have wA : IntKind.i64.wrap ((A.length : Int) - 1) = ((A.length - 1 : Nat) : Int) := by rw [i64_in _ (by omega)]; omega
  have hi : ((bs.length - 1 : Nat) : Int) < bs.length := by omega
  have hi2 : bs.length - 1 < bs.length := by omega
  have hb : bs[bs.length - 1]?.getD 0 = b := by rw [h]; rfl
  have hb' : bs[bs.length - 1] = b := by rw [List.getElem?_eq_getElem hi2] at hb; exact hb
  have hn : ¬ ((bs.length : Int) = 0) := by omega
  refine ⟨A, ?_, hN, hv, hbk, hlen⟩
  have hbk1 : ((bl (leB bs) - 1 : Nat) : Int) ≤ A.length := by omega
  have hbk2 : bl (leB bs) - 1 ≤ A.length := by omega
  simp only [canon50] at e
  have wb : ¬ (b == 0) = true := by simpa using hb0
  generalize bl (leB bs) - 1 = q at *
  simp -implicitDefEqProofs [F50, c50, upd, h0, hn, w, wA, hi, hi2, hb, hb', hb0, e88, e, g4, g5, hbk1, hbk2, RC.len, RC.size, RC.get]
end Go.X.Try
