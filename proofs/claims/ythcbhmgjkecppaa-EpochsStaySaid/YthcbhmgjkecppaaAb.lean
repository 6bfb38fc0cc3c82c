import Derived.Test.YthcbhmgjkecppaaAa
import Derived.Laws.IdiomStrings
set_option linter.unusedVariables false
namespace Go.X
section
variable {C : Cx} {ρ : Nat → RV} {hp : List Ob} {o : Oper} {a : Act} {w w' : World} {env : Env}
theorem isNilPtr_eq {x : Operand} (h : isNilPtr x = true) : x = .const (.pointer none) := by
  unfold isNilPtr at h
  split at h
  · rfl
  · simp at h
theorem equal_ptr_nil {T e : TypeId} (hT : C.P.underlying T = some (.pointer e)) (p : Option Addr) : (Op.equal T (.pointer p) (.pointer none)).run C.P w = .ok p.isNone w ∧ (Op.equal T (.pointer none) (.pointer p)).run C.P w = .ok p.isNone w := by
  have h : ∀ d : Nat, (Op.equalIn (d + 1) T (.pointer p) (.pointer none)).run C.P w = .ok p.isNone w ∧ (Op.equalIn (d + 1) T (.pointer none) (.pointer p)).run C.P w = .ok p.isNone w := by
    intro d
    cases p <;> simp [Op.equalIn, run_underlying hT]
  exact h 9999
theorem g_eqNil {op : BinOp} {neq : Bool} {T t T' e : TypeId} {X Y : Operand} {x : AO} {res : AV × List Ob} (hop : (op = .eql ∧ neq = false) ∨ (op = .neq ∧ neq = true)) (hT : C.P.underlying T = some (.pointer e))
    (hXY : (o.op = .binOp op T X Y T' ∧ isNilPtr Y = true) ∨ (o.op = .binOp op T Y X T' ∧ isNilPtr Y = true)) (hx : cOp C.P t X = some x)
    (he : EnvR C hp.length ρ env a) (hH : HR C ρ hp w) (hF : FR C w) (h : oEqNil hp neq (getO env x) = some res) : Good C ρ hp o a w res := by
  have h1 := cOp_ok hx he
  obtain ⟨dst, op', type, pos, after, guard⟩ := o
  have hn : a.eval Y = .pointer none := by
    rcases hXY with ⟨_, h⟩ | ⟨_, h⟩ <;> rw [isNilPtr_eq h] <;> rfl
  have key : ∃ p, a.eval X = .pointer p ∧ res = (.one (.bool (if neq = true then !p.isNone else p.isNone)), hp) := by
    generalize getO env x = s at h h1
    generalize a.eval X = v at h1
    unfold oEqNil at h
    split at h <;> simp at h <;> subst h <;> cases h1 with | one _ _ h1 => ?_
    all_goals cases h1
    all_goals exact ⟨_, rfl, by cases neq <;> rfl⟩
  obtain ⟨p, hp', rfl⟩ := key
  obtain ⟨e1, e2⟩ := equal_ptr_nil (w := w) hT p
  refine good_same (v := .bool (if neq = true then !p.isNone else p.isNone)) ?_ (.one _ _ (.bool _)) hH hF
  rcases hop with ⟨rfl, rfl⟩ | ⟨rfl, rfl⟩ <;> rcases hXY with ⟨h, _⟩ | ⟨h, _⟩ <;> dsimp only at h <;> subst h <;> refine val_run _ ?_ <;> simp [eqGuard, hp', hn, binOp, e1, e2]
theorem equal_bool {T : TypeId} (hT : C.P.underlying T = some .bool) (p q : Bool) : (Op.equal T (.bool p) (.bool q)).run C.P w = .ok (p == q) w := by
  have h : ∀ d : Nat, (Op.equalIn (d + 1) T (.bool p) (.bool q)).run C.P w = .ok (p == q) w := by
    intro d; simp [Op.equalIn, run_underlying hT]
  exact h 9999
theorem g_eqB {op : BinOp} {neq : Bool} {T t t' T' : TypeId} {X Y : Operand} {x y : AO} {res : AV × List Ob} (hop : (op = .eql ∧ neq = false) ∨ (op = .neq ∧ neq = true)) (hT : C.P.underlying T = some .bool)
    (ho : o.op = .binOp op T X Y T') (hx : cOp C.P t X = some x) (hy : cOp C.P t' Y = some y)
    (he : EnvR C hp.length ρ env a) (hH : HR C ρ hp w) (hF : FR C w) (h : oEqB hp neq (getO env x) (getO env y) = some res) : Good C ρ hp o a w res := by
  have h1 := cOp_ok hx he
  have h2 := cOp_ok hy he
  obtain ⟨dst, op', type, pos, after, guard⟩ := o
  dsimp only at ho; subst ho
  generalize getO env x = s1 at h h1
  generalize getO env y = s2 at h h2
  unfold oEqB at h
  split at h
  · rename_i p q
    simp [putB] at h; subst h
    generalize hv1 : a.eval X = v1 at h1
    generalize hv2 : a.eval Y = v2 at h2
    cases h1 with | one _ _ h1 => ?_
    cases h2 with | one _ _ h2 => ?_
    cases h1; cases h2
    have e1 := equal_bool (w := w) hT p q
    refine good_same (v := .bool (if neq = true then !(p == q) else p == q)) (val_run _ ?_) (.one _ _ (.bool _)) hH hF
    rcases hop with ⟨rfl, rfl⟩ | ⟨rfl, rfl⟩ <;> simp [eqGuard, hv1, hv2, binOp, e1]
  · simp at h
theorem bound_run {k : IntKind} {z : Int} {y : Nat} {code : BoundsCode} (h0 : 0 ≤ z) (h1 : z ≤ y) : (Instr.sliceBound (.int k z) y code).run C.P w = .ok z.toNat w := by
  simp [Instr.sliceBound, asIntOf, h0, h1]
theorem bounds_run {isSlice : Bool} {len cap : Nat} {lo hi : Option Operand} {lo' hi' : Option AO} {A B : Int} (hlo : cOpt C.P lo = some lo') (hhi : cOpt C.P hi = some hi') (he : EnvR C hp.length ρ env a)
    (hA : optInt 0 (getSo env lo') = some A) (hB : optInt len (getSo env hi') = some B) (h0 : 0 ≤ A) (h1 : A ≤ B) (h2 : B ≤ cap) :
    (Instr.sliceBounds isSlice len cap (lo.map a.eval) (hi.map a.eval) none).run C.P w = .ok (A.toNat, B.toNat, cap) w := by
  have val : ∀ {x : Option Operand} {x' : Option AO} {d : Nat} {z : Int}, cOpt C.P x = some x' → optInt d (getSo env x') = some z → (x = none ∧ z = d) ∨ ∃ X k, x = some X ∧ a.eval X = .int k z := by
    intro x x' d z hx hz
    cases x with
    | none => simp [cOpt] at hx; subst hx; simp [getSo, optInt] at hz; exact .inl ⟨rfl, hz.symm⟩
    | some X =>
      simp only [cOpt, Option.map_eq_some_iff] at hx
      obtain ⟨y, hy, rfl⟩ := hx
      have h := cOp_ok hy he
      simp only [getSo, getS] at hz
      cases hs : (getO env y).sv <;> simp [hs, optInt] at hz
      subst hz
      obtain ⟨e, h'⟩ := h.sv_of (by rw [hs]; simp)
      rw [hs] at h'
      generalize hv : a.eval X = v at h'
      cases h'
      exact .inr ⟨X, _, rfl, hv⟩
  rcases val hhi hB with ⟨rfl, rfl⟩ | ⟨Y, j, rfl, hY⟩ <;> rcases val hlo hA with ⟨rfl, rfl⟩ | ⟨X, k, rfl, hX⟩
  · simp [Instr.sliceBounds]
  · simp [Instr.sliceBounds, hX, bound_run h0 h1]
  · have hB0 : 0 ≤ B := by omega
    simp [Instr.sliceBounds, hY, bound_run hB0 h2]
  · have hB0 : 0 ≤ B := by omega
    have h1' : A ≤ (B.toNat : Int) := by omega
    simp [Instr.sliceBounds, hX, hY, bound_run hB0 h2, bound_run h0 h1']
theorem g_cutS {T t : TypeId} {X : Operand} {x : AO} {lo hi : Option Operand} {lo' hi' : Option AO} {res : AV × List Ob} (ho : o.op = .slice T X lo hi none) (hT : C.P.underlying T = some .string) (hx : cOp C.P t X = some x) (hlo : cOpt C.P lo = some lo') (hhi : cOpt C.P hi = some hi')
    (he : EnvR C hp.length ρ env a) (hH : HR C ρ hp w) (hF : FR C w) (h : oCutS hp (getSo env lo') (getSo env hi') (getO env x) = some res) : Good C ρ hp o a w res := by
  have h1 := cOp_ok hx he
  obtain ⟨dst, op', type, pos, after, guard⟩ := o
  dsimp only at ho; subst ho
  generalize getO env x = s at h h1
  generalize hv : a.eval X = v at h1
  unfold oCutS at h
  split at h
  · rename_i s
    cases h1 with | one _ _ h1 => ?_
    cases h1
    unfold cutS2 at h
    split at h
    · rename_i A B hA hB
      split at h <;> simp at h
      rename_i hb
      subst h
      have hr := bounds_run (w := w) (isSlice := false) hlo hhi he hA hB hb.1 hb.2.1 hb.2.2
      refine good_same (v := .string (s.extract A.toNat B.toNat)) (val_run _ ?_) (.one _ _ (.str _)) hH hF
      simp [Instr.sliceAt, run_underlying hT, Instr.slice, hv, hr]
    · simp at h
  · simp at h
theorem lenOf_ok {s : SV} {v : Value} {n : Nat} (hH : HR C ρ hp w) (h : VR C hp.length ρ s v) (hn : lenOf hp s = some n) : ∃ u c, v = .slice u n c := by
  unfold lenOf at hn
  split at hn
  · rename_i k
    unfold lenAt at hn
    split at hn <;> simp at hn
    rename_i c hc
    subst hn
    obtain ⟨_, _, a, cap, hd⟩ := rows_wf hH hc
    cases h with
    | row _ a' m cap' hk hh => rw [hd] at hh; simp at hh; obtain ⟨rfl, rfl, rfl⟩ := hh; exact ⟨_, _, rfl⟩
  · simp at hn; subst hn; cases h <;> exact ⟨_, _, rfl⟩
  · simp at hn; subst hn; cases h; exact ⟨_, _, rfl⟩
  · simp at hn; subst hn; cases h; exact ⟨_, _, rfl⟩
  · simp at hn; subst hn; cases h; exact ⟨_, _, rfl⟩
  · simp at hn
theorem call_builtin {dst : Option Nat} {type : TypeId} {pos : String} {after : Array Edge} {guard : Option (Nat × Bool)} {b : Builtin} {args : Array Operand} {ts : Array TypeId} {v : Value} {w' : World}
    (h : ∀ consts, Sem.run C.P (builtin b ts type consts (args.map a.eval)) w = .ok (.value v) w') : (execOp a.eval ⟨dst, .call ⟨.builtin b, args, ts⟩, type, pos, after, guard⟩).run C.P w = .ok (.value v) w' := by
  simp [execOp, resolve, invoke, h]
theorem g_len {T t : TypeId} {X : Operand} {x : AO} {res : AV × List Ob} {c : Call} (ho : o.op = .call c) (hc : c.callee = .builtin .len) (hA : c.args.toList = [X]) (hTs : c.argTypes.toList = [T]) (hT : ∃ e, C.P.underlying T = some (.slice e)) (hx : cOp C.P t X = some x)
    (he : EnvR C hp.length ρ env a) (hH : HR C ρ hp w) (hF : FR C w) (h : oLen hp (lenOf hp (getS env x)) = some res) : Good C ρ hp o a w res := by
  have h1 := cOp_ok hx he
  obtain ⟨dst, op', type, pos, after, guard⟩ := o
  obtain ⟨cl, ca, ct⟩ := c
  dsimp only at ho hc hA hTs; subst ho hc
  obtain rfl : ca = #[X] := by rw [← Array.toArray_toList (xs := ca), hA]
  obtain rfl : ct = #[T] := by rw [← Array.toArray_toList (xs := ct), hTs]
  obtain ⟨e, hT⟩ := hT
  cases hl : lenOf hp (getS env x) with
  | none => simp [hl, oLen] at h
  | some n =>
    simp [hl, oLen] at h; subst h
    obtain ⟨_, h2⟩ := h1.sv_of (by intro e; rw [getS, e] at hl; simp [lenOf] at hl)
    obtain ⟨u, c, hv⟩ := lenOf_ok hH h2 hl
    refine good_same (v := .int .i64 n) (call_builtin fun consts => ?_) (.one _ _ (.int _ _)) hH hF
    simp [builtin, Builtin.len_, run_underlying hT, hv, goInt]
theorem g_lenS {T t : TypeId} {X : Operand} {x : AO} {res : AV × List Ob} {c : Call} (ho : o.op = .call c) (hc : c.callee = .builtin .len) (hA : c.args.toList = [X]) (hTs : c.argTypes.toList = [T]) (hT : C.P.underlying T = some .string) (hx : cOp C.P t X = some x)
    (he : EnvR C hp.length ρ env a) (hH : HR C ρ hp w) (hF : FR C w) (h : oLenS hp (getO env x) = some res) : Good C ρ hp o a w res := by
  have h1 := cOp_ok hx he
  obtain ⟨dst, op', type, pos, after, guard⟩ := o
  obtain ⟨cl, ca, ct⟩ := c
  dsimp only at ho hc hA hTs; subst ho hc
  obtain rfl : ca = #[X] := by rw [← Array.toArray_toList (xs := ca), hA]
  obtain rfl : ct = #[T] := by rw [← Array.toArray_toList (xs := ct), hTs]
  generalize getO env x = s at h h1
  unfold oLenS at h
  split at h <;> simp at h
  subst h
  generalize hv : a.eval X = v at h1
  cases h1 with | one _ _ h1 => ?_
  cases h1
  refine good_same (v := .int .i64 _) (call_builtin fun consts => ?_) (.one _ _ (.int _ _)) hH hF
  simp [builtin, Builtin.len_, run_underlying hT, hv, goInt]
theorem g_min {c : Call} {l : List AO} {res : AV × List Ob} (ho : o.op = .call c) (hc : c.callee = .builtin .min) (hx : cOps C.P c.argTypes.toList c.args.toList = some l)
    (he : EnvR C hp.length ρ env a) (hH : HR C ρ hp w) (hF : FR C w) (h : oMin hp (getL env l) = some res) : Good C ρ hp o a w res := by
  have h1 := cOps_ok he hx
  obtain ⟨dst, op', type, pos, after, guard⟩ := o
  obtain ⟨cl, ca, ct⟩ := c
  dsimp only at ho hc hx h1; subst ho hc
  generalize getL env l = s at h h1
  unfold oMin at h
  split at h <;> simp at h
  rename_i k x j y
  subst h
  have e : (ca.map a.eval).toList = ca.toList.map a.eval := by simp
  refine good_same (v := .int k (if y < x then y else x)) (call_builtin fun consts => ?_) (.one _ _ (.int _ _)) hH hF
  generalize ca.toList.map a.eval = L at h1 e
  cases h1 with | cons _ v1 _ vs h1 hl => ?_
  cases hl with | cons _ v2 _ vs h2 hl => ?_
  cases hl
  cases h1 with | one _ _ h1 => ?_
  cases h2 with | one _ _ h2 => ?_
  cases h1; cases h2
  simp only [builtin, Builtin.min_, e]
  simp [Builtin.min2]
theorem g_max {c : Call} {l : List AO} {res : AV × List Ob} (ho : o.op = .call c) (hc : c.callee = .builtin .max) (hx : cOps C.P c.argTypes.toList c.args.toList = some l)
    (he : EnvR C hp.length ρ env a) (hH : HR C ρ hp w) (hF : FR C w) (h : oMax hp (getL env l) = some res) : Good C ρ hp o a w res := by
  have h1 := cOps_ok he hx
  obtain ⟨dst, op', type, pos, after, guard⟩ := o
  obtain ⟨cl, ca, ct⟩ := c
  dsimp only at ho hc hx h1; subst ho hc
  generalize getL env l = s at h h1
  unfold oMax at h
  split at h <;> simp at h
  rename_i k x j y
  subst h
  have e : (ca.map a.eval).toList = ca.toList.map a.eval := by simp
  refine good_same (v := .int k (if x < y then y else x)) (call_builtin fun consts => ?_) (.one _ _ (.int _ _)) hH hF
  generalize ca.toList.map a.eval = L at h1 e
  cases h1 with | cons _ v1 _ vs h1 hl => ?_
  cases hl with | cons _ v2 _ vs h2 hl => ?_
  cases hl
  cases h1 with | one _ _ h1 => ?_
  cases h2 with | one _ _ h2 => ?_
  cases h1; cases h2
  simp only [builtin, Builtin.max_, e]
  simp [Builtin.max2]
end
end Go.X
