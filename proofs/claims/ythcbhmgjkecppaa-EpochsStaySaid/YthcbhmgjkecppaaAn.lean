import Derived.Test.YthcbhmgjkecppaaAm
import Derived.ChangeKeysEq
import Derived.Laws.StructEq
set_option linter.unusedVariables false
set_option linter.unusedSimpArgs false
namespace Go.X
section
variable {C : Cx} {ρ ρ' : Nat → RV} {hp hp1 : List Ob} {w w' : World} {o : Oper} {a : Act} {env : Env} {Γ : Nat → Callee} {n : Nat}
/-! ### structs and arrays, cell by cell -/
def Rep (C : Cx) (n : Nat) (ρ : Nat → RV) (t : TypeId) (l : List SV) (v : Value) : Prop :=
  match isAggT C.P t with
  | some true => ∃ xs : List Value, v = .agg xs.toArray ∧ VRL C n ρ l xs
  | _ => ∃ s, l = [s] ∧ VR C n ρ s v
theorem eqScs_nil {l m : List SV} {r : Bool} (h : eqScs [] l m = some r) : r = true := by
  cases l <;> cases m <;> simp [eqScs] at h
  exact h
theorem eqScs_append : ∀ {z1 z2 : List Sc} {l m : List SV} {r : Bool}, eqScs (z1 ++ z2) l m = some r → z1.length ≤ l.length ∧ z1.length ≤ m.length ∧
    ∃ r1 r2, eqScs z1 (l.take z1.length) (m.take z1.length) = some r1 ∧ eqScs z2 (l.drop z1.length) (m.drop z1.length) = some r2 ∧ r = (r1 && r2)
  | [], z2, l, m, r, h => ⟨by simp, by simp, true, r, by simp [eqScs], by simpa using h, by simp⟩
  | z :: z1, z2, [], m, r, h => by simp [eqScs] at h
  | z :: z1, z2, x :: l, [], r, h => by simp [eqScs] at h
  | z :: z1, z2, x :: l, y :: m, r, h => by
    simp only [List.cons_append, eqScs, Option.bind_eq_some_iff, Option.map_eq_some_iff] at h
    obtain ⟨a, ha, b, hb, rfl⟩ := h
    obtain ⟨h1, h2, r1, r2, h3, h4, rfl⟩ := eqScs_append hb
    refine ⟨by simpa using h1, by simpa using h2, a && r1, r2, ?_, by simpa using h4, by rw [Bool.and_assoc]⟩
    simp [eqScs, ha, h3]
theorem part_okE {t : TypeId} {k off m : Nat} {l : List SV} {xs : List Value} {b : Bool} (ht : isAggT C.P t = some b) (hk : sizeT C.P t = some k) (h1 : b = false → k = 1) (hl : VRL C m ρ l xs) (hle : off + k ≤ l.length) (w : World) :
    ∃ v, (part t xs.toArray off).run C.P w = .ok v w ∧ Rep C m ρ t ((l.drop off).take k) v := by
  cases b with
  | true =>
    refine ⟨.agg (xs.toArray.extract off (off + k)), ?_, ?_⟩
    · simp [part, run_isAgg w ht, run_sizeT w hk]
    · unfold Rep
      rw [ht]
      refine ⟨(xs.drop off).take k, ?_, (hl.drop off).take k⟩
      congr 1
      apply Array.ext'
      simp [List.extract]
  | false =>
    have := h1 rfl; subst this
    have hs : l[off]? = some l[off] := List.getElem?_eq_getElem (by omega)
    obtain ⟨v, hv, hvr⟩ := hl.get hs
    refine ⟨v, ?_, ?_⟩
    · simp [part, run_isAgg w ht, hv]
    · unfold Rep
      rw [ht]
      refine ⟨l[off], ?_, hvr⟩
      rw [List.drop_eq_getElem_cons (by omega)]
      rfl
def EqAt' (C : Cx) (m : Nat) (ρ : Nat → RV) (D : Nat) (t : TypeId) (z : List Sc) : Prop :=
  ∀ (w : World) (l l' : List SV) (a b : Value) (r : Bool), Rep C m ρ t l a → Rep C m ρ t l' b → eqScs z l l' = some r → (Op.equalIn D t a b).run C.P w = .ok r w
theorem eqFields_ok {m D : Nat} {go : TypeId → Option (List Sc)} (hgo : ∀ t z, go t = some z → EqAt' C m ρ D t z ∧ ∃ b, isAggT C.P t = some b ∧ (b = false → z.length = 1)) {l l' : List SV} {xs ys : List Value} (hl : VRL C m ρ l xs) (hl' : VRL C m ρ l' ys) (w : World) :
    ∀ (fs : List Field) (off : Nat) (z : List Sc) (r : Bool), eqZs C.P go fs off = some z → off ≤ l.length → off ≤ l'.length → eqScs z (l.drop off) (l'.drop off) = some r → (Op.eqFields D xs.toArray ys.toArray fs).run C.P w = .ok r w
  | [], off, z, r, hz, _, _, h => by
    simp [eqZs] at hz; subst hz
    rw [eqScs_nil h]; simp [Op.eqFields]
  | f :: fs, off, z, r, hz, ho, ho', h => by
    simp only [eqZs] at hz
    split at hz
    · rename_i hn
      obtain ⟨z1, hz1, hz⟩ := bind_some hz
      split at hz
      · rename_i hsz
        obtain ⟨z2, hz2, rfl⟩ := map_some hz
        obtain ⟨h1, h2, r1, r2, h3, h4, rfl⟩ := eqScs_append h
        obtain ⟨heq, b, hb, hb1⟩ := hgo _ _ hz1
        simp only [List.length_drop] at h1 h2
        obtain ⟨va, pa, ra⟩ := part_okE (off := off) (t := f.type) hb hsz hb1 hl (by omega) w
        obtain ⟨vb, pb, rb⟩ := part_okE (off := off) (t := f.type) hb hsz hb1 hl' (by omega) w
        have he := heq w _ _ va vb r1 ra rb h3
        simp only [Op.eqFields, if_pos hn.1, Sem.run_bind, hn.2, pa, pb, he, Result.andThen_ok]
        cases r1
        · simp
        · simp only [Bool.not_true, Bool.false_eq_true, if_false, Bool.true_and]
          exact eqFields_ok hgo hl hl' w fs (off + z1.length) z2 r2 hz2 (by omega) (by omega) (by rw [List.drop_drop, List.drop_drop] at h4; exact h4)
      · simp at hz
    · simp at hz
theorem eqItems_ok {m D c : Nat} {e : TypeId} {z : List Sc} (heq : EqAt' C m ρ D e z) {b : Bool} (hb : isAggT C.P e = some b) (hb1 : b = false → z.length = 1) (hsz : sizeT C.P e = some z.length) (hc : c = z.length) {l l' : List SV} {xs ys : List Value} (hl : VRL C m ρ l xs) (hl' : VRL C m ρ l' ys) (w : World) :
    ∀ (k j : Nat) (r : Bool), j * c ≤ l.length → j * c ≤ l'.length → eqScs (repeatZ z k) (l.drop (j * c)) (l'.drop (j * c)) = some r → (Op.eqItems D e c xs.toArray ys.toArray (List.range' j k)).run C.P w = .ok r w
  | 0, j, r, _, _, h => by
    simp only [repeatZ] at h
    rw [eqScs_nil h]; simp [Op.eqItems]
  | k + 1, j, r, ho, ho', h => by
    simp only [repeatZ] at h
    obtain ⟨h1, h2, r1, r2, h3, h4, rfl⟩ := eqScs_append h
    simp only [List.length_drop] at h1 h2
    obtain ⟨va, pa, ra⟩ := part_okE (off := j * c) hb hsz hb1 hl (by omega) w
    obtain ⟨vb, pb, rb⟩ := part_okE (off := j * c) hb hsz hb1 hl' (by omega) w
    have he := heq w _ _ va vb r1 ra rb h3
    simp only [List.range'_succ, Op.eqItems, Sem.run_bind, pa, pb, he, Result.andThen_ok]
    have hj : (j + 1) * c = j * c + z.length := by rw [Nat.succ_mul, hc]
    cases r1
    · simp
    · simp only [Bool.not_true, Bool.false_eq_true, if_false, Bool.true_and]
      exact eqItems_ok heq hb hb1 hsz hc hl hl' w k (j + 1) r2 (by omega) (by omega) (by rw [List.drop_drop, List.drop_drop] at h4; rw [hj]; exact h4)
theorem eqZ_ok {m : Nat} (D : Nat) : ∀ (d : Nat) (t : TypeId) (z : List Sc), eqZ C.P d t = some z → EqAt' C m ρ (D + d) t z ∧ ∃ b, isAggT C.P t = some b ∧ (b = false → z.length = 1)
  | 0, t, z, h => by simp [eqZ] at h
  | d + 1, t, z, h => by
    simp only [eqZ] at h
    split at h
    · rename_i fs hu
      split at h
      · rename_i hs
        refine ⟨fun w l l' a b r ha hb hr => ?_, true, by simp [isAggT, hu], by simp⟩
        have hag : isAggT C.P t = some true := by simp [isAggT, hu]
        unfold Rep at ha hb
        rw [hag] at ha hb
        obtain ⟨xs, rfl, hx⟩ := ha
        obtain ⟨ys, rfl, hy⟩ := hb
        have hfs : C.P.fieldsOf t = fs := by simp [Program.fieldsOf, hu]
        rw [show D + (d + 1) = (D + d) + 1 from rfl, run_equalIn_struct w (D + d) t _ _ (by rw [hfs]; exact hu) hs, hfs]
        exact eqFields_ok (fun t z h => eqZ_ok D d t z h) hx hy w fs.toList 0 z r h (by omega) (by omega) (by simpa using hr)
      · simp at h
    · rename_i k e hu
      obtain ⟨z1, hz1, h⟩ := bind_some h
      split at h
      · rename_i hsz
        simp at h; subst h
        refine ⟨fun w l l' a b r ha hb hr => ?_, true, by simp [isAggT, hu], by simp⟩
        have hag : isAggT C.P t = some true := by simp [isAggT, hu]
        unfold Rep at ha hb
        rw [hag] at ha hb
        obtain ⟨xs, rfl, hx⟩ := ha
        obtain ⟨ys, rfl, hy⟩ := hb
        obtain ⟨heq, b, hb', hb1⟩ := eqZ_ok D d e z1 hz1
        have hsz' := hsz
        simp only [sizeT, Option.map_eq_some_iff] at hsz'
        obtain ⟨i, hi, hi2⟩ := hsz'
        rw [show D + (d + 1) = (D + d) + 1 from rfl, run_equalIn_array w (D + d) _ _ hu hi, List.range_eq_range']
        exact eqItems_ok heq hb' hb1 hsz (by simp [Program.cellsOf, hi, hi2]) hx hy w k 0 r (by omega) (by omega) (by simpa using hr)
      · simp at h
    · rename_i k hu
      simp at h; subst h
      refine ⟨fun w l l' a b r ha hb hr => ?_, false, by simp [isAggT, hu], by simp⟩
      have hag : isAggT C.P t = some false := by simp [isAggT, hu]
      unfold Rep at ha hb
      rw [hag] at ha hb
      obtain ⟨s, rfl, hs⟩ := ha
      obtain ⟨s', rfl, hs'⟩ := hb
      cases s <;> cases s' <;> simp [eqScs, eqSc] at hr
      cases hs; cases hs'
      obtain ⟨rfl, rfl⟩ := hr
      rw [show D + (d + 1) = (D + d) + 1 from rfl, run_equalIn_int w _ t _ k _ _ hu]
    · rename_i hu
      simp at h; subst h
      refine ⟨fun w l l' a b r ha hb hr => ?_, false, by simp [isAggT, hu], by simp⟩
      have hag : isAggT C.P t = some false := by simp [isAggT, hu]
      unfold Rep at ha hb
      rw [hag] at ha hb
      obtain ⟨s, rfl, hs⟩ := ha
      obtain ⟨s', rfl, hs'⟩ := hb
      cases s <;> cases s' <;> simp [eqScs, eqSc] at hr
      cases hs; cases hs'
      subst hr
      rw [show D + (d + 1) = (D + d) + 1 from rfl, run_equalIn_bool' w _ t _ _ hu]
    · rename_i hu
      simp at h; subst h
      refine ⟨fun w l l' a b r ha hb hr => ?_, false, by simp [isAggT, hu], by simp⟩
      have hag : isAggT C.P t = some false := by simp [isAggT, hu]
      unfold Rep at ha hb
      rw [hag] at ha hb
      obtain ⟨s, rfl, hs⟩ := ha
      obtain ⟨s', rfl, hs'⟩ := hb
      cases s <;> cases s' <;> simp [eqScs, eqSc] at hr
      cases hs; cases hs'
      subst hr
      rw [show D + (d + 1) = (D + d) + 1 from rfl, run_equalIn_string w _ t _ _ hu, beq_toListBytes]
    · simp at h
theorem callOf_eqAgg (P : Program) (f : Nat) (l : List AO) (neq : Bool) (z : List Sc) (x y : AO) : (callOf P f l = .eqAgg neq z x y) = False := by
  unfold callOf; (repeat' split) <;> simp
theorem eqAgg_inv {P : Program} {o : Oper} {neq : Bool} {z : List Sc} {x y : AO} (h : cOper P o = some (.eqAgg neq z x y)) :
    ∃ op t X Y ty, o.op = .binOp op t X Y ty ∧ op = (if neq = true then BinOp.neq else BinOp.eql) ∧ isAggT P t = some true ∧ P.eqGuardType P.depth t = false ∧ eqZ P 12 t = some z ∧ cOp P t X = some x ∧ cOp P ty Y = some y := by
  unfold cOper at h
  split at h
  case h_11 op t X Y ty e =>
    unfold cBin at h
    split at h
    case h_5 fs hu =>
      split at h
      · rename_i hg
        obtain ⟨z', hz, h⟩ := bind_some h
        split at h
        · obtain ⟨p, hp, h⟩ := map_some h
          simp at h; obtain ⟨rfl, rfl, rfl, rfl⟩ := h
          obtain ⟨h1, h2⟩ := both_ok hp
          exact ⟨_, t, X, Y, ty, e, by simp, by simp [isAggT, hu], hg, hz, h1, h2⟩
        · obtain ⟨p, hp, h⟩ := map_some h
          simp at h; obtain ⟨rfl, rfl, rfl, rfl⟩ := h
          obtain ⟨h1, h2⟩ := both_ok hp
          exact ⟨_, t, X, Y, ty, e, by simp, by simp [isAggT, hu], hg, hz, h1, h2⟩
        · simp at h
      · simp at h
    case h_6 k e' hu =>
      split at h
      · rename_i hg
        obtain ⟨z', hz, h⟩ := bind_some h
        split at h
        · obtain ⟨p, hp, h⟩ := map_some h
          simp at h; obtain ⟨rfl, rfl, rfl, rfl⟩ := h
          obtain ⟨h1, h2⟩ := both_ok hp
          exact ⟨_, t, X, Y, ty, e, by simp, by simp [isAggT, hu], hg, hz, h1, h2⟩
        · obtain ⟨p, hp, h⟩ := map_some h
          simp at h; obtain ⟨rfl, rfl, rfl, rfl⟩ := h
          obtain ⟨h1, h2⟩ := both_ok hp
          exact ⟨_, t, X, Y, ty, e, by simp, by simp [isAggT, hu], hg, hz, h1, h2⟩
        · simp at h
      · simp at h
    all_goals ((repeat' split at h) <;> simp [Option.map_eq_some_iff, Option.bind_eq_some_iff] at h)
  all_goals
    (try unfold cConv at h)
    (try unfold cBuiltin at h)
    ((repeat' split at h) <;> simp [Option.map_eq_some_iff, Option.bind_eq_some_iff, callOf_eqAgg] at h)
theorem g_eqAgg {neq : Bool} {z : List Sc} {x y : AO} {res : AV × List Ob} (hc : cOper C.P o = some (.eqAgg neq z x y)) (he : EnvR C hp.length ρ env a) (hH : HR C ρ hp w) (hF : FR C w)
    (h : evOp Γ env hp (.eqAgg neq z x y) = some res) : Good C ρ hp o a w res := by
  obtain ⟨op, t, X, Y, ty, ho, hop, hag, hg, hz, hx, hy⟩ := eqAgg_inv hc
  have h1 := cOp_ok hx he
  have h2 := cOp_ok hy he
  simp only [evOp] at h
  generalize getO env x = sx at h h1
  generalize getO env y = sy at h h2
  unfold oEqAgg at h
  split at h
  · rename_i l m
    generalize hvx : a.eval X = vx at h1
    generalize hvy : a.eval Y = vy at h2
    cases h1 with
    | agg _ xs hl =>
      cases h2 with
      | agg _ ys hm =>
        unfold putB at h
        split at h
        · simp at h
        · rename_i r hr
          simp at h; subst h
          have heq := (eqZ_ok (C := C) (m := hp.length) (ρ := ρ) 9988 12 t z hz).1 w l m (.agg xs.toArray) (.agg ys.toArray) r (by unfold Rep; rw [hag]; exact ⟨xs, rfl, hl⟩) (by unfold Rep; rw [hag]; exact ⟨ys, rfl, hm⟩) hr
          refine good_same (v := .bool (if neq = true then !r else r)) ?_ (.one _ _ (.bool _)) hH hF
          obtain ⟨dst, op', type, pos, after, guard⟩ := o
          dsimp only at ho; subst ho
          refine val_run _ ?_
          rw [hvx, hvy]
          simp only [Sem.run_bind, run_eqGuard_agg w op t X Y _ _ hg, Result.andThen_ok]
          subst hop
          cases neq
          · simp only [Bool.false_eq_true, if_false]
            rw [run_eql_struct, heq]; rfl
          · simp only [if_true]
            rw [run_neq_struct, heq]; rfl
  · simp at h
theorem op_ok {op : AOp} {res : AV × List Ob} (hΓ : ∀ f, Sound C.P f (Γ f)) (hc : cOper C.P o = some op) (he : EnvR C hp.length ρ env a) (hH : HR C ρ hp w) (hF : FR C w) (h : evOp Γ env hp op = some res) : Good C ρ hp o a w res := by
  cases hp' : plainOp op
  · cases op <;> simp [plainOp] at hp'
    case call f l => exact g_call hΓ hc he hH hF h
    case callo f l => exact g_callo hΓ hc he hH hF h
    case calli f l => exact g_calli hΓ hc he hH hF h
    case callv x l => exact g_callv hΓ hc he hH hF h
    case eqAgg neq z x y => exact g_eqAgg hc he hH hF h
  · exact op_good hc hp' he hH hF h
/-- A state held against a run's. -/
structure StR (C : Cx) (ρ : Nat → RV) (n : Nat) (env : Env) (hp : List Ob) (a : Act) (w : World) : Prop where
  env : EnvR C hp.length ρ env a
  heap : HR C ρ hp w
  fr : FR C w
  size : n ≤ a.tmps.size
  defers : a.defers = C.df
theorem put_size (a : Act) (dst : Option Tmp) (v : Value) : (a.put dst v).tmps.size = a.tmps.size := by
  cases dst <;> simp [Act.put]
theorem put_defers (a : Act) (dst : Option Tmp) (v : Value) : (a.put dst v).defers = a.defers := by
  cases dst <;> simp [Act.put]
theorem StR.next {v : AV} {u : Value} {dst : Option Nat} (h : StR C ρ n env hp a w) (hl : hp.length ≤ hp1.length) (E : Ext hp.length ρ ρ') (hv : AVR C hp1.length ρ' v u) (hH : HR C ρ' hp1 w') (hF : FR C w') (hd : cDst n dst = true) :
    StR C ρ' n (putE env dst v) hp1 (a.put dst u) w' := by
  refine ⟨(h.env.ext hl E).put hv dst (fun d e => ?_), hH, hF, by rw [put_size]; exact h.size, by rw [put_defers]; exact h.defers⟩
  subst e
  simp [cDst] at hd
  exact Nat.lt_of_lt_of_le hd h.size
theorem yielded_of {ops : Array Oper} {j t : Nat} {c : Bool} (h : (ops[j]?).bind (·.dst) = some t) (hv : a.tmps.getD t undef = .bool c) : yielded ops a.tmps j = some c := by
  unfold yielded
  rw [h]
  simp only [Option.bind_some]
  rw [Array.getD_eq_getD_getElem?] at hv
  cases e : a.tmps[t]? with
  | none => rw [e] at hv; simp [undef] at hv
  | some x => rw [e] at hv; simp at hv; subst hv; rfl
theorem yielded_skip {ops : Array Oper} {j t : Nat} {want : Bool} (h : (ops[j]?).bind (·.dst) = some t) (hv : a.tmps.getD t undef = undef) : (yielded ops a.tmps j == some want) = false := by
  unfold yielded
  rw [h]
  simp only [Option.bind_some]
  rw [Array.getD_eq_getD_getElem?] at hv
  cases e : a.tmps[t]? with
  | none => rfl
  | some x => rw [e] at hv; simp at hv; subst hv; rfl
theorem instr_inv {P : Program} {ops : Array Oper} {ai : AI} (h : cInstr P n ops o = some ai) : cDst n o.dst = true ∧ ai.dst = o.dst ∧ cGuard ops o.guard = some ai.guard ∧ (cOper P o = some ai.op ∨ ai.op = .bad) := by
  unfold cInstr at h
  split at h
  · rename_i hd
    obtain ⟨g, hg, rfl⟩ := map_some h
    refine ⟨hd, rfl, hg, ?_⟩
    show cOper P o = some (cOperT P o) ∨ cOperT P o = .bad
    unfold cOperT
    split
    · rename_i op e; exact .inl e
    · exact .inr rfl
  · simp at h
/-- One operation, whether it is wanted or not. -/
theorem step_ok {ops : Array Oper} {ai : AI} {v : AV} {K : Act → World → Prop} {Q : Exit → Act → World → Prop} (hΓ : ∀ f, Sound C.P f (Γ f)) (hi : cInstr C.P n ops o = some ai) (hst : StR C ρ n env hp a w) (h : stepI Γ env hp ai = some (v, hp1))
    (k : ∀ (ρ' : Nat → RV) (u : Value) (w' : World), hp.length ≤ hp1.length → Ext hp.length ρ ρ' → AVR C hp1.length ρ' v u → HR C ρ' hp1 w' → FR C w' → K (a.put o.dst u) w') :
    if Region.wanted o (yielded ops a.tmps) = true then o.wp C.P a w K Q else K (a.put o.dst undef) w := by
  obtain ⟨hd, hdst, hg, ho⟩ := instr_inv hi
  obtain ⟨dst, guard, op⟩ := ai
  dsimp only at hdst hg ho
  have run : evOp Γ env hp op = some (v, hp1) → o.wp C.P a w K Q := fun h => by
    rcases ho with ho | ho
    · exact op_ok hΓ ho hst.env hst.heap hst.fr h K Q (fun ρ' u w' h1 h2 h3 h4 h5 => k ρ' u w' h1 h2 h3 h4 h5)
    · subst ho; simp [evOp] at h
  unfold cGuard at hg
  split at hg
  · rename_i e
    simp at hg; subst hg
    rw [if_pos (by simp [Region.wanted, e])]
    exact run h
  · rename_i j b e
    obtain ⟨t, ht, e'⟩ := map_some hg
    rw [← e'] at h
    simp only [stepI] at h
    unfold stepG at h
    split at h
    · rename_i c hc
      have hv := hst.env t
      rw [hc] at hv
      have hv' : a.tmps.getD t undef = .bool c := by
        generalize a.tmps.getD t undef = z at hv
        cases hv with | one _ _ h => cases h; rfl
      have hW : Region.wanted o (yielded ops a.tmps) = (c == b) := by
        simp only [Region.wanted, e, yielded_of ht hv']
        cases c <;> cases b <;> rfl
      split at h
      · rename_i hcb; subst hcb; rw [if_pos (by rw [hW]; simp)]; exact run h
      · rename_i hcb
        rw [if_neg (by rw [hW]; simpa using hcb)]
        simp at h; obtain ⟨rfl, rfl⟩ := h
        exact k ρ undef w (Nat.le_refl _) (Ext.refl _ _) (.tup _ _ .nil) hst.heap hst.fr
    · rename_i hc
      have hv := hst.env t
      rw [hc] at hv
      have hv' : a.tmps.getD t undef = undef := by
        generalize a.tmps.getD t undef = z at hv
        cases hv with | tup _ _ h => cases h; rfl
      have hW : Region.wanted o (yielded ops a.tmps) = false := by
        simp only [Region.wanted, e]
        exact yielded_skip ht hv'
      rw [if_neg (by rw [hW]; simp)]
      simp at h; obtain ⟨rfl, rfl⟩ := h
      exact k ρ undef w (Nat.le_refl _) (Ext.refl _ _) (.tup _ _ .nil) hst.heap hst.fr
    · simp at h
theorem evIs_step (rts : List SV) (ai : AI) (l : List AI) : evIs Γ (ai :: l) ⟨env, rts, hp⟩ = thenI env rts ai.dst (evIs Γ l) (stepI Γ env hp ai) := by
  obtain ⟨dst, guard, op⟩ := ai
  cases guard with
  | none => rfl
  | some g =>
    obtain ⟨t, b⟩ := g
    simp only [evIs, stepI]
    unfold guardI stepG
    split
    · rename_i c e
      split <;> rfl
    · rfl
    · rfl
/-- Where a run comes to, and how. -/
def QR (C : Cx) (n : Nat) (ex : Ex) (st : St) : Exit → Act → World → Prop
  | .normal, a, w => ex = .norm ∧ ∃ ρ, StR C ρ n st.env st.hp a w
  | .exit i, a, w => ex = .exit i ∧ ∃ ρ, StR C ρ n st.env st.hp a w
  | .ret, a, w => ex = .ret ∧ ∃ ρ, StR C ρ n st.env st.hp a w
  | _, _, _ => False
theorem ops_ok {ops : Array Oper} {rts : List SV} {st' : St} (hΓ : ∀ f, Sound C.P f (Γ f)) : ∀ (l : List Oper) (k : Nat) (ais : List AI) (ρ : Nat → RV) (env : Env) (hp : List Ob) (a : Act) (w : World), (∀ j, l[j]? = ops[k + j]?) → cInstrs C.P n ops l = some ais → StR C ρ n env hp a w →
    evIs Γ ais ⟨env, rts, hp⟩ = some st' → wpOps C.P ops (QR C n .norm st') (List.range' k l.length) a w
  | [], k, ais, ρ, env, hp, a, w, hl, hc, hst, h => by
    simp [cInstrs] at hc; subst hc
    simp [evIs] at h; subst h
    exact ⟨rfl, ρ, hst⟩
  | o :: l, k, ais, ρ, env, hp, a, w, hl, hc, hst, h => by
    simp only [cInstrs] at hc
    obtain ⟨ai, hi, hc⟩ := bind_some hc
    obtain ⟨ais', hc', rfl⟩ := map_some hc
    rw [evIs_step] at h
    have h0 : ops[k]? = some o := by simpa using (hl 0).symm
    have hl' : ∀ j, l[j]? = ops[k + 1 + j]? := fun j => by have := hl (j + 1); simpa [Nat.add_assoc, Nat.add_comm 1 j] using this
    unfold thenI at h
    split at h
    · simp at h
    · rename_i v hp1 hs
      simp only [List.length_cons, List.range'_succ, wpOps, h0]
      have key := step_ok (K := wpOps C.P ops (QR C n .norm st') (List.range' (k + 1) l.length)) (Q := QR C n .norm st') hΓ hi hst hs (fun ρ' u w' h1 h2 h3 h4 h5 =>
        ops_ok hΓ l (k + 1) ais' ρ' (putE env ai.dst v) hp1 _ w' hl' hc' (by
          obtain ⟨hd, hdst, _, _⟩ := instr_inv hi
          rw [hdst]; exact hst.next h1 h2 h3 h4 h5 hd) h)
      split
      · rename_i hw; rw [if_pos hw] at key; exact .inl key
      · rename_i hw; rw [if_neg hw] at key; exact key
end
end Go.X
