import Derived.Test.YthcbhmgjkecppaaAc
import Derived.Laws.Tables
import Derived.Laws.MakeOwn
import Derived.Laws.IdiomStrings
set_option linter.unusedVariables false
namespace Go.X
section
variable {C : Cx} {ρ : Nat → RV} {hp : List Ob} {o : Oper} {a : Act} {w w' : World} {env : Env}
/-- A new variable of cells. -/
theorem HR.newCells (hH : HR C ρ hp w) (hF : FR C w) {l : List SV} {vs : List Value} (T : TypeId) (hl : VRL C hp.length ρ l vs) :
    HR C (up ρ hp.length ⟨.pointer (some ⟨w.heap.size, 0, none⟩), 0⟩) (hp ++ [.cells none l]) (w.alloc (.cells vs.toArray T)) := by
  refine (hH.alloc _).push ⟨w.heap.size, T, vs.toArray, by rw [up_at], .inr hF.size, new_block w _, ?_, by simp⟩ (fun k b ha hb => ?_)
  · exact hl.ext (Nat.le_succ _) (up_ext _ _ _)
  · have := (hH.lt ha hb).2
    simp [blkOf]; omega
theorem up_ptr (n : Nat) (b sz : Nat) : VR C (n + 1) (up ρ n ⟨.pointer (some ⟨b, 0, none⟩), sz⟩) (.ptr n 0) (.pointer (some ⟨b, 0, none⟩)) := .ptr n 0 b (Nat.lt_succ_self _) (by rw [up_at])
/-- A new row. -/
theorem HR.newRowAt (hH : HR C ρ hp w) (hF : FR C w) {c : RC} (hw : c.wf) (T : TypeId) {fr : Nat × Nat} {cap : Nat} {cur : Array Value} (h1 : c.len ≤ cap) (h2 : cap ≤ maxLen) (h3 : cap * c.size ≤ cur.size) (h4 : ∀ (j : Nat) (u : Value), c.vals[j]? = some u → cur[j]? = some u) (h5 : ∀ (j : Nat), j < cur.size → ¬ (fr.1 ≤ j ∧ j < fr.2)) :
    HR C (up ρ hp.length ⟨.slice (some ⟨w.heap.size, 0, none⟩) c.len cap, c.size⟩) (hp ++ [.rows none c]) (w.alloc (.cells cur T fr)) := by
  refine (hH.alloc _).push ⟨hw, by rw [up_at], by simp, .inr ⟨w.heap.size, 0, cap, cur, T, fr, by rw [up_at], .inr hF.size, new_block w _, h1, h2, by omega, ?_, h5⟩⟩ (fun k b ha hb => ?_)
  · simpa using h4
  · have := (hH.lt ha hb).2
    simp [blkOf]; omega
def zvOk : ZV → Prop
  | .sv _ => True
  | .nil c => c.len = 0 ∧ c.wf
theorem zvIs_ok {n : Nat} {s : SV} {v : Value} (h : zvIs (.sv s) v = true) : VR C n ρ s v := by
  unfold zvIs at h
  split at h
  · rename_i heq
    simp only [Bool.and_eq_true, decide_eq_true_eq] at h
    cases heq
    obtain ⟨rfl, rfl⟩ := h; exact .int _ _
  · rename_i heq; cases heq; simp at h; subst h; exact .bool _
  · rename_i heq; cases heq; simp at h; subst h; exact .str _
  · rename_i heq; cases heq; exact .nilp
  · rename_i heq; cases heq; exact .nilf
  · rename_i heq; cases heq
  · simp at h
theorem zcells_ok : ∀ (z : List ZV) (vs : List Value) (hp : List Ob) (ρ : Nat → RV), (∀ x ∈ z, zvOk x) → zvsAre z vs = true → HR C ρ hp w →
    ∃ ρ', Ext hp.length ρ ρ' ∧ hp.length ≤ (zcells z hp).2.length ∧ VRL C (zcells z hp).2.length ρ' (zcells z hp).1 vs ∧ HR C ρ' (zcells z hp).2 w
  | [], [], hp, ρ, _, _, hH => ⟨ρ, Ext.refl _ _, Nat.le_refl _, .nil, hH⟩
  | [], _ :: _, _, _, _, h, _ => by simp [zvsAre] at h
  | _ :: _, [], _, _, _, h, _ => by simp [zvsAre] at h
  | .sv s :: z, v :: vs, hp, ρ, hz, h, hH => by
    simp only [zvsAre, Bool.and_eq_true] at h
    obtain ⟨ρ', E, hl, hv, hH'⟩ := zcells_ok z vs hp ρ (fun x hx => hz x (by simp [hx])) h.2 hH
    exact ⟨ρ', E, hl, .cons _ _ _ _ (zvIs_ok h.1) hv, hH'⟩
  | .nil c :: z, v :: vs, hp, ρ, hz, h, hH => by
    simp only [zvsAre, Bool.and_eq_true] at h
    have hc := hz (.nil c) (by simp)
    have hv : v = .slice none 0 0 := by
      have := h.1
      unfold zvIs at this
      split at this <;> first | rfl | (rename_i heq; cases heq) | simp at this
    subst hv
    have hE := up_ext ρ hp.length ⟨.slice none 0 0, c.size⟩
    obtain ⟨ρ', E, hl, hv, hH'⟩ := zcells_ok z vs (hp ++ [.rows none c]) _ (fun x hx => hz x (by simp [hx])) h.2 (hH.newRow (b := none) hc.1 hc.2)
    have hle : hp.length ≤ (hp ++ [Ob.rows none c]).length := by simp
    refine ⟨ρ', hE.trans E hle, Nat.le_trans hle hl, .cons _ _ _ _ ?_ hv, hH'⟩
    have := (up_row (C := C) (ρ := ρ) hp.length none 0 0 c.size)
    exact VR.ext (n := hp.length + 1) (by simpa [zcells] using hl) (by simpa using E) this
theorem zvs_ok {t : TypeId} {z : List ZV} {P : Program} (h : zvs P t = some z) : (∀ x ∈ z, zvOk x) ∧ ∃ i zv, P.info? t = some i ∧ i.zero = some zv ∧ zvsAre z zv.cells.toList = true := by
  simp only [zvs, Option.bind_eq_some_iff] at h
  obtain ⟨z', ⟨l, _, hm⟩, i, hi, zv, hzv, h⟩ := h
  split at h <;> simp at h
  rename_i ha
  subst h
  refine ⟨?_, i, zv, hi, hzv, ha⟩
  have aux : ∀ (l : List TypeId) (z : List ZV), l.mapM (zvT P) = some z → ∀ x ∈ z, zvOk x := by
    intro l
    induction l with
    | nil => intro z h; simp at h; subst h; simp
    | cons t l ih =>
      intro z h
      simp only [List.mapM_cons, Option.bind_eq_bind, Option.bind_eq_some_iff, Option.pure_def, Option.some.injEq] at h
      obtain ⟨y, hy, ys, hys, rfl⟩ := h
      intro x hx
      rcases List.mem_cons.1 hx with rfl | hx
      · unfold zvT at hy
        split at hy <;> first | (simp at hy; subst hy; trivial) | skip
        all_goals first
          | (simp only [Option.map_eq_some_iff] at hy; obtain ⟨⟨c, zz⟩, hr, rfl⟩ := hy; have := rowT_ok hr; exact ⟨this.len, this.wf⟩)
          | simp at hy
      · exact ih ys hys x hx
  exact aux l z' hm
theorem g_alloc {e : TypeId} {z : List ZV} (ho : o.op = .alloc e) (hz : zvs C.P e = some z) (hH : HR C ρ hp w) (hF : FR C w) :
    Good C ρ hp o a w (.one (.ptr (zcells z hp).2.length 0), (zcells z hp).2 ++ [.cells none (zcells z hp).1]) := by
  obtain ⟨hok, i, zv, hi, hzv, ha⟩ := zvs_ok hz
  obtain ⟨ρ', E, hl, hv, hH'⟩ := zcells_ok z _ hp ρ hok ha hH
  obtain ⟨dst, op', type, pos, after, guard⟩ := o
  dsimp only at ho; subst ho
  have hn := hH'.newCells hF e hv
  refine good_value (v := .pointer (some ⟨w.heap.size, 0, none⟩)) (w' := w.alloc (.cells zv.cells e)) (val_run _ ?_) _ (by simp; omega) (E.trans (up_ext _ _ _) hl) ?_ (by simpa using hn) (hF.alloc _)
  · simp [Instr.alloc, zeroValue, typeInfo, hi, hzv, newVar, Go.newRow]
  · simp only [List.length_append, List.length_cons, List.length_nil, Nat.zero_add]
    exact .one _ _ (up_ptr _ _ _)
theorem g_box {e t : TypeId} {X : Operand} {x : AO} {res : AV × List Ob} (ho : o.op = .box e X) (hx : cOp C.P t X = some x) (he : EnvR C hp.length ρ env a) (hH : HR C ρ hp w) (hF : FR C w)
    (h : (if (getO env x).cells.all okCell = true then some (AV.one (.ptr hp.length 0), hp ++ [Ob.cells none (getO env x).cells]) else none) = some res) : Good C ρ hp o a w res := by
  have h1 := cOp_ok hx he
  split at h <;> simp at h
  rename_i hok
  subst h
  have hv := h1.cells_vrl hok
  obtain ⟨dst, op', type, pos, after, guard⟩ := o
  dsimp only at ho; subst ho
  have hn := hH.newCells hF e hv
  refine good_value (v := .pointer (some ⟨w.heap.size, 0, none⟩)) (w' := w.alloc (.cells (a.eval X).cells e)) (val_run _ ?_) _ (by simp) (up_ext _ _ _) ?_ (by simpa using hn) (hF.alloc _)
  · simp [Instr.box, newVar, Go.newRow]
  · simp only [List.length_append, List.length_cons, List.length_nil, Nat.zero_add]
    exact .one _ _ (up_ptr _ _ _)
/-! ### build -/
theorem fold_lay : ∀ (vs : List Value) (cells : Array Value) (off i : Nat), (vs.zipIdx i).foldl (fun cs p => cs.setIfInBounds (off + p.2) p.1) cells = (layV cells.toList (off + i) vs).toArray
  | [], cells, _, _ => by simp [layV]
  | v :: vs, cells, off, i => by
    rw [List.zipIdx_cons, List.foldl_cons, fold_lay vs]
    simp [layV, Nat.add_assoc]
theorem fold_lay' (v : Value) (cells : Array Value) (off : Nat) : v.cells.zipIdx.foldl (fun cs (c, j) => cs.setIfInBounds (off + j) c) cells = (layV cells.toList off v.cells.toList).toArray := by
  have := fold_lay v.cells.toList cells off 0
  rw [Nat.add_zero] at this
  rw [← this, ← Array.foldl_toList]
  simp
inductive PR {α β : Type} (R : α → β → Prop) : List α → List β → Prop where
  | nil : PR R [] []
  | cons (x : α) (y : β) (xs : List α) (ys : List β) (h : R x y) (t : PR R xs ys) : PR R (x :: xs) (y :: ys)
theorem fill_ok {n : Nat} (place : Nat → Option (Nat × Nat)) : ∀ (ps : List (Nat × Value)) (qs : List ((Nat × Nat) × AV)) (l l' : List SV) (cs : List Value), VRL C n ρ l cs →
    PR (fun (p : Nat × Value) (q : (Nat × Nat) × AV) => place p.1 = some q.1 ∧ AVR C n ρ q.2 p.2) ps qs → fillAll l qs = some l' → (∀ q ∈ qs, q.2.cells.all okCell = true) → ∃ cs', Instr.fill place cs.toArray ps = some cs'.toArray ∧ VRL C n ρ l' cs'
  | [], [], l, l', cs, hl, _, h, _ => by simp [fillAll] at h; subst h; exact ⟨cs, rfl, hl⟩
  | [], _ :: _, _, _, _, _, h, _, _ => by cases h
  | _ :: _, [], _, _, _, _, h, _, _ => by cases h
  | (i, v) :: ps, ((off, sz), av) :: qs, l, l', cs, hl, hf, h, hok => by
    cases hf with
    | cons _ _ _ _ hd hf =>
      simp only [fillAll] at h
      split at h
      · rename_i hc
        have hv := hd.2.cells_vrl (hok _ (by simp))
        have hlen := hv.length
        have hlen' := hl.length
        simp at hlen
        obtain ⟨cs', h1, h2⟩ := fill_ok place ps qs _ l' _ (layV_vrl hv hl off) hf h (fun q hq => hok q (by simp [hq]))
        refine ⟨cs', ?_, h2⟩
        have hp1 : place i = some (off, sz) := hd.1
        have e1 : ¬ (v.cells.size ≠ sz ∨ off + v.cells.size > cs.toArray.size) := by simp; omega
        simp only [Instr.fill, hp1]
        rw [if_neg (by simpa using e1), fold_lay']
        exact h1
      · simp at h
theorem fillAll_okCell : ∀ (qs : List ((Nat × Nat) × AV)), True := fun _ => trivial
theorem g_build {t : TypeId} {parts : Array (Nat × Operand)} {z : List ZV} {qs : List ((Nat × Nat) × AO)} {place : Nat → Option (Nat × Nat)} {res : AV × List Ob} (ho : o.op = .build t parts) (hz : zvs C.P t = some z)
    (hb : ∀ i zv, C.P.info? t = some i → i.zero = some zv → ∀ ps cells, Instr.fill place zv.cells ps = some cells → C.P.built t ps = some cells)
    (hq : PR (fun (p : Nat × Operand) (q : (Nat × Nat) × AO) => place p.1 = some q.1 ∧ ∃ t', cOp C.P t' p.2 = some q.2) parts.toList qs)
    (he : EnvR C hp.length ρ env a) (hH : HR C ρ hp w) (hF : FR C w) (h : (if (getPP env qs).all (fun q => q.2.cells.all okCell) = true then putL (zcells z hp).2 (fillAll (zcells z hp).1 (getPP env qs)) else none) = some res) : Good C ρ hp o a w res := by
  split at h
  · rename_i hok
    obtain ⟨hzok, i, zv, hi, hzv, ha⟩ := zvs_ok hz
    obtain ⟨ρ', E, hl, hv, hH'⟩ := zcells_ok z _ hp ρ hzok ha hH
    cases hf : fillAll (zcells z hp).1 (getPP env qs) with
    | none => simp [hf, putL] at h
    | some l =>
      simp [hf, putL] at h; subst h
      have hpr : PR (fun (p : Nat × Value) (q : (Nat × Nat) × AV) => place p.1 = some q.1 ∧ AVR C (zcells z hp).2.length ρ' q.2 p.2) (parts.toList.map fun p => (p.1, a.eval p.2)) (getPP env qs) := by
        clear hb hf hok
        generalize parts.toList = ps at hq
        induction hq with
        | nil => exact .nil
        | cons x y xs ys h t ih =>
          obtain ⟨h1, t', h2⟩ := h
          exact .cons _ _ _ _ ⟨h1, (cOp_ok h2 he).ext hl E⟩ ih
      obtain ⟨cs', h1, h2⟩ := fill_ok place _ _ _ _ _ hv hpr hf (by
        intro q hq'
        have := List.all_eq_true.1 hok q hq'
        exact this)
      have h3 := hb i zv hi hzv _ _ (by simpa using h1)
      obtain ⟨dst, op', type, pos, after, guard⟩ := o
      dsimp only at ho; subst ho
      refine good_value (v := .agg cs'.toArray) (w' := w) (val_run _ ?_) ρ' hl E (.agg _ _ h2) hH' hF
      refine run_build w t _ _ ?_
      simpa using h3
  · simp at h
end
end Go.X
