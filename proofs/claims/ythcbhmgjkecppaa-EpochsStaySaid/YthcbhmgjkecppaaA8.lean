import Derived.Test.YthcbhmgjkecppaaA7
set_option linter.unusedVariables false
namespace Go.X
section
variable {C : Cx} {ρ : Nat → RV} {hp : List Ob} {o : Oper} {a : Act} {w : World} {env : Env}
theorem run_isAgg {P : Program} {t : TypeId} {b : Bool} (w : World) (h : isAggT P t = some b) : (isAgg t).run P w = .ok b w := by
  unfold isAggT at h
  cases hu : P.underlying t with
  | none => simp [hu] at h
  | some d => cases d <;> simp [hu] at h <;> subst h <;> simp [isAgg, run_underlying hu]
theorem run_sizeT {P : Program} {t : TypeId} {n : Nat} (w : World) (h : sizeT P t = some n) : (Go.sizeOf t).run P w = .ok n w := by
  simp only [sizeT, Option.map_eq_some_iff] at h
  obtain ⟨i, hi, rfl⟩ := h
  simp [Go.sizeOf, typeInfo, hi]
/-- Where a row lies. -/
theorem row_cells {k : Nat} {g : Option Nat} {c : RC} (hH : HR C ρ hp w) (hk : hp[k]? = some (.rows g c)) (hc : 0 < c.len) : ∃ b q cap cur T fr, (ρ k).hdr = .slice (some ⟨b, q, none⟩) c.len cap ∧ C.own b ∧ w.heap[b]? = some (.cells cur T fr) ∧
      c.len ≤ cap ∧ cap ≤ maxLen ∧ q + cap * c.size ≤ cur.size ∧ (∀ j u, c.vals[j]? = some u → cur[q + j]? = some u) ∧ ∀ j, j < cur.size → ¬ (fr.1 ≤ j ∧ j < fr.2) := by
  obtain ⟨_, _, _, ⟨_, h⟩ | h⟩ := hH.ob k _ hk
  · omega
  · exact h
theorem rows_wf {k : Nat} {g : Option Nat} {c : RC} (hH : HR C ρ hp w) (hk : hp[k]? = some (.rows g c)) : c.wf ∧ (ρ k).size = c.size ∧ ∃ a cap, (ρ k).hdr = .slice a c.len cap := by
  obtain ⟨h1, h2, _, ⟨h3, h4⟩ | ⟨b, o, cap, cur, T, fr, h3, _⟩⟩ := hH.ob k _ hk
  · exact ⟨h1, h2, none, 0, by rw [h3, h4]⟩
  · exact ⟨h1, h2, _, cap, h3⟩
theorem reads_cell {t : Nat} {c : RC} {b q : Nat} (hF : FR C w) (h : C.reads t c (some ⟨b, q, none⟩)) {j : Nat} {u : Value} (hj : c.vals[j]? = some u) : w.cell? ⟨b, q + j, none⟩ = some u := by
  have hlt := (RC.val_at h.1 hj).1
  have h0 : 0 < c.len := by
    rcases Nat.eq_zero_or_pos c.len with e | e
    · rw [e] at hlt; simp at hlt
    · exact e
  obtain ⟨b', o', e, hown, _, hc⟩ := h.2 h0
  simp at e
  obtain ⟨rfl, rfl⟩ := e
  have hb : w.heap[b]? = C.w0.heap[b]? := hF.block b (by
    rcases Nat.lt_or_ge b C.w0.heap.size with h | h
    · exact h
    · exact absurd (.inr h) hown) (fun h => hown (.inl h))
  rw [World.cell?_of_block (a := ⟨b, q + j, none⟩) hb]
  exact hc j u hj
theorem sc_vr {n : Nat} (s : Sc) : VR C n ρ s.sv s.val := by
  cases s
  · exact .int _ _
  · exact .bool _
  · exact .str _
theorem loadOne_ok {s : SV} {p : SV} {pv : Value} (hp' : VR C hp.length ρ p pv) (hH : HR C ρ hp w) (hF : FR C w) (h : loadOne hp p = some s) : ∃ ad v, pv = .pointer (some ad) ∧ w.cell? ad = some v ∧ VR C hp.length ρ s v := by
  unfold loadOne at h
  split at h
  · rename_i k o
    cases hp' with
    | ptr _ _ b hk hb =>
      unfold loadP at h
      split at h
      · rename_i g l hl
        obtain ⟨b', T, cur, e, _, hh, hv, _⟩ := hH.ob k _ hl
        rw [hb] at e; simp at e; subst e
        obtain ⟨v, hv1, hv2⟩ := hv.get h
        exact ⟨_, v, rfl, by rw [cell_at hh]; simpa using hv1, hv2⟩
      · simp at h
  · rename_i k i o
    cases hp' with
    | eptr _ _ _ b q m cap hk hb hi =>
      unfold loadE at h
      split at h
      · rename_i c hc
        obtain ⟨hw, hs, a, cap', hd⟩ := rows_wf hH hc
        rw [hb] at hd; simp at hd; obtain ⟨rfl, rfl, rfl⟩ := hd
        obtain ⟨b', q', cap', cur, T, fr, e, _, hh, _, _, _, hv, _⟩ := row_cells hH hc (by omega)
        rw [hb] at e; simp at e; obtain ⟨⟨rfl, rfl⟩, rfl⟩ := e
        cases hg : c.get i o with
        | none => simp [hg, scSV] at h
        | some sc =>
          simp [hg, scSV] at h; subst h
          obtain ⟨_, h2⟩ := RC.get_vals hw hi hg
          refine ⟨_, sc.val, rfl, ?_, sc_vr sc⟩
          rw [hs, Nat.add_assoc, cell_at hh]
          exact hv _ _ h2
      · simp at h
  · rename_i t c i o
    cases hp' with
    | rptr _ _ _ _ b q hr hi =>
      cases hg : c.get i o with
      | none => simp [hg, scSV] at h
      | some sc =>
        simp [hg, scSV] at h; subst h
        obtain ⟨_, h2⟩ := RC.get_vals hr.1 hi hg
        exact ⟨_, sc.val, rfl, by rw [Nat.add_assoc]; exact reads_cell hF hr h2, sc_vr sc⟩
  · simp at h
theorem scs_vrl {n : Nat} : ∀ l : List Sc, VRL C n ρ (l.map Sc.sv) (l.map Sc.val)
  | [] => .nil
  | s :: l => .cons _ _ _ _ (sc_vr s) (scs_vrl l)
theorem take_get {α : Type} {l : List α} {o n j : Nat} {v : α} (h : ((l.drop o).take n)[j]? = some v) : l[o + j]? = some v := by
  rw [List.getElem?_take] at h
  split at h
  · simpa using h
  · simp at h
theorem loadN_ok {n : Nat} {l : List SV} {p : SV} {pv : Value} (hp' : VR C hp.length ρ p pv) (hH : HR C ρ hp w) (hF : FR C w) (h : loadN hp n p = some l) : ∃ ad vs, pv = .pointer (some ad) ∧ vs.length = n ∧ (∀ j v, vs[j]? = some v → w.cell? (ad.add j) = some v) ∧ VRL C hp.length ρ l vs := by
  unfold loadN at h
  split at h
  · rename_i k o
    cases hp' with
    | ptr _ _ b hk hb =>
      unfold loadPN at h
      split at h
      · rename_i g l' hl
        split at h <;> simp at h
        subst h
        rename_i hle
        obtain ⟨b', T, cur, e, _, hh, hv, _⟩ := hH.ob k _ hl
        rw [hb] at e; simp at e; subst e
        refine ⟨_, (cur.toList.drop o).take n, rfl, ?_, fun j v hj => ?_, (hv.drop o).take n⟩
        · have := hv.length; simp at this ⊢; omega
        · rw [Addr.add_lit, cell_at hh]
          simpa using take_get hj
      · simp at h
  · rename_i k i o
    cases hp' with
    | eptr _ _ _ b q m cap hk hb hi =>
      unfold loadEN at h
      split at h
      · rename_i c hc
        unfold takeE at h
        split at h <;> simp at h
        subst h
        rename_i hle
        obtain ⟨hw, hs, a, cap', hd⟩ := rows_wf hH hc
        rw [hb] at hd; simp at hd; obtain ⟨rfl, rfl, rfl⟩ := hd
        obtain ⟨b', q', cap', cur, T, fr, e, _, hh, _, _, _, hv, _⟩ := row_cells hH hc (by omega)
        rw [hb] at e; simp at e; obtain ⟨⟨rfl, rfl⟩, rfl⟩ := e
        have hel := RC.elem_length hw hi
        refine ⟨_, (((c.elem i).drop o).take n).map Sc.val, rfl, by simp [hel]; omega, fun j v hj => ?_, by rw [← List.map_drop, ← List.map_take]; exact scs_vrl _⟩
        simp only [List.getElem?_map, Option.map_eq_some_iff] at hj
        obtain ⟨sc, hsc, rfl⟩ := hj
        have hsc' := take_get hsc
        have ho := (List.getElem?_eq_some_iff.1 hsc').1
        obtain ⟨s', hs1, hs2⟩ := RC.elem_get hw hi (o := o + j) (by omega)
        rw [hsc'] at hs1; simp at hs1; subst hs1
        rw [Addr.add_lit, hs, show q + i * c.size + o + j = q + (i * c.size + (o + j)) by omega, cell_at hh]
        exact hv _ _ hs2
      · simp at h
  · rename_i t c i o
    cases hp' with
    | rptr _ _ _ _ b q hr hi =>
      unfold takeE at h
      split at h <;> simp at h
      subst h
      rename_i hle
      have hel := RC.elem_length hr.1 hi
      refine ⟨_, (((c.elem i).drop o).take n).map Sc.val, rfl, by simp [hel]; omega, fun j v hj => ?_, by rw [← List.map_drop, ← List.map_take]; exact scs_vrl _⟩
      simp only [List.getElem?_map, Option.map_eq_some_iff] at hj
      obtain ⟨sc, hsc, rfl⟩ := hj
      have hsc' := take_get hsc
      have ho := (List.getElem?_eq_some_iff.1 hsc').1
      obtain ⟨s', hs1, hs2⟩ := RC.elem_get hr.1 hi (o := o + j) (by omega)
      rw [hsc'] at hs1; simp at hs1; subst hs1
      rw [Addr.add_lit, show q + i * c.size + o + j = q + (i * c.size + (o + j)) by omega]
      exact reads_cell hF hr hs2
  · simp at h
theorem loadOne_undef {s : SV} (h : loadOne hp .undef = some s) : False := by simp [loadOne] at h
theorem g_load1 {t t' : TypeId} {X : Operand} {x : AO} {res : AV × List Ob} (ho : o.op = .load t X) (ht : isAggT C.P t = some false) (hx : cOp C.P t' X = some x) (he : EnvR C hp.length ρ env a) (hH : HR C ρ hp w) (hF : FR C w)
    (h : put1 hp (loadOne hp (getS env x)) = some res) : Good C ρ hp o a w res := by
  have h1 := cOp_ok hx he
  cases hl : loadOne hp (getS env x) with
  | none => simp [hl, put1] at h
  | some s =>
    simp [hl, put1] at h; subst h
    obtain ⟨_, h2⟩ := h1.sv_of (by intro e; rw [getS, e] at hl; exact loadOne_undef hl)
    obtain ⟨ad, v, e, hc, hv⟩ := loadOne_ok h2 hH hF hl
    refine good_same (v := v) ?_ (.one _ _ hv) hH hF
    obtain ⟨dst, op, type, pos, after, guard⟩ := o
    dsimp only at ho; subst ho
    refine val_run _ ?_
    simp [Instr.loadAt, Instr.sureAddr, e, loadVar, run_isAgg w ht, load, Sem.run, hc]
theorem g_loadN {t t' : TypeId} {X : Operand} {x : AO} {n : Nat} {res : AV × List Ob} (ho : o.op = .load t X) (ht : isAggT C.P t = some true) (hn : sizeT C.P t = some n) (hx : cOp C.P t' X = some x) (he : EnvR C hp.length ρ env a) (hH : HR C ρ hp w) (hF : FR C w)
    (h : putL hp (loadN hp n (getS env x)) = some res) : Good C ρ hp o a w res := by
  have h1 := cOp_ok hx he
  cases hl : loadN hp n (getS env x) with
  | none => simp [hl, putL] at h
  | some s =>
    simp [hl, putL] at h; subst h
    obtain ⟨_, h2⟩ := h1.sv_of (by intro e; rw [getS, e] at hl; simp [loadN] at hl)
    obtain ⟨ad, vs, e, hlen, hc, hv⟩ := loadN_ok h2 hH hF hl
    refine good_same (v := .agg vs.toArray) ?_ (.agg _ _ hv) hH hF
    obtain ⟨dst, op, type, pos, after, guard⟩ := o
    dsimp only at ho; subst ho
    refine val_run _ ?_
    have hr := run_loadCells_list (P := C.P) w ad vs hc
    rw [hlen] at hr
    simp [Instr.loadAt, Instr.sureAddr, e, loadVar, run_isAgg w ht, run_sizeT w hn, hr]
end
end Go.X
