import Derived.Test.YthcbhmgjkecppaaA8
set_option linter.unusedVariables false
namespace Go.X
/-- Values laid into a list from a place on. -/
def layV (l : List Value) (off : Nat) : List Value → List Value
  | [] => l
  | v :: vs => layV (l.set off v) (off + 1) vs
theorem layV_length : ∀ (vs l : List Value) (off : Nat), (layV l off vs).length = l.length
  | [], _, _ => rfl
  | v :: vs, l, off => by simp [layV, layV_length vs]
theorem layV_get : ∀ (vs l : List Value) (off j : Nat), off + vs.length ≤ l.length → (layV l off vs)[j]? = if off ≤ j ∧ j < off + vs.length then vs[j - off]? else l[j]?
  | [], l, off, j, _ => by simp [layV]; intro h1 h2; omega
  | v :: vs, l, off, j, h => by
    simp only [List.length_cons] at h
    rw [layV, layV_get vs _ _ _ (by simp; omega)]
    by_cases h1 : j = off
    · subst h1
      have : ¬ (j + 1 ≤ j ∧ j < j + 1 + vs.length) := by omega
      rw [if_neg this, if_pos ⟨Nat.le_refl _, by simp⟩, List.getElem?_set_self (by omega)]
      simp
    · rw [List.getElem?_set_ne (Ne.symm h1)]
      by_cases h2 : off + 1 ≤ j ∧ j < off + 1 + vs.length
      · rw [if_pos h2, if_pos (by simp; omega), show j - off = (j - (off + 1)) + 1 by omega]
        simp
      · rw [if_neg h2, if_neg (by simp; omega)]
structure SameBut (w w' : World) (b : Nat) : Prop where
  size : w'.heap.size = w.heap.size
  block : ∀ b', b' ≠ b → w'.heap[b']? = w.heap[b']?
  os : w'.os = w.os
  tape : w'.tape = w.tape
  output : w'.output = w.output
theorem SameBut.trans {w w' w'' : World} {b : Nat} (h : SameBut w w' b) (h' : SameBut w' w'' b) : SameBut w w'' b :=
  ⟨h'.size.trans h.size, fun x hx => (h'.block x hx).trans (h.block x hx), h'.os.trans h.os, h'.tape.trans h.tape, h'.output.trans h.output⟩
theorem SameBut.refl (w : World) (b : Nat) : SameBut w w b := ⟨rfl, fun _ _ => rfl, rfl, rfl, rfl⟩
theorem setCell_same (w : World) (b o : Nat) (v : Value) : SameBut w (w.setCell ⟨b, o, none⟩ v) b := by
  refine ⟨by simp [World.setCell], fun x hx => ?_, rfl, rfl, rfl⟩
  simp [World.setCell, Array.getElem?_modify, Ne.symm hx]
theorem setCell_at {w : World} {b : Nat} {cur : Array Value} {T : TypeId} {fr : Nat × Nat} (h : w.heap[b]? = some (.cells cur T fr)) (o : Nat) (v : Value) : (w.setCell ⟨b, o, none⟩ v).heap[b]? = some (.cells (cur.setIfInBounds o v) T fr) := by
  simp [World.setCell, Array.getElem?_modify, h]
theorem frozen_at {w : World} {b : Nat} {cur : Array Value} {T : TypeId} {fr : Nat × Nat} (h : w.heap[b]? = some (.cells cur T fr)) {o : Nat} (ho : ¬ (fr.1 ≤ o ∧ o < fr.2)) : w.frozen? ⟨b, o, none⟩ = false := by
  simp [World.frozen?, h]
  intro h1
  omega
theorem run_lay (P : Program) (b off : Nat) (T : TypeId) (fr : Nat × Nat) : ∀ (vs : List Value) (i : Nat) (cur : Array Value) (w : World), w.heap[b]? = some (.cells cur T fr) → (∀ j, j < cur.size → ¬ (fr.1 ≤ j ∧ j < fr.2)) → off + i + vs.length ≤ cur.size →
    (∀ v ∈ vs, v.oneCell' = true) → ∃ w', (Go.storeCells ⟨b, off, none⟩ vs i).run P w = .ok () w' ∧ w'.heap[b]? = some (.cells (layV cur.toList (off + i) vs).toArray T fr) ∧ SameBut w w' b
  | [], i, cur, w, hb, _, _, _ => ⟨w, rfl, by simpa [layV] using hb, .refl _ _⟩
  | v :: vs, i, cur, w, hb, hf, hl, h1 => by
    simp only [List.length_cons] at hl
    have hi : off + i < cur.size := by omega
    have hst : (store ((⟨b, off, none⟩ : Addr).add i) v).run P w = .ok () (w.setCell ⟨b, off + i, none⟩ v) := by
      rw [Addr.add_lit, run_store P w _ v _ (h1 v (by simp)), cell_at hb]
      simp [hi, frozen_at hb (hf _ hi)]
    obtain ⟨w', hr, hb', hs⟩ := run_lay P b off T fr vs (i + 1) (cur.setIfInBounds (off + i) v) _ (setCell_at hb _ v) (by simpa using hf) (by simp; omega) (fun x hx => h1 x (by simp [hx]))
    refine ⟨w', ?_, ?_, (setCell_same w b (off + i) v).trans hs⟩
    · simp only [Go.storeCells, Sem.run_bind, hst, Result.andThen_ok, hr]
    · rw [hb']
      simp [layV, Nat.add_assoc]
section
variable {C : Cx} {ρ : Nat → RV} {hp : List Ob} {o : Oper} {a : Act} {w w' : World} {env : Env}
theorem VR.one' {n : Nat} {s : SV} {v : Value} (h : VR C n ρ s v) (hs : okCell s = true) : v.oneCell' = true ∧ v.cells = #[v] := by
  cases h <;> first | exact ⟨rfl, rfl⟩ | simp [okCell] at hs
theorem VRL.one' {n : Nat} : ∀ {l : List SV} {vs : List Value}, VRL C n ρ l vs → l.all okCell = true → ∀ v ∈ vs, v.oneCell' = true
  | _, _, .nil, _, v, hv => by simp at hv
  | _, _, .cons s u l vs h hl, hs, v, hv => by
    simp only [List.all_cons, Bool.and_eq_true] at hs
    rcases List.mem_cons.1 hv with rfl | hv
    · exact (h.one' hs.1).1
    · exact hl.one' hs.2 v hv
theorem layV_vrl {n : Nat} : ∀ {vs : List SV} {us : List Value} {l : List SV} {cs : List Value}, VRL C n ρ vs us → VRL C n ρ l cs → ∀ off, VRL C n ρ (putAt l off vs) (layV cs off us)
  | _, _, _, _, .nil, h, _ => h
  | _, _, _, _, .cons s u vs us hs hl, h, off => layV_vrl hl (h.set hs off) (off + 1)
theorem FR.same {b : Nat} (hF : FR C w) (h : SameBut w w' b) (hb : C.own b) : FR C w' :=
  hF.of_block (Nat.le_of_eq h.size.symm) (fun x _ hx => h.block x (fun e => hx (e ▸ hb))) h.os h.tape h.output
/-- One object is turned, and the block in which it lies. -/
theorem HR.turn (hH : HR C ρ hp w) {k b : Nat} {ob : Ob} (hk : alive hp k) (hb : blkOf (ρ k).hdr = some b) (hs : SameBut w w' b) (ho : ObR C hp.length ρ w' k ob) : HR C ρ (hp.set k ob) w' := by
  refine ⟨fun j x hx => ?_, fun i j c hij hi hj hc => ?_⟩
  · rw [List.length_set]
    by_cases e : j = k
    · subst e
      have hlt := (List.getElem?_eq_some_iff.1 hx).1
      rw [List.length_set] at hlt
      rw [List.getElem?_set_self hlt] at hx
      simp at hx; subst hx; exact ho
    · rw [List.getElem?_set_ne (Ne.symm e)] at hx
      by_cases hd : x = .dead
      · subst hd; trivial
      · refine (hH.ob j x hx).world fun c hc => hs.block c ?_
        rintro rfl
        exact hH.ne j k c e ⟨x, hx, hd⟩ hk hc hb
  · have al : ∀ m, alive (hp.set k ob) m → alive hp m := by
      intro m hm
      by_cases e : m = k
      · subst e; exact hk
      · exact alive_set hm e
    exact hH.ne i j c hij (al i hi) (al j hj) hc
theorem setScs_ok {n : Nat} : ∀ (vs : List SV) (us : List Value) (c c' : RC) (i off : Nat), VRL C n ρ vs us → c.wf → i < c.len → setScs c i off vs = some c' →
    c'.len = c.len ∧ c'.size = c.size ∧ c'.wf ∧ (∀ u ∈ us, u.oneCell' = true) ∧ (vs ≠ [] → off + vs.length ≤ c.size) ∧ ∀ j u, c'.vals[j]? = some u → if i * c.size + off ≤ j ∧ j < i * c.size + off + us.length then us[j - (i * c.size + off)]? = some u else c.vals[j]? = some u
  | [], _, c, c', i, off, .nil, hw, hi, h => by
    simp [setScs] at h; subst h
    refine ⟨rfl, rfl, hw, by simp, by simp, fun j u hu => ?_⟩
    rw [if_neg (by rw [List.length_nil]; omega)]; exact hu
  | s :: vs, _, c, c', i, off, .cons _ u _ us hs hl, hw, hi, h => by
    simp only [setScs, Option.bind_eq_some_iff] at h
    obtain ⟨sc, hsc, c1, hc1, h⟩ := h
    have S := RC.set_vals hw hi hc1
    obtain ⟨h1, h2, h3, h4, h5, h6⟩ := setScs_ok vs us c1 c' i (off + 1) hl S.wf (by rw [S.len]; exact hi) h
    have hu : u = sc.val := by
      cases hs <;> simp [SV.sc] at hsc <;> subst hsc <;> rfl
    have ho := S.ho
    refine ⟨h1.trans S.len, h2.trans S.size, h3, ?_, ?_, fun j v hv => ?_⟩
    · intro x hx
      rcases List.mem_cons.1 hx with rfl | hx
      · rw [hu]; cases sc <;> rfl
      · exact h4 x hx
    · intro _
      by_cases e : vs = []
      · subst e; simp; omega
      · have := h5 e; rw [S.size] at this; simp; omega
    · have := h6 j v hv
      rw [S.size] at this
      by_cases e1 : i * c.size + (off + 1) ≤ j ∧ j < i * c.size + (off + 1) + us.length
      · rw [if_pos e1] at this
        rw [if_pos (by simp; omega), show j - (i * c.size + off) = (j - (i * c.size + (off + 1))) + 1 by omega]
        simpa using this
      · rw [if_neg e1] at this
        rcases S.vals j v this with ⟨e2, e3⟩ | ⟨e2, e3⟩
        · rw [if_pos (by simp; omega), show j - (i * c.size + off) = 0 by omega]
          simp [hu, e3]
        · rw [if_neg (by simp; omega)]; exact e3
/-- A store. -/
theorem store_ok {vs : List SV} {us : List Value} {p : SV} {pv : Value} {hp' : List Ob} (hv : VRL C hp.length ρ vs us) (hpv : VR C hp.length ρ p pv) (hH : HR C ρ hp w) (hF : FR C w) (h : Go.X.storeCells hp vs p = some hp') :
    ∃ ad w', pv = .pointer (some ad) ∧ (Go.storeCells ad us).run C.P w = .ok () w' ∧ hp'.length = hp.length ∧ HR C ρ hp' w' ∧ FR C w' := by
  unfold Go.X.storeCells at h
  split at h
  · rename_i k o
    cases hpv with
    | ptr _ _ b hk hb =>
      unfold storeP at h
      split at h
      · rename_i g l hl
        split at h <;> simp at h
        rename_i hle
        subst h
        obtain ⟨b', T, cur, e, hown, hh, hvl, hg⟩ := hH.ob k _ hl
        rw [hb] at e; simp at e; subst e
        have hlen := hvl.length
        have hlen' := hv.length
        simp at hlen
        obtain ⟨w', hr, hb', hs⟩ := run_lay C.P b o T (0, 0) us 0 cur w hh (by intro j _; simp) (by omega) (hv.one' hle.2)
        refine ⟨_, w', rfl, hr, by simp, ?_, hF.same hs hown⟩
        refine hH.turn ⟨_, hl, by simp⟩ (by rw [hb]; rfl) hs ⟨b, T, _, hb, hown, hb', ?_, hg⟩
        simpa using layV_vrl hv hvl o
      · simp at h
  · rename_i k i o
    cases hpv with
    | eptr _ _ _ b q m cap hk hb hi =>
      unfold storeE at h
      split at h
      · rename_i g c hc
        cases hset : setScs c i o vs with
        | none => simp [hset, rowsH] at h
        | some c' =>
          simp [hset, rowsH] at h
          subst h
          obtain ⟨hw, hsz, a, cap', hd⟩ := rows_wf hH hc
          have hg := (hH.ob k _ hc).2.2.1
          rw [hb] at hd; simp at hd; obtain ⟨rfl, rfl, rfl⟩ := hd
          obtain ⟨b', q', cap', cur, T, fr, e, hown, hh, hcap, hmax, hfit, hvals, hfro⟩ := row_cells hH hc (by omega)
          rw [hb] at e; simp at e; obtain ⟨⟨rfl, rfl⟩, rfl⟩ := e
          obtain ⟨h1, h2, h3, h4, h5, h6⟩ := setScs_ok vs us c c' i o hv hw hi hset
          have hlen' := hv.length
          have hbound : i * c.size + c.size ≤ cap * c.size := by
            rw [← Nat.succ_mul]; exact Nat.mul_le_mul_right _ (by omega)
          have hin : q + i * (ρ k).size + o + us.length ≤ cur.size ∨ us = [] := by
            by_cases e : vs = []
            · subst e; right; cases hv; rfl
            · have := h5 e; left; rw [hsz]; omega
          rcases hin with hin | rfl
          · obtain ⟨w', hr, hb', hs⟩ := run_lay C.P b (q + i * (ρ k).size + o) T fr us 0 cur w hh hfro (by omega) h4
            refine ⟨_, w', rfl, hr, by simp, ?_, hF.same hs hown⟩
            refine hH.turn ⟨_, hc, by simp⟩ (by rw [hb]; rfl) hs ⟨h3, by rw [h2]; exact hsz, hg, .inr ⟨b, q, cap, _, T, fr, by rw [h1]; exact hb, hown, hb', by rw [h1]; exact hcap, hmax, ?_, ?_, ?_⟩⟩
            · rw [h2]; simpa [layV_length] using hfit
            · intro j u hu
              have h7 := h6 j u hu
              simp only [Nat.add_zero, List.getElem?_toArray]
              rw [layV_get us cur.toList _ _ (by simpa using hin), hsz]
              by_cases e : i * c.size + o ≤ j ∧ j < i * c.size + o + us.length
              · rw [if_pos e] at h7
                rw [if_pos (by omega), show q + j - (q + i * c.size + o) = j - (i * c.size + o) by omega]
                exact h7
              · rw [if_neg e] at h7
                rw [if_neg (by omega)]
                simpa using hvals j u h7
            · simpa [layV_length] using hfro
          · refine ⟨_, w, rfl, rfl, by simp, ?_, hF⟩
            refine hH.turn ⟨_, hc, by simp⟩ (by rw [hb]; rfl) (.refl _ _) ⟨h3, by rw [h2]; exact hsz, hg, .inr ⟨b, q, cap, cur, T, fr, by rw [h1]; exact hb, hown, hh, by rw [h1]; exact hcap, hmax, by rw [h2]; exact hfit, ?_, hfro⟩⟩
            intro j u hu
            have h7 := h6 j u hu
            rw [if_neg (by rw [List.length_nil]; omega)] at h7
            exact hvals j u h7
      · simp at h
  · simp at h
theorem AVR.cells_vrl {n : Nat} {s : AV} {v : Value} (h : AVR C n ρ s v) (hs : s.cells.all okCell = true) : VRL C n ρ s.cells v.cells.toList := by
  cases h with
  | one s v h =>
    simp only [AV.cells, List.all_cons, List.all_nil, Bool.and_true] at hs
    rw [(h.one' hs).2]
    exact .cons _ _ _ _ h .nil
  | agg l vs h => simpa [AV.cells, Value.cells] using h
  | tup l vs h => simp [AV.cells, okCell] at hs
theorem storeVar_run {P : Program} {t : TypeId} {n : Nat} {ad : Addr} {v : Value} {w' : World} (hn : sizeT P t = some n) (hv : v.cells.size = n) (h : (Go.storeCells ad v.cells.toList).run P w = .ok () w') : (storeVar t ad v).run P w = .ok () w' := by
  simp [storeVar, run_sizeT w hn, hv, h]
theorem storeCells_ok_all {vs : List SV} {p : SV} {hp' : List Ob} (h : Go.X.storeCells hp vs p = some hp') : vs.all okCell = true := by
  unfold Go.X.storeCells at h
  split at h
  · unfold storeP at h
    split at h
    · split at h <;> simp at h
      rename_i hle
      exact hle.2
    · simp at h
  · unfold storeE at h
    split at h
    · rename_i k i o _ g c _
      have aux : ∀ (vs : List SV) (c : RC) (off : Nat), (setScs c i off vs).isSome = true → vs.all okCell = true := by
        intro vs
        induction vs with
        | nil => intro _ _ _; rfl
        | cons s vs ih =>
          intro c off hs
          simp only [setScs, Option.isSome_iff_exists, Option.bind_eq_some_iff] at hs
          obtain ⟨c', sc, hsc, c1, hc1, hr⟩ := hs
          simp only [List.all_cons, Bool.and_eq_true]
          refine ⟨by cases s <;> simp [SV.sc] at hsc <;> rfl, ih c1 (off + 1) (by rw [hr]; rfl)⟩
      refine aux vs c o ?_
      cases hset : setScs c i o vs with
      | none => simp [hset, rowsH] at h
      | some c' => rfl
    · simp at h
  · simp at h
theorem g_store {t t' t'' : TypeId} {A X : Operand} {x y : AO} {n : Nat} {res : AV × List Ob} (ho : o.op = .store t A X) (hn : sizeT C.P t = some n) (hx : cOp C.P t' A = some x) (hy : cOp C.P t'' X = some y)
    (he : EnvR C hp.length ρ env a) (hH : HR C ρ hp w) (hF : FR C w) (h : (if (getO env y).cells.length = n then putH (Go.X.storeCells hp (getO env y).cells (getS env x)) else none) = some res) : Good C ρ hp o a w res := by
  have h1 := cOp_ok hx he
  have h2 := cOp_ok hy he
  split at h
  · rename_i hlen
    cases hs : Go.X.storeCells hp (getO env y).cells (getS env x) with
    | none => simp [hs, putH] at h
    | some hp' =>
      simp [hs, putH] at h; subst h
      have hv := h2.cells_vrl (storeCells_ok_all hs)
      obtain ⟨_, h3⟩ := h1.sv_of (by intro e; rw [getS, e] at hs; simp [Go.X.storeCells] at hs)
      obtain ⟨ad, w', e, hr, hl, hH', hF'⟩ := store_ok hv h3 hH hF hs
      refine good_skip (w' := w') ?_ ρ (Nat.le_of_eq hl.symm) (Ext.refl _ _) rfl hH' hF'
      obtain ⟨dst, op, type, pos, after, guard⟩ := o
      dsimp only at ho; subst ho
      refine unit_run _ ?_
      have hsz : (a.eval X).cells.size = n := by have := hv.length; simp at this; omega
      simp [Instr.storeAt, Instr.sureAddr, e, storeVar_run hn hsz hr]
  · simp at h
theorem g_storeNil {t e t' : TypeId} {A X : Operand} {x : AO} {c0 : RC} {z : List Sc} {res : AV × List Ob} (ho : o.op = .store t A X) (hX : isNilConst X = true) (hn : sizeT C.P t = some 1) (hr : rowT C.P e = some (c0, z)) (hx : cOp C.P t' A = some x)
    (he : EnvR C hp.length ρ env a) (hH : HR C ρ hp w) (hF : FR C w) (h : putH (Go.X.storeCells (hp ++ [.rows none c0]) [.row hp.length] (getS env x)) = some res) : Good C ρ hp o a w res := by
  have hk := rowT_ok hr
  have h1 := cOp_ok hx he
  have hX' : X = .const (.slice none 0 0) := by
    unfold isNilConst at hX
    split at hX
    · rfl
    · simp at hX
  subst hX'
  cases hs : Go.X.storeCells (hp ++ [.rows none c0]) [.row hp.length] (getS env x) with
  | none => simp [hs, putH] at h
  | some hp' =>
    simp [hs, putH] at h; subst h
    obtain ⟨_, h3⟩ := h1.sv_of (by intro e; rw [getS, e] at hs; simp [Go.X.storeCells] at hs)
    have hE := up_ext ρ hp.length ⟨.slice none 0 0, c0.size⟩
    have hle : hp.length ≤ (hp ++ [Ob.rows none c0]).length := by simp
    have hv : VRL C (hp ++ [Ob.rows none c0]).length (up ρ hp.length ⟨.slice none 0 0, c0.size⟩) [.row hp.length] [.slice none 0 0] := .cons _ _ _ _ (by simpa using up_row hp.length none 0 0 c0.size) .nil
    obtain ⟨ad, w', e, hr, hl, hH', hF'⟩ := store_ok hv (h3.ext hle hE) (hH.newRow (b := none) hk.len hk.wf) hF hs
    refine good_skip (w' := w') ?_ _ (by simp only; rw [hl]; exact hle) hE rfl hH' hF'
    obtain ⟨dst, op, type, pos, after, guard⟩ := o
    dsimp only at ho; subst ho
    refine unit_run _ ?_
    have hsz : (Value.slice none 0 0).cells.size = 1 := rfl
    have := storeVar_run (P := C.P) (t := t) (v := .slice none 0 0) hn hsz hr
    have hX0 : a.eval (.const (.slice none 0 0)) = .slice none 0 0 := rfl
    simp [Instr.storeAt, Instr.sureAddr, hX0, e, this]
end
end Go.X
