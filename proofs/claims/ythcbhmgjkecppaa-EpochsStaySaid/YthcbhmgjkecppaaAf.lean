import Derived.Test.YthcbhmgjkecppaaAe
set_option linter.unusedVariables false
namespace Go.X
theorem partsAt_ok {P : Program} {e len : Nat} : ∀ {ps : List (Nat × Operand)} {qs : List (Nat × AO)}, partsAt P e len ps = some qs →
    PR (fun (p : Nat × Operand) (q : Nat × AO) => p.1 = q.1 ∧ p.1 < len ∧ cOp P e p.2 = some q.2) ps qs ∧ ∀ (i j : Nat), i ≠ j → ∀ (p q : Nat × Operand), ps[i]? = some p → ps[j]? = some q → p.1 ≠ q.1
  | [], qs, h => by simp [partsAt] at h; subst h; exact ⟨.nil, by simp⟩
  | (i, x) :: ps, qs, h => by
    simp only [partsAt] at h
    split at h
    · rename_i hc
      simp only [Option.bind_eq_some_iff, Option.map_eq_some_iff] at h
      obtain ⟨b, hb, qs', hq, rfl⟩ := h
      obtain ⟨h1, h2⟩ := partsAt_ok hq
      refine ⟨.cons _ _ _ _ ⟨rfl, hc.1, hb⟩ h1, ?_⟩
      have hno : ∀ (j : Nat) (q : Nat × Operand), ps[j]? = some q → i ≠ q.1 := by
        intro j q hj
        have := List.all_eq_true.1 hc.2 q (List.mem_of_getElem? hj)
        simp at this
        exact fun e => this e.symm
      intro k j hkj p q hp hq
      cases k with
      | zero =>
        simp at hp; subst hp
        cases j with
        | zero => exact absurd rfl hkj
        | succ j => exact hno j q (by simpa using hq)
      | succ k =>
        cases j with
        | zero => simp at hq; subst hq; exact (hno k p (by simpa using hp)).symm
        | succ j => exact h2 k j (by omega) p q (by simpa using hp) (by simpa using hq)
    · simp at h
section
variable {C : Cx} {ρ : Nat → RV} {hp : List Ob} {o : Oper} {a : Act} {w w' : World} {env : Env}
theorem partAt_of {zero : List Sc} : ∀ {qs : List (Nat × AV)}, (∀ (i j : Nat), i ≠ j → ∀ (p q : Nat × AV), qs[i]? = some p → qs[j]? = some q → p.1 ≠ q.1) → ∀ (k : Nat) (q : Nat × AV), qs[k]? = some q → partAt zero q.1 qs = scsOf q.2.cells
  | [], _, k, q, h => by simp at h
  | (i, v) :: qs, hd, k, q, h => by
    cases k with
    | zero => simp at h; subst h; simp [partAt]
    | succ k =>
      have hne := hd 0 (k + 1) (by omega) (i, v) q rfl h
      simp only [partAt]
      rw [if_neg hne]
      exact partAt_of (fun i j hij p q hp hq => hd (i + 1) (j + 1) (by omega) p q (by simpa using hp) (by simpa using hq)) k q (by simpa using h)
theorem PR.get {α β : Type} {R : α → β → Prop} {xs : List α} {ys : List β} (h : PR R xs ys) : ∀ {k : Nat} {y : β}, ys[k]? = some y → ∃ x, xs[k]? = some x ∧ R x y := by
  induction h with
  | nil => simp
  | cons x y xs ys h t ih =>
    intro k z hz
    cases k with
    | zero => simp at hz; subst hz; exact ⟨x, rfl, h⟩
    | succ k => simpa using ih (by simpa using hz)
theorem putR_row {n : Nat} {res : AV × List Ob} {r : Option RC} (h : putR hp r = some res) : ∃ c, r = some c ∧ res = (.one (.row hp.length), hp ++ [.rows none c]) := by
  cases r with
  | none => simp [putR] at h
  | some c => simp [putR, Go.X.newRow] at h; exact ⟨c, rfl, h.symm⟩
/-- A row at the head of a new block. -/
theorem good_row {c : RC} {cap : Nat} {cur : Array Value} {T : TypeId} {fr : Nat × Nat} {w1 : World} (hr : (execOp a.eval o).run C.P w = .ok (.value (.slice (some ⟨w.heap.size, 0, none⟩) c.len cap)) (w1.alloc (.cells cur T fr))) (hw1 : w1 = w ∨ w1 = w.drew) (hH : HR C ρ hp w) (hF : FR C w) (hw : c.wf)
    (h1 : c.len ≤ cap) (h2 : cap ≤ maxLen) (h3 : cap * c.size ≤ cur.size) (h4 : ∀ (j : Nat) (u : Value), c.vals[j]? = some u → cur[j]? = some u) (h5 : ∀ (j : Nat), j < cur.size → ¬ (fr.1 ≤ j ∧ j < fr.2)) : Good C ρ hp o a w (.one (.row hp.length), hp ++ [.rows none c]) := by
  have hH1 : HR C ρ hp w1 := by rcases hw1 with rfl | rfl; exact hH; exact hH.drew
  have hF1 : FR C w1 := by rcases hw1 with rfl | rfl; exact hF; exact hF.drew
  have hs : w1.heap.size = w.heap.size := by rcases hw1 with rfl | rfl <;> rfl
  have hn := hH1.newRowAt hF1 hw T (fr := fr) h1 h2 h3 h4 h5
  rw [hs] at hn
  refine good_value hr _ (by simp) (up_ext _ _ _) ?_ hn (hF1.alloc _)
  simp only [List.length_append, List.length_cons, List.length_nil, Nat.zero_add]
  exact .one _ _ (up_row _ _ _ _ _)
theorem g_bslice {T e : TypeId} {len : Nat} {parts : Array (Nat × Operand)} {c0 : RC} {z : List Sc} {qs : List (Nat × AO)} {res : AV × List Ob} (ho : o.op = .buildSlice T len parts) (hT : C.P.underlying T = some (.slice e)) (hr : rowT C.P e = some (c0, z)) (hlen : len * z.length ≤ 16777216)
    (hq : partsAt C.P e len parts.toList = some qs) (he : EnvR C hp.length ρ env a) (hH : HR C ρ hp w) (hF : FR C w) (h : putR hp (ofElemsO c0 (bsFrom z (getPs env qs) 0 len)) = some res) : Good C ρ hp o a w res := by
  have hk := rowT_ok hr
  obtain ⟨i, zv, hi, hzv, hsz, hzl, hpos, hzc⟩ := hk.info
  obtain ⟨c, hc, rfl⟩ := putR_row (n := 0) h
  cases hb : bsFrom z (getPs env qs) 0 len with
  | none => simp [hb, ofElemsO] at hc
  | some elems =>
    simp only [hb, ofElemsO] at hc
    obtain ⟨v1, v2, v3, v4, v5⟩ := RC.ofElems_ok hk.wf hc
    obtain ⟨b1, b2⟩ := bsFrom_ok hb
    obtain ⟨p1, p2⟩ := partsAt_ok hq
    have hzs : zv.cells.size = c0.size := by
      have := congrArg List.length hzc; simp at this; omega
    -- the parts' values
    have hpr0 : PR (fun (p : Nat × Value) (q : Nat × AV) => p.1 = q.1 ∧ AVR C hp.length ρ q.2 p.2 ∧ p.1 < len) (parts.toList.map fun p => (p.1, a.eval p.2)) (getPs env qs) := by
      clear hb hc p2 hq h b2
      generalize parts.toList = ps at p1
      induction p1 with
      | nil => exact .nil
      | cons x y xs ys h t ih => exact .cons _ _ _ _ ⟨h.1, cOp_ok h.2.2 he, h.2.1⟩ ih
    have hd : ∀ (i j : Nat), i ≠ j → ∀ (p q : Nat × Value), (parts.toList.map fun p => (p.1, a.eval p.2))[i]? = some p → (parts.toList.map fun p => (p.1, a.eval p.2))[j]? = some q → p.1 ≠ q.1 := by
      intro i j hij p q hp hq
      simp only [List.getElem?_map, Option.map_eq_some_iff] at hp hq
      obtain ⟨p', hp', rfl⟩ := hp
      obtain ⟨q', hq', rfl⟩ := hq
      exact p2 i j hij p' q' hp' hq'
    have hd' : ∀ (i j : Nat), i ≠ j → ∀ (p q : Nat × AV), (getPs env qs)[i]? = some p → (getPs env qs)[j]? = some q → p.1 ≠ q.1 := by
      intro i j hij p q hp hq
      obtain ⟨p', hp', e1, _⟩ := hpr0.get hp
      obtain ⟨q', hq', e2, _⟩ := hpr0.get hq
      rw [← e1, ← e2]
      exact hd i j hij p' q' hp' hq'
    have hpr : PR (fun (p : Nat × Value) (q : Nat × AV) => p.1 = q.1 ∧ AVR C hp.length ρ q.2 p.2 ∧ p.1 < len ∧ ∃ e, scsOf q.2.cells = some e ∧ e.length = c0.size) (parts.toList.map fun p => (p.1, a.eval p.2)) (getPs env qs) := by
      have hall : ∀ (k : Nat) (q : Nat × AV), (getPs env qs)[k]? = some q → ∃ e, scsOf q.2.cells = some e ∧ e.length = c0.size := by
        intro k q hq
        obtain ⟨p, _, e1, _, e2⟩ := hpr0.get hq
        obtain ⟨el, h1, h2⟩ := b2 q.1 (by omega)
        rw [Nat.zero_add, partAt_of hd' k q hq] at h2
        exact ⟨el, h2, v5 el (List.mem_of_getElem? h1)⟩
      clear hb b2 hd hd' h
      generalize (parts.toList.map fun p => (p.1, a.eval p.2)) = ps at hpr0
      generalize getPs env qs = qs' at hpr0 hall
      induction hpr0 with
      | nil => exact .nil
      | cons x y xs ys h t ih => exact .cons _ _ _ _ ⟨h.1, h.2.1, h.2.2, hall 0 y rfl⟩ (ih (fun k q hk => hall (k + 1) q (by simpa using hk)))
    have hbase : ∀ (i : Nat), i < len → ∀ (k : Nat) (x : Sc), z[k]? = some x → (madeCells zv.cells (len * c0.size)).toList[i * c0.size + k]? = some x.val := by
      intro i hi k x hx
      have hkl : k < c0.size := by have := (List.getElem?_eq_some_iff.1 hx).1; omega
      have hb : i * c0.size + c0.size ≤ len * c0.size := by rw [← Nat.succ_mul]; exact Nat.mul_le_mul_right _ hi
      have hm : (i * c0.size + k) % zv.cells.size = k := by
        rw [hzs, Nat.mul_comm, Nat.mul_add_mod]; exact Nat.mod_eq_of_lt hkl
      have hz2 : zv.cells[k]? = some x.val := by
        have := congrArg (fun l => l[k]?) hzc
        simp only [List.getElem?_map, hx, Option.map_some] at this
        rw [← this]; simp
      simp only [madeCells, Array.toList_map, List.getElem?_map, Array.toList_range]
      rw [List.getElem?_range (by omega)]
      simp only [Option.map_some, Option.some.injEq, hm]
      rw [getElem!_def, hz2]
    obtain ⟨cells', f1, f2, f3⟩ := fill_row (C := C) (ρ := ρ) (hp := hp) (n := len) (size := c0.size) hpos _ _ (madeCells zv.cells (len * c0.size)).toList (by simp [madeCells]) hpr hd
    obtain ⟨dst, op', type, pos, after, guard⟩ := o
    dsimp only at ho; subst ho
    have hrun : (Instr.buildSlice T len (parts.map fun (i, x) => (i, a.eval x))).run C.P w = .ok (.slice (some ⟨w.heap.size, 0, none⟩) len len) (w.alloc (.cells cells'.toArray e)) := by
      have hpl : (parts.map fun (i, x) => (i, a.eval x)).toList = parts.toList.map fun p => (p.1, a.eval p.2) := by simp
      have e1 : ¬ (16777216 < len * i.size) := by rw [hsz, hzl]; omega
      rw [Array.toArray_toList] at f1
      by_cases h0 : len * c0.size = 0
      · have f1' : Instr.fill (fun i => some (i * c0.size, c0.size)) #[] (parts.toList.map fun p => (p.1, a.eval p.2)) = some cells'.toArray := by
          have : madeCells zv.cells (len * c0.size) = #[] := by rw [h0]; simp [madeCells]
          rwa [this] at f1
        simp only [Instr.buildSlice, Sem.run_bind, run_underlying hT, Result.andThen_ok, Go.sizeOf, typeInfo]
        simp [hi, hsz, h0, f1', Go.newRow, Array.range_zero']
      · simp only [Instr.buildSlice, Sem.run_bind, run_underlying hT, Result.andThen_ok, Go.sizeOf, typeInfo]
        simp only [madeCells] at f1
        rw [hsz] at e1
        simp [hi, hsz, e1, h0, f1, Go.newRow, zeroValue, typeInfo, hzv]
    refine good_row (w1 := w) (cur := cells'.toArray) (T := e) (fr := (0, 0)) (cap := c.len) ?_ (.inl rfl) hH hF v4 (Nat.le_refl _) ?_ ?_ ?_ ?_
    · rw [v2, b1]; exact val_run _ hrun
    · rw [v2, b1]
      have : len * 1 ≤ len * z.length := Nat.mul_le_mul_left _ (by omega)
      simp only [maxLen]; omega
    · rw [v2, b1, v3]; simp [f2]
    · intro j u hu
      obtain ⟨hj, _⟩ := RC.val_at v4 hu
      rw [v2, b1, v3] at hj
      have e0 : j = (j / c0.size) * c0.size + j % c0.size := by rw [Nat.mul_comm]; exact (Nat.div_add_mod j _).symm
      have e1 : j / c0.size < len := Nat.div_lt_of_lt_mul (by rw [Nat.mul_comm]; exact hj)
      have e2 : j % c0.size < c0.size := Nat.mod_lt _ hpos
      obtain ⟨el, g1, g2⟩ := b2 (j / c0.size) e1
      rw [Nat.zero_add] at g2
      have hel := v5 el (List.mem_of_getElem? g1)
      rw [v1, e0, flat_get c0.size elems v5 _ _ (by rw [b1]; exact e1) e2] at hu
      simp only [List.getD, g1, Option.getD_some, Option.map_eq_some_iff] at hu
      obtain ⟨sc, hsc, rfl⟩ := hu
      have := f3 (j / c0.size) (j % c0.size) e1 e2 z hzl.symm (hbase _ e1) el g2 sc hsc
      rw [e0]; simpa using this
    · intro j _; simp
theorem madeCells_at {zv : Value} {z : List Sc} {n size : Nat} (hzc : zv.cells.toList = z.map Sc.val) (hzl : size = z.length) (hpos : 0 < size) {i k : Nat} {x : Sc} (hi : i < n) (hx : z[k]? = some x) : (madeCells zv.cells (n * size))[i * size + k]? = some x.val := by
  have hkl : k < size := by have := (List.getElem?_eq_some_iff.1 hx).1; omega
  have hzs : zv.cells.size = size := by have := congrArg List.length hzc; simp at this; omega
  have hb : i * size + size ≤ n * size := by rw [← Nat.succ_mul]; exact Nat.mul_le_mul_right _ hi
  have hm : (i * size + k) % zv.cells.size = k := by
    rw [hzs, Nat.mul_comm, Nat.mul_add_mod]; exact Nat.mod_eq_of_lt hkl
  have hz2 : zv.cells[k]? = some x.val := by
    have := congrArg (fun l => l[k]?) hzc
    simp only [List.getElem?_map, hx, Option.map_some] at this
    rw [← this]; simp
  have hlt : i * size + k < (Array.range (n * size)).size := by simp; omega
  simp only [madeCells, Array.getElem?_map]
  rw [Array.getElem?_eq_getElem hlt]
  simp only [Array.getElem_range, Option.map_some, Option.some.injEq, hm]
  rw [getElem!_def, hz2]
theorem g_mks {T e t t' : TypeId} {L K : Operand} {l k : AO} {c0 : RC} {z : List Sc} {bytes : Nat} {res : AV × List Ob} (ho : o.op = .makeSlice T L K) (hT : C.P.underlying T = some (.slice e)) (hr : rowT C.P e = some (c0, z)) (hb : bytesT C.P e = some bytes) (hb0 : bytes ≠ 0) (hl : cOp C.P t L = some l) (hk : cOp C.P t' K = some k)
    (he : EnvR C hp.length ρ env a) (hH : HR C ρ hp w) (hF : FR C w) (h : oMks hp c0 z bytes (getO env l) (getO env k) = some res) : Good C ρ hp o a w res := by
  have hkr := rowT_ok hr
  obtain ⟨i, zv, hi, hzv, hsz, hzl, hpos, hzc⟩ := hkr.info
  have hbi : i.bytes = bytes := by simp only [bytesT, hi, Option.map_some, Option.some.injEq] at hb; exact hb
  have h1 := cOp_ok hl he
  have h2 := cOp_ok hk he
  generalize getO env l = s1 at h h1
  generalize getO env k = s2 at h h2
  generalize hv1 : a.eval L = v1 at h1
  generalize hv2 : a.eval K = v2 at h2
  obtain ⟨dst, op', type, pos, after, guard⟩ := o
  dsimp only at ho; subst ho
  unfold oMks at h
  split at h
  · rename_i k1 n k2 c
    cases h1 with | one _ _ h1 => ?_
    cases h2 with | one _ _ h2 => ?_
    cases h1; cases h2
    split at h
    · rename_i hc
      obtain ⟨q, hq, rfl⟩ := putR_row (n := 0) h
      obtain ⟨v1, v2, v3, v4, v5⟩ := RC.ofElems_ok hkr.wf hq
      have hbc : (i.bytes : Int) * c ≤ 140737488355328 := by rw [hbi, Int.mul_comm]; exact hc.2.2
      have hcc : c ≤ 140737488355328 := by
        have h3 : 1 ≤ (bytes : Int) := by omega
        have h4 : c * 1 ≤ c * (bytes : Int) := Int.mul_le_mul_of_nonneg_left h3 (by omega)
        have := hc.2.2
        omega
      have hrun := run_make (P := C.P) w T e i zv hT hi hzv k1 k2 n c hc.1 hc.2.1 (by omega) (by omega)
      rw [List.length_replicate] at v2
      refine good_row (w1 := w) (cap := c.toNat) (cur := madeCells zv.cells (c.toNat * i.size)) (T := e) (fr := (0, 0)) ?_ (.inl rfl) hH hF v4 (by rw [v2]; omega) (by simp only [maxLen]; omega) ?_ ?_ (by intro j _; simp)
      · rw [v2]
        refine val_run _ ?_
        rw [hv1, hv2]; exact hrun
      · rw [size_madeCells, hsz, v3]; exact Nat.le_refl _
      · intro j u hu
        obtain ⟨hj, _⟩ := RC.val_at v4 hu
        rw [v2, v3] at hj
        have e0 : j = (j / c0.size) * c0.size + j % c0.size := by rw [Nat.mul_comm]; exact (Nat.div_add_mod j _).symm
        have e1 : j / c0.size < n.toNat := Nat.div_lt_of_lt_mul (by rw [Nat.mul_comm]; exact hj)
        have e2 : j % c0.size < c0.size := Nat.mod_lt _ hpos
        rw [v1, e0, flat_get c0.size _ v5 _ _ (by simpa using e1) e2] at hu
        simp only [List.getD, List.getElem?_replicate, if_pos e1, Option.getD_some, Option.map_eq_some_iff] at hu
        obtain ⟨sc, hsc, rfl⟩ := hu
        rw [e0, hsz]
        exact madeCells_at hzc hzl hpos (by omega) hsc
    · simp at h
  · simp at h
theorem g_s2b {S T e t : TypeId} {X : Operand} {x : AO} {res : AV × List Ob} (ho : o.op = .convert S T X) (hS : C.P.underlying S = some .string) (hT : C.P.underlying T = some (.slice e)) (hE : C.P.underlying e = some (.int .u8)) (hx : cOp C.P t X = some x)
    (he : EnvR C hp.length ρ env a) (hH : HR C ρ hp w) (hF : FR C w) (h : oS2b hp (getO env x) = some res) : Good C ρ hp o a w res := by
  have h1 := cOp_ok hx he
  generalize getO env x = s1 at h h1
  generalize hv1 : a.eval X = v1 at h1
  obtain ⟨dst, op', type, pos, after, guard⟩ := o
  dsimp only at ho; subst ho
  unfold oS2b at h
  split at h
  · rename_i s
    cases h1 with | one _ _ h1 => ?_
    cases h1
    split at h
    · rename_i hs
      simp [Go.X.newRow] at h; subst h
      have hrun := run_bytes_of_string (P := C.P) w S T e s hS hT hE
      have hlen : (RC.ints .u8 (toBytes s)).len = s.size := by simp [RC.len, toBytes]
      have hmax : s.size ≤ maxLen := by simp only [maxLen]; omega
      have hge := grownCap_ge w s.size 0 e
      have hsz : (bytesRow s (grownCap w s.size 0 e)).size = grownCap w s.size 0 e := by
        simp [bytesRow]; omega
      refine good_row (w1 := w.drew) (cap := grownCap w s.size 0 e) (cur := bytesRow s (grownCap w s.size 0 e)) (T := e) (fr := ((bytesRow s (grownCap w s.size 0 e)).size, (bytesRow s (grownCap w s.size 0 e)).size + 1)) ?_ (.inr rfl) hH hF trivial (by rw [hlen]; exact hge) (grownCap_le_maxLen w _ _ _ hmax) ?_ ?_ (by intro j hj; simp; omega)
      · rw [hlen]
        refine val_run _ ?_
        rw [hv1]; exact hrun
      · rw [hsz]; simp [RC.size]
      · intro j u hu
        simp only [RC.vals, toBytes, List.map_map, List.getElem?_map, Option.map_eq_some_iff] at hu
        obtain ⟨b, hb, rfl⟩ := hu
        have hj : j < s.data.size := by have := (List.getElem?_eq_some_iff.1 hb).1; simpa using this
        rw [bytesRow_at s _ j hj]
        have : s.data[j] = b := by
          rw [Array.getElem?_toList, Array.getElem?_eq_getElem hj] at hb
          simpa using hb
        simp [this]
    · simp at h
  · simp at h
/-- What a slice reads, cell by cell. -/
theorem content_ok {s : SV} {v : Value} {c : RC} (hH : HR C ρ hp w) (hF : FR C w) (hv : VR C hp.length ρ s v) (hc : content hp s = some c) (hc' : ∀ (k o n : Nat), s = .view k o n → ∀ g d, hp[k]? = some (.rows g d) → o + n ≤ d.len) :
    c.wf ∧ ∃ ad cap, v = .slice ad c.len cap ∧ (0 < c.len → ∃ b q, ad = some ⟨b, q, none⟩ ∧ ∀ (j : Nat) (u : Value), c.vals[j]? = some u → w.cell? ⟨b, q + j, none⟩ = some u) := by
  unfold content at hc
  split at hc
  · rename_i k
    unfold rowAt at hc
    split at hc <;> simp at hc
    rename_i d hd
    subst hc
    obtain ⟨hw, _, a', cap', hd'⟩ := rows_wf hH hd
    cases hv with
    | row _ ad m cap hk hh =>
      obtain ⟨rfl, _, _⟩ := rows_cap hH hd hh
      refine ⟨hw, ad, cap, rfl, fun hpos => ?_⟩
      obtain ⟨b, q, cap2, cur, T, fr, e, _, hb, _, _, _, hvals, _⟩ := row_cells hH hd hpos
      rw [hh] at e; simp at e; obtain ⟨rfl, rfl⟩ := e
      exact ⟨b, q, rfl, fun j u hu => by rw [cell_at hb]; exact hvals j u hu⟩
  · rename_i k o n
    have hc2 := hc' k o n rfl
    unfold cutAt at hc
    split at hc <;> simp at hc
    rename_i d hd
    subst hc
    obtain ⟨hw, hsz, _⟩ := rows_wf hH hd
    have hle := hc2 _ d hd
    obtain ⟨k1, k2, k3, k4⟩ := RC.cut_vals hw hle
    refine ⟨k3, ?_⟩
    rw [k1]
    cases hv with
    | viewNil _ hk hh => exact ⟨none, 0, rfl, fun h => absurd h (Nat.lt_irrefl 0)⟩
    | view _ _ _ b q len cap q' hk hh hl hlc hq hq' =>
      refine ⟨_, _, rfl, fun hpos => ?_⟩
      obtain ⟨b2, q2, cap2, cur, T, fr, e, _, hb, _, _, _, hvals, _⟩ := row_cells hH hd (by omega)
      rw [hh] at e; simp at e; obtain ⟨⟨rfl, rfl⟩, rfl, rfl⟩ := e
      refine ⟨b, q', rfl, fun j u hu => ?_⟩
      rw [k4] at hu
      rw [cell_at hb, hq (by omega), hsz, Nat.add_assoc]
      exact hvals _ _ (take_get hu)
  · simp at hc; subst hc
    cases hv with
    | ro _ _ ad cap hr hcap =>
      refine ⟨hr.1, ad, cap, rfl, fun hpos => ?_⟩
      obtain ⟨b, q, rfl, _⟩ := hr.2 hpos
      exact ⟨b, q, rfl, fun j u hu => reads_cell hF hr hu⟩
  · simp at hc; subst hc
    cases hv with
    | nils _ h0 hw => exact ⟨hw, none, 0, by rw [h0], fun h => by omega⟩
  · simp at hc
theorem view_in {k o n : Nat} {v : Value} {g : Option Nat} {d : RC} (hH : HR C ρ hp w) (hv : VR C hp.length ρ (.view k o n) v) (hd : hp[k]? = some (.rows g d)) : o + n ≤ d.len := by
  obtain ⟨_, _, a', cap', hd'⟩ := rows_wf hH hd
  cases hv with
  | viewNil _ hk hh => omega
  | view _ _ _ b q len cap q' hk hh hl hlc hq hq' => rw [hd'] at hh; simp at hh; omega
theorem content_ok' {s : SV} {v : Value} {c : RC} (hH : HR C ρ hp w) (hF : FR C w) (hv : VR C hp.length ρ s v) (hc : content hp s = some c) :
    c.wf ∧ ∃ ad cap, v = .slice ad c.len cap ∧ (0 < c.len → ∃ b q, ad = some ⟨b, q, none⟩ ∧ ∀ (j : Nat) (u : Value), c.vals[j]? = some u → w.cell? ⟨b, q + j, none⟩ = some u) :=
  content_ok hH hF hv hc (fun k o n e g d hd => by subst e; exact view_in hH hv hd)
theorem g_b2s {S T e t : TypeId} {X : Operand} {x : AO} {res : AV × List Ob} (ho : o.op = .convert S T X) (hS : C.P.underlying S = some (.slice e)) (hT : C.P.underlying T = some .string) (hE : C.P.underlying e = some (.int .u8)) (hx : cOp C.P t X = some x)
    (he : EnvR C hp.length ρ env a) (hH : HR C ρ hp w) (hF : FR C w) (h : oB2s hp (content hp (getS env x)) = some res) : Good C ρ hp o a w res := by
  have h1 := cOp_ok hx he
  obtain ⟨dst, op', type, pos, after, guard⟩ := o
  dsimp only at ho; subst ho
  unfold oB2s at h
  split at h <;> simp at h
  rename_i xs hc
  subst h
  obtain ⟨_, h2⟩ := h1.sv_of (by intro e; rw [getS, e] at hc; simp [content] at hc)
  obtain ⟨hw, ad, cap, hv, hcell⟩ := content_ok' hH hF h2 hc
  refine good_same (v := .string (ofBytes xs)) (val_run _ ?_) (.one _ _ (.str _)) hH hF
  rw [hv]
  have hl : (RC.ints .u8 xs).len = xs.length := rfl
  rcases Nat.eq_zero_or_pos xs.length with h0 | h0
  · obtain rfl : xs = [] := List.eq_nil_of_length_eq_zero h0
    cases ad with
    | none => exact run_convert_bytes_nil w S e hS hE _ _ T hT
    | some ad =>
      obtain ⟨b, off, sp⟩ := ad
      have hr : (loadCells ⟨b, off, sp⟩ 0).run C.P w = .ok #[] w := by simp [loadCells, loadCellsFrom]
      rw [run_convert_bytes_string (P := C.P) w S T e _ _ _ hS hE hT]
      simp [RC.len, Conv.bytesToString, hr, ofBytes]
      rfl
  · obtain ⟨b, q, rfl, hcell'⟩ := hcell h0
    exact run_convert_bytes_arg w S e hS hE b q _ cap xs rfl (fun i hi => hcell' i _ (by simp [RC.vals, hi, List.getD])) T hT
end
end Go.X
