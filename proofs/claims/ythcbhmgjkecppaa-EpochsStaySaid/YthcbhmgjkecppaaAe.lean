import Derived.Test.YthcbhmgjkecppaaAd
import Derived.Laws.Append
set_option linter.unusedVariables false
namespace Go.X
theorem mapM_some {α β : Type} {f : α → Option β} : ∀ {l : List α} {r : List β}, l.mapM f = some r → r.length = l.length ∧ ∀ (i : Nat) (x : α), l[i]? = some x → ∃ y : β, r[i]? = some y ∧ f x = some y
  | [], r, h => by simp at h; subst h; simp
  | a :: l, r, h => by
    simp only [List.mapM_cons, Option.bind_eq_bind, Option.bind_eq_some_iff, Option.pure_def, Option.some.injEq] at h
    obtain ⟨y, hy, ys, hys, rfl⟩ := h
    obtain ⟨h1, h2⟩ := mapM_some hys
    refine ⟨by simp [h1], fun i x hi => ?_⟩
    cases i with
    | zero => simp at hi; subst hi; exact ⟨y, rfl, hy⟩
    | succ i => simpa using h2 i x (by simpa using hi)
theorem list_ext_map {α β : Type} {l : List α} {r : List β} {g : α → Value} {k : β → Value} (h1 : r.length = l.length) (h2 : ∀ (i : Nat) (x : α), l[i]? = some x → ∃ y : β, r[i]? = some y ∧ g x = k y) : l.map g = r.map k := by
  apply List.ext_getElem?
  intro i
  simp only [List.getElem?_map]
  cases h : l[i]? with
  | none =>
    have : l.length ≤ i := List.getElem?_eq_none_iff.1 h
    rw [List.getElem?_eq_none (by omega)]; rfl
  | some x =>
    obtain ⟨y, hy, e⟩ := h2 i x h
    rw [hy]; simp [e]
namespace RC
theorem ofElems_ok {c0 c : RC} {l : List (List Sc)} (hw : c0.wf) (h : ofElems c0 l = some c) : c.vals = l.flatMap (fun e => e.map Sc.val) ∧ c.len = l.length ∧ c.size = c0.size ∧ c.wf ∧ ∀ e ∈ l, e.length = c0.size := by
  have one : ∀ (l : List (List Sc)) (g : List Sc → Value), (∀ e ∈ l, e.map Sc.val = [g e]) → l.flatMap (fun e => e.map Sc.val) = l.map g := by
    intro l g hg
    induction l with
    | nil => rfl
    | cons e l ih =>
      rw [List.flatMap_cons, hg e (by simp), ih (fun x hx => hg x (by simp [hx]))]
      rfl
  cases c0 with
  | ints k xs0 =>
    simp only [ofElems, Option.map_eq_some_iff] at h
    obtain ⟨xs, hx, rfl⟩ := h
    obtain ⟨h1, h2⟩ := mapM_some hx
    have key : ∀ (i : Nat) (e : List Sc), l[i]? = some e → ∃ x, xs[i]? = some x ∧ e = [Sc.int k x] := by
      intro i e he
      obtain ⟨y, hy, hf⟩ := h2 i e he
      refine ⟨y, hy, ?_⟩
      split at hf
      · split at hf <;> simp at hf
        rename_i hk; subst hk; subst hf; rfl
      · simp at hf
    have hmem : ∀ e ∈ l, ∃ x, e = [Sc.int k x] := by
      intro e he
      obtain ⟨i, hi⟩ := List.mem_iff_getElem?.1 he
      obtain ⟨x, _, hx⟩ := key i e hi
      exact ⟨x, hx⟩
    refine ⟨?_, h1, rfl, trivial, fun e he => by obtain ⟨x, rfl⟩ := hmem e he; rfl⟩
    rw [one l (fun e => (e.map Sc.val).getD 0 (.int k 0)) (fun e he => by obtain ⟨x, rfl⟩ := hmem e he; rfl)]
    refine (list_ext_map h1 fun i e he => ?_).symm
    obtain ⟨x, hx1, rfl⟩ := key i e he
    exact ⟨x, hx1, rfl⟩
  | strs xs0 =>
    simp only [ofElems, Option.map_eq_some_iff] at h
    obtain ⟨xs, hx, rfl⟩ := h
    obtain ⟨h1, h2⟩ := mapM_some hx
    have key : ∀ (i : Nat) (e : List Sc), l[i]? = some e → ∃ x, xs[i]? = some x ∧ e = [Sc.str x] := by
      intro i e he
      obtain ⟨y, hy, hf⟩ := h2 i e he
      refine ⟨y, hy, ?_⟩
      split at hf
      · simp at hf; subst hf; rfl
      · simp at hf
    have hmem : ∀ e ∈ l, ∃ x, e = [Sc.str x] := by
      intro e he
      obtain ⟨i, hi⟩ := List.mem_iff_getElem?.1 he
      obtain ⟨x, _, hx⟩ := key i e hi
      exact ⟨x, hx⟩
    refine ⟨?_, h1, rfl, trivial, fun e he => by obtain ⟨x, rfl⟩ := hmem e he; rfl⟩
    rw [one l (fun e => (e.map Sc.val).getD 0 (.string .empty)) (fun e he => by obtain ⟨x, rfl⟩ := hmem e he; rfl)]
    refine (list_ext_map h1 fun i e he => ?_).symm
    obtain ⟨x, hx1, rfl⟩ := key i e he
    exact ⟨x, hx1, rfl⟩
  | bools xs0 =>
    simp only [ofElems, Option.map_eq_some_iff] at h
    obtain ⟨xs, hx, rfl⟩ := h
    obtain ⟨h1, h2⟩ := mapM_some hx
    have key : ∀ (i : Nat) (e : List Sc), l[i]? = some e → ∃ x, xs[i]? = some x ∧ e = [Sc.bool x] := by
      intro i e he
      obtain ⟨y, hy, hf⟩ := h2 i e he
      refine ⟨y, hy, ?_⟩
      split at hf
      · simp at hf; subst hf; rfl
      · simp at hf
    have hmem : ∀ e ∈ l, ∃ x, e = [Sc.bool x] := by
      intro e he
      obtain ⟨i, hi⟩ := List.mem_iff_getElem?.1 he
      obtain ⟨x, _, hx⟩ := key i e hi
      exact ⟨x, hx⟩
    refine ⟨?_, h1, rfl, trivial, fun e he => by obtain ⟨x, rfl⟩ := hmem e he; rfl⟩
    rw [one l (fun e => (e.map Sc.val).getD 0 (.bool false)) (fun e he => by obtain ⟨x, rfl⟩ := hmem e he; rfl)]
    refine (list_ext_map h1 fun i e he => ?_).symm
    obtain ⟨x, hx1, rfl⟩ := key i e he
    exact ⟨x, hx1, rfl⟩
  | recs n xs0 =>
    simp only [ofElems] at h
    split at h <;> simp at h
    rename_i ha
    subst h
    have hl : ∀ e ∈ l, e.length = n := fun e he => by simpa using List.all_eq_true.1 ha e he
    exact ⟨rfl, rfl, rfl, ⟨hw.1, hl⟩, hl⟩
end RC
section
variable {C : Cx} {ρ : Nat → RV} {hp : List Ob} {o : Oper} {a : Act} {w w' : World} {env : Env}
theorem scsOf_ok {n : Nat} : ∀ {l : List SV} {vs : List Value} {ss : List Sc}, VRL C n ρ l vs → scsOf l = some ss → vs = ss.map Sc.val
  | _, _, _, .nil, h => by simp [scsOf] at h; subst h; rfl
  | _, _, _, .cons s v l vs hv hl, h => by
    simp only [scsOf, Option.bind_eq_some_iff, Option.map_eq_some_iff] at h
    obtain ⟨sc, hsc, ss', hss, rfl⟩ := h
    rw [scsOf_ok hl hss]
    cases hv <;> simp [SV.sc] at hsc <;> subst hsc <;> rfl
theorem scsOf_okCell : ∀ {l : List SV} {ss : List Sc}, scsOf l = some ss → l.all okCell = true
  | [], _, _ => rfl
  | s :: l, ss, h => by
    simp only [scsOf, Option.bind_eq_some_iff, Option.map_eq_some_iff] at h
    obtain ⟨sc, hsc, ss', hss, rfl⟩ := h
    simp only [List.all_cons, Bool.and_eq_true]
    refine ⟨?_, scsOf_okCell hss⟩
    cases s <;> simp [SV.sc] at hsc <;> rfl
theorem bsFrom_ok {zero : List Sc} {ps : List (Nat × AV)} : ∀ {n i : Nat} {l : List (List Sc)}, bsFrom zero ps i n = some l → l.length = n ∧ ∀ j, j < n → ∃ e, l[j]? = some e ∧ partAt zero (i + j) ps = some e
  | 0, i, l, h => by simp [bsFrom] at h; subst h; simp
  | n + 1, i, l, h => by
    simp only [bsFrom, Option.bind_eq_some_iff, Option.map_eq_some_iff] at h
    obtain ⟨e, he, l', hl, rfl⟩ := h
    obtain ⟨h1, h2⟩ := bsFrom_ok hl
    refine ⟨by simp [h1], fun j hj => ?_⟩
    cases j with
    | zero => exact ⟨e, rfl, he⟩
    | succ j =>
      obtain ⟨e', h3, h4⟩ := h2 j (by omega)
      exact ⟨e', by simpa using h3, by rw [← h4]; congr 1; omega⟩
/-- Parts laid into a row: each element is the part that is told, or what was there. -/
theorem fill_row {n size : Nat} (hs : 0 < size) : ∀ (ps : List (Nat × Value)) (qs : List (Nat × AV)) (cells : List Value), cells.length = n * size →
    PR (fun (p : Nat × Value) (q : Nat × AV) => p.1 = q.1 ∧ AVR C hp.length ρ q.2 p.2 ∧ p.1 < n ∧ ∃ e, scsOf q.2.cells = some e ∧ e.length = size) ps qs → (∀ (i j : Nat), i ≠ j → ∀ (p q : Nat × Value), ps[i]? = some p → ps[j]? = some q → p.1 ≠ q.1) →
    ∃ cells' : List Value, Instr.fill (fun i => some (i * size, size)) cells.toArray ps = some cells'.toArray ∧ cells'.length = n * size ∧
      ∀ (i o : Nat), i < n → o < size → ∀ (zero : List Sc), zero.length = size → (∀ (k : Nat) (x : Sc), zero[k]? = some x → cells[i * size + k]? = some x.val) → ∀ e : List Sc, partAt zero i qs = some e → ∀ s : Sc, e[o]? = some s → cells'[i * size + o]? = some s.val
  | [], [], cells, hl, _, _ => ⟨cells, rfl, hl, fun i o hi ho zero hzl hz e he s hs => by simp [partAt] at he; subst he; exact hz o s hs⟩
  | [], _ :: _, _, _, h, _ => by cases h
  | _ :: _, [], _, _, h, _ => by cases h
  | (i0, v) :: ps, (j0, av) :: qs, cells, hl, hf, hd => by
    cases hf with
    | cons _ _ _ _ h0 hf =>
      obtain ⟨e0, hav, hi0, sc, hsc, hsl⟩ := h0
      dsimp only at e0 hav hi0 hsc
      subst e0
      have hv := scsOf_ok (hav.cells_vrl (scsOf_okCell hsc)) hsc
      have hvl : v.cells.toList.length = size := by rw [hv]; simpa using hsl
      have hb : i0 * size + size ≤ n * size := by rw [← Nat.succ_mul]; exact Nat.mul_le_mul_right _ hi0
      obtain ⟨cells', h1, h2, h3⟩ := fill_row hs ps qs (layV cells (i0 * size) v.cells.toList) (by rw [layV_length]; exact hl) hf (fun i j hij p q hp hq => hd (i + 1) (j + 1) (by omega) p q (by simpa using hp) (by simpa using hq))
      refine ⟨cells', ?_, h2, fun i o hi ho zero hzl hz e he s hs' => ?_⟩
      · simp at hvl
        simp only [Instr.fill]
        rw [if_neg (by simp; omega), fold_lay']
        exact h1
      · simp only [partAt] at he
        split at he
        · rename_i e1
          subst e1
          rw [hsc] at he
          simp at he; subst he
          -- no later part has this number
          have hno : ∀ (zero' : List Sc), partAt zero' i0 qs = some zero' := by
            intro zero'
            have hne : ∀ q ∈ qs, q.1 ≠ i0 := by
              intro q hq
              obtain ⟨k, hk⟩ := List.mem_iff_getElem?.1 hq
              have aux : ∀ (ps : List (Nat × Value)) (qs : List (Nat × AV)) (k : Nat) (q : Nat × AV), PR (fun (p : Nat × Value) (q : Nat × AV) => p.1 = q.1 ∧ AVR C hp.length ρ q.2 p.2 ∧ p.1 < n ∧ ∃ e, scsOf q.2.cells = some e ∧ e.length = size) ps qs → qs[k]? = some q → ∃ p, ps[k]? = some p ∧ p.1 = q.1 := by
                intro ps qs k q hpr
                induction hpr generalizing k with
                | nil => simp
                | cons x y xs ys h t ih =>
                  intro hk
                  cases k with
                  | zero => simp at hk; subst hk; exact ⟨x, rfl, h.1⟩
                  | succ k => simpa using ih k (by simpa using hk)
              obtain ⟨p, hp1, hp2⟩ := aux ps qs k q hf hk
              rw [← hp2]
              exact (hd 0 (k + 1) (by omega) (i0, v) p rfl (by simpa using hp1)).symm
            clear hf h3 hz
            induction qs with
            | nil => rfl
            | cons q qs ih =>
              obtain ⟨j, u⟩ := q
              simp only [partAt]
              rw [if_neg (hne (j, u) (by simp))]
              exact ih (fun q hq => hne q (by simp [hq]))
          refine h3 i0 o hi ho sc hsl (fun k x hx => ?_) sc (hno sc) s hs'
          have hk : k < size := by have := (List.getElem?_eq_some_iff.1 hx).1; omega
          rw [layV_get _ _ _ _ (by omega), if_pos (by omega), Nat.add_sub_cancel_left, hv]
          simp [hx]
        · rename_i e1
          refine h3 i o hi ho zero hzl (fun k x hx => ?_) e he s hs'
          have h4 := hz k x hx
          have hk : k < size := by have := (List.getElem?_eq_some_iff.1 hx).1; omega
          rw [layV_get _ _ _ _ (by omega)]
          rw [if_neg]
          · exact h4
          · intro hh
            rw [hvl] at hh
            rcases Nat.lt_or_gt_of_ne e1 with hlt | hlt
            · have : i0 * size + size ≤ i * size := by rw [← Nat.succ_mul]; exact Nat.mul_le_mul_right _ hlt
              omega
            · have : i * size + size ≤ i0 * size := by rw [← Nat.succ_mul]; exact Nat.mul_le_mul_right _ hlt
              omega
end
end Go.X
