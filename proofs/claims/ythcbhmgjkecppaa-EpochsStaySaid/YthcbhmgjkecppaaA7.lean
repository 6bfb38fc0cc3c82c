import Derived.Test.YthcbhmgjkecppaaA6
import Derived.Laws.Cells
set_option linter.unusedVariables false
namespace Go.X
/-! ### rows: elements and cells -/
theorem flat_get : ∀ (n : Nat) (xs : List (List Sc)), (∀ l ∈ xs, l.length = n) → ∀ (i o : Nat), i < xs.length → o < n → (xs.flatMap fun l => l.map Sc.val)[i * n + o]? = ((xs.getD i [])[o]?).map Sc.val
  | n, [], _, i, o, hi, _ => by simp at hi
  | n, l :: xs, h, 0, o, _, ho => by
    have hl := h l (by simp)
    rw [List.flatMap_cons, Nat.zero_mul, Nat.zero_add, List.getElem?_append_left (by simpa [hl] using ho)]
    simp
  | n, l :: xs, h, i + 1, o, hi, ho => by
    have hl := h l (by simp)
    have e : (i + 1) * n + o = (l.map Sc.val).length + (i * n + o) := by simp [hl, Nat.add_mul]; omega
    rw [List.flatMap_cons, e, List.getElem?_append_right (by omega), Nat.add_sub_cancel_left]
    simpa using flat_get n xs (fun m hm => h m (by simp [hm])) i o (by simpa using hi) ho
theorem flat_length : ∀ (n : Nat) (xs : List (List Sc)), (∀ l ∈ xs, l.length = n) → (xs.flatMap fun l => l.map Sc.val).length = xs.length * n
  | n, [], _ => by simp
  | n, l :: xs, h => by
    have hl := h l (by simp)
    rw [List.flatMap_cons, List.length_append, List.length_map, hl, flat_length n xs (fun m hm => h m (by simp [hm])), List.length_cons, Nat.add_mul]
    omega
namespace RC
theorem vals_length {c : RC} (h : c.wf) : c.vals.length = c.len * c.size := by
  cases c with
  | ints k xs => simp [vals, len, size]
  | strs xs => simp [vals, len, size]
  | bools xs => simp [vals, len, size]
  | recs n xs => exact flat_length n xs h.2
theorem size_pos {c : RC} (h : c.wf) : 0 < c.size := by
  cases c with
  | ints k xs => exact Nat.one_pos
  | strs xs => exact Nat.one_pos
  | bools xs => exact Nat.one_pos
  | recs n xs => exact h.1
theorem get_vals {c : RC} (hw : c.wf) {i o : Nat} {s : Sc} (hi : i < c.len) (h : c.get i o = some s) : o < c.size ∧ c.vals[i * c.size + o]? = some s.val := by
  cases c with
  | ints k xs =>
    simp only [get] at h
    split at h <;> simp at h
    subst h; rename_i e; subst e
    simp only [len] at hi
    simp [size, vals, Sc.val, hi]
  | strs xs =>
    simp only [get] at h
    split at h <;> simp at h
    subst h; rename_i e; subst e
    simp only [len] at hi
    simp [size, vals, Sc.val, hi]
  | bools xs =>
    simp only [get] at h
    split at h <;> simp at h
    subst h; rename_i e; subst e
    simp only [len] at hi
    simp [size, vals, Sc.val, hi]
  | recs n xs =>
    simp only [get] at h
    have hm : xs.getD i [] ∈ xs := by
      simp only [len] at hi
      simp [List.getD, hi]
    have hl := hw.2 _ hm
    have ho : o < n := by have := (List.getElem?_eq_some_iff.1 h).1; omega
    refine ⟨ho, ?_⟩
    simp only [vals, size]
    rw [flat_get n xs hw.2 i o hi ho, h]; rfl
theorem elem_get {c : RC} (hw : c.wf) {i o : Nat} (hi : i < c.len) (ho : o < c.size) : ∃ s, (c.elem i)[o]? = some s ∧ c.vals[i * c.size + o]? = some s.val := by
  cases c with
  | ints k xs =>
    simp only [size] at ho
    obtain rfl : o = 0 := by omega
    simp only [len] at hi
    exact ⟨_, rfl, by simp [vals, size, Sc.val, hi]⟩
  | strs xs =>
    simp only [size] at ho
    obtain rfl : o = 0 := by omega
    simp only [len] at hi
    exact ⟨_, rfl, by simp [vals, size, Sc.val, hi]⟩
  | bools xs =>
    simp only [size] at ho
    obtain rfl : o = 0 := by omega
    simp only [len] at hi
    exact ⟨_, rfl, by simp [vals, size, Sc.val, hi]⟩
  | recs n xs =>
    simp only [size] at ho
    simp only [len] at hi
    have hm : xs.getD i [] ∈ xs := by simp [List.getD, hi]
    have hl := hw.2 _ hm
    refine ⟨(xs.getD i [])[o]'(by omega), by show (xs.getD i [])[o]? = _; exact List.getElem?_eq_getElem (by omega), ?_⟩
    simp only [vals, size]
    rw [flat_get n xs hw.2 i o hi ho, List.getElem?_eq_getElem (show o < (xs.getD i []).length by omega)]; rfl
theorem elem_length {c : RC} (hw : c.wf) {i : Nat} (hi : i < c.len) : (c.elem i).length = c.size := by
  cases c with
  | ints k xs => rfl
  | strs xs => rfl
  | bools xs => rfl
  | recs n xs =>
    simp only [len] at hi
    exact hw.2 _ (by simp [elem, List.getD, hi])
theorem val_at {c : RC} (hw : c.wf) {j : Nat} {u : Value} (h : c.vals[j]? = some u) : j < c.len * c.size ∧ u.oneCell' = true := by
  have hl := (List.getElem?_eq_some_iff.1 h).1
  rw [vals_length hw] at hl
  refine ⟨hl, ?_⟩
  cases c with
  | ints k xs => simp [vals] at h; obtain ⟨_, _, rfl⟩ := h; rfl
  | strs xs => simp [vals] at h; obtain ⟨_, _, rfl⟩ := h; rfl
  | bools xs => simp only [vals, List.getElem?_map, Option.map_eq_some_iff] at h; obtain ⟨_, _, rfl⟩ := h; rfl
  | recs n xs =>
    have hm := List.mem_of_getElem? h
    simp [vals] at hm
    obtain ⟨l, _, s, _, rfl⟩ := hm
    cases s <;> rfl
structure SetAt (c c' : RC) (i o : Nat) (s : Sc) : Prop where
  len : c'.len = c.len
  size : c'.size = c.size
  wf : c'.wf
  ho : o < c.size
  vals : ∀ j u, c'.vals[j]? = some u → (j = i * c.size + o ∧ u = s.val) ∨ (j ≠ i * c.size + o ∧ c.vals[j]? = some u)
theorem set_vals {c c' : RC} (hw : c.wf) {i o : Nat} {s : Sc} (hi : i < c.len) (h : c.set i o s = some c') : SetAt c c' i o s := by
  cases c with
  | ints k xs =>
    cases s <;> simp [set] at h
    obtain ⟨⟨rfl, rfl⟩, rfl⟩ := h
    refine ⟨by simp [RC.len], rfl, trivial, Nat.one_pos, fun j u hu => ?_⟩
    simp only [RC.vals, RC.size, Nat.mul_one, Nat.add_zero, List.map_set] at hu ⊢
    by_cases e : j = i
    · subst e
      rw [List.getElem?_set_self (by simpa [RC.len] using hi)] at hu
      simp at hu; exact .inl ⟨rfl, hu.symm⟩
    · rw [List.getElem?_set_ne (Ne.symm e)] at hu
      exact .inr ⟨e, hu⟩
  | strs xs =>
    cases s <;> simp [set] at h
    obtain ⟨rfl, rfl⟩ := h
    refine ⟨by simp [RC.len], rfl, trivial, Nat.one_pos, fun j u hu => ?_⟩
    simp only [RC.vals, RC.size, Nat.mul_one, Nat.add_zero, List.map_set] at hu ⊢
    by_cases e : j = i
    · subst e
      rw [List.getElem?_set_self (by simpa [RC.len] using hi)] at hu
      simp at hu; exact .inl ⟨rfl, hu.symm⟩
    · rw [List.getElem?_set_ne (Ne.symm e)] at hu
      exact .inr ⟨e, hu⟩
  | bools xs =>
    cases s <;> simp [set] at h
    obtain ⟨rfl, rfl⟩ := h
    refine ⟨by simp [RC.len], rfl, trivial, Nat.one_pos, fun j u hu => ?_⟩
    simp only [RC.vals, RC.size, Nat.mul_one, Nat.add_zero, List.map_set] at hu ⊢
    by_cases e : j = i
    · subst e
      rw [List.getElem?_set_self (by simpa [RC.len] using hi)] at hu
      simp at hu; exact .inl ⟨rfl, hu.symm⟩
    · rw [List.getElem?_set_ne (Ne.symm e)] at hu
      exact .inr ⟨e, hu⟩
  | recs n xs =>
    simp only [set] at h
    split at h <;> simp at h
    rename_i ho
    subst h
    simp only [RC.len] at hi
    have hm : xs.getD i [] ∈ xs := by simp [List.getD, hi]
    have hl := hw.2 _ hm
    have hw' : ∀ l ∈ xs.set i ((xs.getD i []).set o s), l.length = n := by
      intro l hm'
      rcases List.mem_or_eq_of_mem_set hm' with h | rfl
      · exact hw.2 l h
      · simpa using hl
    refine ⟨by simp [RC.len], rfl, ⟨hw.1, hw'⟩, ho, fun j u hu => ?_⟩
    have hlt := (val_at (c := recs n (xs.set i ((xs.getD i []).set o s))) ⟨hw.1, hw'⟩ hu).1
    simp only [RC.len, RC.size, List.length_set] at hlt
    have hn := hw.1
    have e0 : j = (j / n) * n + j % n := by rw [Nat.mul_comm]; exact (Nat.div_add_mod j n).symm
    have e1 : j / n < xs.length := Nat.div_lt_of_lt_mul (by rw [Nat.mul_comm]; exact hlt)
    have e2 : j % n < n := Nat.mod_lt _ hn
    simp only [RC.vals, RC.size] at hu ⊢
    have hf := flat_get n _ hw' (j / n) (j % n) (by simpa using e1) e2
    rw [e0] at hu
    replace hu := hf.symm.trans hu
    by_cases e : j = i * n + o
    · refine .inl ⟨e, ?_⟩
      rw [e0] at e
      have hi' : j / n = i := by
        have h1 := congrArg (· / n) e
        simp only [Nat.mul_comm _ n, Nat.mul_add_div hn, Nat.div_eq_of_lt e2, Nat.div_eq_of_lt ho, Nat.add_zero] at h1
        exact h1
      have ho' : j % n = o := by rw [hi'] at e; omega
      rw [hi', ho'] at hu
      have hl' : o < (xs.getD i []).length := by rw [hl]; exact ho
      have hg : ((xs.set i ((xs.getD i []).set o s)).getD i [])[o]? = some s := by
        rw [List.getD_eq_getElem?_getD, List.getElem?_set_self hi, Option.getD_some, List.getElem?_set_self hl']
      rw [hg] at hu
      simp at hu
      exact hu.symm
    · refine .inr ⟨e, ?_⟩
      rw [e0] at e ⊢
      rw [flat_get n xs hw.2 _ _ e1 e2]
      by_cases hi' : j / n = i
      · have ho' : j % n ≠ o := fun h => e (by rw [hi', h])
        rw [hi'] at hu ⊢
        simp only [List.getD, List.getElem?_set_self hi, Option.getD_some] at hu
        rwa [List.getElem?_set_ne (Ne.symm ho')] at hu
      · simpa [List.getD, List.getElem?_set_ne (Ne.symm hi')] using hu
theorem app_vals {c d e : RC} (hc : c.wf) (hd : d.wf) (h : c.app d = some e) : e.vals = c.vals ++ d.vals ∧ e.len = c.len + d.len ∧ e.size = c.size ∧ e.wf ∧ c.size = d.size := by
  cases c <;> cases d <;> simp [app] at h
  · obtain ⟨rfl, rfl⟩ := h; simp [vals, len, size, wf]
  · subst h; simp [vals, len, size, wf]
  · subst h; simp [vals, len, size, wf]
  · obtain ⟨rfl, rfl⟩ := h
    refine ⟨by simp [vals], by simp [len], rfl, ⟨hc.1, ?_⟩, rfl⟩
    intro l hl
    rcases List.mem_append.1 hl with h | h
    · exact hc.2 l h
    · exact hd.2 l h
theorem cut_vals {c : RC} (hc : c.wf) {a m : Nat} (h : a + m ≤ c.len) : (c.cut a m).len = m ∧ (c.cut a m).size = c.size ∧ (c.cut a m).wf ∧ (c.cut a m).vals = (c.vals.drop (a * c.size)).take (m * c.size) := by
  cases c with
  | ints k xs => simp only [len] at h; simp [cut, len, size, wf, vals]; omega
  | strs xs => simp only [len] at h; simp [cut, len, size, wf, vals]; omega
  | bools xs => simp only [len] at h; simp [cut, len, size, wf, vals]; omega
  | recs n xs =>
    simp only [len] at h
    refine ⟨by simp [cut, len]; omega, rfl, ⟨hc.1, fun l hl => hc.2 l (List.mem_of_mem_drop (List.mem_of_mem_take hl))⟩, ?_⟩
    simp only [cut, vals, size]
    have hw := hc.2
    clear hc
    induction xs generalizing a m with
    | nil => simp
    | cons x xs ih =>
      have hx := hw x (by simp)
      have hw' : ∀ l ∈ xs, l.length = n := fun l hl => hw l (by simp [hl])
      cases a with
      | succ a =>
        have := ih (a := a) (m := m) (by simp at h; omega) hw'
        rw [List.drop_succ_cons, this, List.flatMap_cons, Nat.add_mul, Nat.one_mul, Nat.add_comm (a * n), ← List.drop_drop, List.drop_left' (by simpa using hx)]
      | zero =>
        cases m with
        | zero => simp
        | succ m =>
          have := ih (a := 0) (m := m) (by simp at h; omega) hw'
          simp only [List.drop_zero, Nat.zero_mul] at this ⊢
          have e : (m + 1) * n = (x.map Sc.val).length + m * n := by rw [List.length_map, hx, Nat.add_mul, Nat.one_mul, Nat.add_comm]
          rw [List.take_succ_cons, List.flatMap_cons, this, List.flatMap_cons, e, List.take_length_add_append]
end RC
end Go.X
