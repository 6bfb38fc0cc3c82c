import Derived.Test.YthcbhmgjkecppaaA4
set_option linter.unusedVariables false
namespace Go.X
/-! ### constants, operands -/
section
variable {C : Cx} {n : Nat} {ρ : Nat → RV}
theorem scIs_eq {s : Sc} {v : Value} (h : scIs s v = true) : v = s.val := by
  unfold scIs at h
  split at h <;> simp_all [Sc.val]
theorem scsAre_eq : ∀ {l : List Sc} {vs : List Value}, scsAre l vs = true → vs = l.map Sc.val
  | [], [], _ => rfl
  | [], _ :: _, h => by simp [scsAre] at h
  | _ :: _, [], h => by simp [scsAre] at h
  | s :: l, v :: vs, h => by
    simp only [scsAre, Bool.and_eq_true] at h
    rw [scIs_eq h.1, scsAre_eq h.2]; rfl
structure RowT (P : Program) (e : TypeId) (c : RC) (z : List Sc) : Prop where
  len : c.len = 0
  wf : c.wf
  info : ∃ i zv, P.info? e = some i ∧ i.zero = some zv ∧ i.size = c.size ∧ c.size = z.length ∧ 0 < c.size ∧ zv.cells.toList = z.map Sc.val
theorem rowT_ok {P : Program} {e : TypeId} {c : RC} {z : List Sc} (h : rowT P e = some (c, z)) : RowT P e c z := by
  unfold rowT at h
  simp only [Option.bind_eq_some_iff] at h
  obtain ⟨z', hz, i, hi, zv, hzv, c', hc, h⟩ := h
  split at h
  · rename_i hh
    simp only [Option.some.injEq, Prod.mk.injEq] at h
    obtain ⟨rfl, rfl⟩ := h
    obtain ⟨h1, h2, h3, h4⟩ := hh
    have hs := scsAre_eq h4
    refine ⟨?_, ?_, i, zv, hi, hzv, h1.symm, h1.trans h2, by omega, hs⟩
    · split at hc <;> simp at hc <;> subst hc <;> rfl
    · split at hc <;> simp at hc <;> subst hc <;> simp [RC.wf] <;> exact h3
  · exact absurd h (by simp)
theorem constSV_ok {P : Program} {t : TypeId} {v : Value} {s : SV} (h : constSV P t v = some s) : VR C n ρ s v := by
  unfold constSV at h
  split at h
  · simp at h; subst h; exact .int _ _
  · simp at h; subst h; exact .bool _
  · simp at h; subst h; exact .str _
  · simp at h; subst h; exact .nilp
  · simp at h; subst h; exact .nilf
  · split at h
    · simp only [Option.map_eq_some_iff] at h
      obtain ⟨⟨c, z⟩, hr, rfl⟩ := h
      have := rowT_ok hr
      exact .nils _ this.len this.wf
    · simp at h
  · simp at h
theorem constSVs_ok {P : Program} : ∀ {ts : List TypeId} {vs : List Value} {l : List SV}, constSVs P ts vs = some l → VRL C n ρ l vs
  | [], [], l, h => by simp [constSVs] at h; subst h; exact .nil
  | [], _ :: _, _, h => by simp [constSVs] at h
  | _ :: _, [], _, h => by simp [constSVs] at h
  | t :: ts, v :: vs, l, h => by
    simp only [constSVs, Option.bind_eq_some_iff, Option.map_eq_some_iff] at h
    obtain ⟨s, hs, l', hl, rfl⟩ := h
    exact .cons _ _ _ _ (constSV_ok hs) (constSVs_ok hl)
theorem constAV_ok {P : Program} {t : TypeId} {v : Value} {s : AV} (h : constAV P t v = some s) : AVR C n ρ s v := by
  unfold constAV at h
  split at h
  · rename_i cs
    simp only [Option.bind_eq_some_iff, Option.map_eq_some_iff] at h
    obtain ⟨l, hl, m, hm, rfl⟩ := h
    have := AVR.agg _ _ (constSVs_ok (C := C) (n := n) (ρ := ρ) hm)
    simpa using this
  · simp only [Option.map_eq_some_iff] at h
    obtain ⟨m, hm, rfl⟩ := h
    exact .one _ _ (constSV_ok hm)
theorem cOp_ok {P : Program} {t : TypeId} {x : Operand} {ao : AO} {env : Env} {a : Act} (h : cOp P t x = some ao) (he : EnvR C n ρ env a) : AVR C n ρ (getO env ao) (a.eval x) := by
  unfold cOp at h
  split at h
  · simp at h; subst h; exact he _
  · simp only [Option.map_eq_some_iff] at h
    obtain ⟨m, hm, rfl⟩ := h
    exact constAV_ok hm
  · simp at h; subst h; exact .one _ _ (.fn _ [] [] .nil)
  · simp at h
theorem cOps_ok {P : Program} {env : Env} {a : Act} (he : EnvR C n ρ env a) : ∀ {ts : List TypeId} {xs : List Operand} {l : List AO}, cOps P ts xs = some l → AVRL C n ρ (getL env l) (xs.map a.eval)
  | [], [], l, h => by simp [cOps] at h; subst h; exact .nil
  | _ :: _, [], l, h => by simp [cOps] at h; subst h; exact .nil
  | [], x :: xs, l, h => by
    simp only [cOps, Option.bind_eq_some_iff, Option.map_eq_some_iff] at h
    obtain ⟨s, hs, l', hl, rfl⟩ := h
    exact .cons _ _ _ _ (cOp_ok hs he) (cOps_ok he hl)
  | t :: ts, x :: xs, l, h => by
    simp only [cOps, Option.bind_eq_some_iff, Option.map_eq_some_iff] at h
    obtain ⟨s, hs, l', hl, rfl⟩ := h
    exact .cons _ _ _ _ (cOp_ok hs he) (cOps_ok he hl)
end
theorem both_ok {α β : Type} {a : Option α} {b : Option β} {p : α × β} (h : bothOf a b = some p) : a = some p.1 ∧ b = some p.2 := by
  simp only [bothOf, Option.bind_eq_some_iff, Option.map_eq_some_iff] at h
  obtain ⟨x, hx, y, hy, rfl⟩ := h
  exact ⟨hx, hy⟩

/-! ### the world -/
section
variable {C : Cx} {ρ ρ' : Nat → RV} {hp : List Ob} {w w' : World}
theorem cell_at {b : Nat} {cur : Array Value} {T : TypeId} {fr : Nat × Nat} (h : w.heap[b]? = some (.cells cur T fr)) (o : Nat) : w.cell? ⟨b, o, none⟩ = cur[o]? := by
  simp [World.cell?, h]
theorem old_block (w : World) (o : Obj) {b : Nat} (hb : b < w.heap.size) : (w.alloc o).heap[b]? = w.heap[b]? := by
  show (w.heap.push o)[b]? = _
  rw [Array.getElem?_push, if_neg (Nat.ne_of_lt hb)]
theorem new_block (w : World) (o : Obj) : (w.alloc o).heap[w.heap.size]? = some o := by
  show (w.heap.push o)[w.heap.size]? = _
  simp
theorem FR.of_block (h : FR C w) (hs : w.heap.size ≤ w'.heap.size) (hb : ∀ b, b < w.heap.size → ¬ C.own b → w'.heap[b]? = w.heap[b]?) (h1 : w'.os = w.os) (h2 : w'.tape = w.tape) (h3 : w'.output = w.output) : FR C w' :=
  ⟨Nat.le_trans h.size hs, fun b hlt hS => (hb b (Nat.lt_of_lt_of_le hlt h.size) (by rintro (h | h) <;> first | exact hS h | omega)).trans (h.block b hlt hS), h1.trans h.os, h2.trans h.tape, h3.trans h.output⟩
theorem FR.alloc (h : FR C w) (o : Obj) : FR C (w.alloc o) := h.of_block (by simp) (fun b hb _ => old_block w o hb) rfl rfl rfl
theorem FR.drew (h : FR C w) : FR C w.drew := ⟨h.size, h.block, h.os, h.tape, h.output⟩
theorem ObR.lt {n k : Nat} {o : Ob} (h : ObR C n ρ w k o) (ho : o ≠ .dead) {b : Nat} (hb : blkOf (ρ k).hdr = some b) : C.own b ∧ b < w.heap.size := by
  cases o with
  | dead => exact absurd rfl ho
  | cells g l =>
    obtain ⟨b', T, cur, e, hown, hh, _⟩ := h
    rw [e] at hb; simp [blkOf] at hb; subst hb
    exact ⟨hown, (Array.getElem?_eq_some_iff.1 hh).1⟩
  | rows g c =>
    obtain ⟨_, _, _, ⟨e, _⟩ | ⟨b', o, cap, cur, T, fr, e, hown, hh, _⟩⟩ := h
    · rw [e] at hb; simp [blkOf] at hb
    · rw [e] at hb; simp [blkOf] at hb; subst hb
      exact ⟨hown, (Array.getElem?_eq_some_iff.1 hh).1⟩
theorem ObR.world {n k : Nat} {o : Ob} (h : ObR C n ρ w k o) (hb : ∀ b, blkOf (ρ k).hdr = some b → w'.heap[b]? = w.heap[b]?) : ObR C n ρ w' k o := by
  cases o with
  | dead => trivial
  | cells g l =>
    obtain ⟨b, T, cur, e, hown, hh, rest⟩ := h
    exact ⟨b, T, cur, e, hown, (hb b (by rw [e]; rfl)).trans hh, rest⟩
  | rows g c =>
    obtain ⟨h1, h2, hg, h | ⟨b, o, cap, cur, T, fr, e, hown, hh, rest⟩⟩ := h
    · exact ⟨h1, h2, hg, .inl h⟩
    · exact ⟨h1, h2, hg, .inr ⟨b, o, cap, cur, T, fr, e, hown, (hb b (by rw [e]; rfl)).trans hh, rest⟩⟩
theorem ObR.ext {n n' k : Nat} {o : Ob} (hn : n ≤ n') (E : Ext n ρ ρ') (hk : k < n) (h : ObR C n ρ w k o) : ObR C n' ρ' w k o := by
  cases o with
  | dead => trivial
  | cells g l =>
    obtain ⟨b, T, cur, e, hown, hh, hv, hg⟩ := h
    exact ⟨b, T, cur, by rw [E k hk]; exact e, hown, hh, hv.ext hn E, by rw [E k hk]; exact hg⟩
  | rows g c =>
    have hE := E k hk
    obtain ⟨h1, h2, hg, h⟩ := h
    exact ⟨h1, by rw [hE]; exact h2, by rw [hE]; exact hg, by rw [hE]; exact h⟩
theorem HR.world (h : HR C ρ hp w) (hb : ∀ k b, alive hp k → blkOf (ρ k).hdr = some b → w'.heap[b]? = w.heap[b]?) : HR C ρ hp w' := by
  refine ⟨fun k o ho => ?_, h.ne⟩
  by_cases hd : o = .dead
  · subst hd; trivial
  · exact (h.ob k o ho).world fun b e => hb k b ⟨o, ho, hd⟩ e
theorem HR.lt (h : HR C ρ hp w) {k b : Nat} (ha : alive hp k) (hb : blkOf (ρ k).hdr = some b) : C.own b ∧ b < w.heap.size := by
  obtain ⟨o, ho, hd⟩ := ha
  exact (h.ob k o ho).lt hd hb
theorem alive.lt {k : Nat} (h : alive hp k) : k < hp.length := by
  obtain ⟨o, ho, _⟩ := h
  exact (List.getElem?_eq_some_iff.1 ho).1
theorem HR.alloc (h : HR C ρ hp w) (o : Obj) : HR C ρ hp (w.alloc o) := h.world fun k b ha hb => old_block w o (h.lt ha hb).2
theorem HR.drew (h : HR C ρ hp w) : HR C ρ hp w.drew := h.world fun _ _ _ _ => rfl
def up (ρ : Nat → RV) (n : Nat) (r : RV) : Nat → RV := fun k => if k = n then r else ρ k
theorem up_at (ρ : Nat → RV) (n : Nat) (r : RV) : up ρ n r n = r := by simp [up]
theorem up_ext (ρ : Nat → RV) (n : Nat) (r : RV) : Ext n ρ (up ρ n r) := fun k hk => by simp [up, Nat.ne_of_lt hk]
theorem alive_append {k : Nat} {o : Ob} (h : alive (hp ++ [o]) k) : alive hp k ∨ k = hp.length := by
  obtain ⟨x, hx, hd⟩ := h
  by_cases hk : k < hp.length
  · rw [List.getElem?_append_left hk] at hx; exact .inl ⟨x, hx, hd⟩
  · right
    have := (List.getElem?_eq_some_iff.1 hx).1
    simp at this; omega
/-- One object more. -/
theorem HR.push (h : HR C ρ hp w) {o : Ob} {r : RV} (ho : ObR C (hp.length + 1) (up ρ hp.length r) w hp.length o) (hne : ∀ k b, alive hp k → blkOf (ρ k).hdr = some b → blkOf r.hdr ≠ some b) : HR C (up ρ hp.length r) (hp ++ [o]) w := by
  have E := up_ext ρ hp.length r
  refine ⟨fun k x hx => ?_, fun j k b hjk hj hk hb => ?_⟩
  · simp only [List.length_append, List.length_cons, List.length_nil, Nat.zero_add]
    by_cases hk : k < hp.length
    · rw [List.getElem?_append_left hk] at hx
      exact (h.ob k x hx).ext (Nat.le_succ _) E hk
    · have hlt := (List.getElem?_eq_some_iff.1 hx).1
      simp at hlt
      obtain rfl : k = hp.length := by omega
      simp at hx; subst hx
      exact ho
  · rcases alive_append hj with hj | rfl
    · rw [E j hj.lt] at hb
      rcases alive_append hk with hk | rfl
      · rw [E k hk.lt]; exact h.ne j k b hjk hj hk hb
      · rw [up_at]; exact hne j b hj hb
    · rw [up_at] at hb
      rcases alive_append hk with hk | rfl
      · rw [E k hk.lt]
        intro e
        exact hne k b hk e hb
      · exact absurd rfl hjk
theorem alive_set {k j : Nat} {o : Ob} (h : alive (hp.set k o) j) (hne : j ≠ k) : alive hp j := by
  obtain ⟨x, hx, hd⟩ := h
  rw [List.getElem?_set_ne (Ne.symm hne)] at hx
  exact ⟨x, hx, hd⟩
/-- An object turned (or gone). -/
theorem HR.setOb (h : HR C ρ hp w) {k : Nat} {o : Ob} (ho : ObR C hp.length ρ w k o) (hk : o ≠ .dead → alive hp k) : HR C ρ (hp.set k o) w := by
  refine ⟨fun j x hx => ?_, fun i j b hij hi hj hb => ?_⟩
  · rw [List.length_set]
    by_cases e : j = k
    · subst e
      have hlt := (List.getElem?_eq_some_iff.1 hx).1
      rw [List.length_set] at hlt
      rw [List.getElem?_set_self hlt] at hx
      simp at hx; subst hx; exact ho
    · rw [List.getElem?_set_ne (Ne.symm e)] at hx
      exact h.ob j x hx
  · have al : ∀ m, alive (hp.set k o) m → alive hp m := by
      intro m hm
      by_cases e : m = k
      · subst e
        obtain ⟨x, hx, hd⟩ := hm
        have hlt := (List.getElem?_eq_some_iff.1 hx).1
        rw [List.length_set] at hlt
        rw [List.getElem?_set_self hlt] at hx
        simp at hx; subst hx
        exact hk hd
      · exact alive_set hm e
    exact h.ne i j b hij (al i hi) (al j hj) hb
end
end Go.X
