import Derived.Test.YthcbhmgjkecppaaAj
set_option linter.unusedVariables false
namespace Go.X
/-! ### what a call is handed -/
def tagBlk (C : Cx) (ρ : Nat → RV) (n0 : Nat) : Option SV → Nat
  | some (.ro t c) => if 0 < c.len then C.τ t else n0
  | some (.rptr t _ _ _) => C.τ t
  | some (.row k) => (blkOf (ρ k).hdr).getD n0
  | some (.view k _ _) => (blkOf (ρ k).hdr).getD n0
  | some (.cview k _ _) => (blkOf (ρ k).hdr).getD n0
  | _ => n0
def rvAt (ρ : Nat → RV) : Option Nat → RV
  | some k => ρ k
  | none => ⟨.nilFunc, 0⟩
def Cx.callee (C : Cx) (ρ : Nat → RV) (ks : List Nat) (w : World) (cs : List SV) (D : List Deferred) : Cx :=
  { P := C.P, w0 := w, S := fun b => ∃ k ∈ ks, blkOf (ρ k).hdr = some b, τ := fun t => tagBlk C ρ w.heap.size cs[t]?, r0 := fun i => rvAt ρ ks[i]?, df := D }
section
variable {C C' : Cx} {ρ ρ' : Nat → RV} {hp : List Ob} {w w' : World} {ks : List Nat} {cs : List SV} {D : List Deferred}
mutual
theorem VR.strip {n : Nat} : ∀ {s : SV} {v : Value}, VR C n ρ s v → VR C' n ρ s.strip v
  | _, _, .undef v => by simp only [SV.strip]; exact .undef v
  | _, _, .int k x => by simp only [SV.strip]; exact .int k x
  | _, _, .bool b => by simp only [SV.strip]; exact .bool b
  | _, _, .str s => by simp only [SV.strip]; exact .str s
  | _, _, .nilp => by simp only [SV.strip]; exact .nilp
  | _, _, .nilf => by simp only [SV.strip]; exact .nilf
  | _, _, .nils c h hw => by simp only [SV.strip]; exact .nils c h hw
  | _, _, .ro t c a cap h hc => by simp only [SV.strip]; exact .undef _
  | _, _, .rptr t c i o b q h hi => by simp only [SV.strip]; exact .undef _
  | _, _, .fn g caps cs h => by simp only [SV.strip]; exact .fn g _ cs (VRL.strip h)
  | _, _, .ptr k o b hk h => by simp only [SV.strip]; exact .ptr k o b hk h
  | _, _, .eptr k i o b q m cap hk h hi => by simp only [SV.strip]; exact .eptr k i o b q m cap hk h hi
  | _, _, .row k a m cap hk h => by simp only [SV.strip]; exact .row k a m cap hk h
  | _, _, .viewNil k hk h => by simp only [SV.strip]; exact .viewNil k hk h
  | _, _, .view k o m b q len cap q' hk h hl hc hq hq' => by simp only [SV.strip]; exact .view k o m b q len cap q' hk h hl hc hq hq'
  | _, _, .cview k o m b q cap hk h hq hc => by simp only [SV.strip]; exact .cview k o m b q cap hk h hq hc
theorem VRL.strip {n : Nat} : ∀ {l : List SV} {vs : List Value}, VRL C n ρ l vs → VRL C' n ρ (stripL l) vs
  | _, _, .nil => by simp only [stripL]; exact .nil
  | _, _, .cons s v l vs h hl => by simp only [stripL]; exact .cons _ v _ vs (VR.strip h) (VRL.strip hl)
end
theorem view_blk {k : Nat} {s : SV} {v : Value} {n : Nat} (hs : s = .row k ∨ ∃ o m, s = .view k o m) (h : VR C n ρ s v) : blkOf v = blkOf (ρ k).hdr := by
  rcases hs with rfl | ⟨o, m, rfl⟩
  · cases h with | row _ a m cap hk hh => rw [hh]
  · cases h with
    | viewNil _ hk hh => rw [hh]
    | view _ _ _ b q len cap q' hk hh hl hc hq hq' => rw [hh]; rfl
/-- A slice of an own row, as one that is only read. -/
theorem ro_of {k t : Nat} {s : SV} {v : Value} {c : RC} {n' : Nat} {ρ'' : Nat → RV} (hH : HR C ρ hp w) (hF : FR C w) (hs : s = .row k ∨ ∃ o m, s = .view k o m) (hc : content hp s = some c) (hv : VR C hp.length ρ s v)
    (hk : k ∉ ks) (hks : ∀ j ∈ ks, alive hp j) (ht : cs[t]? = some s) : VR (C.callee ρ ks w cs D) n' ρ'' (.ro t c) v := by
  obtain ⟨hw, ad, cap, hve, hcell⟩ := content_ok' hH hF hv hc
  have hal : alive hp k := by
    rcases hs with rfl | ⟨o, m, rfl⟩
    · simp only [content, rowAt] at hc; split at hc <;> simp at hc; exact ⟨_, ‹_›, by simp⟩
    · simp only [content, cutAt] at hc; split at hc <;> simp at hc; exact ⟨_, ‹_›, by simp⟩
  have hcap : c.len ≤ cap := by
    rcases hs with rfl | ⟨o, m, rfl⟩
    · simp only [content, rowAt] at hc
      split at hc <;> simp at hc
      rename_i d hd
      subst hc
      cases hv with
      | row _ a m cap hk hh =>
        simp at hve
        obtain ⟨_, _, _, ⟨e, h0⟩ | ⟨b, o, cap', cur, T, fr, e, _, _, hle, _⟩⟩ := hH.ob k _ hd
        · omega
        · rw [hh] at e; simp at e; omega
    · cases hv with
      | viewNil _ hk hh => simp at hve; omega
      | view _ _ _ b q len cap q' hk hh hl hc' hq hq' => simp at hve; omega
  subst hve
  refine .ro t c ad cap ⟨hw, fun hpos => ?_⟩ hcap
  obtain ⟨b, q, hadd, hcell2⟩ := hcell hpos
  subst hadd
  have hb : some b = blkOf (ρ k).hdr := view_blk hs hv
  refine ⟨b, q, rfl, ?_, ?_, hcell2⟩
  · rintro (⟨j, hj, e⟩ | h)
    · exact hH.ne k j b (fun e => hk (e ▸ hj)) hal (hks j hj) hb.symm e
    · exact absurd (hH.lt hal hb.symm).2 (Nat.not_lt.2 h)
  · show tagBlk C ρ w.heap.size cs[t]? = b
    rw [ht]
    rcases hs with rfl | ⟨o, m, rfl⟩ <;> simp [tagBlk, ← hb]
theorem intsOf_get {k : IntKind} : ∀ {l : List SV} {xs : List Int}, intsOf k l = some xs → xs.length = l.length ∧ ∀ (j : Nat) (x : Int), xs[j]? = some x → l[j]? = some (SV.int k x)
  | [], xs, h => by simp [intsOf] at h; subst h; simp
  | v :: l, xs, h => by
    unfold intsOf at h
    split at h
    · rename_i e; exact absurd e (by simp)
    · rename_i j x l' e
      simp at e; obtain ⟨rfl, rfl⟩ := e
      split at h
      · rename_i e; subst e
        simp only [Option.map_eq_some_iff] at h
        obtain ⟨ys, hy, rfl⟩ := h
        obtain ⟨h1, h2⟩ := intsOf_get hy
        refine ⟨by simp [h1], fun j x hj => ?_⟩
        cases j with
        | zero => simp at hj; subst hj; rfl
        | succ j => simpa using h2 j x (by simpa using hj)
      · simp at h
    · simp at h
theorem rcCells_get {l : List SV} {c : RC} (h : rcCells l = some c) : c.wf ∧ c.size = 1 ∧ c.len = l.length ∧ ∀ (j : Nat) (u : Value), c.vals[j]? = some u → ∃ k x, l[j]? = some (SV.int k x) ∧ u = .int k x := by
  unfold rcCells at h
  split at h
  · rename_i k x l'
    simp only [Option.map_eq_some_iff] at h
    obtain ⟨ys, hy, rfl⟩ := h
    obtain ⟨h1, h2⟩ := intsOf_get hy
    refine ⟨trivial, rfl, by simp [RC.len, h1], fun j u hu => ?_⟩
    simp only [RC.vals, List.getElem?_map, Option.map_eq_some_iff] at hu
    obtain ⟨z, hz, rfl⟩ := hu
    cases j with
    | zero => simp at hz; subst hz; exact ⟨k, x, rfl, rfl⟩
    | succ j => exact ⟨k, z, by simpa using h2 j z (by simpa using hz), rfl⟩
  · simp at h
/-- A slice of an array, as one that is only read. -/
theorem ro_ofC {k o m t : Nat} {v : Value} {c : RC} {n' : Nat} {ρ'' : Nat → RV} (hH : HR C ρ hp w) (hc : cviewAt o m hp[k]? = some c) (hv : VR C hp.length ρ (.cview k o m) v)
    (hk : k ∉ ks) (hks : ∀ j ∈ ks, alive hp j) (ht : cs[t]? = some (.cview k o m)) : VR (C.callee ρ ks w cs D) n' ρ'' (.ro t c) v := by
  unfold cviewAt at hc
  split at hc
  · rename_i g l e
    split at hc
    · rename_i hle
      obtain ⟨h1, h2, h3, h4⟩ := rcCells_get hc
      have hal : alive hp k := ⟨_, e, by simp⟩
      have hlen : c.len = m := by rw [h3]; simp; omega
      cases hv with
      | cview _ _ _ b q cap hk' hh hq hcap =>
        rw [← hlen]
        refine .ro t c _ cap ⟨h1, fun hpos => ⟨b, q, rfl, ?_, ?_, fun j u hu => ?_⟩⟩ (by omega)
        · rintro (⟨j, hj, e'⟩ | h)
          · exact hH.ne k j b (fun e => hk (e ▸ hj)) hal (hks j hj) (by rw [hh]; rfl) e'
          · exact absurd (hH.lt hal (b := b) (by rw [hh]; rfl)).2 (Nat.not_lt.2 h)
        · show tagBlk C ρ w.heap.size cs[t]? = b
          rw [ht]
          simp [tagBlk, hh, blkOf]
        · obtain ⟨b', T, cur, e1, hown, hb, hvl, _⟩ := hH.ob k _ e
          rw [hh] at e1; simp at e1; subst e1
          show w.cell? ⟨b, q + j, none⟩ = some u
          rw [cell_at hb, hq (by omega)]
          obtain ⟨kk, x, hx, rfl⟩ := h4 j u hu
          have hj : j < m := by have := (List.getElem?_eq_some_iff.1 hx).1; simp at this; omega
          rw [List.getElem?_take_of_lt hj, List.getElem?_drop] at hx
          obtain ⟨v, hv1, hv2⟩ := hvl.get hx
          rw [Array.getElem?_toList] at hv1
          cases hv2
          exact hv1
    · simp at hc
  · simp at hc
theorem reads_lend {t u : Nat} {c : RC} {a : Option Addr} {s : SV} (hF : FR C w) (hH : HR C ρ hp w) (hks : ∀ j ∈ ks, alive hp j) (h : C.reads u c a) (ht : cs[t]? = some s) (hs : s = .ro u c ∨ ∃ i o, s = .rptr u c i o) : (C.callee ρ ks w cs D).reads t c a := by
  refine ⟨h.1, fun hpos => ?_⟩
  obtain ⟨b, o, rfl, hown, hτ, hcell⟩ := h.2 hpos
  refine ⟨b, o, rfl, ?_, ?_, fun j v hv => reads_cell hF h hv⟩
  · rintro (⟨j, hj, e⟩ | h')
    · exact hown (hH.lt (hks j hj) e).1
    · exact hown (.inr (Nat.le_trans hF.size h'))
  · show tagBlk C ρ w.heap.size cs[t]? = b
    rw [ht]
    rcases hs with rfl | ⟨i, o', rfl⟩
    · simp [tagBlk, hpos, hτ]
    · simp [tagBlk, hτ]
theorem roOf_ok {n' : Nat} {ρ'' : Nat → RV} {t : Nat} {v : Value} {oc : Option RC} (h : ∀ c, oc = some c → VR C' n' ρ'' (.ro t c) v) : VR C' n' ρ'' (roOf t .undef oc) v := by
  cases oc with
  | none => exact .undef _
  | some c => exact h c rfl
/-- An argument's cell, as it is handed over. -/
theorem lend_ok {t : Nat} {s : SV} {v : Value} (hF : FR C w) (hH : HR C ρ hp w) (hf : Fine hp ks) (ht : cs[t]? = some s) (h : VR C hp.length ρ s v) : VR (C.callee ρ ks w cs D) hp.length ρ (s.lend hp ks t) v := by
  cases h with
  | undef v => simp only [SV.lend, SV.strip]; exact .undef v
  | int k x => simp only [SV.lend, SV.strip]; exact .int k x
  | bool b => simp only [SV.lend, SV.strip]; exact .bool b
  | str s => simp only [SV.lend, SV.strip]; exact .str s
  | nilp => simp only [SV.lend, SV.strip]; exact .nilp
  | nilf => simp only [SV.lend, SV.strip]; exact .nilf
  | nils c h hw => simp only [SV.lend, SV.strip]; exact .nils c h hw
  | ro u c a cap h hc => simp only [SV.lend]; exact .ro t c a cap (reads_lend hF hH hf.alive h ht (.inl rfl)) hc
  | rptr u c i o b q h hi => simp only [SV.lend]; exact .rptr t c i o b q (reads_lend hF hH hf.alive h ht (.inr ⟨_, _, rfl⟩)) hi
  | fn g caps cs h => simp only [SV.lend, SV.strip]; exact .fn g _ cs (VRL.strip h)
  | ptr k o b hk h => simp only [SV.lend, SV.strip]; exact .ptr k o b hk h
  | eptr k i o b q m cap hk h hi =>
    simp only [SV.lend]; split
    · exact .eptr k i o b q m cap hk h hi
    · exact .undef _
  | row k a m cap hk h =>
    simp only [SV.lend]; split
    · exact .row k a m cap hk h
    · rename_i hks
      exact roOf_ok fun c hc => ro_of hH hF (.inl rfl) (by simpa [content] using hc) (.row k a m cap hk h) (by simpa using hks) hf.alive ht
  | viewNil k hk h =>
    simp only [SV.lend]; split
    · exact .viewNil k hk h
    · rename_i hks
      exact roOf_ok fun c hc => ro_of hH hF (.inr ⟨_, _, rfl⟩) (by simpa [content] using hc) (.viewNil k hk h) (by simpa using hks) hf.alive ht
  | view k o m b q len cap q' hk h hl hc hq hq' =>
    simp only [SV.lend]; split
    · exact .view k o m b q len cap q' hk h hl hc hq hq'
    · rename_i hks
      exact roOf_ok fun c hc' => ro_of hH hF (.inr ⟨_, _, rfl⟩) (by simpa [content] using hc') (.view k o m b q len cap q' hk h hl hc hq hq') (by simpa using hks) hf.alive ht
  | cview k o m b q cap hk h hq hc =>
    simp only [SV.lend]; split
    · exact .cview k o m b q cap hk h hq hc
    · rename_i hks
      exact roOf_ok fun c hc' => ro_ofC hH hc' (.cview k o m b q cap hk h hq hc) (by simpa using hks) hf.alive ht
theorem lendL_ok (hF : FR C w) (hH : HR C ρ hp w) (hf : Fine hp ks) : ∀ {l : List SV} {vs : List Value} {t : Nat}, VRL C hp.length ρ l vs → (∀ i s, l[i]? = some s → cs[t + i]? = some s) → VRL (C.callee ρ ks w cs D) hp.length ρ (lendL hp ks t l) vs
  | _, _, t, .nil, ht => by simp only [lendL]; exact .nil
  | _, _, t, .cons s v l vs h hl, ht => by
    simp only [lendL]
    refine .cons _ _ _ _ (lend_ok hF hH hf (ht 0 s rfl) h) (lendL_ok hF hH hf hl (fun i s' hi => ?_))
    have := ht (i + 1) s' (by simpa using hi)
    rwa [show t + 1 + i = t + (i + 1) from by omega]
theorem lendArgs_ok (hF : FR C w) (hH : HR C ρ hp w) (hf : Fine hp ks) : ∀ {l : List AV} {vs : List Value} {t : Nat}, AVRL C hp.length ρ l vs → (∀ i s, (argCells l)[i]? = some s → cs[t + i]? = some s) →
    AVRL (C.callee ρ ks w cs D) ks.length (rho ρ ks) (lendArgs hp ks t l) vs
  | _, _, t, .nil, ht => by simp only [lendArgs]; exact .nil
  | _, _, t, .cons s v l vs h hl, ht => by
    simp only [lendArgs]
    refine .cons _ _ _ _ (AVR.ren (turn_pos (n := hp.length)) ?_) (lendArgs_ok hF hH hf hl (fun i s' hi => ?_))
    · have ht' : ∀ i s', s.cells[i]? = some s' → cs[t + i]? = some s' := fun i s' hi => ht i s' (by
        have := (List.getElem?_eq_some_iff.1 hi).1
        simp only [argCells]; rw [List.getElem?_append_left this]; exact hi)
      cases h with
      | one s v h => exact .one _ _ (lend_ok hF hH hf (ht' 0 s rfl) h)
      | agg l vs h => exact .agg _ _ (lendL_ok hF hH hf h ht')
      | tup l vs h => exact .one _ _ (.undef _)
    · have := ht (s.cells.length + i) s' (by simp only [argCells]; rw [List.getElem?_append_right (by omega)]; simpa using hi)
      rwa [show t + s.cells.length + i = t + (s.cells.length + i) from by omega]
theorem tagAll_get {m : Bool} : ∀ {l : List Ob} {i j : Nat} {o : Ob}, (tagAll m i l)[j]? = some o → ∃ o', l[j]? = some o' ∧ o = (o'.tag m (i + j)).strip
  | [], i, j, o, h => by simp [tagAll] at h
  | x :: l, i, 0, o, h => by simp [tagAll] at h; exact ⟨x, rfl, by simpa using h.symm⟩
  | x :: l, i, j + 1, o, h => by
    obtain ⟨o', h1, h2⟩ := tagAll_get (l := l) (i := i + 1) (j := j) (o := o) (by simpa [tagAll] using h)
    exact ⟨o', by simpa using h1, by rw [h2]; congr 2; omega⟩
theorem tagAll_length {m : Bool} : ∀ {l : List Ob} {i : Nat}, (tagAll m i l).length = l.length
  | [], i => rfl
  | x :: l, i => by simp [tagAll, tagAll_length]
theorem alive_tag {m : Bool} {l : List Ob} {i k : Nat} (h : alive (tagAll m i l) k) : alive l k := by
  obtain ⟨o, ho, hd⟩ := h
  obtain ⟨o', h1, rfl⟩ := tagAll_get ho
  exact ⟨o', h1, by rintro rfl; exact hd rfl⟩
/-- The objects that are handed over. -/
theorem handed_ok {m : Bool} (hF : FR C w) (hH : HR C ρ hp w) (hf : Fine hp ks) : HR (C.callee ρ ks w cs D) (rho ρ ks) (tagAll m 0 (pick hp (posF ks) ks)) w := by
  have h := hH.pick hf
  refine ⟨fun k o ho => ?_, fun i j b hij hi hj hb => h.ne i j b hij (alive_tag hi) (alive_tag hj) hb⟩
  rw [tagAll_length, pick_length]
  obtain ⟨o', h1, rfl⟩ := tagAll_get ho
  have h2 := h.ob k o' h1
  obtain ⟨kk, hkk, _⟩ := pick_get h1
  have hρ : rho ρ ks k = ρ kk := by simp [rho, List.getD, hkk]
  rw [pick_length] at h2
  cases o' with
  | dead => trivial
  | cells g l =>
    obtain ⟨b, T, cur, e, hown, hh, hv, hg⟩ := h2
    refine ⟨b, T, cur, e, .inl ⟨kk, List.mem_of_getElem? hkk, by rw [← hρ, e]; rfl⟩, hh, VRL.strip hv, fun i hi => ?_⟩
    simp at hi; subst hi
    show (rvAt ρ ks[k]?).hdr = _
    rw [hkk, hρ]; rfl
  | rows g c =>
    have hg : ∀ i, (if m = true then some (0 + k) else none) = some i → (C.callee ρ ks w cs D).r0 i = rho ρ ks k := by
      intro i hi
      split at hi <;> simp at hi
      subst hi
      show rvAt ρ ks[k]? = _
      rw [hkk, hρ]; rfl
    obtain ⟨h1, h2, _, h | ⟨b, o, cap, cur, T, fr, e, hown, rest⟩⟩ := h2
    · exact ⟨h1, h2, hg, .inl h⟩
    · exact ⟨h1, h2, hg, .inr ⟨b, o, cap, cur, T, fr, e, .inl ⟨kk, List.mem_of_getElem? hkk, by rw [← hρ, e]; rfl⟩, rest⟩⟩
end
end Go.X
