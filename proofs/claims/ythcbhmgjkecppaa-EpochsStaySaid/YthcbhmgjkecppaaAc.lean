import Derived.Test.YthcbhmgjkecppaaAb
set_option linter.unusedVariables false
namespace Go.X
section
variable {C : Cx} {ρ : Nat → RV} {hp : List Ob} {o : Oper} {a : Act} {w w' : World} {env : Env}
theorem rows_cap {k : Nat} {g : Option Nat} {c : RC} (hH : HR C ρ hp w) (hk : hp[k]? = some (.rows g c)) {a : Option Addr} {m cap : Nat} (h : (ρ k).hdr = .slice a m cap) : m = c.len ∧ m ≤ cap ∧ ((a = none ∧ m = 0 ∧ cap = 0) ∨ ∃ b q, a = some ⟨b, q, none⟩) := by
  obtain ⟨_, _, _, ⟨h3, h4⟩ | ⟨b, o, cap', cur, T, fr, h3, _, _, h5, _⟩⟩ := hH.ob k _ hk
  · rw [h] at h3; simp at h3; obtain ⟨rfl, rfl, rfl⟩ := h3
    exact ⟨h4.symm, Nat.le_refl _, .inl ⟨rfl, rfl, rfl⟩⟩
  · rw [h] at h3; simp at h3; obtain ⟨rfl, rfl, rfl⟩ := h3
    exact ⟨rfl, h5, .inr ⟨b, o, rfl⟩⟩
theorem slice_run {T e : TypeId} {size m cap : Nat} {ad : Option Addr} {lo hi : Option Operand} {lo' hi' : Option AO} {A B : Int} (hT : C.P.underlying T = some (.slice e)) (hn : sizeT C.P e = some size) (hlo : cOpt C.P lo = some lo') (hhi : cOpt C.P hi = some hi') (he : EnvR C hp.length ρ env a)
    (hA : optInt 0 (getSo env lo') = some A) (hB : optInt m (getSo env hi') = some B) (h0 : 0 ≤ A) (h1 : A ≤ B) (h2 : B ≤ cap) :
    (Instr.sliceAt T (.slice ad m cap) (lo.map a.eval) (hi.map a.eval) none).run C.P w = .ok (.slice (if cap = A.toNat then ad else ad.map (·.add (A.toNat * size))) (B.toNat - A.toNat) (cap - A.toNat)) w := by
  have hr := bounds_run (w := w) (isSlice := true) hlo hhi he hA hB h0 h1 h2
  simp [Instr.sliceAt, run_underlying hT, Instr.slice, hr, run_sizeT w hn]
theorem cutR_vr {s s' : SV} {v : Value} {A B : Int} {n size : Nat} (hH : HR C ρ hp w) (hv : VR C hp.length ρ s v) (hl : lenOf hp s = some n) (hs : sizeOf hp s = some size) (h0 : 0 ≤ A) (h1 : A ≤ B) (h2 : B ≤ n) (hc : cutSV A.toNat (B.toNat - A.toNat) s = some s') :
    ∃ ad cap, v = .slice ad n cap ∧ n ≤ cap ∧ VR C hp.length ρ s' (.slice (if cap = A.toNat then ad else ad.map (·.add (A.toNat * size))) (B.toNat - A.toNat) (cap - A.toNat)) := by
  unfold cutSV at hc
  split at hc <;> simp at hc <;> subst hc
  · rename_i k
    cases hv with
    | row _ ad m cap hk hh =>
      simp only [lenOf, lenAt] at hl
      split at hl <;> simp at hl
      rename_i c hcr
      subst hl
      obtain ⟨rfl, hcap, hnil⟩ := rows_cap hH hcr hh
      obtain ⟨_, hsz, _⟩ := rows_wf hH hcr
      simp only [sizeOf, hcr, sizeAt, Option.some.injEq] at hs
      refine ⟨ad, cap, rfl, hcap, ?_⟩
      rcases hnil with ⟨rfl, e1, rfl⟩ | ⟨b, q, rfl⟩
      · have e2 : A.toNat = 0 := by omega
        have e3 : B.toNat = 0 := by omega
        simp only [e2, e3]
        rw [e1] at hh
        exact .viewNil k hk hh
      · have := VR.view (C := C) (n := hp.length) (ρ := ρ) k A.toNat (B.toNat - A.toNat) b q c.len cap (if cap = A.toNat then q else q + A.toNat * size) hk hh (by omega) hcap
          (by intro hlt; rw [if_neg (by omega), hsz, hs]) (by rw [hsz, hs]; split <;> omega)
        split at this
        · rename_i e; rw [if_pos e]; exact this
        · rename_i e; rw [if_neg e]; simpa [Addr.add_lit] using this
  · rename_i k o n'
    simp [lenOf] at hl
    subst hl
    simp only [sizeOf, sizeAt] at hs
    split at hs <;> simp at hs
    rename_i c hcr
    obtain ⟨_, hsz, _⟩ := rows_wf hH hcr
    cases hv with
    | viewNil _ hk hh =>
      have e2 : A.toNat = 0 := by omega
      have e3 : B.toNat = 0 := by omega
      refine ⟨none, 0, rfl, Nat.le_refl _, ?_⟩
      simp only [e2, e3]
      exact .viewNil k hk hh
    | view _ _ _ b q len cap q' hk hh hle hlc hq hq' =>
      refine ⟨_, _, rfl, by omega, ?_⟩
      have := VR.view (C := C) (n := hp.length) (ρ := ρ) k (o + A.toNat) (B.toNat - A.toNat) b q len cap (if cap - o = A.toNat then q' else q' + A.toNat * size) hk hh (by omega) hlc
          (by intro hlt; rw [if_neg (by omega), hq (by omega), hsz, hs, Nat.add_mul]; omega) (by rw [hsz, hs, Nat.add_mul]; rw [hsz, hs] at hq'; split <;> omega)
      rw [Nat.sub_sub]
      split at this
      · rename_i e; rw [if_pos e]; exact this
      · rename_i e; rw [if_neg e]; simpa [Addr.add_lit] using this
  · rename_i k o n'
    simp [lenOf] at hl
    subst hl
    simp [sizeOf] at hs
    subst hs
    cases hv with
    | cview _ _ _ b q cap hk hh hq hcap =>
      refine ⟨_, _, rfl, hcap, ?_⟩
      have := VR.cview (C := C) (n := hp.length) (ρ := ρ) k (o + A.toNat) (B.toNat - A.toNat) b (if cap = A.toNat then q else q + A.toNat * 1) (cap - A.toNat) hk hh (by intro hlt; rw [if_neg (by omega), hq (by omega)]; omega) (by omega)
      split at this
      · rename_i e; rw [if_pos e]; exact this
      · rename_i e; rw [if_neg e]; simpa [Addr.add_lit] using this
  · rename_i t c
    simp [lenOf] at hl
    subst hl
    simp [sizeOf] at hs
    cases hv with
    | ro _ _ ad cap hr hcap =>
      refine ⟨_, _, rfl, hcap, ?_⟩
      obtain ⟨k1, k2, k3, k4⟩ := RC.cut_vals hr.1 (a := A.toNat) (m := B.toNat - A.toNat) (by omega)
      have := VR.ro (C := C) (n := hp.length) (ρ := ρ) t (c.cut A.toNat (B.toNat - A.toNat)) (if cap = A.toNat then ad else ad.map (·.add (A.toNat * size))) (cap - A.toNat) ⟨k3, fun hlt => ?_⟩ (by omega)
      · rw [k1] at this; exact this
      · rw [k1] at hlt
        obtain ⟨b, o, rfl, hown, ht, hcell⟩ := hr.2 (by omega)
        refine ⟨b, o + A.toNat * size, by rw [if_neg (by omega)]; simp [Addr.add_lit], hown, ht, fun j u hu => ?_⟩
        rw [k4, hs] at hu
        have := hcell _ _ (take_get hu)
        rwa [← Nat.add_assoc] at this
  · rename_i c
    simp [lenOf] at hl
    subst hl
    cases hv with
    | nils _ h hw =>
      have e2 : A.toNat = 0 := by omega
      have e3 : B.toNat = 0 := by omega
      refine ⟨none, 0, rfl, Nat.le_refl _, ?_⟩
      simp only [e2, e3]
      exact .nils c h hw
theorem g_cutR {T e t : TypeId} {X : Operand} {x : AO} {size : Nat} {lo hi : Option Operand} {lo' hi' : Option AO} {res : AV × List Ob} (ho : o.op = .slice T X lo hi none) (hT : C.P.underlying T = some (.slice e)) (hn : sizeT C.P e = some size) (hx : cOp C.P t X = some x) (hlo : cOpt C.P lo = some lo') (hhi : cOpt C.P hi = some hi')
    (he : EnvR C hp.length ρ env a) (hH : HR C ρ hp w) (hF : FR C w) (h : (if sizeOf hp (getS env x) = some size then oCutR hp (getSo env lo') (getSo env hi') (getS env x) (lenOf hp (getS env x)) else none) = some res) : Good C ρ hp o a w res := by
  have h1 := cOp_ok hx he
  obtain ⟨dst, op', type, pos, after, guard⟩ := o
  dsimp only at ho; subst ho
  split at h
  · rename_i hsz
    obtain ⟨_, h2⟩ := h1.sv_of (by intro e; rw [getS, e] at hsz; simp [sizeOf] at hsz)
    simp only [getS] at h hsz
    generalize (getO env x).sv = s at h hsz h2
    cases hl : lenOf hp s with
    | none => simp [hl, oCutR] at h
    | some n =>
      simp only [hl, oCutR, cutR2] at h
      split at h
      · rename_i A B hA hB
        split at h
        · rename_i hb
          cases hc : cutSV A.toNat (B.toNat - A.toNat) s with
          | none => simp [hc, put1] at h
          | some s' =>
            simp [hc, put1] at h; subst h
            obtain ⟨ad, cap, hv, hcap, hv'⟩ := cutR_vr hH h2 hl hsz hb.1 hb.2.1 hb.2.2 hc
            refine good_same (val_run _ ?_) (.one _ _ hv') hH hF
            rw [hv]
            exact slice_run hT hn hlo hhi he hA hB hb.1 hb.2.1 (by omega)
        · simp at h
      · simp at h
  · simp at h
theorem g_cutA {T e t : TypeId} {X : Operand} {x : AO} {m : Nat} {lo hi : Option Operand} {lo' hi' : Option AO} {res : AV × List Ob} (ho : o.op = .slice T X lo hi none) (hT : C.P.underlying T = some (.array m e)) (hn : sizeT C.P e = some 1) (hx : cOp C.P t X = some x) (hlo : cOpt C.P lo = some lo') (hhi : cOpt C.P hi = some hi')
    (he : EnvR C hp.length ρ env a) (hH : HR C ρ hp w) (hF : FR C w) (h : oCutA hp m (getSo env lo') (getSo env hi') (getO env x) = some res) : Good C ρ hp o a w res := by
  have h1 := cOp_ok hx he
  obtain ⟨dst, op', type, pos, after, guard⟩ := o
  dsimp only at ho; subst ho
  generalize getO env x = s at h h1
  generalize hv : a.eval X = v at h1
  unfold oCutA at h
  split at h
  · rename_i k o
    cases h1 with | one _ _ h1 => ?_
    unfold cutA2 at h
    split at h
    · rename_i A B hA hB
      split at h <;> simp at h
      rename_i hb
      subst h
      cases h1 with
      | ptr _ _ b hk hh =>
        have hr := bounds_run (w := w) (isSlice := false) hlo hhi he hA hB hb.1 hb.2.1 hb.2.2
        have := VR.cview (C := C) (n := hp.length) (ρ := ρ) k (o + A.toNat) (B.toNat - A.toNat) b (if m = A.toNat then o else o + A.toNat * 1) (m - A.toNat) hk hh (by intro hlt; rw [if_neg (by omega)]; omega) (by omega)
        refine good_same (val_run _ ?_) (.one _ _ this) hH hF
        by_cases em : m = A.toNat
        · rw [em] at hr
          simp [hv, Instr.sliceAt, run_underlying hT, Instr.sureAddr, hr, run_sizeT w hn, em]
        · simp [hv, Instr.sliceAt, run_underlying hT, Instr.sureAddr, hr, run_sizeT w hn, em, Addr.add_lit]
    · simp at h
  · simp at h
theorem inBounds_iff {i : Int} {n : Nat} : inBounds i n = true ↔ 0 ≤ i ∧ i < n := by simp [inBounds]
theorem g_iadrR {T e t t' : TypeId} {X I : Operand} {x i : AO} {size : Nat} {res : AV × List Ob} (ho : o.op = .indexAddr T X I) (hT : C.P.underlying T = some (.slice e)) (hn : sizeT C.P e = some size) (hx : cOp C.P t X = some x) (hi : cOp C.P t' I = some i)
    (he : EnvR C hp.length ρ env a) (hH : HR C ρ hp w) (hF : FR C w) (h : (if sizeOf hp (getS env x) = some size then oIadrR hp (getS env x) (lenOf hp (getS env x)) (getO env i) else none) = some res) : Good C ρ hp o a w res := by
  have h1 := cOp_ok hx he
  have h3 := cOp_ok hi he
  obtain ⟨dst, op', type, pos, after, guard⟩ := o
  dsimp only at ho; subst ho
  split at h
  · rename_i hsz
    obtain ⟨_, h2⟩ := h1.sv_of (by intro e; rw [getS, e] at hsz; simp [sizeOf] at hsz)
    simp only [getS] at h hsz
    generalize (getO env x).sv = s at h hsz h2
    generalize getO env i = si at h h3
    generalize hvi : a.eval I = vi at h3
    generalize hv : a.eval X = v at h2
    unfold oIadrR at h
    split at h
    · rename_i n kk z hl
      split at h
      · rename_i hb
        rw [inBounds_iff] at hb
        cases h3 with | one _ _ h3 => ?_
        cases h3
        have key : ∀ ad m cap, v = .slice (some ad) m cap → z < m → (Instr.indexAt T v (.int kk z)).run C.P w = .ok (.pointer (some (ad.add (z.toNat * size)))) w := by
          intro ad m cap e hlt
          rw [e]
          simp [Instr.indexAt, asIntOf, run_underlying hT, hb.1, hlt, run_sizeT w hn]
        cases hc : elemPtr z.toNat s with
        | none => simp [hc, put1] at h
        | some s' =>
          simp [hc, put1] at h; subst h
          suffices hs : ∃ ad m cap, v = .slice (some ad) m cap ∧ z < m ∧ VR C hp.length ρ s' (.pointer (some (ad.add (z.toNat * size)))) by
            obtain ⟨ad, m, cap, e1, e2, e3⟩ := hs
            refine good_same (val_run _ ?_) (.one _ _ e3) hH hF
            rw [hv, hvi]
            exact key ad m cap e1 e2
          unfold elemPtr at hc
          split at hc <;> simp at hc <;> subst hc
          · rename_i k
            simp only [lenOf, lenAt] at hl
            split at hl <;> simp at hl
            rename_i c hcr
            subst hl
            obtain ⟨_, hsz', _⟩ := rows_wf hH hcr
            simp only [sizeOf, hcr, sizeAt, Option.some.injEq] at hsz
            cases h2 with
            | row _ ad m cap hk hh =>
              obtain ⟨rfl, hcap, ⟨_, e, _⟩ | ⟨b, q, rfl⟩⟩ := rows_cap hH hcr hh
              · omega
              · refine ⟨_, _, _, rfl, hb.2, ?_⟩
                have := VR.eptr (C := C) (n := hp.length) (ρ := ρ) k z.toNat 0 b q c.len cap hk hh (by omega)
                rw [hsz', hsz, Nat.add_zero] at this
                simpa [Addr.add_lit] using this
          · rename_i k o n'
            simp [lenOf] at hl
            subst hl
            simp only [sizeOf, sizeAt] at hsz
            split at hsz <;> simp at hsz
            rename_i c hcr
            obtain ⟨_, hsz', _⟩ := rows_wf hH hcr
            cases h2 with
            | viewNil _ hk hh => omega
            | view _ _ _ b q len cap q' hk hh hle hlc hq hq' =>
              refine ⟨_, _, _, rfl, hb.2, ?_⟩
              have := VR.eptr (C := C) (n := hp.length) (ρ := ρ) k (o + z.toNat) 0 b q len cap hk hh (by omega)
              have hq1 := hq (by omega)
              rw [hsz', hsz, Nat.add_zero, Nat.add_mul, ← Nat.add_assoc] at this
              rw [hsz', hsz] at hq1
              rw [Addr.add_lit, hq1]
              exact this
          · rename_i k o n'
            simp [lenOf] at hl
            subst hl
            simp [sizeOf] at hsz
            subst hsz
            cases h2 with
            | cview _ _ _ b q cap hk hh hq hcap =>
              refine ⟨_, _, _, rfl, hb.2, ?_⟩
              rw [Addr.add_lit, hq (by omega), Nat.mul_one]
              exact .ptr k _ b hk hh
          · rename_i t c
            simp [lenOf] at hl
            subst hl
            simp [sizeOf] at hsz
            cases h2 with
            | ro _ _ ad cap hr hcap =>
              obtain ⟨b, q, rfl, _⟩ := hr.2 (by omega)
              refine ⟨_, _, _, rfl, hb.2, ?_⟩
              have := VR.rptr (C := C) (n := hp.length) (ρ := ρ) t c z.toNat 0 b q hr (by omega)
              rw [hsz, Nat.add_zero] at this
              rw [Addr.add_lit]; exact this
      · simp at h
    · simp at h
  · simp at h
theorem g_iadrA {T e t t' : TypeId} {X I : Operand} {x i : AO} {len size : Nat} {res : AV × List Ob} (ho : o.op = .indexAddr T X I) (hT : C.P.underlying T = some (.array len e)) (hn : sizeT C.P e = some size) (hx : cOp C.P t X = some x) (hi : cOp C.P t' I = some i)
    (he : EnvR C hp.length ρ env a) (hH : HR C ρ hp w) (hF : FR C w) (h : oIadrA hp len size (getO env x) (getO env i) = some res) : Good C ρ hp o a w res := by
  have h1 := cOp_ok hx he
  have h3 := cOp_ok hi he
  obtain ⟨dst, op', type, pos, after, guard⟩ := o
  dsimp only at ho; subst ho
  generalize getO env x = s at h h1
  generalize getO env i = si at h h3
  generalize hvi : a.eval I = vi at h3
  generalize hv : a.eval X = v at h1
  unfold oIadrA at h
  split at h
  · rename_i k o kk z
    split at h <;> simp at h
    rename_i hb
    rw [inBounds_iff] at hb
    subst h
    cases h1 with | one _ _ h1 => ?_
    cases h3 with | one _ _ h3 => ?_
    cases h3
    cases h1 with
    | ptr _ _ b hk hh =>
      refine good_same (val_run _ ?_) (.one _ _ (.ptr k (o + z.toNat * size) b hk hh)) hH hF
      rw [hv, hvi]
      simp [Instr.indexAt, asIntOf, run_underlying hT, Instr.sureAddr, hb.1, hb.2, run_sizeT w hn, Addr.add_lit]
  · simp at h
theorem g_idxA {T e t t' : TypeId} {X I : Operand} {x i : AO} {len size : Nat} {b : Bool} {res : AV × List Ob} (ho : o.op = .index T X I) (hT : C.P.underlying T = some (.array len e)) (hb : isAggT C.P e = some b) (hn : sizeT C.P e = some size) (hx : cOp C.P t X = some x) (hi : cOp C.P t' I = some i)
    (he : EnvR C hp.length ρ env a) (hH : HR C ρ hp w) (hF : FR C w) (h : oIdxA hp len size (if b = true then some size else none) (getO env x) (getO env i) = some res) : Good C ρ hp o a w res := by
  have h1 := cOp_ok hx he
  have h3 := cOp_ok hi he
  obtain ⟨dst, op', type, pos, after, guard⟩ := o
  dsimp only at ho; subst ho
  generalize getO env x = s at h h1
  generalize getO env i = si at h h3
  generalize hvi : a.eval I = vi at h3
  generalize hv : a.eval X = v at h1
  unfold oIdxA at h
  split at h
  · rename_i l kk z
    split at h
    · rename_i hbd
      rw [inBounds_iff] at hbd
      cases hta : takeAV l (z.toNat * size) (if b = true then some size else none) with
      | none => rw [hta] at h; simp [putA] at h
      | some s' =>
        rw [hta] at h
        simp [putA] at h; subst h
        cases h3 with | one _ _ h3 => ?_
        cases h3
        cases h1 with
        | agg _ vs hl =>
          obtain ⟨u, hr, hu⟩ := part_ok (w := w) hl hb hn hta
          refine good_same (v := u) (val_run _ ?_) hu hH hF
          rw [hv, hvi]
          simp [Instr.index, asIntOf, run_underlying hT, hbd.1, hbd.2, run_sizeT w hn, hr]
    · simp at h
  · simp at h
theorem g_idxS {T t t' : TypeId} {X I : Operand} {x i : AO} {res : AV × List Ob} (ho : o.op = .index T X I) (hT : C.P.underlying T = some .string) (hx : cOp C.P t X = some x) (hi : cOp C.P t' I = some i)
    (he : EnvR C hp.length ρ env a) (hH : HR C ρ hp w) (hF : FR C w) (h : oIdxS hp (getO env x) (getO env i) = some res) : Good C ρ hp o a w res := by
  have h1 := cOp_ok hx he
  have h3 := cOp_ok hi he
  obtain ⟨dst, op', type, pos, after, guard⟩ := o
  dsimp only at ho; subst ho
  generalize getO env x = s at h h1
  generalize getO env i = si at h h3
  generalize hvi : a.eval I = vi at h3
  generalize hv : a.eval X = v at h1
  unfold oIdxS at h
  split at h
  · rename_i s kk z
    split at h <;> simp at h
    rename_i hb
    rw [inBounds_iff] at hb
    subst h
    cases h1 with | one _ _ h1 => ?_
    cases h3 with | one _ _ h3 => ?_
    cases h1; cases h3
    refine good_same (v := .int .u8 ((toBytes s)[z.toNat]?.getD 0)) (val_run _ ?_) (.one _ _ (.int _ _)) hH hF
    rw [hv, hvi]
    have hlt : z.toNat < s.size := by omega
    have hlt' : z.toNat < s.data.size := hlt
    have e1 : s[z.toNat]? = some (s.data[z.toNat]) := by
      rw [getElem?_pos s z.toNat hlt]; rfl
    have e2 : (toBytes s)[z.toNat]? = some ((s.data[z.toNat].toNat : Nat) : Int) := by
      simp only [toBytes, List.getElem?_map, Option.map_eq_some_iff, Array.getElem?_toList]
      exact ⟨_, Array.getElem?_eq_getElem hlt', rfl⟩
    simp [Instr.index, asIntOf, run_underlying hT, hb.1, e1, e2]
  · simp at h
theorem getSL_vrl {xs : List Operand} {ts : List TypeId} {l : List AO} (he : EnvR C hp.length ρ env a) (h : cOps C.P ts xs = some l) : VRL C hp.length ρ (getSL env l) (xs.map a.eval) := by
  induction xs generalizing ts l with
  | nil => cases ts <;> simp [cOps] at h <;> subst h <;> exact .nil
  | cons x xs ih =>
    have key : ∀ {t : TypeId} {y : AO}, cOp C.P t x = some y → VR C hp.length ρ (getS env y) (a.eval x) := by
      intro t y hy
      have h1 := cOp_ok hy he
      unfold getS
      cases e : (getO env y).sv <;> first | exact .undef _ | exact e ▸ (h1.sv_of (by rw [e]; simp)).2
    cases ts with
    | nil =>
      simp only [cOps, Option.bind_eq_some_iff, Option.map_eq_some_iff] at h
      obtain ⟨s, hs, l', hl, rfl⟩ := h
      exact .cons _ _ _ _ (key hs) (ih hl)
    | cons t ts =>
      simp only [cOps, Option.bind_eq_some_iff, Option.map_eq_some_iff] at h
      obtain ⟨s, hs, l', hl, rfl⟩ := h
      exact .cons _ _ _ _ (key hs) (ih hl)
theorem g_mkfn {f : Nat} {first caps : Array Operand} {l : List AO} (ho : o.op = .makeFunc (.func f) first caps) (h0 : first.size = 0) (hl : cOps C.P [] caps.toList = some l) (he : EnvR C hp.length ρ env a) (hH : HR C ρ hp w) (hF : FR C w) :
    Good C ρ hp o a w (.one (.fn f (getSL env l)), hp) := by
  have h1 := getSL_vrl he hl
  obtain ⟨dst, op', type, pos, after, guard⟩ := o
  dsimp only at ho; subst ho
  obtain rfl : first = #[] := Array.eq_empty_of_size_eq_zero h0
  refine good_same (v := .func (.func f) #[] (caps.map a.eval)) ?_ ?_ hH hF
  · simp [execOp, Instr.makeFunc]
  · have := VR.fn f _ _ h1
    have e : (caps.toList.map a.eval).toArray = caps.map a.eval := by rw [← Array.toList_map, Array.toArray_toList]
    rw [e] at this
    exact .one _ _ this
end
end Go.X
