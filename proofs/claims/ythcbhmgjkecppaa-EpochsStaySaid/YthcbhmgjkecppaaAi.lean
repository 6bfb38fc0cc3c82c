import Derived.Test.YthcbhmgjkecppaaAh
set_option linter.unusedVariables false
namespace Go.X
section
variable {C : Cx} {ρ : Nat → RV} {hp : List Ob} {o : Oper} {a : Act} {w w' : World} {env : Env}
theorem fieldsAt_ok {P : Program} {fs : Array Field} {pl : List (Nat × Nat)} : ∀ {ps : List (Nat × Operand)} {qs : List ((Nat × Nat) × AO)}, fieldsAt P fs pl ps = some qs →
    PR (fun (p : Nat × Operand) (q : (Nat × Nat) × AO) => pl.toArray[p.1]? = some q.1 ∧ ∃ t', cOp P t' p.2 = some q.2) ps qs
  | [], qs, h => by simp [fieldsAt] at h; subst h; exact .nil
  | (i, x) :: ps, qs, h => by
    simp only [fieldsAt, Option.bind_eq_some_iff, Option.map_eq_some_iff] at h
    obtain ⟨f, _, p, hp, b, hb, qs', hq, rfl⟩ := h
    exact .cons _ _ _ _ ⟨by simpa using hp, _, hb⟩ (fieldsAt_ok hq)
theorem elemsAt_ok {P : Program} {e n : Nat} : ∀ {ps : List (Nat × Operand)} {qs : List ((Nat × Nat) × AO)}, elemsAt P e n ps = some qs →
    PR (fun (p : Nat × Operand) (q : (Nat × Nat) × AO) => (fun i => some (i * n, n)) p.1 = some q.1 ∧ ∃ t', cOp P t' p.2 = some q.2) ps qs
  | [], qs, h => by simp [elemsAt] at h; subst h; exact .nil
  | (i, x) :: ps, qs, h => by
    simp only [elemsAt, Option.bind_eq_some_iff, Option.map_eq_some_iff] at h
    obtain ⟨b, hb, qs', hq, rfl⟩ := h
    exact .cons _ _ _ _ ⟨rfl, _, hb⟩ (elemsAt_ok hq)
theorem g_sconv {s d t : TypeId} {X : Operand} {x : AO} {res : AV × List Ob} (ho : o.op = .convert s d X) (hs : C.P.underlying s = some .string) (hd : C.P.underlying d = some .string) (hx : cOp C.P t X = some x) (he : EnvR C hp.length ρ env a) (hH : HR C ρ hp w) (hF : FR C w)
    (h : oSconv hp (getO env x) = some res) : Good C ρ hp o a w res := by
  have h1 := cOp_ok hx he
  generalize getO env x = s at h h1
  obtain ⟨dst, op, type, pos, after, guard⟩ := o
  dsimp only at ho; subst ho
  unfold oSconv at h
  split at h <;> simp at h
  subst h
  generalize hv : a.eval X = v at h1
  cases h1 with
  | one _ _ h1 =>
    cases h1
    refine good_same (val_run _ ?_) (.one _ _ (.str _)) hH hF
    rw [hv]
    simp [convert, run_underlying hs, run_underlying hd]
theorem g_copy {T U e t t' : TypeId} {D S : Operand} {d s : AO} {res : AV × List Ob} {c : Call} (ho : o.op = .call c) (hcal : c.callee = .builtin .copy) (hA : c.args.toList = [D, S]) (hTs : c.argTypes.toList = [T, U])
    (hT : C.P.underlying T = some (.slice e)) (hn : sizeT C.P e = some 1) (hx : cOp C.P t D = some d) (hy : cOp C.P t' S = some s) (he : EnvR C hp.length ρ env a) (hH : HR C ρ hp w) (hF : FR C w)
    (h : oCopy hp (getS env d) (getS env s) = some res) : Good C ρ hp o a w res := by
  have h1 := cOp_ok hx he
  have h2 := cOp_ok hy he
  simp only [sizeT, Option.map_eq_some_iff] at hn
  obtain ⟨i, hi, hsz⟩ := hn
  obtain ⟨dst, op', type, pos, after, guard⟩ := o
  obtain ⟨cl, ca, ct⟩ := c
  dsimp only at ho hcal hA hTs; subst ho hcal
  obtain rfl : ca = #[D, S] := by rw [← Array.toArray_toList (xs := ca), hA]
  obtain rfl : ct = #[T, U] := by rw [← Array.toArray_toList (xs := ct), hTs]
  simp only [getS] at h
  unfold oCopy at h
  split at h
  · rename_i k o' n j p m e1 e2
    obtain ⟨_, h1⟩ := h1.sv_of (by rw [e1]; simp)
    obtain ⟨_, h2⟩ := h2.sv_of (by rw [e2]; simp)
    rw [e1] at h1; rw [e2] at h2
    unfold copyV at h
    split at h
    · simp at h
    · rename_i vs hvs
      unfold copyR at h
      split at h
      · simp at h
      · rename_i hp' hst
        simp at h; subst h
        generalize hD : a.eval D = vd at h1
        generalize hS : a.eval S = vv at h2
        cases h1 with
        | cview _ _ _ b q cap hk hb hq hc =>
          cases h2 with
          | cview _ _ _ b' q' cap' hk' hb' hq' hc' =>
            obtain ⟨ad, us, hpv, hul, hus, hvr⟩ := loadN_ok (C := C) (ρ := ρ) (hp := hp) (w := w) (.ptr j p b' hk' hb') hH hF (n := Nat.min m n) (l := vs) (by simpa [Go.X.loadN] using hvs)
            obtain ⟨ad', w', hpv', hr, hl, hH', hF'⟩ := store_ok (C := C) (ρ := ρ) (hp := hp) (w := w) (p := .ptr k o') hvr (.ptr k o' b hk hb) hH hF (hp' := hp') (by simpa [Go.X.storeCells] using hst)
            simp only [Value.pointer.injEq, Option.some.injEq] at hpv hpv'
            subst hpv hpv'
            have hfc : (Builtin.firstCells i.size (Nat.min m n) (.slice (some ⟨b', q', none⟩) m cap')).run C.P w = .ok us.toArray w := by
              refine run_firstCells_some w i.size _ _ _ _ us (by rw [hul, hsz, Nat.mul_one]) fun x u hu => ?_
              have hx := (List.getElem?_eq_some_iff.1 hu).1
              have hm0 : 0 < m := by have : Nat.min m n ≤ m := Nat.min_le_left _ _; omega
              rw [hq' hm0]; exact hus x u hu
            have hstr : (Go.storeCells ⟨b, q, none⟩ us).run C.P w = .ok () w' := by
              by_cases h0 : us = []
              · subst h0; simpa [Go.storeCells] using hr
              · have hpos : 0 < us.length := List.length_pos_iff.2 h0
                have hn0 : 0 < n := by have : Nat.min m n ≤ n := Nat.min_le_right _ _; omega
                rw [hq hn0]; exact hr
            refine good_value (v := .int .i64 (Nat.min m n : Nat)) (w' := w') (call_builtin fun consts => ?_) ρ (Nat.le_of_eq hl.symm) (Ext.refl _ _) (.one _ _ (.int _ _)) hH' hF'
            simp [builtin, Builtin.copy_, run_underlying hT, Go.sizeOf, typeInfo, hi, Builtin.lenOf, hD, hS, hfc, hstr, goInt]
  · simp at h
/-- An operation that calls nothing. -/
def plainOp : AOp → Bool
  | .call _ _ => false
  | .callo _ _ => false
  | .calli _ _ => false
  | .callv _ _ => false
  | .eqAgg _ _ _ _ => false
  | _ => true
theorem map_some {α β : Type} {f : α → β} {x : Option α} {y : β} (h : x.map f = some y) : ∃ a, x = some a ∧ f a = y := Option.map_eq_some_iff.1 h
theorem bind_some {α β : Type} {f : α → Option β} {x : Option α} {y : β} (h : x.bind f = some y) : ∃ a, x = some a ∧ f a = some y := Option.bind_eq_some_iff.1 h
theorem op_good {op : AOp} {Γ : Nat → Callee} {res : AV × List Ob} (hc : cOper C.P o = some op) (hpl : plainOp op = true) (he : EnvR C hp.length ρ env a) (hH : HR C ρ hp w) (hF : FR C w) (h : evOp Γ env hp op = some res) : Good C ρ hp o a w res := by
  unfold cOper at hc
  split at hc
  · -- move
    rename_i X hop
    split at hc
    · rename_i hn
      split at hc
      · obtain ⟨⟨c, z⟩, hr, rfl⟩ := map_some hc
        simp [evOp, newRow] at h; subst h
        exact g_newNil (.inl hop) hn hr hH hF
      · simp at hc
    · obtain ⟨x, hx, rfl⟩ := map_some hc
      simp [evOp] at h; subst h
      exact g_mv (.inl hop) hx he hH hF
  · rename_i X hop
    split at hc
    · rename_i hn
      split at hc
      · obtain ⟨⟨c, z⟩, hr, rfl⟩ := map_some hc
        simp [evOp, newRow] at h; subst h
        exact g_newNil (.inr hop) hn hr hH hF
      · simp at hc
    · obtain ⟨x, hx, rfl⟩ := map_some hc
      simp [evOp] at h; subst h
      exact g_mv (.inr hop) hx he hH hF
  · rename_i Cc X Y hop
    obtain ⟨c, hcc, hc⟩ := bind_some hc
    obtain ⟨p, hp', rfl⟩ := map_some hc
    obtain ⟨h1, h2⟩ := both_ok hp'
    exact g_pick hop hcc h1 h2 he hH hF h
  · rename_i e hop
    obtain ⟨z, hz, rfl⟩ := map_some hc
    simp [evOp] at h; subst h
    exact g_alloc hop hz hH hF
  · rename_i e X hop
    obtain ⟨x, hx, rfl⟩ := map_some hc
    exact g_box hop hx he hH hF h
  · rename_i t ps hop
    obtain ⟨z, hz, hc⟩ := bind_some hc
    split at hc
    · rename_i fs hfs
      obtain ⟨pl, hpl', hc⟩ := bind_some hc
      obtain ⟨qs, hqs, rfl⟩ := map_some hc
      refine g_build (place := fun i => pl.toArray[i]?) hop hz ?_ (fieldsAt_ok hqs) he hH hF h
      intro i zv hi hzv ps' cells hfill
      simp only [Program.built, hi, hfs, hzv, hpl']
      exact hfill
    · rename_i m e hT
      obtain ⟨n, hn, hc⟩ := bind_some hc
      obtain ⟨qs, hqs, rfl⟩ := map_some hc
      refine g_build (place := fun i => some (i * n, n)) hop hz ?_ (elemsAt_ok hqs) he hH hF h
      intro i zv hi hzv ps' cells hfill
      simp only [sizeT, Option.map_eq_some_iff] at hn
      obtain ⟨ie, hie, rfl⟩ := hn
      simp only [Program.built, hi, hT, hzv, hie]
      exact hfill
    · simp at hc
  · rename_i T len ps hop
    split at hc
    · rename_i e hT
      obtain ⟨⟨c, z⟩, hr, hc⟩ := bind_some hc
      split at hc
      · rename_i hlen
        obtain ⟨qs, hqs, rfl⟩ := map_some hc
        exact g_bslice hop hT hr hlen hqs he hH hF h
      · simp at hc
    · simp at hc
  · rename_i t X hop
    obtain ⟨b, hb, hc⟩ := bind_some hc
    cases b with
    | true =>
      simp only [if_true] at hc
      obtain ⟨p, hp', rfl⟩ := map_some hc
      obtain ⟨h1, h2⟩ := both_ok hp'
      exact g_loadN hop hb h1 h2 he hH hF h
    | false =>
      simp only [Bool.false_eq_true, if_false] at hc
      obtain ⟨x, hx, rfl⟩ := map_some hc
      exact g_load1 hop hb hx he hH hF h
  · rename_i t A X hop
    split at hc
    · rename_i hn
      split at hc
      · split at hc
        · rename_i hsz
          obtain ⟨p, hp', rfl⟩ := map_some hc
          obtain ⟨h1, h2⟩ := both_ok hp'
          obtain ⟨⟨c, z⟩, y⟩ := p
          exact g_storeNil hop hn hsz h1 h2 he hH hF h
        · simp at hc
      · simp at hc
    · obtain ⟨n, hn, hc⟩ := bind_some hc
      obtain ⟨p, hp', rfl⟩ := map_some hc
      obtain ⟨h1, h2⟩ := both_ok hp'
      exact g_store hop hn h1 h2 he hH hF h
  · rename_i X hop
    obtain ⟨x, hx, rfl⟩ := map_some hc
    exact g_nilCheck hop hx he hH hF h
  · rename_i op' t X Y ty hop
    unfold cBin at hc
    split at hc
    · rename_i k hT
      obtain ⟨p, hp', rfl⟩ := map_some hc
      obtain ⟨h1, h2⟩ := both_ok hp'
      exact g_bin hop h1 h2 he hH hF h
    · rename_i hT
      obtain ⟨p, hp', rfl⟩ := map_some hc
      obtain ⟨h1, h2⟩ := both_ok hp'
      exact g_bin hop h1 h2 he hH hF h
    · rename_i hT
      split at hc
      · obtain ⟨p, hp', rfl⟩ := map_some hc
        obtain ⟨h1, h2⟩ := both_ok hp'
        exact g_eqB (.inl ⟨rfl, rfl⟩) hT hop h1 h2 he hH hF h
      · obtain ⟨p, hp', rfl⟩ := map_some hc
        obtain ⟨h1, h2⟩ := both_ok hp'
        exact g_eqB (.inr ⟨rfl, rfl⟩) hT hop h1 h2 he hH hF h
      · simp at hc
    · rename_i e hT
      split at hc
      · split at hc
        · rename_i hn
          obtain ⟨x, hx, rfl⟩ := map_some hc
          exact g_eqNil (.inl ⟨rfl, rfl⟩) hT (.inl ⟨hop, hn⟩) hx he hH hF h
        · split at hc
          · rename_i hn
            obtain ⟨x, hx, rfl⟩ := map_some hc
            exact g_eqNil (.inl ⟨rfl, rfl⟩) hT (.inr ⟨hop, hn⟩) hx he hH hF h
          · simp at hc
      · split at hc
        · rename_i hn
          obtain ⟨x, hx, rfl⟩ := map_some hc
          exact g_eqNil (.inr ⟨rfl, rfl⟩) hT (.inl ⟨hop, hn⟩) hx he hH hF h
        · split at hc
          · rename_i hn
            obtain ⟨x, hx, rfl⟩ := map_some hc
            exact g_eqNil (.inr ⟨rfl, rfl⟩) hT (.inr ⟨hop, hn⟩) hx he hH hF h
          · simp at hc
      · simp at hc
    · split at hc
      · obtain ⟨z, _, hc⟩ := bind_some hc
        split at hc
        · obtain ⟨p, _, rfl⟩ := map_some hc; simp [plainOp] at hpl
        · obtain ⟨p, _, rfl⟩ := map_some hc; simp [plainOp] at hpl
        · simp at hc
      · simp at hc
    · split at hc
      · obtain ⟨z, _, hc⟩ := bind_some hc
        split at hc
        · obtain ⟨p, _, rfl⟩ := map_some hc; simp [plainOp] at hpl
        · obtain ⟨p, _, rfl⟩ := map_some hc; simp [plainOp] at hpl
        · simp at hc
      · simp at hc
    · simp at hc
  · rename_i op' t X hop
    obtain ⟨x, hx, rfl⟩ := map_some hc
    exact g_un hop hx he hH hF h
  · rename_i s d X hop
    unfold cConv at hc
    split at hc
    · rename_i k' k hs hd
      obtain ⟨x, hx, rfl⟩ := map_some hc
      exact g_conv hop hs hd hx he hH hF h
    · rename_i hs hd
      obtain ⟨x, hx, rfl⟩ := map_some hc
      exact g_sconv hop hs hd hx he hH hF h
    · rename_i e hs hd
      split at hc
      · rename_i hE
        obtain ⟨x, hx, rfl⟩ := map_some hc
        exact g_s2b hop hs hd hE hx he hH hF h
      · simp at hc
    · rename_i e hs hd
      split at hc
      · rename_i hE
        obtain ⟨x, hx, rfl⟩ := map_some hc
        exact g_b2s hop hs hd hE hx he hH hF h
      · simp at hc
    · simp at hc
  · rename_i t X lo hi hop
    split at hc
    · rename_i hT
      obtain ⟨x, hx, hc⟩ := bind_some hc
      obtain ⟨p, hp', rfl⟩ := map_some hc
      obtain ⟨h1, h2⟩ := both_ok hp'
      exact g_cutS hop hT hx h1 h2 he hH hF h
    · rename_i e hT
      obtain ⟨n, hn, hc⟩ := bind_some hc
      obtain ⟨x, hx, hc⟩ := bind_some hc
      obtain ⟨p, hp', rfl⟩ := map_some hc
      obtain ⟨h1, h2⟩ := both_ok hp'
      exact g_cutR hop hT hn hx h1 h2 he hH hF h
    · rename_i m e hT
      split at hc
      · rename_i hn
        obtain ⟨x, hx, hc⟩ := bind_some hc
        obtain ⟨p, hp', rfl⟩ := map_some hc
        obtain ⟨h1, h2⟩ := both_ok hp'
        exact g_cutA hop hT hn hx h1 h2 he hH hF h
      · simp at hc
    · simp at hc
  · rename_i s X f hop
    split at hc
    · rename_i fs hs
      obtain ⟨fd, hfd, hc⟩ := bind_some hc
      obtain ⟨n, hn, hc⟩ := bind_some hc
      split at hc
      · simp at hc
      · rename_i h0
        obtain ⟨x, hx, rfl⟩ := map_some hc
        exact g_fadr hop hs hfd hn h0 hx he hH hF h
    · simp at hc
  · rename_i t X f hop
    split at hc
    · rename_i fs hs
      obtain ⟨fd, hfd, hc⟩ := bind_some hc
      obtain ⟨b, hb, hc⟩ := bind_some hc
      obtain ⟨n, hn, hc⟩ := bind_some hc
      obtain ⟨x, hx, rfl⟩ := map_some hc
      exact g_fld hop hs hfd hb hn hx he hH hF h
    · simp at hc
  · rename_i t X I hop
    split at hc
    · rename_i e hT
      obtain ⟨n, hn, hc⟩ := bind_some hc
      obtain ⟨p, hp', rfl⟩ := map_some hc
      obtain ⟨h1, h2⟩ := both_ok hp'
      exact g_iadrR hop hT hn h1 h2 he hH hF h
    · rename_i m e hT
      obtain ⟨n, hn, hc⟩ := bind_some hc
      obtain ⟨p, hp', rfl⟩ := map_some hc
      obtain ⟨h1, h2⟩ := both_ok hp'
      exact g_iadrA hop hT hn h1 h2 he hH hF h
    · simp at hc
  · rename_i t X I hop
    split at hc
    · rename_i hT
      obtain ⟨p, hp', rfl⟩ := map_some hc
      obtain ⟨h1, h2⟩ := both_ok hp'
      exact g_idxS hop hT h1 h2 he hH hF h
    · rename_i m e hT
      obtain ⟨b, hb, hc⟩ := bind_some hc
      obtain ⟨n, hn, hc⟩ := bind_some hc
      obtain ⟨p, hp', rfl⟩ := map_some hc
      obtain ⟨h1, h2⟩ := both_ok hp'
      exact g_idxA hop hT hb hn h1 h2 he hH hF h
    · simp at hc
  · rename_i X i hop
    obtain ⟨x, hx, rfl⟩ := map_some hc
    exact g_extract hop hx he hH hF h
  · rename_i c hop
    split at hc
    · rename_i b hcal
      unfold cBuiltin at hc
      split at hc
      · rename_i t X hts hargs
        split at hc
        · rename_i hT
          obtain ⟨x, hx, rfl⟩ := map_some hc
          exact g_lenS hop hcal hargs hts hT hx he hH hF h
        · rename_i e hT
          obtain ⟨x, hx, rfl⟩ := map_some hc
          exact g_len hop hcal hargs hts ⟨e, hT⟩ hx he hH hF h
        · simp at hc
      · rename_i t u S X hts hargs
        split at hc
        · rename_i e e' hT hU
          obtain ⟨⟨c0, z⟩, hr, hc⟩ := bind_some hc
          obtain ⟨n, hn, hc⟩ := bind_some hc
          split at hc
          · simp at hc
          · rename_i h0
            obtain ⟨p, hp', rfl⟩ := map_some hc
            obtain ⟨h1, h2⟩ := both_ok hp'
            exact g_append hop hcal hargs hts hT hU (.inl ⟨_, rfl⟩) hr hn h0 h1 h2 he hH hF h
        · rename_i e hT hU
          obtain ⟨⟨c0, z⟩, hr, hc⟩ := bind_some hc
          obtain ⟨n, hn, hc⟩ := bind_some hc
          split at hc
          · simp at hc
          · rename_i h0
            obtain ⟨p, hp', rfl⟩ := map_some hc
            obtain ⟨h1, h2⟩ := both_ok hp'
            exact g_append hop hcal hargs hts hT hU (.inr rfl) hr hn h0 h1 h2 he hH hF h
        · rename_i e kd hT hU
          obtain ⟨⟨c0, z⟩, hr, hc⟩ := bind_some hc
          obtain ⟨n, hn, hc⟩ := bind_some hc
          split at hc
          · simp at hc
          · rename_i h0
            obtain ⟨p, hp', rfl⟩ := map_some hc
            obtain ⟨h1, h2⟩ := both_ok hp'
            exact g_appz hop hcal hargs hts hT hU hr hn h0 h1 h2 he hH hF h
        · simp at hc
      · rename_i t u D S hts hargs
        split at hc
        · rename_i e hT
          split at hc
          · rename_i hn
            obtain ⟨p, hp', rfl⟩ := map_some hc
            obtain ⟨h1, h2⟩ := both_ok hp'
            exact g_copy hop hcal hargs hts hT hn h1 h2 he hH hF h
          · simp at hc
        · simp at hc
      · obtain ⟨l, hl, rfl⟩ := map_some hc
        exact g_min hop hcal hl he hH hF h
      · obtain ⟨l, hl, rfl⟩ := map_some hc
        exact g_max hop hcal hl he hH hF h
      · simp at hc
    · split at hc
      · obtain ⟨l, hl, rfl⟩ := map_some hc; unfold callOf at hpl; (repeat' split at hpl) <;> simp [plainOp] at hpl
      · simp at hc
    · obtain ⟨l, hl, rfl⟩ := map_some hc; simp [plainOp] at hpl
    · simp at hc
  · rename_i f first caps hop
    split at hc
    · rename_i h0
      obtain ⟨l, hl, rfl⟩ := map_some hc
      simp [evOp] at h; subst h
      exact g_mkfn hop h0 hl he hH hF
    · simp at hc
  · rename_i t L K hop
    split at hc
    · rename_i e hT
      obtain ⟨⟨c0, z⟩, hr, hc⟩ := bind_some hc
      obtain ⟨n, hn, hc⟩ := bind_some hc
      split at hc
      · simp at hc
      · rename_i h0
        obtain ⟨p, hp', rfl⟩ := map_some hc
        obtain ⟨h1, h2⟩ := both_ok hp'
        exact g_mks hop hT hr hn h0 h1 h2 he hH hF h
    · simp at hc
  · simp at hc
end
end Go.X
