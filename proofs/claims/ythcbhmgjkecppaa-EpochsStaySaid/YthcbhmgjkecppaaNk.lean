import Derived.Test.YthcbhmgjkecppaaNj
import Derived.Test.YthcbhmgjkecppaaAv
set_option maxRecDepth 100000
set_option linter.unusedSimpArgs false
set_option linter.unusedVariables false
namespace Go.X.Try
open Go.IntWalk
/-! ### the law of runs -/
structure Inv7 (i : Nat) (R : List Rf) : Prop where
  cnt : cntR R ≤ 8
  len : R.length ≤ i
  hd : ∀ (k : Nat) (r : Rf), R[k]? = some r → 0 ≤ r.hd ∧ r.hd ≤ (i : Int)
theorem ask_of {i : Nat} {R : List Rf} (z : Inv7 i R) (hi : i ≤ 100) (e : Int) : (∃ (k : Nat) (r : Rf), atR R e = some k ∧ R[k]? = some r ∧ r.th = true ∧ e = (k : Int) + 1 ∧ Ask e R.length (ents 1 R) R true r.tx r.hd) ∨ (atR R e = none ∧ Ask e R.length (ents 1 R) R false ⟨#[]⟩ 0) := by
  have hl := z.len
  have hE := ents_len R 1
  have h41 := f41 R e (by omega)
  have h22 := f22 R.length (ents 1 R) (by omega)
  rw [ents_ep] at h22
  have h46 := f46 R (by omega)
  have h45 := f45 (allR 1 R) 0 1 (by have := allR_len R 1; omega)
  cases ha : atR R e with
  | none =>
    have h := fnd_at_none ha
    rw [ha] at h41
    exact .inr ⟨rfl, h41, f21n _ e _ (by omega) h, f44n _ e _ (by omega) h, h22, h46, h45, rfl⟩
  | some k =>
    obtain ⟨r, hr, hth, he⟩ := atR_some ha
    obtain ⟨_, j, h1, h2, _⟩ := fnd_at ha hr
    rw [ha] at h41
    exact .inl ⟨k, r, rfl, hr, hth, he, h41, f21y _ e _ j _ (by omega) h1 h2, f44y _ e _ j _ (by omega) h1 h2, h22, h46, h45, rfl⟩
theorem Inv7.mono {i j : Nat} {R : List Rf} (z : Inv7 i R) (h : i ≤ j) : Inv7 j R := ⟨z.cnt, by have := z.len; omega, fun k r hr => by have := z.hd k r hr; omega⟩
theorem cnt_app (R S : List Rf) : cntR (R ++ S) = cntR R + cntR S := by simp [cntR]
theorem cnt_set : ∀ (R : List Rf) (k : Nat) (r : Rf), R[k]? = some r → r.th = true → ∀ h b, cntR (R.set k ⟨r.tx, b, h⟩) + (if b = true then 0 else 1) = cntR R
  | [], k, r, h, _ => by simp at h
  | x :: R, 0, r, h, ht => fun hh b => by
    simp only [List.getElem?_cons_zero, Option.some.injEq] at h; subst h
    cases b <;> simp [cntR, ht]
  | x :: R, k + 1, r, h, ht => fun hh b => by
    have := cnt_set R k r (by simpa using h) ht hh b
    simp only [List.set_cons_succ, cntR, List.filter_cons] at this ⊢
    cases hx : x.th <;> simp <;> omega
/-- One more: what the program answers, and the document. -/
theorem add_of {i : Nat} {R : List Rf} (z : Inv7 i R) (hi : i ≤ 100) (t : ByteArray) : ∃ (n x : Int) (R' : List Rf), Inv7 (i + 1) R' ∧ F19 [.one (.ptr 0 0), .one (.str t)] (stE (some 0) R.length (ents 1 R)) = some (.tup [.one (.int .i64 n), .one (.int .i64 x)], stE (some 0) R'.length (ents 1 R')) ∧
    F42 [.one (.ptr 0 0), .one (.str t)] (stR (some 0) R) = some (.tup [.one (.int .i64 n), .one (.int .i64 x)], stR (some 0) R') := by
  have hl := z.len
  have hc := z.cnt
  have hcnt := ents_cnt R 1
  by_cases ht : (256 : Int) < t.size
  · exact ⟨0, 5, R, z.mono (by omega), f19l _ _ t ht, f42l R t ht⟩
  · have hd' : ∀ (R0 : List Rf), (∀ (k : Nat) (r : Rf), R0[k]? = some r → 0 ≤ r.hd ∧ r.hd ≤ (i : Int)) → ∀ (k : Nat) (r : Rf), (R0 ++ [⟨t, true, 0⟩])[k]? = some r → 0 ≤ r.hd ∧ r.hd ≤ ((i + 1 : Nat) : Int) := by
      intro R0 h0 k r hk
      by_cases hk' : k < R0.length
      · rw [List.getElem?_append_left hk'] at hk
        have := h0 k r hk; omega
      · rw [List.getElem?_append_right (by omega)] at hk
        have h1 := (List.getElem?_eq_some_iff.1 hk).1
        simp only [List.length_cons, List.length_nil] at h1
        rw [show k - R0.length = 0 by omega] at hk
        simp at hk; subst hk
        simp; omega
    have hn : ((R.length + 1 : Nat) : Int) = (R.length : Int) + 1 := by omega
    by_cases h8 : cntR R = 8
    · rcases lo_spec R (R.length - 1) (-1) with ⟨k, h1, h2, h3, h4⟩ | ⟨h1, h2⟩
      · obtain ⟨r, hr⟩ : ∃ r, R[k]? = some r := ⟨_, List.getElem?_eq_getElem (by omega)⟩
        have h3' := h3
        simp only [mayGo, hr, Bool.and_eq_true, beq_iff_eq] at h3'
        obtain ⟨j, g1, g2, _, g4⟩ := fnd_ents (fun x => x.hd == 0 && x.ep != (R.length : Int)) R 1 k r hr h3'.1 (by simp [h3'.2]; omega) (fun j r' hj hr' ht' => by
          have := h4 j hj
          simp only [mayGo, hr', ht', Bool.true_and] at this
          simp [this])
        have hjl := (List.getElem?_eq_some_iff.1 g2).1
        have e79 := f79y R.length (ents 1 R) j (by omega) (by rw [fndI, g1]) hjl
        rw [g4] at e79
        have hcs := cnt_set R k r hr h3'.1 r.hd false
        have hcs : cntR (R.set k ⟨r.tx, false, r.hd⟩) + 1 = cntR R := hcs
        have e19 := f19y R.length (ents 1 R) _ t ht e79 (by rw [ents_cnt]; omega) (by omega)
        have ea := ents_app (R.set k ⟨r.tx, false, r.hd⟩) 1 t
        rw [List.length_set, show ((1 + R.length : Nat) : Int) = (R.length : Int) + 1 by omega] at ea
        rw [← ea] at e19
        refine ⟨R.length + 1, 0, R.set k ⟨r.tx, false, r.hd⟩ ++ [⟨t, true, 0⟩], ⟨?_, ?_, ?_⟩, ?_, f42y R t k r ht (by omega) h8 h1 hr⟩
        · have h1 : cntR [⟨t, true, 0⟩] = 1 := rfl
          rw [cnt_app, h1]; omega
        · simp; omega
        · refine hd' _ fun k' r' hk' => ?_
          by_cases q : k = k'
          · subst q
            have hkl := (List.getElem?_eq_some_iff.1 hr).1
            rw [List.getElem?_set_self hkl] at hk'
            simp at hk'; subst hk'
            exact z.hd k r hr
          · rw [List.getElem?_set_ne q] at hk'
            exact z.hd k' r' hk'
        · rw [List.length_append, List.length_set, List.length_singleton, hn]; exact e19
      · have hf : fndI (fun x => x.hd == 0 && x.ep != (R.length : Int)) (ents 1 R) = -1 := by
          rw [fndI, fnd_ents_none _ R 1 (fun j r' hr' ht' => ?_)]
          have hjl := (List.getElem?_eq_some_iff.1 hr').1
          by_cases q : j < R.length - 1
          · have := h2 j q
            simp only [mayGo, hr', ht', Bool.true_and] at this
            simp [this]
          · simp; omega
        have e79 := f79n R.length (ents 1 R) (by omega) hf
        exact ⟨0, 2, R, z.mono (by omega), f19f _ _ t ht e79, f42n R t ht (by omega) h8 h1⟩
    · have e79 := f79a R.length (ents 1 R) (by omega)
      have e19 := f19y R.length (ents 1 R) _ t ht e79 (by omega) (by omega)
      have ea := ents_app R 1 t
      rw [show ((1 + R.length : Nat) : Int) = (R.length : Int) + 1 by omega] at ea
      rw [← ea] at e19
      refine ⟨R.length + 1, 0, R ++ [⟨t, true, 0⟩], ⟨?_, ?_, hd' R z.hd⟩, ?_, f42a R t ht (by omega) h8⟩
      · have h1 : cntR [⟨t, true, 0⟩] = 1 := rfl
        rw [cnt_app, h1]; omega
      · simp; omega
      · rw [List.length_append, List.length_singleton, hn]; exact e19
theorem deed3_of {z : List Sc} (h : okFields [.int .u8, .int .i64, .str] z) : ∃ kd e t, z = [.int .u8 kd, .int .i64 e, .str t] ∧ 0 ≤ kd := by
  match z, h with
  | [a, b, c], ⟨ha, hb, hc, _⟩ =>
    cases a <;> simp only [FK.ok] at ha
    cases b <;> simp only [FK.ok] at hb
    cases c <;> simp only [FK.ok] at hc
    obtain ⟨rfl, hw⟩ := ha
    obtain ⟨rfl, _⟩ := hb
    refine ⟨_, _, _, rfl, ?_⟩
    simp [Lit.wf, IntKind.min, IntKind.max, IntKind.signed, IntKind.bits] at hw
    omega
theorem step7 (L : List (List Sc)) (i : Nat) (kd e : Int) (t : ByteArray) {R : List Rf} (z : Inv7 i R) (hi : i < L.length) (hL : L.length ≤ 80) (hd : L[i]?.getD [] = [.int .u8 kd, .int .i64 e, .str t]) (hk : 0 ≤ kd) (ht : t.size ≤ 300) :
    ∃ (st1 : St) (R' : List Rf), evC T7 KK b7x0 (canon7 L R.length (ents 1 R) R i) = some (.norm, st1) ∧ St.head [3, 4, 25, 26, 27] st1 = canon7 L R'.length (ents 1 R') R' (i + 1) ∧ Inv7 (i + 1) R' := by
  have hl := z.len
  have hE := ents_len R 1
  have h41 := f41 R e (by omega)
  have hm : kd.tmod 3 = 0 ∨ kd.tmod 3 = 1 ∨ kd.tmod 3 = 2 := by
    rw [Int.tmod_eq_emod_of_nonneg hk]; omega
  have hset : ∀ (k : Nat) (r : Rf) (h' : Int), R[k]? = some r → r.th = true → 0 ≤ h' → h' ≤ ((i + 1 : Nat) : Int) → Inv7 (i + 1) (R.set k ⟨r.tx, true, h'⟩) := by
    intro k r h' hr hth q1 q2
    refine ⟨?_, by simp; omega, fun k' r' hk' => ?_⟩
    · have := cnt_set R k r hr hth h' true
      have := z.cnt
      simp at *; omega
    · by_cases q : k = k'
      · subst q
        have hkl := (List.getElem?_eq_some_iff.1 hr).1
        rw [List.getElem?_set_self hkl] at hk'
        simp at hk'; subst hk'
        exact ⟨q1, q2⟩
      · rw [List.getElem?_set_ne q] at hk'
        have := z.hd k' r' hk'; omega
  rcases hm with hm | hm | hm
  · obtain ⟨n, x, R', z', h19, h42⟩ := add_of z (by omega) t
    have hl' := z'.len
    rcases ask_of z' (by omega) e with ⟨k, r, _, hr, hth, he, A⟩ | ⟨_, A⟩
    · obtain ⟨st1, e1, e2⟩ := b7add_y L i kd e t R.length R'.length n x 0 ⟨#[]⟩ _ _ R R' _ k r hi hL hd ht hm h41 h19 h42 he hr (by omega) A
      exact ⟨st1, R', e1, e2, z'⟩
    · obtain ⟨st1, e1, e2⟩ := b7add_n L i kd e t R.length R'.length n x _ _ R R' _ hi hL hd ht hm h41 h19 h42 A
      exact ⟨st1, R', e1, e2, z'⟩
  · rcases ask_of z (by omega) e with ⟨k, r, ha, hr, hth, he, A⟩ | ⟨ha, A⟩
    · rw [ha] at h41
      obtain ⟨_, j, g1, g2, g3⟩ := fnd_at ha hr
      have hb := z.hd k r hr
      have h20 := f20y R.length e _ j _ (by omega) g1 g2 (by simp only; omega)
      simp only at h20
      rw [g3] at h20
      have z' := hset k r (r.hd + 1) hr hth (by omega) (by omega)
      rcases ask_of z' (by omega) e with ⟨k', r', _, hr', hth', he', A'⟩ | ⟨ha', A'⟩
      · obtain rfl : k' = k := by omega
        have hkl := (List.getElem?_eq_some_iff.1 hr).1
        rw [List.getElem?_set_self hkl] at hr'
        simp at hr'; subst hr'
        have hlen : (R.set k' ⟨r.tx, true, r.hd + 1⟩).length = R.length := by simp
        rw [hlen] at A'
        obtain ⟨st1, e1, e2⟩ := b7hold_y L i kd e t R.length _ _ R k' r hi hL hd ht hm h41 h20 he hr hth (by omega) (by omega) A'
        exact ⟨st1, _, e1, by rw [hlen]; exact e2, z'⟩
      · exfalso
        have hkl := (List.getElem?_eq_some_iff.1 hr).1
        exact atR_none ha' k ⟨r.tx, true, r.hd + 1⟩ (by rw [List.getElem?_set_self hkl]) rfl (by omega)
    · rw [ha] at h41
      obtain ⟨st1, e1, e2⟩ := b7hold_n L i kd e t R.length _ R hi hL hd ht hm h41 (f20n _ e _ (by omega) (fnd_at_none ha)) A
      exact ⟨st1, R, e1, e2, z.mono (by omega)⟩
  · rcases ask_of z (by omega) e with ⟨k, r, ha, hr, hth, he, A⟩ | ⟨ha, A⟩
    · rw [ha] at h41
      obtain ⟨_, j, g1, g2, g3⟩ := fnd_at ha hr
      have hb := z.hd k r hr
      by_cases h0 : r.hd = 0
      · obtain ⟨st1, e1, e2⟩ := b7let_z L i kd e t R.length _ R k r hi hL hd ht hm h41 (f43z _ e _ j _ (by omega) g1 g2 h0) he hr (by omega) h0 A
        exact ⟨st1, R, e1, e2, z.mono (by omega)⟩
      · have h43 := f43y R.length e _ j _ (by omega) g1 g2 (by simp only; omega)
        simp only at h43
        rw [g3] at h43
        have z' := hset k r (r.hd - 1) hr hth (by omega) (by omega)
        rcases ask_of z' (by omega) e with ⟨k', r', _, hr', hth', he', A'⟩ | ⟨ha', A'⟩
        · obtain rfl : k' = k := by omega
          have hkl := (List.getElem?_eq_some_iff.1 hr).1
          rw [List.getElem?_set_self hkl] at hr'
          simp at hr'; subst hr'
          have hlen : (R.set k' ⟨r.tx, true, r.hd - 1⟩).length = R.length := by simp
          rw [hlen] at A'
          obtain ⟨st1, e1, e2⟩ := b7let_y L i kd e t R.length _ _ R k' r hi hL hd ht hm h41 h43 he hr hth (by omega) (by omega) A'
          exact ⟨st1, _, e1, by rw [hlen]; exact e2, z'⟩
        · exfalso
          have hkl := (List.getElem?_eq_some_iff.1 hr).1
          exact atR_none ha' k ⟨r.tx, true, r.hd - 1⟩ (by rw [List.getElem?_set_self hkl]) rfl (by omega)
    · rw [ha] at h41
      obtain ⟨st1, e1, e2⟩ := b7let_n L i kd e t R.length _ R hi hL hd ht hm h41 (f43n _ e _ (by omega) (fnd_at_none ha)) A
      exact ⟨st1, R, e1, e2, z.mono (by omega)⟩
theorem long7 (L : List (List Sc)) (i : Nat) (kd e : Int) (t : ByteArray) (last : Int) (E : List En) (R : List Rf) (hi : i < L.length) (hd : L[i]?.getD [] = [.int .u8 kd, .int .i64 e, .str t]) (ht : 300 < t.size) :
    ∃ env hp', evC T7 KK b7x0 (canon7 L last E R i) = some (.ret, ⟨env, [.ro 0 (.recs 3 L)], hp'⟩) ∧ getT 2 env = .one (.bool true) := by
  have hii : (i : Int) < L.length := by omega
  have e0 : (RC.recs 3 L).elem i = [.int .u8 kd, .int .i64 e, .str t] := by simpa [RC.elem, List.getD] using hd
  have hts : (300 : Int) < t.size := by omega
  have key : ∃ st1, evC T7 KK b7x0 (canon7 L last E R i) = some (.ret, st1) ∧ st1.rts = [.ro 0 (.recs 3 L)] ∧ getT 2 st1.env = .one (.bool true) := by
    refine ⟨?w, ?a, ?b, ?c⟩
    case a =>
      simp -implicitDefEqProofs [b7x0, canon7, upd, hi, hii, RC.len, RC.size, e0, takeE, hts]
      rfl
    case b => simp
    case c => simp
  obtain ⟨⟨env, rts, hp'⟩, h1, rfl, h3⟩ := key
  exact ⟨env, hp', h1, h3⟩
theorem end7 (L : List (List Sc)) (i : Nat) (last : Int) (E : List En) (R : List Rf) (hi : i = L.length) : ∃ env hp', evC T7 KK b7x0 (canon7 L last E R i) = some (.exit 0, ⟨env, [.ro 0 (.recs 3 L)], hp'⟩) := by
  subst hi
  have key : ∃ st1, evC T7 KK b7x0 (canon7 L last E R L.length) = some (.exit 0, st1) ∧ st1.rts = [.ro 0 (.recs 3 L)] := by
    refine ⟨?w, ?a, ?b⟩
    case a =>
      simp -implicitDefEqProofs [b7x0, canon7, upd, RC.len, RC.size]
      rfl
    case b => simp
  obtain ⟨⟨env, rts, hp'⟩, h1, rfl⟩ := key
  exact ⟨env, hp', h1⟩
theorem loop7 (L : List (List Sc)) (hL : L.length ≤ 80) (hw : ∀ z ∈ L, okFields [.int .u8, .int .i64, .str] z) : ∀ (j i : Nat) (R : List Rf) (K : Nat), i + j = L.length → Inv7 i R → j < K →
    ∃ env hp', loopH (evC T7 KK b7x0) [3, 4, 25, 26, 27] K (canon7 L R.length (ents 1 R) R i) = some (.exit 0, ⟨env, [.ro 0 (.recs 3 L)], hp'⟩) ∨ loopH (evC T7 KK b7x0) [3, 4, 25, 26, 27] K (canon7 L R.length (ents 1 R) R i) = some (.ret, ⟨env, [.ro 0 (.recs 3 L)], hp'⟩) ∧ getT 2 env = .one (.bool true)
  | 0, i, R, K, hi, z, hK => by
    obtain ⟨env, hp', e⟩ := end7 L i R.length (ents 1 R) R (by omega)
    exact ⟨env, hp', .inl (loopH_exit e)⟩
  | j + 1, i, R, K, hi, z, hK => by
    have hlt : i < L.length := by omega
    have hd : L[i]?.getD [] = L[i] := by rw [List.getElem?_eq_getElem hlt]; rfl
    obtain ⟨kd, e, t, hz, hk⟩ := deed3_of (hw L[i] (List.getElem_mem hlt))
    rw [hz] at hd
    by_cases hs : t.size ≤ 300
    · obtain ⟨st1, R', e1, e2, z'⟩ := step7 L i kd e t z hlt hL hd hk hs
      obtain ⟨env, hp', e⟩ := loop7 L hL hw j (i + 1) R' (K - 1) (by omega) z' (by omega)
      refine ⟨env, hp', ?_⟩
      rw [loopH_norm e1 (by omega), e2]
      exact e
    · obtain ⟨env, hp', e, g⟩ := long7 L i kd e t R.length (ents 1 R) R hlt hd (by omega)
      exact ⟨env, hp', .inr ⟨loopH_ret e, g⟩⟩
/-! ### awake -/
theorem f17 : F17 [] [] = some (.one (.bool true), []) := by
  have hx : (⟨#[120]⟩ : ByteArray).size = 1 := rfl
  have hy : (⟨#[121]⟩ : ByteArray).size = 1 := rfl
  have a1 := f19y 0 [] [] ⟨#[120]⟩ (by rw [hx]; omega) (f79a 0 [] (by simp)) (by simp) (by omega)
  have a2 := f19y 1 [⟨1, ⟨#[120]⟩, 0⟩] [⟨1, ⟨#[120]⟩, 0⟩] ⟨#[121]⟩ (by rw [hy]; omega) (f79a 1 _ (by simp)) (by simp) (by omega)
  have a3 := f21y 2 1 [⟨1, ⟨#[120]⟩, 0⟩, ⟨2, ⟨#[121]⟩, 0⟩] 0 ⟨1, ⟨#[120]⟩, 0⟩ (by simp) (by simp [fndI, fnd]) rfl
  have a4 := f20y 2 1 [⟨1, ⟨#[120]⟩, 0⟩, ⟨2, ⟨#[121]⟩, 0⟩] 0 ⟨1, ⟨#[120]⟩, 0⟩ (by simp) (by simp [fndI, fnd]) rfl (by simp)
  have a5 := f44y 2 1 [⟨1, ⟨#[120]⟩, 1⟩, ⟨2, ⟨#[121]⟩, 0⟩] 0 ⟨1, ⟨#[120]⟩, 1⟩ (by simp) (by simp [fndI, fnd]) rfl
  have a6 := f23 2 [⟨1, ⟨#[120]⟩, 0⟩, ⟨2, ⟨#[121]⟩, 0⟩]
  simp only [stE, List.nil_append, List.map_cons, List.map_nil, En.sc, List.cons_append, List.set_cons_zero, Int.reduceAdd, Int.natCast_zero] at a1 a2 a3 a4 a5 a6
  simp -implicitDefEqProofs [F17, c17, upd, f18, stE, a1, a2, a3, a4, a5, a6]
theorem law7 (L : List (List Sc)) (_ : L.length ≤ maxLen) (hw : ∀ z ∈ L, okFields [.int .u8, .int .i64, .str] z) : F7 [.one (.ro 0 (.recs 3 L))] [] = some (.one (.bool true), []) := by
  by_cases hL : L.length ≤ 80
  · obtain ⟨env, hp', e⟩ := loop7 L hL hw L.length 0 [] KK (by omega) ⟨by simp [cntR], by simp, fun k r h => by simp at h⟩ (by rw [KK_eq]; omega)
    have z : ((0 : Nat) : Int) = 0 := rfl
    have hL1 : ¬ ((80 : Int) < L.length) := by omega
    simp only [canon7, ents, List.map_nil, List.length_nil, z] at e
    rcases e with e | ⟨e, g⟩
    · simp -implicitDefEqProofs [F7, c7, upd, f17, f18, stE, hL1, RC.len, e]
    · simp -implicitDefEqProofs [F7, c7, upd, f17, f18, stE, hL1, RC.len, e, g]
  · have hL1 : (80 : Int) < L.length := by omega
    simp -implicitDefEqProofs [F7, c7, upd, f17, hL1, RC.len]
end Go.X.Try
