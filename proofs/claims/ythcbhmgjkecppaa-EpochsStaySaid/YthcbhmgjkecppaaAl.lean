import Derived.Test.YthcbhmgjkecppaaAk
set_option linter.unusedVariables false
namespace Go.X
/-! ### what comes back -/
def tagged : Ob → Option Nat
  | .cells g _ => g
  | .rows g _ => g
  | _ => none
def laid (hp0 : List Ob) (ks : List Nat) (f : Nat → Option Nat) (cs : List SV) : Ob → Ob
  | .cells (some i) l => .cells (orgOf hp0[ks.getD i 0]?) (renL f (backL cs l))
  | .cells none l => .cells none (renL f (backL cs l))
  | .rows (some i) c => .rows (orgOf hp0[ks.getD i 0]?) c
  | .rows none c => .rows none c
  | .dead => .dead
def cnt : List Ob → Nat
  | [] => 0
  | .cells (some _) _ :: l => cnt l
  | .rows (some _) _ :: l => cnt l
  | _ :: l => cnt l + 1
def rhoB (ρc : Nat → RV) : List Ob → Nat → Nat → (Nat → RV) → Nat → RV
  | [], _, _, ρ => ρ
  | .cells (some _) _ :: os, j, n, ρ => rhoB ρc os (j + 1) n ρ
  | .rows (some _) _ :: os, j, n, ρ => rhoB ρc os (j + 1) n ρ
  | _ :: os, j, n, ρ => rhoB ρc os (j + 1) (n + 1) (up ρ n (ρc j))
section
variable {C C' : Cx} {ρ ρ' ρc : Nat → RV} {hp : List Ob} {w w' : World} {ks : List Nat} {cs : List SV} {D : List Deferred}
theorem rhoB_ext : ∀ (os : List Ob) (j n : Nat) (ρ : Nat → RV), Ext n ρ (rhoB ρc os j n ρ)
  | [], _, n, ρ => Ext.refl _ _
  | .cells (some _) _ :: os, j, n, ρ => rhoB_ext os (j + 1) n ρ
  | .cells none _ :: os, j, n, ρ => (up_ext ρ n (ρc j)).trans (rhoB_ext os (j + 1) (n + 1) _) (Nat.le_succ _)
  | .rows (some _) _ :: os, j, n, ρ => rhoB_ext os (j + 1) n ρ
  | .rows none _ :: os, j, n, ρ => (up_ext ρ n (ρc j)).trans (rhoB_ext os (j + 1) (n + 1) _) (Nat.le_succ _)
  | .dead :: os, j, n, ρ => (up_ext ρ n (ρc j)).trans (rhoB_ext os (j + 1) (n + 1) _) (Nat.le_succ _)
def KeyIs (ρc : Nat → RV) (ks : List Nat) (os : List Ob) (j n : Nat) (ρ : Nat → RV) (i k : Nat) : Prop :=
  ∃ o, os[i]? = some o ∧ ((∃ t, tagged o = some t ∧ k = ks.getD t 0) ∨ (tagged o = none ∧ n ≤ k ∧ k < n + cnt os ∧ rhoB ρc os j n ρ k = ρc (j + i)))
theorem keys_step {o : Ob} {os : List Ob} {j n i k : Nat} {ρ : Nat → RV} (hk : (backKeys ks n (o :: os))[i]? = some k) (ho : tagged o = none)
    (h1 : backKeys ks n (o :: os) = n :: backKeys ks (n + 1) os) (h2 : cnt (o :: os) = cnt os + 1) (h3 : rhoB ρc (o :: os) j n ρ = rhoB ρc os (j + 1) (n + 1) (up ρ n (ρc j)))
    (ih : ∀ i k, (backKeys ks (n + 1) os)[i]? = some k → KeyIs ρc ks os (j + 1) (n + 1) (up ρ n (ρc j)) i k) : KeyIs ρc ks (o :: os) j n ρ i k := by
  rw [h1] at hk
  cases i with
  | zero =>
    simp at hk; subst hk
    refine ⟨o, rfl, .inr ⟨ho, Nat.le_refl _, by omega, ?_⟩⟩
    rw [h3, rhoB_ext os (j + 1) (n + 1) _ n (Nat.lt_succ_self _), up_at]; rfl
  | succ i =>
    obtain ⟨o', h, h'⟩ := ih i k (by simpa using hk)
    refine ⟨o', by simpa using h, ?_⟩
    rcases h' with h' | ⟨e1, e2, e3, e4⟩
    · exact .inl h'
    · refine .inr ⟨e1, by omega, by omega, ?_⟩
      rw [h3, e4]; congr 1; omega
theorem keys_get : ∀ (os : List Ob) (j n : Nat) (ρ : Nat → RV) (i k : Nat), (backKeys ks n os)[i]? = some k → KeyIs ρc ks os j n ρ i k
  | [], j, n, ρ, i, k, h => by simp [backKeys] at h
  | .cells (some t) l :: os, j, n, ρ, i, k, h => by
    simp only [backKeys] at h
    cases i with
    | zero => simp at h; exact ⟨_, rfl, .inl ⟨t, rfl, by simp [h.symm]⟩⟩
    | succ i =>
      obtain ⟨o', h1, h'⟩ := keys_get os (j + 1) n ρ i k (by simpa using h)
      refine ⟨o', by simpa using h1, ?_⟩
      rcases h' with h' | ⟨e1, e2, e3, e4⟩
      · exact .inl h'
      · refine .inr ⟨e1, e2, by simpa only [cnt] using e3, ?_⟩
        simp only [rhoB]; rw [e4]; congr 1; omega
  | .cells none l :: os, j, n, ρ, i, k, h => keys_step h rfl rfl rfl rfl (fun i k h => keys_get os (j + 1) (n + 1) _ i k h)
  | .rows (some t) c :: os, j, n, ρ, i, k, h => by
    simp only [backKeys] at h
    cases i with
    | zero => simp at h; exact ⟨_, rfl, .inl ⟨t, rfl, by simp [h.symm]⟩⟩
    | succ i =>
      obtain ⟨o', h1, h'⟩ := keys_get os (j + 1) n ρ i k (by simpa using h)
      refine ⟨o', by simpa using h1, ?_⟩
      rcases h' with h' | ⟨e1, e2, e3, e4⟩
      · exact .inl h'
      · refine .inr ⟨e1, e2, by simpa only [cnt] using e3, ?_⟩
        simp only [rhoB]; rw [e4]; congr 1; omega
  | .rows none c :: os, j, n, ρ, i, k, h => keys_step h rfl rfl rfl rfl (fun i k h => keys_get os (j + 1) (n + 1) _ i k h)
  | .dead :: os, j, n, ρ, i, k, h => keys_step h rfl rfl rfl rfl (fun i k h => keys_get os (j + 1) (n + 1) _ i k h)
theorem lay_len {hp0 : List Ob} {f : Nat → Option Nat} : ∀ (os hp : List Ob), (layBack hp0 ks f cs os hp).length = hp.length + cnt os
  | [], hp => rfl
  | .cells (some t) l :: os, hp => by simp only [layBack, cnt]; rw [lay_len]; simp
  | .cells none l :: os, hp => by simp only [layBack, cnt]; rw [lay_len]; simp; omega
  | .rows (some t) c :: os, hp => by simp only [layBack, cnt]; rw [lay_len]; simp
  | .rows none c :: os, hp => by simp only [layBack, cnt]; rw [lay_len]; simp; omega
  | .dead :: os, hp => by simp only [layBack, cnt]; rw [lay_len]; simp; omega
def LaidAt (hp0 : List Ob) (ks : List Nat) (f : Nat → Option Nat) (cs : List SV) (os hp : List Ob) (k : Nat) (ob : Ob) : Prop :=
  hp[k]? = some ob ∨ ∃ (i : Nat) (o : Ob), os[i]? = some o ∧ (backKeys ks hp.length os)[i]? = some k ∧ ob = laid hp0 ks f cs o
theorem lay_step {hp0 : List Ob} {f : Nat → Option Nat} {o : Ob} {os hp : List Ob} {k : Nat} {ob : Ob} (h1 : backKeys ks hp.length (o :: os) = hp.length :: backKeys ks (hp.length + 1) os)
    (ih : LaidAt hp0 ks f cs os (hp ++ [laid hp0 ks f cs o]) k ob) : LaidAt hp0 ks f cs (o :: os) hp k ob := by
  rcases ih with h | ⟨i, o', h2, h3, h4⟩
  · by_cases hk : k < hp.length
    · rw [List.getElem?_append_left hk] at h; exact .inl h
    · have hlt := (List.getElem?_eq_some_iff.1 h).1
      simp at hlt
      obtain rfl : k = hp.length := by omega
      simp at h; subst h
      exact .inr ⟨0, o, rfl, by rw [h1]; rfl, rfl⟩
  · refine .inr ⟨i + 1, o', by simpa using h2, ?_, h4⟩
    rw [h1]; simpa using h3
theorem lay_get {hp0 : List Ob} {f : Nat → Option Nat} : ∀ (os hp : List Ob) (k : Nat) (ob : Ob), (layBack hp0 ks f cs os hp)[k]? = some ob → LaidAt hp0 ks f cs os hp k ob
  | [], hp, k, ob, h => Or.inl h
  | .cells (some t) l :: os, hp, k, ob, h => by
    simp only [layBack] at h
    rcases lay_get os _ k ob h with h | ⟨i, o', h2, h3, h4⟩
    · by_cases hk : k = ks.getD t 0
      · subst hk
        have hlt := (List.getElem?_eq_some_iff.1 h).1
        rw [List.length_set] at hlt
        rw [List.getElem?_set_self hlt] at h
        simp only [Option.some.injEq] at h; subst h
        exact .inr ⟨0, _, rfl, by simp [backKeys], rfl⟩
      · rw [List.getElem?_set_ne (Ne.symm hk)] at h; exact .inl h
    · rw [List.length_set] at h3
      exact .inr ⟨i + 1, o', by simpa using h2, by simpa [backKeys] using h3, h4⟩
  | .cells none l :: os, hp, k, ob, h => lay_step rfl (lay_get os _ k ob h)
  | .rows (some t) c :: os, hp, k, ob, h => by
    simp only [layBack] at h
    rcases lay_get os _ k ob h with h | ⟨i, o', h2, h3, h4⟩
    · by_cases hk : k = ks.getD t 0
      · subst hk
        have hlt := (List.getElem?_eq_some_iff.1 h).1
        rw [List.length_set] at hlt
        rw [List.getElem?_set_self hlt] at h
        simp only [Option.some.injEq] at h; subst h
        exact .inr ⟨0, _, rfl, by simp [backKeys], rfl⟩
      · rw [List.getElem?_set_ne (Ne.symm hk)] at h; exact .inl h
    · rw [List.length_set] at h3
      exact .inr ⟨i + 1, o', by simpa using h2, by simpa [backKeys] using h3, h4⟩
  | .rows none c :: os, hp, k, ob, h => lay_step rfl (lay_get os _ k ob h)
  | .dead :: os, hp, k, ob, h => lay_step rfl (lay_get os _ k ob h)
theorem kill_len : ∀ (ks : List Nat) (hp : List Ob), (killAll hp ks).length = hp.length
  | [], hp => rfl
  | k :: ks, hp => by simp only [killAll]; rw [kill_len]; simp
theorem kill_get : ∀ (ks : List Nat) (hp : List Ob) (k : Nat) (ob : Ob), (killAll hp ks)[k]? = some ob → ob ≠ .dead → k ∉ ks ∧ hp[k]? = some ob
  | [], hp, k, ob, h, hd => ⟨by simp, h⟩
  | j :: ks, hp, k, ob, h, hd => by
    simp only [killAll] at h
    obtain ⟨h1, h2⟩ := kill_get ks _ k ob h hd
    by_cases e : k = j
    · subst e
      have hlt := (List.getElem?_eq_some_iff.1 h2).1
      rw [List.length_set] at hlt
      rw [List.getElem?_set_self hlt] at h2
      simp at h2; exact absurd h2.symm hd
    · rw [List.getElem?_set_ne (Ne.symm e)] at h2
      exact ⟨by simp [e, h1], h2⟩
/-- Of what is lent, the caller reads it itself. -/
def Lent (C : Cx) (cs : List SV) : Prop := ∀ (t u : Nat) (d : RC), cs[t]? = some (SV.ro u d) → ∃ a, C.reads u d a
theorem back_ok {n : Nat} {s : SV} {v : Value} (hF : FR C w) (hl : Lent C cs) (h : VR (C.callee ρ ks w cs D) n ρc s v) : VR C n ρc (s.back cs) v := by
  cases h with
  | undef v => simp only [SV.back, SV.strip]; exact .undef v
  | int k x => simp only [SV.back, SV.strip]; exact .int k x
  | bool b => simp only [SV.back, SV.strip]; exact .bool b
  | str s => simp only [SV.back, SV.strip]; exact .str s
  | nilp => simp only [SV.back, SV.strip]; exact .nilp
  | nilf => simp only [SV.back, SV.strip]; exact .nilf
  | nils c h hw => simp only [SV.back, SV.strip]; exact .nils c h hw
  | rptr u c i o b q h hi => simp only [SV.back, SV.strip]; exact .undef _
  | fn g caps cs h => simp only [SV.back, SV.strip]; exact .fn g _ cs (VRL.strip h)
  | ptr k o b hk h => simp only [SV.back, SV.strip]; exact .ptr k o b hk h
  | eptr k i o b q m cap hk h hi => simp only [SV.back, SV.strip]; exact .eptr k i o b q m cap hk h hi
  | row k a m cap hk h => simp only [SV.back, SV.strip]; exact .row k a m cap hk h
  | viewNil k hk h => simp only [SV.back, SV.strip]; exact .viewNil k hk h
  | view k o m b q len cap q' hk h hl hc hq hq' => simp only [SV.back, SV.strip]; exact .view k o m b q len cap q' hk h hl hc hq hq'
  | cview k o m b q cap hk h hq hc => simp only [SV.back, SV.strip]; exact .cview k o m b q cap hk h hq hc
  | ro t c a cap h hc =>
    simp only [SV.back]
    unfold roArg
    split
    · rename_i u d e
      refine .ro u c a cap ⟨h.1, fun hpos => ?_⟩ hc
      obtain ⟨b, o, rfl, hown, hτ, hcell⟩ := h.2 hpos
      have hτ' : tagBlk C ρ w.heap.size cs[t]? = b := hτ
      rw [e] at hτ'
      simp only [tagBlk] at hτ'
      split at hτ'
      · rename_i hd
        obtain ⟨a', ha'⟩ := hl t u d e
        obtain ⟨b', o', _, hown', hτ2, _⟩ := ha'.2 hd
        rw [hτ2] at hτ'; subst hτ'
        refine ⟨b', o, rfl, hown', hτ2, fun j v hv => ?_⟩
        have hb : w.heap[b']? = C.w0.heap[b']? := hF.block b' (by
          rcases Nat.lt_or_ge b' C.w0.heap.size with h | h
          · exact h
          · exact absurd (.inr h) hown') (fun h => hown' (.inl h))
        rw [← World.cell?_of_block (a := ⟨b', o + j, none⟩) hb]
        exact hcell j v hv
      · exact absurd (.inr (Nat.le_of_eq hτ')) hown
    · exact .undef _
theorem backL_ok {n : Nat} (hF : FR C w) (hl : Lent C cs) : ∀ {l : List SV} {vs : List Value}, VRL (C.callee ρ ks w cs D) n ρc l vs → VRL C n ρc (backL cs l) vs
  | _, _, .nil => .nil
  | _, _, .cons s v l vs h h' => .cons _ _ _ _ (back_ok hF hl h) (backL_ok hF hl h')
mutual
theorem backA_ok {n : Nat} (hF : FR C w) (hl : Lent C cs) : ∀ {s : AV} {v : Value}, AVR (C.callee ρ ks w cs D) n ρc s v → AVR C n ρc (s.back cs) v
  | _, _, .one s v h => .one _ _ (back_ok hF hl h)
  | _, _, .agg l vs h => .agg _ _ (backL_ok hF hl h)
  | _, _, .tup l vs h => .tup _ _ (backT_ok hF hl h)
theorem backT_ok {n : Nat} (hF : FR C w) (hl : Lent C cs) : ∀ {l : List AV} {vs : List Value}, AVRL (C.callee ρ ks w cs D) n ρc l vs → AVRL C n ρc (backT cs l) vs
  | _, _, .nil => .nil
  | _, _, .cons s v l vs h h' => .cons _ _ _ _ (backA_ok hF hl h) (backT_ok hF hl h')
end
theorem lent_of {n : Nat} : ∀ {l : List AV} {vs : List Value}, AVRL C n ρ l vs → Lent C (argCells l)
  | _, _, .nil => fun t u d h => by simp [argCells] at h
  | _, _, .cons s v l vs h hl => fun t u d e => by
    simp only [argCells] at e
    by_cases ht : t < s.cells.length
    · rw [List.getElem?_append_left ht] at e
      cases h with
      | one s v h =>
        simp only [AV.cells] at e ht
        simp at ht; subst ht; simp at e; subst e
        cases h with | ro _ _ a cap h hc => exact ⟨a, h⟩
      | agg l vs h =>
        obtain ⟨v, _, h⟩ := h.get e
        cases h with | ro _ _ a cap h hc => exact ⟨a, h⟩
      | tup l vs h => simp only [AV.cells] at e ht; simp at ht; subst ht; simp at e
    · rw [List.getElem?_append_right (by omega)] at e
      exact lent_of hl _ u d e
theorem callee_own (hF : FR C w) (hH : HR C ρ hp w) (hf : Fine hp ks) {b : Nat} (h : (C.callee ρ ks w cs D).own b) : C.own b := by
  rcases h with ⟨k, hk, e⟩ | h
  · exact (hH.lt (hf.alive k hk) e).1
  · exact .inr (Nat.le_trans hF.size h)
theorem tagged_at {os : List Ob} {k t : Nat} {o : Ob} (hf : Fine hp ks) (hc : HR (C.callee ρ ks w cs D) ρc os w') (ho : os[k]? = some o) (ht : tagged o = some t) :
    ∃ kk, ks[t]? = some kk ∧ ks.getD t 0 = kk ∧ kk ∈ ks ∧ (ρc k).hdr = (ρ kk).hdr ∧ ((∃ a m c, (ρc k).hdr = .slice a m c) → ρc k = ρ kk) := by
  cases o with
  | dead => simp [tagged] at ht
  | rows g c =>
    simp [tagged] at ht; subst ht
    obtain ⟨_, _, hg, h2⟩ := hc.ob k _ ho
    have h1 : rvAt ρ ks[t]? = ρc k := hg t rfl
    have h3 : ∃ a m c, (ρc k).hdr = .slice a m c := by
      rcases h2 with ⟨e, _⟩ | ⟨b, o, cap, cur, T, fr, e, _⟩
      · exact ⟨_, _, _, e⟩
      · exact ⟨_, _, _, e⟩
    cases hk : ks[t]? with
    | none => obtain ⟨a, m, c', e⟩ := h3; rw [hk] at h1; rw [← h1] at e; simp [rvAt] at e
    | some kk =>
      rw [hk] at h1
      have h1 : ρ kk = ρc k := h1
      exact ⟨kk, rfl, by simp [List.getD, hk], List.mem_of_getElem? hk, by rw [h1], fun _ => h1.symm⟩
  | cells g l =>
    simp [tagged] at ht; subst ht
    obtain ⟨b, T, cur, e, _, _, _, hg⟩ := hc.ob k _ ho
    have h1 : (rvAt ρ ks[t]?).hdr = (ρc k).hdr := hg t rfl
    cases hk : ks[t]? with
    | none => rw [hk, e] at h1; simp [rvAt] at h1
    | some kk =>
      rw [hk] at h1
      exact ⟨kk, rfl, by simp [List.getD, hk], List.mem_of_getElem? hk, h1.symm, fun ⟨a, m, c, e'⟩ => by rw [e] at e'; simp at e'⟩
theorem callee_fr (hF : FR C w) (hH : HR C ρ hp w) (hf : Fine hp ks) (hF' : FR (C.callee ρ ks w cs D) w') : FR C w' :=
  hF.of_block hF'.size (fun b hb hown => hF'.block b hb (fun h => hown (callee_own (cs := cs) hF hH hf (.inl h)))) hF'.os hF'.tape hF'.output
theorem call_back {os : List Ob} {r : AV} {rv : Value} (hF : FR C w) (hH : HR C ρ hp w) (hf : Fine hp ks) (hl : Lent C cs) (hc : HR (C.callee ρ ks w cs D) ρc os w') (hF' : FR (C.callee ρ ks w cs D) w')
    (hr : AVR (C.callee ρ ks w cs D) os.length ρc r rv) :
    ∃ ρ1, Ext hp.length ρ ρ1 ∧ hp.length ≤ (layBack hp ks (backF ks hp.length os) cs os (killAll hp ks)).length ∧
      AVR C (layBack hp ks (backF ks hp.length os) cs os (killAll hp ks)).length ρ1 ((r.back cs).ren (backF ks hp.length os)) rv ∧ HR C ρ1 (layBack hp ks (backF ks hp.length os) cs os (killAll hp ks)) w' ∧ FR C w' := by
  have hlen : (layBack hp ks (backF ks hp.length os) cs os (killAll hp ks)).length = hp.length + cnt os := by rw [lay_len, kill_len]
  have E : Ext hp.length ρ (rhoB ρc os 0 hp.length ρ) := rhoB_ext os 0 hp.length ρ
  have K := fun i k h => keys_get (ρc := ρc) (ks := ks) os 0 hp.length ρ i k h
  -- the table behind a key that came back
  have key : ∀ i k o, os[i]? = some o → backF ks hp.length os i = some k → k < hp.length + cnt os ∧ ((rhoB ρc os 0 hp.length ρ) k).hdr = (ρc i).hdr ∧ ((∃ a m c, (ρc i).hdr = .slice a m c) → ((rhoB ρc os 0 hp.length ρ) k).size = (ρc i).size) := by
    intro i k o ho hk
    obtain ⟨o', ho', h⟩ := K i k hk
    rw [ho] at ho'; simp at ho'; subst ho'
    rcases h with ⟨t, ht, rfl⟩ | ⟨ht, h1, h2, h3⟩
    · obtain ⟨kk, h1, h2, h3, h4, h5⟩ := tagged_at hf hc ho ht
      have hlt := (hf.alive kk h3).lt
      rw [h2]
      refine ⟨by omega, by rw [E kk hlt, h4], fun e => by rw [E kk hlt, h5 e]⟩
    · simp only [Nat.zero_add] at h3
      exact ⟨h2, by rw [h3], fun _ => by rw [h3]⟩
  have T : Turn os.length (hp.length + cnt os) ρc (rhoB ρc os 0 hp.length ρ) (backF ks hp.length os) := by
    refine ⟨fun k j hk h => ?_⟩
    exact key k j os[k] (by simp [hk]) h
  -- an object that is there then
  have ob : ∀ k ob, (layBack hp ks (backF ks hp.length os) cs os (killAll hp ks))[k]? = some ob → ob ≠ .dead → (k ∉ ks ∧ hp[k]? = some ob) ∨ ∃ i o, os[i]? = some o ∧ backF ks hp.length os i = some k ∧ ob = laid hp ks (backF ks hp.length os) cs o ∧ o ≠ .dead := by
    intro k ob h hd
    rcases lay_get os _ k ob h with h | ⟨i, o, h1, h2, h3⟩
    · exact .inl (kill_get ks hp k ob h hd)
    · rw [kill_len] at h2
      exact .inr ⟨i, o, h1, h2, h3, by rintro rfl; exact hd h3⟩
  -- an elder block stays
  have old : ∀ k b, k ∉ ks → alive hp k → blkOf (ρ k).hdr = some b → w'.heap[b]? = w.heap[b]? := by
    intro k b hk hal hb
    refine hF'.block b (hH.lt hal hb).2 ?_
    rintro ⟨j, hj, e⟩
    exact hH.ne k j b (fun e => hk (e ▸ hj)) hal (hf.alive j hj) hb e
  have oldne : ∀ k b i o, k ∉ ks → alive hp k → blkOf (ρ k).hdr = some b → os[i]? = some o → o ≠ .dead → blkOf (ρc i).hdr ≠ some b := by
    intro k b i o hk hal hb ho hd e
    rcases ((hc.ob i o ho).lt hd e).1 with ⟨j, hj, e'⟩ | h
    · exact hH.ne k j b (fun e => hk (e ▸ hj)) hal (hf.alive j hj) hb e'
    · exact absurd (hH.lt hal hb).2 (Nat.not_lt.2 h)
  refine ⟨rhoB ρc os 0 hp.length ρ, E, by omega, ?_, ⟨fun k ob' h => ?_, fun j k b hjk hj hk hb => ?_⟩, callee_fr hF hH hf hF'⟩
  · rw [hlen]; exact AVR.ren T (backA_ok hF hl hr)
  · by_cases hd : ob' = .dead
    · subst hd; trivial
    rw [hlen]
    rcases ob k ob' h hd with ⟨h1, h2⟩ | ⟨i, o, h1, h2, rfl, h4⟩
    · have hal : alive hp k := ⟨_, h2, hd⟩
      exact ((hH.ob k ob' h2).world fun b hb => old k b h1 hal hb).ext (by omega) E hal.lt
    · obtain ⟨k1, k2, k3⟩ := key i k o h1 h2
      have hO := hc.ob i o h1
      cases o with
      | dead => exact absurd rfl h4
      | rows g c =>
        obtain ⟨e1, e2, e0, e3⟩ := hO
        have hsl : ∃ a m c, (ρc i).hdr = .slice a m c := by
          rcases e3 with ⟨e, _⟩ | ⟨b, o, cap, cur, T, fr, e, _⟩
          · exact ⟨_, _, _, e⟩
          · exact ⟨_, _, _, e⟩
        have main : ∀ g', (∀ i, g' = some i → C.r0 i = rhoB ρc os 0 hp.length ρ k) → ObR C (hp.length + cnt os) (rhoB ρc os 0 hp.length ρ) w' k (.rows g' c) := by
          intro g' hg'
          refine ⟨e1, by rw [← e2]; exact k3 hsl, hg', ?_⟩
          rw [k2]
          rcases e3 with e3 | ⟨b, o, cap, cur, T, fr, e, hown, rest⟩
          · exact .inl e3
          · exact .inr ⟨b, o, cap, cur, T, fr, e, callee_own hF hH hf hown, rest⟩
        cases g with
        | none => exact main none (by simp)
        | some t =>
          obtain ⟨kk, q1, q2, q3, q4, q5⟩ := tagged_at hf hc h1 rfl
          refine main _ fun i' hi' => ?_
          rw [q2] at hi'
          obtain ⟨ob2, ho2, hd2⟩ := hf.alive kk q3
          rw [ho2] at hi'
          have hk' : rhoB ρc os 0 hp.length ρ k = ρ kk := by
            obtain ⟨o', ho', hh⟩ := K i k h2
            rw [h1] at ho'; simp at ho'; subst ho'
            rcases hh with ⟨t', ht', rfl⟩ | ⟨ht', _⟩
            · simp [tagged] at ht'; subst ht'
              rw [q2]; exact E kk (hf.alive kk q3).lt
            · simp [tagged] at ht'
          rw [hk']
          cases ob2 with
          | dead => exact absurd rfl hd2
          | rows g2 c2 =>
            simp only [orgOf] at hi'
            exact (hH.ob kk _ ho2).2.2.1 i' hi'
          | cells g2 l2 =>
            obtain ⟨b2, _, _, e', _⟩ := hH.ob kk _ ho2
            obtain ⟨a, m, c', e''⟩ := hsl
            rw [q4, e'] at e''; simp at e''
      | cells g l =>
        obtain ⟨b, T', cur, e, hown, hh, hv, hg⟩ := hO
        have hv' := VRL.ren T (backL_ok hF hl hv)
        cases g with
        | none => exact ⟨b, T', cur, by rw [k2]; exact e, callee_own hF hH hf hown, hh, hv', by simp⟩
        | some t =>
          obtain ⟨kk, q1, q2, q3, q4, q5⟩ := tagged_at hf hc h1 rfl
          refine ⟨b, T', cur, by rw [k2]; exact e, callee_own hF hH hf hown, hh, hv', fun i' hi' => ?_⟩
          rw [q2] at hi'
          obtain ⟨ob2, ho2, hd2⟩ := hf.alive kk q3
          rw [ho2] at hi'
          cases ob2 with
          | dead => exact absurd rfl hd2
          | rows g2 c2 =>
            obtain ⟨_, _, _, e'⟩ := hH.ob kk _ ho2
            rw [← q4, e] at e'
            rcases e' with ⟨e', _⟩ | ⟨_, _, _, _, _, _, e', _⟩ <;> simp at e'
          | cells g2 l2 =>
            simp only [orgOf] at hi'
            obtain ⟨_, _, _, _, _, _, _, hg2⟩ := hH.ob kk _ ho2
            rw [hg2 i' hi', k2, q4]
  · obtain ⟨o1, ho1, hd1⟩ := hj
    obtain ⟨o2, ho2, hd2⟩ := hk
    rcases ob j o1 ho1 hd1 with ⟨h1, h2⟩ | ⟨i1, p1, h1, h2, _, h4⟩
    · have al1 : alive hp j := ⟨_, h2, hd1⟩
      rw [E j al1.lt] at hb
      rcases ob k o2 ho2 hd2 with ⟨g1, g2⟩ | ⟨i2, p2, g1, g2, _, g4⟩
      · have al2 : alive hp k := ⟨_, g2, hd2⟩
        rw [E k al2.lt]
        exact hH.ne j k b hjk al1 al2 hb
      · rw [(key i2 k p2 g1 g2).2.1]
        exact oldne j b i2 p2 h1 al1 hb g1 g4
    · rw [(key i1 j p1 h1 h2).2.1] at hb
      rcases ob k o2 ho2 hd2 with ⟨g1, g2⟩ | ⟨i2, p2, g1, g2, _, g4⟩
      · have al2 : alive hp k := ⟨_, g2, hd2⟩
        rw [E k al2.lt]
        intro e
        exact oldne k b i1 p1 g1 al2 e h1 h4 hb
      · rw [(key i2 k p2 g1 g2).2.1]
        refine hc.ne i1 i2 b ?_ ⟨_, h1, h4⟩ ⟨_, g1, g4⟩ hb
        rintro rfl
        rw [h2] at g2; simp at g2; exact hjk g2
end
end Go.X
