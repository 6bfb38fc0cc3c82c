import Derived.Test.YthcbhmgjkecppaaAo
set_option linter.unusedVariables false
namespace Go.X
/-! ### regions that draw their order -/
section
variable {Γ : Nat → Callee}
theorem rank_zero (ld : List Bool) : rank ld 0 = 0 := rfl
theorem rank_succ (b : Bool) (ld : List Bool) (k : Nat) : rank (b :: ld) (k + 1) = (if b = true then 1 else 0) + rank ld k := by
  cases b <;> simp [rank]; omega
/-- A run in the text's order, step by step. -/
theorem trace_of : ∀ (l : List (AI × Bool)) (env : Env) (hp : List Ob) (hs : List (List Ob)) (envN : Env) (hpN : List Ob) (hsN : List (List Ob)), evDs Γ l env hp hs = some (envN, hpN, hsN) → (∀ p ∈ l, p.2 = false → opKind p.1.op ≠ 2) → (∃ h0, hs = h0 ++ [hp]) →
    ∃ (E : Nat → Env) (H : Nat → List Ob) (V : Nat → AV), E 0 = env ∧ H 0 = hp ∧ E l.length = envN ∧ H l.length = hpN ∧
      (∀ i p, l[i]? = some p → stepI Γ (E i) (H i) p.1 = some (V i, H (i + 1)) ∧ E (i + 1) = putE (E i) p.1.dst (V i)) ∧
      (∀ k, k ≤ l.length → hsN[hs.length - 1 + rank (l.map (·.2)) k]? = some (H k))
  | [], env, hp, hs, envN, hpN, hsN, h, hq, ⟨h0, e⟩ => by
    simp [evDs] at h
    obtain ⟨rfl, rfl, rfl⟩ := h
    subst e
    refine ⟨fun _ => env, fun _ => hp, fun _ => .one .undef, rfl, rfl, rfl, rfl, by simp, fun k hk => ?_⟩
    simp at hk; subst hk
    simp [rank]
  | (ai, b) :: l, env, hp, hs, envN, hpN, hsN, h, hq, ⟨h0, e⟩ => by
    simp only [evDs] at h
    unfold thenD at h
    split at h
    · simp at h
    · rename_i v hp1 hst
      have hs1 : ∃ h0, (if b = true then hs ++ [hp1] else hs) = h0 ++ [hp1] := by
        cases b
        · have := quiet_step (hq (ai, false) (by simp) rfl) hst
          subst this; exact ⟨h0, by simpa using e⟩
        · exact ⟨hs, by simp⟩
      obtain ⟨E, H, V, e1, e2, e3, e4, e5, e6⟩ := trace_of l _ hp1 _ envN hpN hsN h (fun p hp hb => hq p (by simp [hp]) hb) hs1
      refine ⟨fun i => if i = 0 then env else E (i - 1), fun i => if i = 0 then hp else H (i - 1), fun i => if i = 0 then v else V (i - 1), rfl, rfl, by simpa using e3, by simpa using e4, fun i p hi => ?_, fun k hk => ?_⟩
      · cases i with
        | zero =>
          simp at hi; subst hi
          simp [e1, e2, hst]
        | succ i =>
          obtain ⟨h1, h2⟩ := e5 i p (by simpa using hi)
          simp [h1, h2]
      · cases k with
        | zero =>
          simp only [if_true, rank_zero, Nat.add_zero]
          have h6 := e6 0 (by omega)
          rw [rank_zero, e2] at h6
          subst e
          -- what was there stays
          have stay : ∀ (l : List (AI × Bool)) (env : Env) (hp : List Ob) (hs : List (List Ob)) (r : Env × List Ob × List (List Ob)), evDs Γ l env hp hs = some r → ∃ t, r.2.2 = hs ++ t := by
            intro l
            induction l with
            | nil => intro env hp hs r h; simp [evDs] at h; subst h; exact ⟨[], by simp⟩
            | cons p l ih =>
              intro env hp hs r h
              obtain ⟨ai, b⟩ := p
              simp only [evDs] at h
              unfold thenD at h
              split at h
              · simp at h
              · rename_i v hp1 _
                obtain ⟨t, ht⟩ := ih _ _ _ _ h
                rw [ht]
                cases b
                · exact ⟨t, by simp⟩
                · exact ⟨hp1 :: t, by simp⟩
          obtain ⟨t, ht⟩ := stay _ _ _ _ _ h
          simp only at ht
          rw [ht]
          cases b <;> simp
        | succ k =>
          have h6 := e6 k (by simpa using hk)
          simp only [List.map_cons, rank_succ]
          simp only [Nat.add_eq_zero_iff, Nat.one_ne_zero, and_false, if_false, Nat.add_sub_cancel]
          rw [← h6]
          congr 1
          subst e
          cases b <;> simp <;> omega
/-- What the compiler asked of a region. -/
structure Static (N : Nat) (os : List Oper) (ais : List AI) (ld : List Bool) (anc : List (List Nat)) (ck : List (Nat × List Nat)) : Prop where
  len : ais.length = N
  llen : ld.length = N
  edge : ∀ i, i < N → ∀ o, os[i]? = some o → (∀ j ∈ dirs o, j < i) ∧ ∀ j ∈ anc.getD i [], j ∈ dirs o ∨ ∃ e ∈ dirs o, j ∈ anc.getD e []
  kind : ∀ i ai, ais[i]? = some ai → (ld.getD i false = true ↔ opKind ai.op = 2)
  loud : ∀ i j, i < N → j < i → ld.getD i false = true → ld.getD j false = true → j ∈ anc.getD i []
  dst : ∀ i j d, i < N → j < i → dstAt ais i = some d → dstAt ais j ≠ some d
  tmp : ∀ i ai, ais[i]? = some ai → ∀ t ∈ aiT ai, ∀ j, j < N → dstAt ais j = some t → j = i ∨ (j < i ∧ j ∈ anc.getD i []) ∨ (i < j ∧ i ∈ anc.getD j [])
  read : ∀ i ai, ais[i]? = some ai → opKind ai.op = 1 → (∀ k, k ≤ N → offD N ld anc i k = true ∨ rank ld k = rank ld i ∨ ∃ c ∈ ck, c.1 = i ∧ rank ld k ∈ c.2) ∧
    ((∃ c ∈ ck, c.1 = i) → ∀ t ∈ aiT ai, ∀ j, j < N → i ≤ j → dstAt ais j ≠ some t)
theorem static_of {N : Nat} {os : List Oper} {ais : List AI} {ld : List Bool} {anc : List (List Nat)} {ck : List (Nat × List Nat)} (h : okD N os ais ld anc ck = true) : Static N os ais ld anc ck := by
  simp only [okD, Bool.and_eq_true, beq_iff_eq, List.all_eq_true, List.mem_range] at h
  obtain ⟨⟨h1, h2⟩, h3⟩ := h
  have at_ : ∀ i ai, ais[i]? = some ai → okAt N os ais ld anc ck i = true ∧ i < N := fun i ai hi => by
    have := (List.getElem?_eq_some_iff.1 hi).1
    exact ⟨h3 i (by omega), by omega⟩
  have un : ∀ i, i < N → ∃ ai, ais[i]? = some ai := fun i hi => ⟨_, List.getElem?_eq_getElem (by omega)⟩
  have key : ∀ i ai, ais[i]? = some ai → okEdge os anc i = true ∧ (ld.getD i false = decide (opKind ai.op = 2)) ∧ (∀ j, j < i → ld.getD i false = true → ld.getD j false = true → j ∈ anc.getD i []) ∧
      (∀ j, j < i → ai.dst = none ∨ ai.dst ≠ dstAt ais j) ∧ (∀ t ∈ aiT ai, okTmp N ais anc i t = true) ∧ (opKind ai.op = 1 → okRead N ais ld anc ck i ai = true) := by
    intro i ai hi
    have := (at_ i ai hi).1
    unfold okAt at this
    rw [hi] at this
    simp only [Bool.and_eq_true, beq_iff_eq, List.all_eq_true, List.mem_range, Bool.or_eq_true, Bool.not_eq_true', Bool.and_eq_false_iff] at this
    obtain ⟨⟨⟨⟨⟨k1, k2⟩, k3⟩, k4⟩, k5⟩, k6⟩ := this
    refine ⟨k1, k2, fun j hj a b => ?_, fun j hj => ?_, k5, fun hk => ?_⟩
    · rcases k3 j hj with (h | h) | h
      · rw [a] at h; cases h
      · rw [b] at h; cases h
      · simpa using h
    · rcases k4 j hj with h | h
      · exact .inl h
      · exact .inr (by simpa using h)
    · rcases k6 with h | h
      · simp [hk] at h
      · exact h
  refine ⟨h1, h2, fun i hi o ho => ?_, fun i ai hi => ?_, fun i j hi hj a b => ?_, fun i j d hi hj e e' => ?_, fun i ai hi t ht j hj e => ?_, fun i ai hi hk => ?_⟩
  · obtain ⟨ai, hai⟩ := un i hi
    have := (key i ai hai).1
    unfold okEdge at this
    rw [ho] at this
    simp only [Bool.and_eq_true, List.all_eq_true, decide_eq_true_eq, Bool.or_eq_true, List.any_eq_true] at this
    refine ⟨this.1, fun j hj => ?_⟩
    rcases this.2 j hj with h | ⟨e, h, h'⟩
    · exact .inl (by simpa using h)
    · exact .inr ⟨e, h, by simpa using h'⟩
  · rw [(key i ai hi).2.1]; simp
  · obtain ⟨ai, hai⟩ := un i hi
    exact (key i ai hai).2.2.1 j hj a b
  · obtain ⟨ai, hai⟩ := un i hi
    have : dstAt ais i = ai.dst := by simp [dstAt, hai]
    rw [this] at e
    rcases (key i ai hai).2.2.2.1 j hj with h | h
    · rw [h] at e; cases e
    · rw [e] at h; exact h (e'.symm)
  · have := (key i ai hi).2.2.2.2.1 t ht
    simp only [okTmp, List.all_eq_true, List.mem_range, Bool.or_eq_true, Bool.not_eq_true', beq_eq_false_iff_ne, beq_iff_eq] at this
    rcases this j hj with (h | h) | h
    · exact absurd e h
    · exact .inl h
    · by_cases hji : j = i
      · exact .inl hji
      · split at h
        · rename_i hlt; exact .inr (.inl ⟨hlt, by simpa using h⟩)
        · exact .inr (.inr ⟨by omega, by simpa using h⟩)
  · have := (key i ai hi).2.2.2.2.2 hk
    simp only [okRead, Bool.and_eq_true, List.all_eq_true, List.mem_range, Bool.or_eq_true, beq_iff_eq, List.any_eq_true, Bool.not_eq_true', decide_eq_true_eq, beq_eq_false_iff_ne] at this
    obtain ⟨k1, k2⟩ := this
    refine ⟨fun k hk => ?_, fun hc t ht j hj hij => ?_⟩
    · rcases k1 k (by omega) with (h | h) | ⟨c, h, h', h''⟩
      · exact .inl h
      · exact .inr (.inl h)
      · exact .inr (.inr ⟨c, h, h', by simpa using h''⟩)
    · rcases k2 with h | ⟨_, h⟩
      · obtain ⟨c, hc, e⟩ := hc
        simp only [List.any_eq_false, beq_iff_eq] at h
        exact absurd e (h c hc)
      · rcases h t ht j hj with h | h
        · omega
        · exact h
variable {C : Cx} {n : Nat}
theorem instrs_get {P : Program} {ops : Array Oper} : ∀ {l : List Oper} {ais : List AI}, cInstrs P n ops l = some ais → ais.length = l.length ∧ ∀ (i : Nat) (o : Oper), l[i]? = some o → ∃ ai, ais[i]? = some ai ∧ cInstr P n ops o = some ai
  | [], ais, h => by simp [cInstrs] at h; subst h; simp
  | o :: l, ais, h => by
    simp only [cInstrs] at h
    obtain ⟨ai, hi, h⟩ := bind_some h
    obtain ⟨ais', hc, rfl⟩ := map_some h
    obtain ⟨h1, h2⟩ := instrs_get hc
    refine ⟨by simp [h1], fun i o' ho => ?_⟩
    cases i with
    | zero => simp at ho; subst ho; exact ⟨ai, rfl, hi⟩
    | succ i => simpa using h2 i o' (by simpa using ho)
theorem filter_lt {p q : Nat → Bool} {i : Nat} : ∀ {l : List Nat}, (∀ x, q x = true → p x = true) → i ∈ l → p i = true → q i = false → (l.filter q).length < (l.filter p).length
  | [], _, h, _, _ => by simp at h
  | x :: l, hpq, h, hp, hq => by
    have mono : ∀ l : List Nat, (l.filter q).length ≤ (l.filter p).length := by
      intro l
      induction l with
      | nil => simp
      | cons y l ih =>
        by_cases hy : q y = true
        · simp [hy, hpq y hy]; exact ih
        · by_cases hy' : p y = true
          · simp [hy, hy']; omega
          · simp [hy, hy']; exact ih
    by_cases e : x = i
    · subst e
      simp [hp, hq]
      have := mono l; omega
    · have hi : i ∈ l := by simpa [Ne.symm e] using h
      have ih := filter_lt hpq hi hp hq
      by_cases hy : q x = true
      · simp [hy, hpq x hy]; exact ih
      · by_cases hy' : p x = true
        · simp [hy, hy']; omega
        · simp [hy, hy']; exact ih
def doneD (listed : Array Bool) (j : Nat) : Prop := listed.getD j false = true
structure DInv (C : Cx) (n N : Nat) (ops : Array Oper) (ais : List AI) (ld : List Bool) (E0 : Env) (H : Nat → List Ob) (V : Nat → AV) (listed : Array Bool) (a : Act) (w : World) (k : Nat) (ρ : Nat → RV) (Ed : Env) : Prop where
  size : listed.size = N
  le : k ≤ N
  closed : ∀ (i : Nat) (o : Oper), ops[i]? = some o → doneD listed i → ∀ e ∈ dirs o, doneD listed e
  loud : ∀ j, j < N → ld.getD j false = true → (doneD listed j ↔ j < k)
  val : ∀ j d, doneD listed j → dstAt ais j = some d → getT d Ed = V j
  old : ∀ t, (∀ j, doneD listed j → dstAt ais j ≠ some t) → getT t Ed = getT t E0
  st : StR C ρ n Ed (H k) a w
theorem mem_dirs {o : Oper} {j : Nat} : j ∈ dirs o ↔ ∃ e ∈ o.after, Region.binds .any e = true ∧ e.on = j := by
  simp only [dirs, List.mem_map, List.mem_filter, Array.mem_toList_iff]
  constructor
  · rintro ⟨e, ⟨h1, h2⟩, h3⟩; exact ⟨e, h1, h2, h3⟩
  · rintro ⟨e, h1, h2, h3⟩; exact ⟨e, ⟨h1, h2⟩, h3⟩
theorem done_set {listed : Array Bool} {i j : Nat} (hi : i < listed.size) : doneD (listed.setIfInBounds i true) j ↔ doneD listed j ∨ j = i := by
  unfold doneD
  by_cases e : j = i
  · subst e; simp [hi]
  · rw [getD_set_ne false (Ne.symm e)]; simp [e]
mutual
theorem SV.plain_ren {v : SV} (f : Nat → Option Nat) (h : v.plain = true) : v.ren f = v := by
  cases v <;> first | rfl | simp [SV.plain] at h
theorem plainL_ren (f : Nat → Option Nat) : ∀ {l : List SV}, plainL l = true → renL f l = l
  | [], _ => rfl
  | v :: l, h => by
    simp only [plainL, Bool.and_eq_true] at h
    simp only [renL, SV.plain_ren f h.1, plainL_ren f h.2]
end
mutual
theorem AV.plain_ren (f : Nat → Option Nat) : ∀ {v : AV}, v.plain = true → v.ren f = v
  | .one v, h => by simp only [AV.plain] at h; simp only [AV.ren, SV.plain_ren f h]
  | .agg l, h => by simp only [AV.plain] at h; simp only [AV.ren, plainL_ren f h]
  | .tup l, h => by simp only [AV.plain] at h; simp only [AV.ren, plainT_ren f h]
theorem plainT_ren (f : Nat → Option Nat) : ∀ {l : List AV}, plainT l = true → renT f l = l
  | [], _ => rfl
  | v :: l, h => by
    simp only [plainT, Bool.and_eq_true] at h
    simp only [renT, AV.plain_ren f h.1, plainT_ren f h.2]
end
theorem SV.plain_back {v : SV} (cs : List SV) (h : v.plain = true) : v.back cs = v := by
  cases v <;> first | rfl | simp [SV.plain] at h
theorem plainL_back (cs : List SV) : ∀ {l : List SV}, plainL l = true → backL cs l = l
  | [], _ => rfl
  | v :: l, h => by
    simp only [plainL, Bool.and_eq_true] at h
    simp only [backL, SV.plain_back cs h.1, plainL_back cs h.2]
mutual
theorem AV.plain_back (cs : List SV) : ∀ {v : AV}, v.plain = true → v.back cs = v
  | .one v, h => by simp only [AV.plain] at h; simp only [AV.back, SV.plain_back cs h]
  | .agg l, h => by simp only [AV.plain] at h; simp only [AV.back, plainL_back cs h]
  | .tup l, h => by simp only [AV.plain] at h; simp only [AV.back, plainT_back cs h]
theorem plainT_back (cs : List SV) : ∀ {l : List AV}, plainT l = true → backT cs l = l
  | [], _ => rfl
  | v :: l, h => by
    simp only [plainT, Bool.and_eq_true] at h
    simp only [backT, AV.plain_back cs h.1, plainT_back cs h.2]
end
theorem SV.plain_lend {v : SV} (hp : List Ob) (ks : List Nat) (t : Nat) (h : v.plain = true) : v.lend hp ks t = v := by
  cases v <;> first | rfl | simp [SV.plain] at h
theorem plainL_lend (hp : List Ob) (ks : List Nat) : ∀ {l : List SV} (t : Nat), plainL l = true → lendL hp ks t l = l
  | [], _, _ => rfl
  | v :: l, t, h => by
    simp only [plainL, Bool.and_eq_true] at h
    simp only [lendL, SV.plain_lend hp ks t h.1, plainL_lend hp ks (t + 1) h.2]
theorem plainArgs_lend (hp : List Ob) (ks : List Nat) : ∀ {l : List AV} (t : Nat), plainArgs l = true → lendArgs hp ks t l = l
  | [], _, _ => rfl
  | .one v :: l, t, h => by
    simp only [plainArgs, Bool.and_eq_true] at h
    simp only [lendArgs, AV.lend, AV.ren, SV.plain_lend hp ks t h.1, SV.plain_ren _ h.1, plainArgs_lend hp ks _ h.2]
  | .agg m :: l, t, h => by
    simp only [plainArgs, Bool.and_eq_true] at h
    simp only [lendArgs, AV.lend, AV.ren, plainL_lend hp ks t h.1, plainL_ren _ h.1, plainArgs_lend hp ks _ h.2]
  | .tup _ :: _, _, h => by simp [plainArgs] at h
theorem plainL_append : ∀ {l m : List SV}, plainL l = true → plainL m = true → plainL (l ++ m) = true
  | [], _, _, h => h
  | v :: l, m, h, h' => by
    simp only [plainL, List.cons_append, Bool.and_eq_true] at h ⊢
    exact ⟨h.1, plainL_append h.2 h'⟩
theorem plainArgs_cells : ∀ {l : List AV}, plainArgs l = true → plainL (avsCells l) = true
  | [], _ => rfl
  | .one v :: l, h => by
    simp only [plainArgs, Bool.and_eq_true] at h
    simp only [avsCells, avCells]
    exact plainL_append (by simp [plainL, h.1]) (plainArgs_cells h.2)
  | .agg m :: l, h => by
    simp only [plainArgs, Bool.and_eq_true] at h
    simp only [avsCells, avCells]
    exact plainL_append h.1 (plainArgs_cells h.2)
  | .tup _ :: _, h => by simp [plainArgs] at h
theorem plain_reachSV {v : SV} (h : v.plain = true) (hp : List Ob) (n : Nat) (ks : List Nat) : reachSV hp n v ks = ks := by
  cases v <;> first | (simp [SV.plain] at h; done) | (cases n <;> simp only [reachSV])
theorem plain_reach (hp : List Ob) : ∀ {l : List SV} (n : Nat) (ks : List Nat), plainL l = true → reachL hp n (handed l) ks = ks
  | [], n, ks, _ => by cases n <;> simp only [handed, reachL]
  | v :: l, n, ks, h => by
    simp only [plainL, Bool.and_eq_true] at h
    have e : handed (v :: l) = v :: handed l := by
      have h1 := h.1
      cases v <;> first | (simp [SV.plain] at h1; done) | rfl
    rw [e]
    cases n with
    | zero => simp only [reachL]
    | succ n => simp only [reachL, plain_reachSV h.1]; exact plain_reach hp n ks h.2
theorem pure_call {hp hp1 : List Ob} {f : Nat} {args : List AV} {v : AV} (h : pureCall Γ hp f args = some (v, hp1)) : callee Γ hp f args = some (v, hp1) := by
  unfold pureCall at h
  split at h
  · rename_i ha
    obtain ⟨h1, h2, rfl⟩ := plainOut_some' h
    have hk : handKs hp1 args = [] := plain_reach hp1 64 [] (plainArgs_cells ha)
    unfold callee callKs
    rw [hk, plainArgs_lend hp1 [] 0 ha]
    have e : tagAll false 0 (pick hp1 (posF []) []) = [] := rfl
    rw [e, h1]
    simp only [comeBack, AV.plain_back _ h2, AV.plain_ren _ h2, killAll, layBack]
  · simp at h
theorem toP_step {ai : AI} {env : Env} {hp hp1 : List Ob} {v : AV} (h : stepI Γ env hp (toP ai) = some (v, hp1)) : stepI Γ env hp ai = some (v, hp1) := by
  obtain ⟨d, g, op⟩ := ai
  cases op <;> try exact h
  rename_i f l
  have run : ∀ {hp1 : List Ob} {v : AV}, evOp Γ env hp (.pcall f l) = some (v, hp1) → evOp Γ env hp (.call f l) = some (v, hp1) := fun h => by
    simp only [evOp] at h ⊢; exact pure_call h
  cases g with
  | none => exact run h
  | some g =>
    obtain ⟨t, b⟩ := g
    simp only [toP, stepI] at h ⊢
    generalize getT t env = c at h ⊢
    unfold stepG at h ⊢
    split at h <;> try exact h
    split at h
    · rename_i hb; rw [if_pos hb]; exact run h
    · rename_i hb; rw [if_neg hb]; exact h
theorem toP_dst (ai : AI) : (toP ai).dst = ai.dst := by
  obtain ⟨d, g, op⟩ := ai
  cases op <;> rfl
theorem draw_any {N : Nat} {ops : Array Oper} {ais : List AI} {ld : List Bool} {anc : List (List Nat)} {ck : List (Nat × List Nat)} {E : Nat → Env} {H : Nat → List Ob} {V : Nat → AV} {hs : List (List Ob)} {rts : List SV}
    (hΓ : ∀ f, Sound C.P f (Γ f)) (hN : ops.size = N) (hi : ∀ (i : Nat) (o : Oper), ops[i]? = some o → ∃ ai, ais[i]? = some ai ∧ ∃ ai0, cInstr C.P n ops o = some ai0 ∧ ai0.dst = ai.dst ∧ ∀ (env : Env) (hp hp1 : List Ob) (v : AV), stepI Γ env hp ai = some (v, hp1) → stepI Γ env hp ai0 = some (v, hp1)) (S : Static N ops.toList ais ld anc ck)
    (hstep : ∀ (i : Nat) (ai : AI), ais[i]? = some ai → stepI Γ (E i) (H i) ai = some (V i, H (i + 1)) ∧ E (i + 1) = putE (E i) ai.dst (V i))
    (hrank : ∀ k, k ≤ N → hs.getD (rank ld k) [] = H k)
    (hck : ∀ c ∈ ck, ∀ ai, ais[c.1]? = some ai → ∃ d, ai.dst = some d ∧ ∀ r ∈ c.2, ∃ hp', stepI Γ (E N) (hs.getD r []) ai = some (getT d (E N), hp')) :
    ∀ (fuel : Nat) (listed : Array Bool) (a : Act) (w : World) (k : Nat) (ρ : Nat → RV) (Ed : Env), ((List.range N).filter fun j => !listed.getD j false).length ≤ fuel → DInv C n N ops ais ld (E 0) H V listed a w k ρ Ed →
      wpAny C.P .any ops (QR C n .norm ⟨E N, rts, H N⟩) fuel listed a w := by
  -- ahead: what the order cannot touch
  have un : ∀ i, i < N → ∃ ai, ais[i]? = some ai := fun i h => ⟨_, List.getElem?_eq_getElem (by rw [S.len]; exact h)⟩
  have uo : ∀ i, i < N → ∃ o, ops[i]? = some o := fun i h => ⟨_, Array.getElem?_eq_getElem (by omega)⟩
  have dlt : ∀ j d, dstAt ais j = some d → j < N := by
    intro j d h
    unfold dstAt at h
    obtain ⟨ai, h, _⟩ := bind_some h
    have := (List.getElem?_eq_some_iff.1 h).1
    rw [S.len] at this; exact this
  have uniq : ∀ i j d, dstAt ais i = some d → dstAt ais j = some d → i = j := by
    intro i j d h1 h2
    rcases Nat.lt_trichotomy i j with h | h | h
    · exact absurd h1 (S.dst j i d (dlt _ _ h2) h h2)
    · exact h
    · exact absurd h2 (S.dst i j d (dlt _ _ h1) h h1)
  have dstE : ∀ i ai, ais[i]? = some ai → dstAt ais i = ai.dst := fun i ai h => by simp [dstAt, h]
  have look : ∀ i, i ≤ N → ∀ t, ((∀ j, j < i → dstAt ais j ≠ some t) → getT t (E i) = getT t (E 0)) ∧ (∀ j, j < i → dstAt ais j = some t → getT t (E i) = V j) := by
    intro i
    induction i with
    | zero => intro _ t; exact ⟨fun _ => rfl, fun j hj => by omega⟩
    | succ i ih =>
      intro hle t
      obtain ⟨ai, hai⟩ := un i (by omega)
      rw [(hstep i ai hai).2]
      have hd := dstE i ai hai
      obtain ⟨h1, h2⟩ := ih (by omega) t
      refine ⟨fun h => ?_, fun j hj e => ?_⟩
      · cases e : ai.dst with
        | none => simp only [putE]; exact h1 fun j hj => h j (by omega)
        | some d =>
          simp only [putE, getT]
          rw [if_neg (by rintro rfl; exact h i (by omega) (by rw [hd, e]))]
          exact h1 fun j hj => h j (by omega)
      · by_cases hji : j = i
        · subst hji
          rw [hd] at e; rw [e]; simp [putE, getT]
        · cases e' : ai.dst with
          | none => simp only [putE]; exact h2 j (by omega) e
          | some d =>
            simp only [putE, getT]
            rw [if_neg (by rintro rfl; exact hji (uniq j i t e (by rw [hd, e'])))]
            exact h2 j (by omega) e
  have lookN : ∀ i, i ≤ N → ∀ t, (∀ j, j < N → i ≤ j → dstAt ais j ≠ some t) → getT t (E N) = getT t (E i) := by
    intro i hi t h
    by_cases hex : ∃ j, j < N ∧ dstAt ais j = some t
    · obtain ⟨j, hj, e⟩ := hex
      have hji : j < i := Nat.lt_of_not_le fun h' => h j hj h' e
      rw [(look N (Nat.le_refl _) t).2 j hj e, (look i hi t).2 j hji e]
    · have h' : ∀ j, j < N → dstAt ais j ≠ some t := fun j hj e => hex ⟨j, hj, e⟩
      rw [(look N (Nat.le_refl _) t).1 h', (look i hi t).1 fun j hj => h' j (by omega)]
  have quiet : ∀ i k, k ≤ i → i ≤ N → (∀ j, k ≤ j → j < i → ld.getD j false = false) → H i = H k := by
    intro i k hki
    induction hki with
    | refl => intros; rfl
    | @step m hkm ih =>
      intro hN' hq
      obtain ⟨ai, hai⟩ := un m (by omega)
      have hl := hq m hkm (by omega)
      have hk2 : opKind ai.op ≠ 2 := fun e => by rw [(S.kind m ai hai).2 e] at hl; cases hl
      rw [quiet_step hk2 (hstep m ai hai).1]
      exact ih (by omega) fun j h1 h2 => hq j h1 (by omega)
  have anc_done : ∀ (listed : Array Bool), listed.size = N → (∀ (i : Nat) (o : Oper), ops[i]? = some o → doneD listed i → ∀ e ∈ dirs o, doneD listed e) → ∀ i, doneD listed i → ∀ j ∈ anc.getD i [], doneD listed j := by
    intro listed hsz hcl i
    induction i using Nat.strongRecOn with
    | _ i ih =>
      intro hd j hj
      have hiN : i < N := by
        rcases Nat.lt_or_ge i N with h | h
        · exact h
        · unfold doneD at hd; rw [Array.getD_eq_getD_getElem?, Array.getElem?_eq_none (by omega)] at hd; cases hd
      obtain ⟨o, ho⟩ := uo i hiN
      obtain ⟨h1, h2⟩ := S.edge i hiN o (by simpa using ho)
      rcases h2 j hj with h | ⟨e, he, h⟩
      · exact hcl i o ho hd j h
      · exact ih e (h1 e he) (hcl i o ho hd e he) j h
  -- when all is done
  have fin : ∀ (listed : Array Bool) (a : Act) (w : World) (k : Nat) (ρ : Nat → RV) (Ed : Env), DInv C n N ops ais ld (E 0) H V listed a w k ρ Ed → (∀ j, j < N → doneD listed j) → QR C n .norm ⟨E N, rts, H N⟩ .normal a w := by
    intro listed a w k ρ Ed I hall
    have hH : H N = H k := quiet N k I.le (Nat.le_refl _) fun j h1 h2 => by
      cases hl : ld.getD j false
      · rfl
      · have := (I.loud j h2 hl).1 (hall j h2); omega
    refine ⟨rfl, ρ, ⟨fun t => ?_, by rw [hH]; exact I.st.heap, I.st.fr, I.st.size, I.st.defers⟩⟩
    have hT : getT t (E N) = getT t Ed := by
      by_cases hex : ∃ j, j < N ∧ dstAt ais j = some t
      · obtain ⟨j, hj, e⟩ := hex
        rw [(look N (Nat.le_refl _) t).2 j hj e, I.val j t (hall j hj) e]
      · rw [(look N (Nat.le_refl _) t).1 fun j hj e => hex ⟨j, hj, e⟩, I.old t fun j hd e => hex ⟨j, dlt j t e, e⟩]
    rw [hT, hH]
    exact I.st.env t
  have rdy : ∀ (listed : Array Bool), listed.size = N → Region.ready .any ops listed = [] → ∀ j, j < N → doneD listed j := by
    intro listed hsz hr j
    induction j using Nat.strongRecOn with
    | _ j ih =>
      intro hj
      obtain ⟨o, ho⟩ := uo j hj
      cases hd : listed.getD j false with
      | true => exact hd
      | false =>
        exfalso
        have : j ∈ Region.ready .any ops listed := by
          rw [mem_ready]
          refine ⟨?_, o, ho, fun e he hb => ?_⟩
          · rw [Array.getD_eq_getD_getElem?, Array.getElem?_eq_getElem (by omega)] at hd ⊢; exact hd
          · have hlt := (S.edge j hj o (by simpa using ho)).1 e.on (mem_dirs.2 ⟨e, he, hb, rfl⟩)
            exact ih e.on hlt (by omega)
        rw [hr] at this; cases this
  intro fuel
  induction fuel with
  | zero =>
    intro listed a w k ρ Ed hf I
    have hall : ∀ j, j < N → doneD listed j := by
      intro j hj
      cases hd : listed.getD j false with
      | true => exact hd
      | false =>
        have : j ∈ (List.range N).filter fun j => !listed.getD j false := by simp only [List.mem_filter, List.mem_range, hd]; exact ⟨hj, rfl⟩
        have := List.length_pos_of_mem this
        omega
    refine ⟨?_, fin listed a w k ρ Ed I hall⟩
    cases hr : Region.ready .any ops listed with
    | nil => rfl
    | cons x xs =>
      exfalso
      have hx : x ∈ Region.ready .any ops listed := by rw [hr]; simp
      obtain ⟨h0, o, ho, _⟩ := mem_ready.1 hx
      have hxN : x < N := by have := (Array.getElem?_eq_some_iff.1 ho).1; omega
      have := hall x hxN
      unfold doneD at this
      rw [Array.getD_eq_getD_getElem?, Array.getElem?_eq_getElem (by rw [I.size]; exact hxN)] at h0 this
      simp at h0 this; rw [h0] at this; cases this
  | succ fuel ihf =>
    intro listed a w k ρ Ed hf I
    refine ⟨fun hr => fin listed a w k ρ Ed I (rdy listed I.size hr), fun i hir => ?_⟩
    obtain ⟨h0, o, ho, hedges⟩ := mem_ready.1 hir
    have hiN : i < N := by have := (Array.getElem?_eq_some_iff.1 ho).1; omega
    have hnd : ¬ doneD listed i := by
      unfold doneD
      rw [Array.getD_eq_getD_getElem?, Array.getElem?_eq_getElem (by rw [I.size]; exact hiN)] at h0 ⊢
      simp at h0 ⊢; exact h0
    obtain ⟨ai, hai, ai0, hci, hd0, href⟩ := hi i o ho
    have hdirs : ∀ e ∈ dirs o, doneD listed e := fun e he => by
      obtain ⟨x, h1, h2, rfl⟩ := mem_dirs.1 he
      exact hedges x h1 h2
    have hanc : ∀ j ∈ anc.getD i [], doneD listed j := fun j hj => by
      rcases (S.edge i hiN o (by simpa using ho)).2 j hj with h | ⟨e, he, h⟩
      · exact hdirs j h
      · exact anc_done listed I.size I.closed e (hdirs e he) j h
    have hback : ∀ j, doneD listed j → i ∈ anc.getD j [] → False := fun j hd hj => hnd (anc_done listed I.size I.closed j hd i hj)
    -- what the operation looks at is what it was in the text's order
    have look_i : ∀ t ∈ aiT ai, getT t Ed = getT t (E i) := by
      intro t ht
      by_cases hex : ∃ j, j < N ∧ dstAt ais j = some t
      · obtain ⟨j, hj, e⟩ := hex
        have old : ¬ doneD listed j → i ≤ j → getT t Ed = getT t (E i) := fun hd hle => by
          rw [I.old t fun j' hd' e' => hd (uniq j' j t e' e ▸ hd'), (look i (by omega) t).1 fun j' hj' e' => by have := uniq j' j t e' e; omega]
        rcases S.tmp i ai hai t ht j hj e with h | ⟨h1, h2⟩ | ⟨h1, h2⟩
        · exact old (h ▸ hnd) (by omega)
        · rw [I.val j t (hanc j h2) e, (look i (by omega) t).2 j h1 e]
        · exact old (fun hd => hback j hd h2) (by omega)
      · rw [I.old t fun j hd e => hex ⟨j, dlt j t e, e⟩, (look i (by omega) t).1 fun j hj e => hex ⟨j, by omega, e⟩]
    obtain ⟨hs1, hs2⟩ := hstep i ai hai
    -- what it comes to
    have run : ∃ k', k' ≤ N ∧ stepI Γ Ed (H k) ai = some (V i, H k') ∧ (∀ j, j < N → ld.getD j false = true → (doneD listed j ∨ j = i ↔ j < k')) := by
      have hcong : ∀ h, stepI Γ Ed h ai = stepI Γ (E i) h ai := fun h => step_congr look_i h
      have hkind := S.kind i ai hai
      by_cases h2 : opKind ai.op = 2
      · have hl := hkind.2 h2
        have hki : k ≤ i := Nat.le_of_not_lt fun h => hnd ((I.loud i hiN hl).2 h)
        have hH : H i = H k := quiet i k hki (by omega) fun j h1 h3 => by
          cases e : ld.getD j false
          · rfl
          · have := (I.loud j (by omega) e).1 (hanc j (S.loud i j hiN h3 hl e)); omega
        refine ⟨i + 1, hiN, by rw [hcong, ← hH]; exact hs1, fun j hj e => ⟨?_, fun hj' => ?_⟩⟩
        · rintro (h | h)
          · have := (I.loud j hj e).1 h; omega
          · omega
        · by_cases hji : j = i
          · exact .inr hji
          · exact .inl (hanc j (S.loud i j hiN (by omega) hl e))
      · have hl : ld.getD i false = false := by
          cases e : ld.getD i false
          · rfl
          · exact absurd (hkind.1 e) h2
        refine ⟨k, I.le, ?_, fun j hj e => ?_⟩
        · rw [hcong]
          by_cases h3 : opKind ai.op = 0
          · exact (pure_step h3 hs1).2 _
          · have h1 : opKind ai.op = 1 := by
              have : opKind ai.op ≤ 2 := by
                unfold opKind; split <;> first | omega | skip
                all_goals (split <;> omega)
              omega
            obtain ⟨hr, hr2⟩ := S.read i ai hai h1
            rcases hr k I.le with h | h | ⟨c, hc, hci', hck'⟩
            · exfalso
              simp only [offD, Bool.or_eq_true, List.any_eq_true, Bool.and_eq_true, decide_eq_true_eq, List.mem_range] at h
              rcases h with ⟨j, hj, hlj, hkj⟩ | ⟨j, hj, ⟨hlj, hkj⟩, hij⟩
              · have hjd := hanc j hj
                have hjN : j < N := by
                  rcases Nat.lt_or_ge j N with h | h
                  · exact h
                  · unfold doneD at hjd; rw [Array.getD_eq_getD_getElem?, Array.getElem?_eq_none (by rw [I.size]; omega)] at hjd; cases hjd
                have := (I.loud j hjN hlj).1 hjd
                omega
              · exact hback j ((I.loud j hj hlj).2 hkj) (by simpa using hij)
            · have hH : H k = H i := by rw [← hrank k I.le, ← hrank i (by omega), h]
              have hq : H (i + 1) = H i := quiet_step h2 hs1
              rw [hH]; rw [hq] at hs1; exact hs1
            · obtain ⟨d, hd, hrun⟩ := hck c hc ai (by rw [hci']; exact hai)
              obtain ⟨hp4, h4⟩ := hrun _ hck'
              rw [hrank k I.le] at h4
              obtain rfl := quiet_step h2 h4
              rw [step_congr (env' := E i) fun t ht => lookN i (by omega) t fun j hj hij => hr2 ⟨c, hc, hci'⟩ t ht j hj hij] at h4
              rw [h4, (look N (Nat.le_refl _) d).2 i hiN (by rw [dstE i ai hai, hd])]
        · constructor
          · rintro (h | h)
            · exact (I.loud j hj e).1 h
            · subst h; rw [hl] at e; cases e
          · intro h; exact .inl ((I.loud j hj e).2 h)
    obtain ⟨k', hk', hrun, hloud⟩ := run
    obtain ⟨hdc, hdst0, _, _⟩ := instr_inv hci
    have hdst : ai.dst = o.dst := by rw [← hd0]; exact hdst0
    have hsz : i < listed.size := by rw [I.size]; exact hiN
    have key := step_ok (K := wpAny C.P .any ops (QR C n .norm ⟨E N, rts, H N⟩) fuel (listed.setIfInBounds i true)) (Q := QR C n .norm ⟨E N, rts, H N⟩) hΓ hci I.st (href _ _ _ _ hrun) (fun ρ' u w' h1 h2 h3 h4 h5 => by
      refine ihf _ _ _ k' ρ' (putE Ed o.dst (V i)) ?_ ⟨by simp [I.size], hk', fun j o' ho' hd e he => ?_, fun j hj e => ?_, fun j d hd e => ?_, fun t ht => ?_, I.st.next h1 h2 h3 h4 h5 hdc⟩
      · have : ((List.range N).filter fun j => !(listed.setIfInBounds i true).getD j false).length < ((List.range N).filter fun j => !listed.getD j false).length := by
          refine filter_lt (i := i) (fun x hx => ?_) (List.mem_range.2 hiN) ?_ ?_
          · simp only [Bool.not_eq_true'] at hx ⊢
            cases e : listed.getD x false
            · rfl
            · rw [getD_set_true e] at hx; cases hx
          · simp only [Bool.not_eq_true']
            cases e : listed.getD i false
            · rfl
            · exact absurd e hnd
          · simp only [Bool.not_eq_false']
            exact (done_set hsz).2 (.inr rfl)
        omega
      · rw [done_set hsz] at hd ⊢
        rcases hd with hd | rfl
        · exact .inl (I.closed j o' ho' hd e he)
        · rw [ho] at ho'; simp at ho'; subst ho'
          exact .inl (hdirs e he)
      · rw [done_set hsz]; exact hloud j hj e
      · rw [done_set hsz] at hd
        have hdi := dstE i ai hai
        by_cases hji : j = i
        · subst hji
          rw [hdi, hdst] at e
          rw [e]; simp [putE, getT]
        · have hd' : doneD listed j := hd.resolve_right hji
          cases e' : o.dst with
          | none => simp only [putE]; exact I.val j d hd' e
          | some d' =>
            simp only [putE, getT]
            rw [if_neg (by rintro rfl; exact hji (uniq j i d e (by rw [hdi, hdst, e'])))]
            exact I.val j d hd' e
      · have hdi := dstE i ai hai
        cases e' : o.dst with
        | none => simp only [putE]; exact I.old t fun j hd => ht j ((done_set hsz).2 (.inl hd))
        | some d' =>
          simp only [putE, getT]
          rw [if_neg (by rintro rfl; exact ht i ((done_set hsz).2 (.inr rfl)) (by rw [hdi, hdst, e']))]
          exact I.old t fun j hd => ht j ((done_set hsz).2 (.inl hd)))
    unfold wpOp
    rw [ho]
    simp only
    split
    · rename_i hw; rw [if_pos hw] at key; exact .inl key
    · rename_i hw; rw [if_neg hw] at key; exact key
theorem ckKs_mem {env : Env} {hs : List (List Ob)} {ai : AI} {v : AV} : ∀ {ks : List Nat}, ckKs Γ env hs ai v ks = true → ∀ r ∈ ks, ∃ hp', stepI Γ env (hs.getD r []) ai = some (v, hp')
  | [], _, r, h => by simp at h
  | k :: ks, h, r, hr => by
    simp only [ckKs, Bool.and_eq_true] at h
    rcases List.mem_cons.1 hr with e | e
    · subst e
      have h1 := h.1
      unfold ckR at h1
      split at h1
      · cases h1
      · rename_i u hp' e; rw [e, AV.same_eq h1]; exact ⟨hp', rfl⟩
    · exact ckKs_mem h.2 r e
theorem ckAll_mem {l : List (AI × Bool)} {env : Env} {hs : List (List Ob)} : ∀ {cs : List (Nat × List Nat)}, ckAll Γ l env hs cs = true → ∀ c ∈ cs, ckAt Γ env hs c.2 l[c.1]? = true
  | [], _, c, h => by simp at h
  | x :: cs, h, c, hc => by
    simp only [ckAll, Bool.and_eq_true] at h
    rcases List.mem_cons.1 hc with e | e
    · subst e; exact h.1
    · exact ckAll_mem h.2 c e
theorem zip_get {ais : List AI} {ld : List Bool} (hl : ais.length = ld.length) {i : Nat} {ai : AI} (h : ais[i]? = some ai) : (ais.zip ld)[i]? = some (ai, ld.getD i false) := by
  have := (List.getElem?_eq_some_iff.1 h).1
  rw [List.getElem?_zip_eq_some]
  exact ⟨h, by simp [List.getD, List.getElem?_eq_getElem (show i < ld.length by omega)]⟩
theorem draw_ok {K : Nat} {id : Nat} {ops : Array Oper} {ais : List AI} {ac : AC} {st st' : St} {ex : Ex} {ρ : Nat → RV} {a : Act} {w : World} (hΓ : ∀ f, Sound C.P f (Γ f)) (hm : C.P.follows .mixedOrders = true) (hi : ∀ (i : Nat) (o : Oper), ops[i]? = some o → ∃ ai, ais[i]? = some ai ∧ ∃ ai0, cInstr C.P n ops o = some ai0 ∧ ai0.dst = ai.dst ∧ ∀ (env : Env) (hp hp1 : List Ob) (v : AV), stepI Γ env hp ai = some (v, hp1) → stepI Γ env hp ai0 = some (v, hp1)) (hc : drawD ops.toList ais = some ac)
    (hst : StR C ρ n st.env st.hp a w) (h : evC Γ K ac st = some (ex, st')) : (Code.region id ops true).wp C.P (QR C n ex st') a w := by
  unfold drawD at hc
  generalize (ais.map fun a => decide (opKind a.op = 2)) = ld at hc
  generalize ancL ops.toList [] = anc at hc
  generalize ckOf ops.toList.length ais ld anc = ck at hc
  unfold drawC at hc
  split at hc
  · rename_i hok
    simp at hc; subst hc
    have S := static_of hok
    have hN : ops.toList.length = ops.size := by simp
    rw [hN] at S
    have hlen : ais.length = ld.length := by rw [S.len, S.llen]
    simp only [evC] at h
    unfold normC at h
    split at h
    · simp at h
    · rename_i st1 hs1
      simp at h; obtain ⟨rfl, rfl⟩ := h
      unfold finD at hs1
      split at hs1
      · simp at hs1
      · rename_i envN hpN hsN hev
        split at hs1
        · rename_i hck
          simp at hs1; subst hs1
          obtain ⟨E, H, V, e1, e2, e3, e4, e5, e6⟩ := trace_of _ _ _ _ _ _ _ hev (fun p hp hb => by
            obtain ⟨i, hi'⟩ := List.getElem?_of_mem hp
            rw [List.getElem?_zip_eq_some] at hi'
            obtain ⟨h1, h2⟩ := hi'
            intro e
            have := (S.kind i p.1 h1).2 e
            simp [List.getD, h2, hb] at this) ⟨[], rfl⟩
          have hzl : (ais.zip ld).length = ops.size := by simp [S.len, S.llen]
          rw [hzl] at e3 e4 e6
          have hmap : (ais.zip ld).map (·.2) = ld := by
            rw [List.map_snd_zip (by omega)]
          rw [hmap] at e6
          subst e3 e4
          refine wp_region_any hm ?_
          refine draw_any (hs := hsN) (anc := anc) (ck := ck) (V := V) hΓ rfl hi S (fun i ai hai => ?_) (fun k hk => ?_) (fun c hc ai hai => ?_) ops.size _ a _ 0 ρ st.env ?_ ?_
          · exact e5 i _ (zip_get hlen hai)
          · have := e6 k hk
            simp at this
            simp [List.getD, this]
          · have := ckAll_mem hck c hc
            rw [zip_get hlen hai] at this
            obtain ⟨dst, g, op⟩ := ai
            cases dst with
            | none => cases this
            | some d => exact ⟨d, rfl, fun r hr => ckKs_mem this r hr⟩
          · exact Nat.le_trans (List.length_filter_le _ _) (by simp)
          · have hno : ∀ j, ¬ doneD (Array.replicate ops.size false) j := by
              intro j h
              unfold doneD at h
              rw [Array.getD_eq_getD_getElem?, Array.getElem?_replicate] at h
              split at h <;> simp at h
            refine ⟨by simp, Nat.zero_le _, fun i o ho hd => absurd hd (hno i), fun j hj e => ⟨fun h => absurd h (hno j), fun h => by omega⟩, fun j d hd => absurd hd (hno j), fun t _ => by rw [e1], ?_⟩
            rw [e2]
            exact ⟨hst.env, hst.heap.drew, hst.fr.drew, hst.size, hst.defers⟩
        · simp at hs1
  · simp at hc
theorem drawE_ok {K : Nat} {id : Nat} {ops : Array Oper} {ais : List AI} {ac : AC} {st st' : St} {ex : Ex} {ρ : Nat → RV} {a : Act} {w : World} (hΓ : ∀ f, Sound C.P f (Γ f)) (hm : C.P.follows .mixedOrders = true) (hi : cInstrs C.P n ops ops.toList = some ais) (hc : drawE ops.toList ais = some ac)
    (hst : StR C ρ n st.env st.hp a w) (h : evC Γ K ac st = some (ex, st')) : (Code.region id ops true).wp C.P (QR C n ex st') a w := by
  have hget : ∀ (i : Nat) (o : Oper), ops[i]? = some o → ∃ ai, ais[i]? = some ai ∧ cInstr C.P n ops o = some ai := fun i o ho => (instrs_get hi).2 i o (by simpa using ho)
  unfold drawE at hc
  split at hc
  · rename_i ac' hc'
    simp at hc; subst hc
    refine draw_ok hΓ hm (fun i o ho => ?_) hc' hst h
    obtain ⟨ai, h1, h2⟩ := hget i o ho
    exact ⟨ai, h1, ai, h2, rfl, fun _ _ _ _ h => h⟩
  · refine draw_ok hΓ hm (fun i o ho => ?_) hc hst h
    obtain ⟨ai, h1, h2⟩ := hget i o ho
    exact ⟨toP ai, by rw [List.getElem?_map, h1]; rfl, ai, h2, (toP_dst ai).symm, fun _ _ _ _ h => toP_step h⟩
end
end Go.X
