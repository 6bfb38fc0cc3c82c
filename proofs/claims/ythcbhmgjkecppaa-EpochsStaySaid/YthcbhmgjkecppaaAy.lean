import Derived.Test.YthcbhmgjkecppaaAp
set_option linter.unusedVariables false
set_option linter.unusedSimpArgs false
namespace Go.X
/-! ### objects in slots that are kept for them -/
section
variable {C : Cx} {n n' : Nat} {ρ ρ' : Nat → RV} {s : Nat}
/-- A slot that is not filled: no value names it. -/
def Poison (ρ : Nat → RV) (s : Nat) : Prop := (ρ s).hdr = .bool false
mutual
theorem VR.fill (hs : Poison ρ s) (he : ∀ k, k ≠ s → ρ' k = ρ k) : ∀ {v : SV} {u : Value}, VR C n ρ v u → VR C n ρ' v u
  | _, _, .undef v => .undef v
  | _, _, .int k x => .int k x
  | _, _, .bool b => .bool b
  | _, _, .str t => .str t
  | _, _, .nilp => .nilp
  | _, _, .nilf => .nilf
  | _, _, .nils c h hw => .nils c h hw
  | _, _, .ro t c a cap h hc => .ro t c a cap h hc
  | _, _, .rptr t c i o b q h hi => .rptr t c i o b q h hi
  | _, _, .fn g caps cs h => .fn g _ cs (VRL.fill hs he h)
  | _, _, .ptr k o b hk h => by
    have e := he k (by rintro rfl; rw [hs] at h; cases h)
    exact .ptr k o b hk (by rw [e]; exact h)
  | _, _, .eptr k i o b q m cap hk h hi => by
    have e := he k (by rintro rfl; rw [hs] at h; cases h)
    rw [← e]; exact .eptr k i o b q m cap hk (by rw [e]; exact h) hi
  | _, _, .row k a m cap hk h => by
    have e := he k (by rintro rfl; rw [hs] at h; cases h)
    exact .row k a m cap hk (by rw [e]; exact h)
  | _, _, .viewNil k hk h => by
    have e := he k (by rintro rfl; rw [hs] at h; cases h)
    exact .viewNil k hk (by rw [e]; exact h)
  | _, _, .view k o m b q len cap q' hk h hl hc hq hq' => by
    have e := he k (by rintro rfl; rw [hs] at h; cases h)
    exact .view k o m b q len cap q' hk (by rw [e]; exact h) hl hc (by rw [e]; exact hq) (by rw [e]; exact hq')
  | _, _, .cview k o m b q cap hk h hq hc => by
    have e := he k (by rintro rfl; rw [hs] at h; cases h)
    exact .cview k o m b q cap hk (by rw [e]; exact h) hq hc
theorem VRL.fill (hs : Poison ρ s) (he : ∀ k, k ≠ s → ρ' k = ρ k) : ∀ {l : List SV} {vs : List Value}, VRL C n ρ l vs → VRL C n ρ' l vs
  | _, _, .nil => .nil
  | _, _, .cons a v l vs h hl => .cons a v l vs (VR.fill hs he h) (VRL.fill hs he hl)
end
mutual
theorem AVR.fill (hs : Poison ρ s) (he : ∀ k, k ≠ s → ρ' k = ρ k) : ∀ {v : AV} {u : Value}, AVR C n ρ v u → AVR C n ρ' v u
  | _, _, .one a v h => .one a v (VR.fill hs he h)
  | _, _, .agg l vs h => .agg l vs (VRL.fill hs he h)
  | _, _, .tup l vs h => .tup l vs (AVRL.fill hs he h)
theorem AVRL.fill (hs : Poison ρ s) (he : ∀ k, k ≠ s → ρ' k = ρ k) : ∀ {l : List AV} {vs : List Value}, AVRL C n ρ l vs → AVRL C n ρ' l vs
  | _, _, .nil => .nil
  | _, _, .cons a v l vs h hl => .cons a v l vs (AVR.fill hs he h) (AVRL.fill hs he hl)
end
/-- The last object moved to a slot. -/
def mvKey (L s k : Nat) : Option Nat := if k = L then some s else if k = s then none else some k
def fillR (ρ : Nat → RV) (s : Nat) (r : RV) (k : Nat) : RV := if k = s then r else ρ k
theorem mvTurn {L : Nat} (hs : s < L) : Turn (L + 1) L ρ (fillR ρ s (ρ L)) (mvKey L s) := by
  refine ⟨fun k j hk e => ?_⟩
  unfold mvKey at e
  split at e
  · rename_i h; subst h
    simp at e; subst e
    exact ⟨hs, by simp [fillR], fun _ => by simp [fillR]⟩
  · rename_i h
    split at e
    · cases e
    · rename_i h2
      simp at e; subst e
      exact ⟨by omega, by simp [fillR, h2], fun _ => by simp [fillR, h2]⟩
theorem fillR_ne {r : RV} {k : Nat} (h : k ≠ s) : fillR ρ s r k = ρ k := by simp [fillR, h]
def slotHp (hp : List Ob) (L s : Nat) : List Ob := ((hp.take L).map (Ob.ren (mvKey L s))).set s ((Ob.ofOpt hp[L]?).ren (mvKey L s))
theorem slotHp_get {hp : List Ob} {L s k : Nat} {o : Ob} (hl : hp.length = L + 1) (hs : s < L) (h : (slotHp hp L s)[k]? = some o) : k < L ∧ ∃ o', hp[if k = s then L else k]? = some o' ∧ o = o'.ren (mvKey L s) := by
  unfold slotHp at h
  rw [List.getElem?_set] at h
  by_cases e : s = k
  · subst e
    have hlt : s < ((hp.take L).map (Ob.ren (mvKey L s))).length := by simp [hl]; omega
    simp only [if_true, hlt] at h
    simp only [Option.some.injEq] at h
    refine ⟨hs, hp[L], by simp, ?_⟩
    rw [← h, List.getElem?_eq_getElem (by omega)]; rfl
  · rw [if_neg e] at h
    simp only [List.getElem?_map, Option.map_eq_some_iff] at h
    obtain ⟨o', ho, rfl⟩ := h
    rw [List.getElem?_take] at ho
    split at ho
    · rename_i hk
      exact ⟨hk, o', by rw [if_neg (Ne.symm e)]; exact ho, rfl⟩
    · cases ho
theorem slotHp_length {hp : List Ob} {L s : Nat} (hl : hp.length = L + 1) : (slotHp hp L s).length = L := by simp [slotHp, hl]
theorem HR.slot {hp : List Ob} {w : World} {L : Nat} (h : HR C ρ hp w) (hl : hp.length = L + 1) (hs : s < L) : HR C (fillR ρ s (ρ L)) (slotHp hp L s) w := by
  have hρ : ∀ k, fillR ρ s (ρ L) k = ρ (if k = s then L else k) := fun k => by unfold fillR; split <;> rfl
  refine ⟨fun k o ho => ?_, fun j k b hjk hj hk hb => ?_⟩
  · obtain ⟨hk, o', ho', rfl⟩ := slotHp_get hl hs ho
    rw [slotHp_length hl]
    have h1 := h.ob _ _ ho'
    rw [hl] at h1
    exact ob_ren (mvTurn hs) (hρ k) h1
  · have key : ∀ k, alive (slotHp hp L s) k → k < L ∧ alive hp (if k = s then L else k) := by
      intro k hk
      obtain ⟨o, ho, hd⟩ := hk
      obtain ⟨hk, o', ho', rfl⟩ := slotHp_get hl hs ho
      exact ⟨hk, o', ho', by rintro rfl; exact hd rfl⟩
    obtain ⟨j1, a1⟩ := key j hj
    obtain ⟨k1, a2⟩ := key k hk
    rw [hρ] at hb ⊢
    refine h.ne _ _ b ?_ a1 a2 hb
    intro e
    split at e <;> split at e <;> omega
/-! ### a heap some of whose slots are not filled -/
theorem killAll_length : ∀ (S : List Nat) (hp : List Ob), (killAll hp S).length = hp.length
  | [], _ => rfl
  | k :: S, hp => by simp only [killAll]; rw [killAll_length S]; simp
theorem killAll_get {k : Nat} : ∀ {S : List Nat} (hp : List Ob), k ∉ S → (killAll hp S)[k]? = hp[k]?
  | [], _, _ => rfl
  | x :: S, hp, h => by
    simp only [killAll]
    rw [killAll_get (S := S) _ (fun e => h (by simp [e])), List.getElem?_set_ne (fun e => h (by simp [e]))]
theorem killAll_set {k : Nat} {o : Ob} : ∀ {S : List Nat} (hp : List Ob), k ∉ S → killAll (hp.set k o) S = (killAll hp S).set k o
  | [], _, _ => rfl
  | x :: S, hp, h => by
    simp only [killAll]
    rw [List.set_comm _ _ (fun e => h (by simp [e])), killAll_set (S := S) _ (fun e => h (by simp [e]))]
theorem killAll_append {l : List Ob} : ∀ {S : List Nat} (hp : List Ob), (∀ k ∈ S, k < hp.length) → killAll (hp ++ l) S = killAll hp S ++ l
  | [], _, _ => rfl
  | x :: S, hp, h => by
    simp only [killAll]
    rw [List.set_append_left _ _ (h x (by simp)), killAll_append (S := S) _ (fun k hk => by simpa using h k (by simp [hk]))]
/-- The object that a value leads to at once. -/
def keyIn (S : List Nat) : SV → Prop
  | .ptr k _ => k ∈ S
  | .eptr k _ _ => k ∈ S
  | .row k => k ∈ S
  | .view k _ _ => k ∈ S
  | .cview k _ _ => k ∈ S
  | _ => False
theorem VR.not_in {S : List Nat} (hS : ∀ k ∈ S, Poison ρ k) {v : SV} {u : Value} (h : VR C n ρ v u) : ¬ keyIn S v := by
  cases h <;> simp only [keyIn, not_false_eq_true] <;> intro hk <;> (have e := hS _ hk; unfold Poison at e; rename_i h; first | (rw [h] at e; cases e) | skip)
  all_goals simp_all
theorem sizeOf_kill {S : List Nat} (hp : List Ob) {v : SV} (h : ¬ keyIn S v) : sizeOf (killAll hp S) v = sizeOf hp v := by
  cases v <;> simp only [keyIn] at h <;> simp only [sizeOf]
  all_goals rw [killAll_get _ h]
theorem lenOf_kill {S : List Nat} (hp : List Ob) {v : SV} (h : ¬ keyIn S v) : lenOf (killAll hp S) v = lenOf hp v := by
  cases v <;> simp only [keyIn] at h <;> simp only [lenOf]
  all_goals rw [killAll_get _ h]
theorem content_kill {S : List Nat} (hp : List Ob) {v : SV} (h : ¬ keyIn S v) : content (killAll hp S) v = content hp v := by
  cases v <;> simp only [keyIn] at h <;> simp only [content]
  all_goals rw [killAll_get _ h]
theorem loadOne_kill {S : List Nat} (hp : List Ob) {v : SV} (h : ¬ keyIn S v) : loadOne (killAll hp S) v = loadOne hp v := by
  cases v <;> simp only [keyIn] at h <;> simp only [loadOne]
  all_goals rw [killAll_get _ h]
theorem loadN_kill {S : List Nat} (hp : List Ob) (m : Nat) {v : SV} (h : ¬ keyIn S v) : Go.X.loadN (killAll hp S) m v = Go.X.loadN hp m v := by
  cases v <;> simp only [keyIn] at h <;> simp only [Go.X.loadN]
  all_goals rw [killAll_get _ h]
theorem mvKey_id {L k : Nat} (h1 : k < L) (h2 : k ≠ s) : mvKey L s k = some k := by
  unfold mvKey
  rw [if_neg (by omega), if_neg h2]
mutual
/-- What is held under a poisoned slot names neither it nor what is to come. -/
theorem VR.ren_id {L : Nat} (hs : Poison ρ s) : ∀ {v : SV} {u : Value}, VR C L ρ v u → v.ren (mvKey L s) = v
  | _, _, .undef v => rfl
  | _, _, .int k x => rfl
  | _, _, .bool b => rfl
  | _, _, .str t => rfl
  | _, _, .nilp => rfl
  | _, _, .nilf => rfl
  | _, _, .nils c h hw => rfl
  | _, _, .ro t c a cap h hc => rfl
  | _, _, .rptr t c i o b q h hi => rfl
  | _, _, .fn g caps cs h => by simp only [SV.ren]; rw [VRL.ren_id hs h]
  | _, _, .ptr k o b hk h => by
    simp only [SV.ren]; rw [mvKey_id hk (by rintro rfl; rw [hs] at h; cases h)]; rfl
  | _, _, .eptr k i o b q m cap hk h hi => by
    simp only [SV.ren]; rw [mvKey_id hk (by rintro rfl; rw [hs] at h; cases h)]; rfl
  | _, _, .row k a m cap hk h => by
    simp only [SV.ren]; rw [mvKey_id hk (by rintro rfl; rw [hs] at h; cases h)]; rfl
  | _, _, .viewNil k hk h => by
    simp only [SV.ren]; rw [mvKey_id hk (by rintro rfl; rw [hs] at h; cases h)]; rfl
  | _, _, .view k o m b q len cap q' hk h hl hc hq hq' => by
    simp only [SV.ren]; rw [mvKey_id hk (by rintro rfl; rw [hs] at h; cases h)]; rfl
  | _, _, .cview k o m b q cap hk h hq hc => by
    simp only [SV.ren]; rw [mvKey_id hk (by rintro rfl; rw [hs] at h; cases h)]; rfl
theorem VRL.ren_id {L : Nat} (hs : Poison ρ s) : ∀ {l : List SV} {vs : List Value}, VRL C L ρ l vs → renL (mvKey L s) l = l
  | _, _, .nil => rfl
  | _, _, .cons a v l vs h hl => by simp only [renL]; rw [VR.ren_id hs h, VRL.ren_id hs hl]
end
theorem ObR.ren_id {L k : Nat} {w : World} {o : Ob} (hs : Poison ρ s) (h : ObR C L ρ w k o) : o.ren (mvKey L s) = o := by
  cases o with
  | dead => rfl
  | rows g c => rfl
  | cells g l =>
    obtain ⟨b, T, cur, _, _, _, hv, _⟩ := h
    simp only [Ob.ren]; rw [VRL.ren_id hs hv]
/-- A heap with a new row behind it, the row moved to its slot. -/
theorem slotHp_new {hp : List Ob} {w : World} {c : RC} (h : HR C ρ hp w) (hs : Poison ρ s) : slotHp (hp ++ [.rows none c]) hp.length s = hp.set s (.rows none c) := by
  unfold slotHp
  rw [List.take_left' rfl, List.getElem?_append_right (Nat.le_refl _), Nat.sub_self]
  have e : hp.map (Ob.ren (mvKey hp.length s)) = hp := by
    apply List.ext_getElem (by simp)
    intro k h1 h2
    rw [List.getElem_map]
    exact ObR.ren_id hs (h.ob k _ (List.getElem?_eq_getElem h2))
  rw [e]; rfl
/-! ### operations at a heap some of whose slots are not filled -/
theorem newRow_kill {S : List Nat} {hp hp1 : List Ob} {c : RC} {v : AV} (hS : ∀ k ∈ S, k < hp.length) (h : Go.X.newRow hp c = some (v, hp1)) : Go.X.newRow (killAll hp S) c = some (v, killAll hp1 S) := by
  simp only [Go.X.newRow, Option.some.injEq, Prod.mk.injEq] at h ⊢
  obtain ⟨rfl, rfl⟩ := h
  exact ⟨by rw [killAll_length], (killAll_append hp hS).symm⟩
theorem putR_kill {S : List Nat} {hp hp1 : List Ob} {c : Option RC} {v : AV} (hS : ∀ k ∈ S, k < hp.length) (h : putR hp c = some (v, hp1)) : putR (killAll hp S) c = some (v, killAll hp1 S) := by
  cases c with
  | none => simp [putR] at h
  | some c => exact newRow_kill hS h
theorem app3_kill {S : List Nat} {hp hp1 : List Ob} {c0 y : RC} {bytes k : Nat} {c : Option RC} {v : AV} (hS : ∀ k ∈ S, k < hp.length) (hk : k ∉ S) (h : app3 hp c0 bytes k y c = some (v, hp1)) : app3 (killAll hp S) c0 bytes k y c = some (v, killAll hp1 S) := by
  cases c with
  | none => simp [app3] at h
  | some c =>
    simp only [app3] at h ⊢
    split at h
    · rename_i hc
      rw [if_pos hc, ← killAll_set hp hk]
      exact putR_kill (fun j hj => by simpa using hS j hj) h
    · simp at h
theorem app2_kill {S : List Nat} {hp hp1 : List Ob} {c0 y : RC} {bytes : Nat} {s x : SV} {v : AV} (hS : ∀ k ∈ S, k < hp.length) (hs : ¬ keyIn S s) (h : app2 hp c0 bytes s x y = some (v, hp1)) : app2 (killAll hp S) c0 bytes s x y = some (v, killAll hp1 S) := by
  unfold app2 at h ⊢
  cases s with
  | nils c =>
    simp only at h ⊢
    split at h
    · rename_i hc; rw [if_pos hc]; exact putR_kill hS h
    · simp at h
  | row k =>
    simp only [keyIn] at hs
    simp only at h ⊢
    split at h
    · simp at h
    · rename_i hc; rw [if_neg hc, killAll_get _ hs]; exact app3_kill hS hs h
  | view k o n =>
    simp only [keyIn] at hs
    simp only at h ⊢
    split at h
    · simp at h
    · rename_i hc; rw [if_neg hc, killAll_get _ hs]; exact app3_kill hS hs h
  | _ => simp at h
theorem append_kill {S : List Nat} {hp hp1 : List Ob} {c0 : RC} {bytes : Nat} {s x : SV} {v : AV} (hS : ∀ k ∈ S, k < hp.length) (hs : ¬ keyIn S s) (hx : ¬ keyIn S x) (h : Go.X.append hp c0 bytes s x = some (v, hp1)) : Go.X.append (killAll hp S) c0 bytes s x = some (v, killAll hp1 S) := by
  have e : source (killAll hp S) c0 x = source hp c0 x := by
    cases x <;> first | rfl | (simp only [source]; exact content_kill hp hx)
  unfold Go.X.append at h ⊢
  rw [e]
  cases hy : source hp c0 x with
  | none => rw [hy] at h; simp [app1] at h
  | some y =>
    rw [hy] at h
    simp only [app1] at h ⊢
    unfold app2 at h ⊢
    cases s with
    | nils c =>
      simp only at h ⊢
      split at h
      · rename_i hc; rw [if_pos hc]; exact putR_kill hS h
      · simp at h
    | row k =>
      simp only [keyIn] at hs
      simp only at h ⊢
      split at h
      · simp at h
      · rename_i hc; rw [if_neg hc, killAll_get _ hs]; exact app3_kill hS hs h
    | view k o n =>
      simp only [keyIn] at hs
      simp only at h ⊢
      split at h
      · simp at h
      · rename_i hc; rw [if_neg hc, killAll_get _ hs]; exact app3_kill hS hs h
    | _ => simp at h
/-- Operations that are served at a heap with slots not filled: what they look at in memory, they look at by their operands alone. -/
def freeOp (env : Env) (S : List Nat) : AOp → Prop
  | .load _ x => ¬ keyIn S (getS env x)
  | .b2s x => ¬ keyIn S (getS env x)
  | .cutR _ x _ _ => ¬ keyIn S (getS env x)
  | .iadrR _ x _ => ¬ keyIn S (getS env x)
  | .len x => ¬ keyIn S (getS env x)
  | .append _ _ x y => ¬ keyIn S (getS env x) ∧ ¬ keyIn S (getS env y)
  | .appZ _ _ _ x _ => ¬ keyIn S (getS env x)
  | .mks _ _ _ _ _ => True
  | .bslice _ _ _ _ => True
  | .newNil _ => True
  | op => opKind op = 0
theorem op_kill {Γ : Nat → Callee} {env : Env} {S : List Nat} {op : AOp} {hp hp1 : List Ob} {v : AV} (hS : ∀ k ∈ S, k < hp.length) (hf : freeOp env S op) (h : evOp Γ env hp op = some (v, hp1)) : evOp Γ env (killAll hp S) op = some (v, killAll hp1 S) := by
  have zero : opKind op = 0 → evOp Γ env (killAll hp S) op = some (v, killAll hp1 S) := fun hk => by
    obtain ⟨e, h2⟩ := pure_op hk h
    subst e; exact h2 _
  cases op <;> first | exact zero hf | skip
  case load m x =>
    simp only [freeOp] at hf
    cases m with
    | none =>
      simp only [evOp] at h ⊢
      rw [loadOne_kill hp hf]
      unfold put1 at h ⊢
      split at h <;> simp at h ⊢
      obtain ⟨rfl, rfl⟩ := h; exact ⟨rfl, rfl⟩
    | some m =>
      simp only [evOp] at h ⊢
      rw [loadN_kill hp m hf]
      unfold putL at h ⊢
      split at h <;> simp at h ⊢
      obtain ⟨rfl, rfl⟩ := h; exact ⟨rfl, rfl⟩
  case len x =>
    simp only [freeOp] at hf
    simp only [evOp] at h ⊢
    rw [lenOf_kill hp hf]
    unfold oLen at h ⊢
    split at h <;> simp at h ⊢
    obtain ⟨rfl, rfl⟩ := h; exact ⟨rfl, rfl⟩
  case b2s x =>
    simp only [freeOp] at hf
    simp only [evOp] at h ⊢
    rw [content_kill hp hf]
    unfold oB2s at h ⊢
    split at h <;> simp at h ⊢
    obtain ⟨rfl, rfl⟩ := h; exact ⟨rfl, rfl⟩
  case append c0 b x y =>
    simp only [freeOp] at hf
    simp only [evOp] at h ⊢
    exact append_kill hS hf.1 hf.2 h
  case appZ c0 z b x y =>
    simp only [freeOp] at hf
    simp only [evOp] at h ⊢
    unfold oAppZ at h ⊢
    split at h
    · split at h
      · rename_i hc
        simp only [if_pos hc]
        generalize RC.ofElems c0 _ = q at h ⊢
        cases q with
        | none => simp [app1] at h
        | some q => simp only [app1] at h ⊢; exact app2_kill hS hf h
      · simp at h
    · simp at h
  case newNil c => simp only [evOp] at h ⊢; exact newRow_kill hS h
  case bslice c z m ps => simp only [evOp] at h ⊢; exact putR_kill hS h
  case mks c z b x y =>
    simp only [evOp] at h ⊢
    unfold oMks at h ⊢
    split at h
    · split at h
      · rename_i hc; rw [if_pos hc]; exact putR_kill hS h
      · simp at h
    · simp at h
  case cutR n x lo hi =>
    simp only [freeOp] at hf
    simp only [evOp] at h ⊢
    rw [sizeOf_kill hp hf, lenOf_kill hp hf]
    split at h
    · rename_i hc; rw [if_pos hc]
      unfold oCutR cutR2 put1 at h ⊢
      (repeat' split at h) <;> simp_all
    · simp at h
  case iadrR n x i =>
    simp only [freeOp] at hf
    simp only [evOp] at h ⊢
    rw [sizeOf_kill hp hf, lenOf_kill hp hf]
    split at h
    · rename_i hc; rw [if_pos hc]
      unfold oIadrR put1 at h ⊢
      (repeat' split at h) <;> simp_all
    · simp at h
end
end Go.X
