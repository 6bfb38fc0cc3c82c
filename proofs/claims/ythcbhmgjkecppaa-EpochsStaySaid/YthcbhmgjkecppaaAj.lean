import Derived.Test.YthcbhmgjkecppaaAi
set_option linter.unusedVariables false
namespace Go.X
/-! ### what is reached: alive, each once -/
structure Fine (hp : List Ob) (ks : List Nat) : Prop where
  alive : ∀ k ∈ ks, alive hp k
  nodup : ks.Nodup
theorem Fine.nil (hp : List Ob) : Fine hp [] := ⟨by simp, by simp⟩
theorem Fine.snoc {hp : List Ob} {ks : List Nat} (h : Fine hp ks) {k : Nat} (ha : Go.X.alive hp k) (hk : ks.elem k = false) : Fine hp (ks ++ [k]) := by
  have hk' : k ∉ ks := by simpa using hk
  refine ⟨fun j hj => ?_, ?_⟩
  · rcases List.mem_append.1 hj with h1 | h1
    · exact h.alive j h1
    · simp at h1; subst h1; exact ha
  · rw [List.nodup_append]
    exact ⟨h.nodup, by simp, fun x hx y hy e => by simp at hy; subst hy; subst e; exact hk' hx⟩
mutual
theorem reachSV_fine (hp : List Ob) : ∀ (f : Nat) (v : SV) (ks : List Nat), Fine hp ks → Fine hp (reachSV hp f v ks)
  | 0, v, ks, h => by unfold reachSV; exact h
  | f + 1, v, ks, h => by
    cases v <;> simp only [reachSV] <;> first | exact h | skip
    case ptr k o =>
      split
      · exact h
      · rename_i hk; exact reachOb_fine hp f _ k ks h rfl (by simpa using hk)
    case eptr k i o =>
      split
      · exact h
      · rename_i hk; exact reachOb_fine hp f _ k ks h rfl (by simpa using hk)
    case row k =>
      split
      · exact h
      · rename_i hk; exact reachOb_fine hp f _ k ks h rfl (by simpa using hk)
    case view k o n =>
      split
      · exact h
      · rename_i hk; exact reachOb_fine hp f _ k ks h rfl (by simpa using hk)
    case cview k o n =>
      split
      · exact h
      · rename_i hk; exact reachOb_fine hp f _ k ks h rfl (by simpa using hk)
    case fn g caps => exact reachL_fine hp f caps ks h
theorem reachOb_fine (hp : List Ob) : ∀ (f : Nat) (ob : Option Ob) (k : Nat) (ks : List Nat), Fine hp ks → hp[k]? = ob → ks.elem k = false → Fine hp (reachOb hp f ob k ks)
  | 0, ob, k, ks, h, hob, hk => by
    cases ob with
    | none => simp only [reachOb]; exact h
    | some o => cases o <;> simp only [reachOb] <;> first | exact h | exact h.snoc ⟨_, hob, by simp⟩ hk
  | f + 1, ob, k, ks, h, hob, hk => by
    cases ob with
    | none => simp only [reachOb]; exact h
    | some o =>
      cases o with
      | cells g l => simp only [reachOb]; exact reachL_fine hp f l _ (h.snoc ⟨_, hob, by simp⟩ hk)
      | rows g c => simp only [reachOb]; exact h.snoc ⟨_, hob, by simp⟩ hk
      | dead => simp only [reachOb]; exact h
theorem reachL_fine (hp : List Ob) : ∀ (f : Nat) (l : List SV) (ks : List Nat), Fine hp ks → Fine hp (reachL hp f l ks)
  | 0, l, ks, h => by cases l <;> simp only [reachL] <;> exact h
  | f + 1, [], ks, h => by simp only [reachL]; exact h
  | f + 1, v :: l, ks, h => by simp only [reachL]; exact reachL_fine hp f l _ (reachSV_fine hp f v ks h)
end
theorem nodup_inj {ks : List Nat} : ks.Nodup → ∀ {i j k : Nat}, ks[i]? = some k → ks[j]? = some k → i = j := by
  induction ks with
  | nil => intro _ i j k h; simp at h
  | cons x ks ih =>
    intro hn i j k hi hj
    rw [List.nodup_cons] at hn
    cases i with
    | zero =>
      cases j with
      | zero => rfl
      | succ j =>
        simp at hi hj; subst hi
        exact absurd (List.mem_of_getElem? hj) hn.1
    | succ i =>
      cases j with
      | zero =>
        simp at hi hj; subst hj
        exact absurd (List.mem_of_getElem? hi) hn.1
      | succ j => simp at hi hj; exact congrArg _ (ih hn.2 hi hj)
theorem pos_some {k j : Nat} : ∀ {ks : List Nat}, pos k ks = some j → ks[j]? = some k
  | [], h => by simp [pos] at h
  | x :: ks, h => by
    simp only [pos] at h
    split at h
    · rename_i e; simp at h; subst h; simp [e]
    · simp only [Option.map_eq_some_iff] at h
      obtain ⟨i, hi, rfl⟩ := h
      simpa using pos_some hi
theorem pick_length (hp : List Ob) (f : Nat → Option Nat) : ∀ ks : List Nat, (pick hp f ks).length = ks.length
  | [] => rfl
  | k :: ks => by simp [pick, pick_length hp f ks]
theorem pick_get {hp : List Ob} {f : Nat → Option Nat} : ∀ {ks : List Nat} {j : Nat} {o : Ob}, (pick hp f ks)[j]? = some o → ∃ k, ks[j]? = some k ∧ o = (Ob.ofOpt hp[k]?).ren f
  | [], j, o, h => by simp [pick] at h
  | k :: ks, 0, o, h => by simp [pick] at h; exact ⟨k, rfl, by rw [h]⟩
  | k :: ks, j + 1, o, h => by simpa using pick_get (ks := ks) (j := j) (by simpa [pick] using h)
section
variable {C : Cx} {ρ ρ' : Nat → RV} {hp : List Ob} {w w' : World}
theorem VRL.ren' {n n' : Nat} {f : Nat → Option Nat} (T : Turn n n' ρ ρ' f) {l : List SV} {vs : List Value} (h : VRL C n ρ l vs) : VRL C n' ρ' (renL f l) vs := VRL.ren T h
def rho (ρ : Nat → RV) (ks : List Nat) : Nat → RV := fun j => ρ (ks.getD j 0)
theorem turn_pos {n : Nat} {ks : List Nat} : Turn n ks.length ρ (rho ρ ks) (posF ks) := by
  refine ⟨fun k j hk h => ?_⟩
  have h1 := pos_some h
  have hlt := (List.getElem?_eq_some_iff.1 h1).1
  have h2 : rho ρ ks j = ρ k := by simp [rho, List.getD, h1]
  exact ⟨hlt, by rw [h2], fun _ => by rw [h2]⟩
theorem ob_ren {n n' k j : Nat} {f : Nat → Option Nat} {ob : Ob} (T : Turn n n' ρ ρ' f) (hk : ρ' j = ρ k) (h : ObR C n ρ w k ob) : ObR C n' ρ' w j (ob.ren f) := by
  cases ob with
  | dead => trivial
  | cells g l =>
    obtain ⟨b, T', cur, e, hown, hh, hv, hg⟩ := h
    exact ⟨b, T', cur, by rw [hk]; exact e, hown, hh, VRL.ren T hv, by rw [hk]; exact hg⟩
  | rows g c =>
    obtain ⟨h1, h2, hg, h⟩ := h
    exact ⟨h1, by rw [hk]; exact h2, by rw [hk]; exact hg, by rw [hk]; exact h⟩
/-- New numbers for what is kept. -/
theorem HR.pick (h : HR C ρ hp w) {ks : List Nat} (hf : Fine hp ks) : HR C (rho ρ ks) (pick hp (posF ks) ks) w := by
  have key : ∀ j, alive (Go.X.pick hp (posF ks) ks) j → ∃ k, ks[j]? = some k ∧ rho ρ ks j = ρ k ∧ alive hp k := by
    intro j hj
    obtain ⟨o, ho, hd⟩ := hj
    obtain ⟨k, hk, e⟩ := pick_get ho
    exact ⟨k, hk, by simp [rho, List.getD, hk], hf.alive k (List.mem_of_getElem? hk)⟩
  refine ⟨fun j o ho => ?_, fun i j b hij hi hj hb => ?_⟩
  · rw [pick_length]
    obtain ⟨k, hk, rfl⟩ := pick_get ho
    obtain ⟨ob, hob, _⟩ := hf.alive k (List.mem_of_getElem? hk)
    rw [hob]
    exact ob_ren turn_pos (by simp [rho, List.getD, hk]) (h.ob k ob hob)
  · obtain ⟨k1, hk1, e1, a1⟩ := key i hi
    obtain ⟨k2, hk2, e2, a2⟩ := key j hj
    rw [e1] at hb
    rw [e2]
    refine h.ne k1 k2 b ?_ a1 a2 hb
    rintro rfl
    have h1 := List.getElem?_eq_some_iff.1 hk1
    have h2 := List.getElem?_eq_some_iff.1 hk2
    exact hij (nodup_inj hf.nodup hk1 hk2)
end
end Go.X
