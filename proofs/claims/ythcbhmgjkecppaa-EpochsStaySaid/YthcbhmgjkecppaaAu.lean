import Derived.Test.YthcbhmgjkecppaaAt
set_option maxRecDepth 100000
namespace Go.X
/-! ### loops by their heads -/
def loopH (body : St → Option (Ex × St)) (live : List Nat) (k : Nat) (st : St) : Option (Ex × St) := thenC (loopN body live (k - 1)) (body st)
theorem loop_head {body : St → Option (Ex × St)} {live : List Nat} {k : Nat} (st : St) (h : k ≠ 0) : loopN body live k st = loopH body live k (st.head live) := by
  cases k with
  | zero => exact absurd rfl h
  | succ k => rfl
@[simp] theorem loop_KK (body : St → Option (Ex × St)) (live : List Nat) (st : St) : loopN body live KK st = loopH body live KK (st.head live) := loop_head st (by rw [KK_eq]; omega)
theorem loopH_norm {body : St → Option (Ex × St)} {live : List Nat} {k : Nat} {st st1 : St} (h : body st = some (.norm, st1)) (hk : 1 < k) : loopH body live k st = loopH body live (k - 1) (st1.head live) := by
  rw [loopH, h]; exact loop_head st1 (by omega)
theorem loopH_exit {body : St → Option (Ex × St)} {live : List Nat} {k : Nat} {st st1 : St} {i : Nat} (h : body st = some (.exit i, st1)) : loopH body live k st = some (.exit i, st1) := by
  rw [loopH, h]; rfl
theorem loopH_ret {body : St → Option (Ex × St)} {live : List Nat} {k : Nat} {st st1 : St} (h : body st = some (.ret, st1)) : loopH body live k st = some (.ret, st1) := by
  rw [loopH, h]; rfl
/-- A loop whose every round leads from a state told by a to one told by another, of less measure, or out of it. -/
theorem loopH_ind {α : Type} {body : St → Option (Ex × St)} {live : List Nat} (canon : α → St) (I : α → Prop) (P : α → Ex × St → Prop) (m : α → Nat)
    (hs : ∀ a, I a → (∃ r, body (canon a) = some r ∧ r.1 ≠ .norm ∧ P a r) ∨ (∃ st1 a', body (canon a) = some (.norm, st1) ∧ St.head live st1 = canon a' ∧ I a' ∧ m a' < m a ∧ ∀ r, P a' r → P a r)) :
    ∀ (k : Nat) (a : α), I a → m a < k → ∃ r, loopH body live k (canon a) = some r ∧ P a r
  | 0, a, _, hk => by omega
  | k + 1, a, ha, hk => by
    rcases hs a ha with ⟨r, h1, h2, h3⟩ | ⟨st1, a', h1, h2, h3, h4, h5⟩
    · obtain ⟨x, st1⟩ := r
      cases x with
      | norm => exact absurd rfl h2
      | exit i => exact ⟨_, loopH_exit h1, h3⟩
      | ret => exact ⟨_, loopH_ret h1, h3⟩
    · cases k with
      | zero => omega
      | succ k =>
        obtain ⟨r, e, hp⟩ := loopH_ind canon I P m hs (k + 1) a' h3 (by omega)
        exact ⟨r, by rw [loopH_norm h1 (by omega), h2]; exact e, h5 r hp⟩
/-! ### concrete runs: a loop turned round by round (simp with loop_go0, loop_go1) -/
def loopG (body : St → Option (Ex × St)) (live : List Nat) (n : Nat) (st : St) : Option (Ex × St) := loopH body live (KK - n) st
@[congr] theorem loopG_cg {body : St → Option (Ex × St)} {live : List Nat} {n : Nat} {st st' : St} (h : st = st') : loopG body live n st = loopG body live n st' := by rw [h]
@[congr] theorem loopH_cg {body : St → Option (Ex × St)} {live : List Nat} {k : Nat} {st st' : St} (h : st = st') : loopH body live k st = loopH body live k st' := by rw [h]
theorem loop_go0 (body : St → Option (Ex × St)) (live : List Nat) (st : St) : loopH body live KK st = loopG body live 0 st := rfl
theorem loop_go1 {body : St → Option (Ex × St)} {live : List Nat} {n : Nat} {st : St} (hn : n < 1000) : loopG body live n st = thenC (fun st => loopG body live (n + 1) (st.head live)) (body st) := by
  have hK := KK_eq
  unfold loopG loopH
  cases hb : body st with
  | none => rfl
  | some p =>
    obtain ⟨x, st1⟩ := p
    cases x with
    | norm =>
      have h1 : KK - n - 1 = KK - (n + 1) := by omega
      rw [h1]
      exact loop_head st1 (by omega)
    | exit i => rfl
    | ret => rfl

/-! ### a slice at a key: all of a row, or a part -/
def slv (k : Nat) : Option (Nat × Nat) → SV
  | none => .row k
  | some (o, n) => .view k o n
def slvO (s : Option (Nat × Nat)) : Option Nat → SV
  | some j => slv j s
  | none => .undef
@[simp] theorem slvO_some (s : Option (Nat × Nat)) (j : Nat) : slvO s (some j) = slv j s := rfl
@[simp ↓ high] theorem reachSV_slv (hp : List Ob) (f k : Nat) (s : Option (Nat × Nat)) (ks : List Nat) : reachSV hp (f + 1) (slv k s) ks = if ks.elem k then ks else reachOb hp f hp[k]? k ks := by
  cases s <;> simp only [slv, reachSV]
@[simp ↓ high] theorem ren_slv (f : Nat → Option Nat) (k : Nat) (s : Option (Nat × Nat)) : SV.ren f (slv k s) = slvO s (f k) := by
  cases s <;> simp only [slv, SV.ren, slvO] <;> cases f k <;> rfl
@[simp ↓ high] theorem back_slv (cs : List SV) (k : Nat) (s : Option (Nat × Nat)) : SV.back cs (slv k s) = slv k s := by
  cases s <;> simp [slv]
@[simp ↓ high] theorem strip_slv (k : Nat) (s : Option (Nat × Nat)) : SV.strip (slv k s) = slv k s := by
  cases s <;> simp [slv]
@[simp ↓ high] theorem okCell_slv (k : Nat) (s : Option (Nat × Nat)) : okCell (slv k s) = true := by
  cases s <;> simp [slv]
@[simp ↓ high] theorem handed_slv (k : Nat) (s : Option (Nat × Nat)) (l : List SV) : handed (slv k s :: l) = handed l := by
  cases s <;> simp [slv]
def vw {α : Type} (X : List α) : Option (Nat × Nat) → List α
  | none => X
  | some (o, n) => (X.drop o).take n
def vwn {α : Type} (X : List α) : Option (Nat × Nat) → Nat
  | none => X.length
  | some (_, n) => n
def vok {α : Type} (X : List α) : Option (Nat × Nat) → Prop
  | none => True
  | some (o, n) => o + n ≤ X.length
theorem vw_len {α : Type} (X : List α) (s : Option (Nat × Nat)) (h : vok X s) : (vw X s).length = vwn X s := by
  cases s with
  | none => rfl
  | some p =>
    obtain ⟨o, n⟩ := p
    simp only [vok] at h
    simp only [vw, vwn, List.length_take, List.length_drop]
    omega
@[simp ↓ high] theorem reachSV_sc (hp : List Ob) (f : Nat) (c : Sc) (ks : List Nat) : reachSV hp f c.sv ks = ks := by cases f <;> cases c <;> rfl
@[simp ↓ high] theorem ren_sc (f : Nat → Option Nat) (c : Sc) : SV.ren f c.sv = c.sv := by cases c <;> rfl
@[simp ↓ high] theorem back_sc (cs : List SV) (c : Sc) : SV.back cs c.sv = c.sv := by cases c <;> rfl
@[simp ↓ high] theorem okCell_sc (c : Sc) : okCell c.sv = true := by cases c <;> rfl
end Go.X
