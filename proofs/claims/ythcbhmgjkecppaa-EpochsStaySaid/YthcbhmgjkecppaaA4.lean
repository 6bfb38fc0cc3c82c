import Derived.Test.YthcbhmgjkecppaaA3
import Derived.Calls
import Derived.Tactics
import Derived.WalkKit
import Derived.Laws.AppendOwn
import Derived.Below
import Derived.Deep.LoopGhost
set_option linter.unusedVariables false
namespace Go.X
structure RV where
  hdr : Value
  size : Nat
/-- What a call's run is held against: the program, the world as it was, which blocks were handed over, where slices that are read lie, and the addresses of what was handed over. -/
structure Cx where
  P : Program
  w0 : World
  S : Nat → Prop
  τ : Nat → Nat
  r0 : Nat → RV
  df : List Deferred
def Cx.own (C : Cx) (b : Nat) : Prop := C.S b ∨ C.w0.heap.size ≤ b
/-- A row that lies in memory that stays as it is. -/
def Cx.reads (C : Cx) (t : Nat) (c : RC) (a : Option Addr) : Prop :=
  c.wf ∧ (0 < c.len → ∃ b o, a = some ⟨b, o, none⟩ ∧ ¬ C.own b ∧ C.τ t = b ∧ ∀ j u, c.vals[j]? = some u → C.w0.cell? ⟨b, o + j, none⟩ = some u)
mutual
inductive VR (C : Cx) (n : Nat) (ρ : Nat → RV) : SV → Value → Prop where
  | undef (v : Value) : VR C n ρ .undef v
  | int (k : IntKind) (x : Int) : VR C n ρ (.int k x) (.int k x)
  | bool (b : Bool) : VR C n ρ (.bool b) (.bool b)
  | str (s : ByteArray) : VR C n ρ (.str s) (.string s)
  | nilp : VR C n ρ .nilp (.pointer none)
  | ptr (k o b : Nat) (hk : k < n) (h : (ρ k).hdr = .pointer (some ⟨b, 0, none⟩)) : VR C n ρ (.ptr k o) (.pointer (some ⟨b, o, none⟩))
  | eptr (k i o b q m cap : Nat) (hk : k < n) (h : (ρ k).hdr = .slice (some ⟨b, q, none⟩) m cap) (hi : i < m) : VR C n ρ (.eptr k i o) (.pointer (some ⟨b, q + i * (ρ k).size + o, none⟩))
  | row (k : Nat) (a : Option Addr) (m cap : Nat) (hk : k < n) (h : (ρ k).hdr = .slice a m cap) : VR C n ρ (.row k) (.slice a m cap)
  | viewNil (k : Nat) (hk : k < n) (h : (ρ k).hdr = .slice none 0 0) : VR C n ρ (.view k 0 0) (.slice none 0 0)
  | view (k o m b q len cap q' : Nat) (hk : k < n) (h : (ρ k).hdr = .slice (some ⟨b, q, none⟩) len cap) (hl : o + m ≤ len) (hc : len ≤ cap) (hq : o < cap → q' = q + o * (ρ k).size) (hq' : q' ≤ q + o * (ρ k).size) : VR C n ρ (.view k o m) (.slice (some ⟨b, q', none⟩) m (cap - o))
  | cview (k o m b q cap : Nat) (hk : k < n) (h : (ρ k).hdr = .pointer (some ⟨b, 0, none⟩)) (hq : 0 < m → q = o) (hc : m ≤ cap) : VR C n ρ (.cview k o m) (.slice (some ⟨b, q, none⟩) m cap)
  | ro (t : Nat) (c : RC) (a : Option Addr) (cap : Nat) (h : C.reads t c a) (hc : c.len ≤ cap) : VR C n ρ (.ro t c) (.slice a c.len cap)
  | rptr (t : Nat) (c : RC) (i o b q : Nat) (h : C.reads t c (some ⟨b, q, none⟩)) (hi : i < c.len) : VR C n ρ (.rptr t c i o) (.pointer (some ⟨b, q + i * c.size + o, none⟩))
  | nils (c : RC) (h : c.len = 0) (hw : c.wf) : VR C n ρ (.nils c) (.slice none 0 0)
  | nilf : VR C n ρ .nilf .nilFunc
  | fn (f : Nat) (caps : List SV) (cs : List Value) (h : VRL C n ρ caps cs) : VR C n ρ (.fn f caps) (.func (.func f) #[] cs.toArray)
inductive VRL (C : Cx) (n : Nat) (ρ : Nat → RV) : List SV → List Value → Prop where
  | nil : VRL C n ρ [] []
  | cons (s : SV) (v : Value) (l : List SV) (vs : List Value) (h : VR C n ρ s v) (hl : VRL C n ρ l vs) : VRL C n ρ (s :: l) (v :: vs)
end
mutual
inductive AVR (C : Cx) (n : Nat) (ρ : Nat → RV) : AV → Value → Prop where
  | one (s : SV) (v : Value) (h : VR C n ρ s v) : AVR C n ρ (.one s) v
  | agg (l : List SV) (vs : List Value) (h : VRL C n ρ l vs) : AVR C n ρ (.agg l) (.agg vs.toArray)
  | tup (l : List AV) (vs : List Value) (h : AVRL C n ρ l vs) : AVR C n ρ (.tup l) (.tuple vs.toArray)
inductive AVRL (C : Cx) (n : Nat) (ρ : Nat → RV) : List AV → List Value → Prop where
  | nil : AVRL C n ρ [] []
  | cons (s : AV) (v : Value) (l : List AV) (vs : List Value) (h : AVR C n ρ s v) (hl : AVRL C n ρ l vs) : AVRL C n ρ (s :: l) (v :: vs)
end
def ObR (C : Cx) (n : Nat) (ρ : Nat → RV) (w : World) (k : Nat) : Ob → Prop
  | .cells g l => ∃ b T cur, (ρ k).hdr = .pointer (some ⟨b, 0, none⟩) ∧ C.own b ∧ w.heap[b]? = some (.cells cur T (0, 0)) ∧ VRL C n ρ l cur.toList ∧ (∀ i, g = some i → (C.r0 i).hdr = (ρ k).hdr)
  | .rows g c => c.wf ∧ (ρ k).size = c.size ∧ (∀ i, g = some i → C.r0 i = ρ k) ∧ (((ρ k).hdr = .slice none 0 0 ∧ c.len = 0) ∨ ∃ b o cap cur T fr, (ρ k).hdr = .slice (some ⟨b, o, none⟩) c.len cap ∧ C.own b ∧ w.heap[b]? = some (.cells cur T fr) ∧
      c.len ≤ cap ∧ cap ≤ maxLen ∧ o + cap * c.size ≤ cur.size ∧ (∀ j u, c.vals[j]? = some u → cur[o + j]? = some u) ∧ ∀ j, j < cur.size → ¬ (fr.1 ≤ j ∧ j < fr.2))
  | .dead => True
def blkOf : Value → Option Nat
  | .pointer (some a) => some a.block
  | .slice (some a) _ _ => some a.block
  | _ => none
def alive (hp : List Ob) (k : Nat) : Prop := ∃ ob, hp[k]? = some ob ∧ ob ≠ .dead
structure HR (C : Cx) (ρ : Nat → RV) (hp : List Ob) (w : World) : Prop where
  ob : ∀ k o, hp[k]? = some o → ObR C hp.length ρ w k o
  ne : ∀ j k b, j ≠ k → alive hp j → alive hp k → blkOf (ρ j).hdr = some b → blkOf (ρ k).hdr ≠ some b
structure FR (C : Cx) (w : World) : Prop where
  size : C.w0.heap.size ≤ w.heap.size
  block : ∀ b, b < C.w0.heap.size → ¬ C.S b → w.heap[b]? = C.w0.heap[b]?
  os : w.os = C.w0.os
  tape : w.tape = C.w0.tape
  output : w.output = C.w0.output
def EnvR (C : Cx) (n : Nat) (ρ : Nat → RV) (env : Env) (a : Act) : Prop := ∀ t, AVR C n ρ (getT t env) (a.tmps.getD t undef)
/-- The later table of objects knows what the elder one knew. -/
def Ext (n : Nat) (ρ ρ' : Nat → RV) : Prop := ∀ k, k < n → ρ' k = ρ k
theorem Ext.refl (n : Nat) (ρ : Nat → RV) : Ext n ρ ρ := fun _ _ => rfl
theorem Ext.trans {n m : Nat} {ρ ρ' ρ'' : Nat → RV} (h : Ext n ρ ρ') (h' : Ext m ρ' ρ'') (hn : n ≤ m) : Ext n ρ ρ'' := fun k hk => (h' k (Nat.lt_of_lt_of_le hk hn)).trans (h k hk)

section
variable {C : Cx} {n n' : Nat} {ρ ρ' : Nat → RV}
/-- Keys turned. -/
structure Turn (n n' : Nat) (ρ ρ' : Nat → RV) (f : Nat → Option Nat) : Prop where
  at_ : ∀ k j, k < n → f k = some j → j < n' ∧ (ρ' j).hdr = (ρ k).hdr ∧ ((∃ a m c, (ρ k).hdr = .slice a m c) → (ρ' j).size = (ρ k).size)
mutual
theorem VR.ren {f : Nat → Option Nat} (T : Turn n n' ρ ρ' f) : ∀ {s : SV} {v : Value}, VR C n ρ s v → VR C n' ρ' (s.ren f) v
  | _, _, .undef v => .undef v
  | _, _, .int k x => .int k x
  | _, _, .bool b => .bool b
  | _, _, .str s => .str s
  | _, _, .nilp => .nilp
  | _, _, .nilf => .nilf
  | _, _, .nils c h hw => .nils c h hw
  | _, _, .ro t c a cap h hc => .ro t c a cap h hc
  | _, _, .rptr t c i o b q h hi => .rptr t c i o b q h hi
  | _, _, .fn g caps cs h => .fn g _ cs (VRL.ren T h)
  | _, _, .ptr k o b hk h => by
    simp only [SV.ren]
    cases e : f k with
    | none => exact .undef _
    | some j => obtain ⟨h1, h2, _⟩ := T.at_ k j hk e; exact .ptr j o b h1 (by rw [h2]; exact h)
  | _, _, .eptr k i o b q m cap hk h hi => by
    simp only [SV.ren]
    cases e : f k with
    | none => exact .undef _
    | some j => obtain ⟨h1, h2, h3⟩ := T.at_ k j hk e; rw [← h3 ⟨_, _, _, h⟩]; exact .eptr j i o b q m cap h1 (by rw [h2]; exact h) hi
  | _, _, .row k a m cap hk h => by
    simp only [SV.ren]
    cases e : f k with
    | none => exact .undef _
    | some j => obtain ⟨h1, h2, _⟩ := T.at_ k j hk e; exact .row j a m cap h1 (by rw [h2]; exact h)
  | _, _, .viewNil k hk h => by
    simp only [SV.ren]
    cases e : f k with
    | none => exact .undef _
    | some j => obtain ⟨h1, h2, _⟩ := T.at_ k j hk e; exact .viewNil j h1 (by rw [h2]; exact h)
  | _, _, .view k o m b q len cap q' hk h hl hc hq hq' => by
    simp only [SV.ren]
    cases e : f k with
    | none => exact .undef _
    | some j => obtain ⟨h1, h2, h3⟩ := T.at_ k j hk e; exact .view j o m b q len cap q' h1 (by rw [h2]; exact h) hl hc (by rw [h3 ⟨_, _, _, h⟩]; exact hq) (by rw [h3 ⟨_, _, _, h⟩]; exact hq')
  | _, _, .cview k o m b q cap hk h hq hc => by
    simp only [SV.ren]
    cases e : f k with
    | none => exact .undef _
    | some j => obtain ⟨h1, h2, _⟩ := T.at_ k j hk e; exact .cview j o m b q cap h1 (by rw [h2]; exact h) hq hc
theorem VRL.ren {f : Nat → Option Nat} (T : Turn n n' ρ ρ' f) : ∀ {l : List SV} {vs : List Value}, VRL C n ρ l vs → VRL C n' ρ' (renL f l) vs
  | _, _, .nil => .nil
  | _, _, .cons s v l vs h hl => .cons _ v _ vs (VR.ren T h) (VRL.ren T hl)
end
mutual
theorem AVR.ren {f : Nat → Option Nat} (T : Turn n n' ρ ρ' f) : ∀ {s : AV} {v : Value}, AVR C n ρ s v → AVR C n' ρ' (s.ren f) v
  | _, _, .one s v h => .one _ v (VR.ren T h)
  | _, _, .agg l vs h => .agg _ vs (VRL.ren T h)
  | _, _, .tup l vs h => .tup _ vs (AVRL.ren T h)
theorem AVRL.ren {f : Nat → Option Nat} (T : Turn n n' ρ ρ' f) : ∀ {l : List AV} {vs : List Value}, AVRL C n ρ l vs → AVRL C n' ρ' (renT f l) vs
  | _, _, .nil => .nil
  | _, _, .cons s v l vs h hl => .cons _ v _ vs (AVR.ren T h) (AVRL.ren T hl)
end
mutual
theorem VR.ext (hn : n ≤ n') (E : Ext n ρ ρ') : ∀ {s : SV} {v : Value}, VR C n ρ s v → VR C n' ρ' s v
  | _, _, .undef v => .undef v
  | _, _, .int k x => .int k x
  | _, _, .bool b => .bool b
  | _, _, .str s => .str s
  | _, _, .nilp => .nilp
  | _, _, .nilf => .nilf
  | _, _, .nils c h hw => .nils c h hw
  | _, _, .ro t c a cap h hc => .ro t c a cap h hc
  | _, _, .rptr t c i o b q h hi => .rptr t c i o b q h hi
  | _, _, .fn g caps cs h => .fn g _ cs (VRL.ext hn E h)
  | _, _, .ptr k o b hk h => .ptr k o b (Nat.lt_of_lt_of_le hk hn) (by rw [E k hk]; exact h)
  | _, _, .eptr k i o b q m cap hk h hi => by rw [← E k hk]; exact .eptr k i o b q m cap (Nat.lt_of_lt_of_le hk hn) (by rw [E k hk]; exact h) hi
  | _, _, .row k a m cap hk h => .row k a m cap (Nat.lt_of_lt_of_le hk hn) (by rw [E k hk]; exact h)
  | _, _, .viewNil k hk h => .viewNil k (Nat.lt_of_lt_of_le hk hn) (by rw [E k hk]; exact h)
  | _, _, .view k o m b q len cap q' hk h hl hc hq hq' => .view k o m b q len cap q' (Nat.lt_of_lt_of_le hk hn) (by rw [E k hk]; exact h) hl hc (by rw [E k hk]; exact hq) (by rw [E k hk]; exact hq')
  | _, _, .cview k o m b q cap hk h hq hc => .cview k o m b q cap (Nat.lt_of_lt_of_le hk hn) (by rw [E k hk]; exact h) hq hc
theorem VRL.ext (hn : n ≤ n') (E : Ext n ρ ρ') : ∀ {l : List SV} {vs : List Value}, VRL C n ρ l vs → VRL C n' ρ' l vs
  | _, _, .nil => .nil
  | _, _, .cons s v l vs h hl => .cons _ v _ vs (VR.ext hn E h) (VRL.ext hn E hl)
end
mutual
theorem AVR.ext (hn : n ≤ n') (E : Ext n ρ ρ') : ∀ {s : AV} {v : Value}, AVR C n ρ s v → AVR C n' ρ' s v
  | _, _, .one s v h => .one _ v (VR.ext hn E h)
  | _, _, .agg l vs h => .agg _ vs (VRL.ext hn E h)
  | _, _, .tup l vs h => .tup _ vs (AVRL.ext hn E h)
theorem AVRL.ext (hn : n ≤ n') (E : Ext n ρ ρ') : ∀ {l : List AV} {vs : List Value}, AVRL C n ρ l vs → AVRL C n' ρ' l vs
  | _, _, .nil => .nil
  | _, _, .cons s v l vs h hl => .cons _ v _ vs (AVR.ext hn E h) (AVRL.ext hn E hl)
end
theorem EnvR.ext {env : Env} {a : Act} (hn : n ≤ n') (E : Ext n ρ ρ') (h : EnvR C n ρ env a) : EnvR C n' ρ' env a := fun t => (h t).ext hn E
theorem EnvR.put {env : Env} {a : Act} (h : EnvR C n ρ env a) {s : AV} {v : Value} (hv : AVR C n ρ s v) (dst : Option Nat) (hd : ∀ d, dst = some d → d < a.tmps.size) : EnvR C n ρ (putE env dst s) (a.put dst v) := by
  intro t
  cases dst with
  | none => exact h t
  | some d =>
    have hd' := hd d rfl
    simp only [putE, getT, Act.put, Array.getD_eq_getD_getElem?]
    by_cases e : t = d
    · subst e
      simp [hd', hv]
    · rw [if_neg e, Array.getElem?_setIfInBounds_ne (Ne.symm e)]
      have := h t
      rwa [Array.getD_eq_getD_getElem?] at this
theorem VRL.length {l : List SV} {vs : List Value} (h : VRL C n ρ l vs) : l.length = vs.length := by
  induction l generalizing vs with
  | nil => cases h; rfl
  | cons s l ih => cases h with | cons _ v _ vs h hl => simp [ih hl]
theorem VRL.get {l : List SV} {vs : List Value} (h : VRL C n ρ l vs) {i : Nat} {s : SV} (hi : l[i]? = some s) : ∃ v, vs[i]? = some v ∧ VR C n ρ s v := by
  induction l generalizing vs i with
  | nil => simp at hi
  | cons s' l ih =>
    cases h with
    | cons _ v _ vs h hl =>
      cases i with
      | zero => simp at hi; subst hi; exact ⟨v, rfl, h⟩
      | succ i => simpa using ih hl (by simpa using hi)
theorem VRL.set {l : List SV} {vs : List Value} (h : VRL C n ρ l vs) {s : SV} {v : Value} (hv : VR C n ρ s v) (i : Nat) : VRL C n ρ (l.set i s) (vs.set i v) := by
  induction l generalizing vs i with
  | nil => cases h; exact .nil
  | cons s' l ih =>
    cases h with
    | cons _ v' _ vs h hl =>
      cases i with
      | zero => exact .cons _ _ _ _ hv hl
      | succ i => exact .cons _ _ _ _ h (ih hl i)
theorem VRL.drop {l : List SV} {vs : List Value} (h : VRL C n ρ l vs) (i : Nat) : VRL C n ρ (l.drop i) (vs.drop i) := by
  induction l generalizing vs i with
  | nil => cases h; simp; exact .nil
  | cons s' l ih =>
    cases h with
    | cons _ v' _ vs h hl =>
      cases i with
      | zero => exact .cons _ _ _ _ h hl
      | succ i => exact ih hl i
theorem VRL.take {l : List SV} {vs : List Value} (h : VRL C n ρ l vs) (i : Nat) : VRL C n ρ (l.take i) (vs.take i) := by
  induction l generalizing vs i with
  | nil => cases h; simp; exact .nil
  | cons s' l ih =>
    cases h with
    | cons _ v' _ vs h hl =>
      cases i with
      | zero => exact .nil
      | succ i => exact .cons _ _ _ _ h (ih hl i)
theorem VRL.append {l m : List SV} {vs us : List Value} (h : VRL C n ρ l vs) (h' : VRL C n ρ m us) : VRL C n ρ (l ++ m) (vs ++ us) := by
  induction l generalizing vs with
  | nil => cases h; exact h'
  | cons s' l ih => cases h with | cons _ v' _ vs h hl => exact .cons _ _ _ _ h (ih hl)
theorem AVRL.get {l : List AV} {vs : List Value} (h : AVRL C n ρ l vs) {i : Nat} {s : AV} (hi : l[i]? = some s) : ∃ v, vs[i]? = some v ∧ AVR C n ρ s v := by
  induction l generalizing vs i with
  | nil => simp at hi
  | cons s' l ih =>
    cases h with
    | cons _ v _ vs h hl =>
      cases i with
      | zero => simp at hi; subst hi; exact ⟨v, rfl, h⟩
      | succ i => simpa using ih hl (by simpa using hi)
/-- A known cell is no composite. -/
theorem VR.cells {s : SV} {v : Value} (h : VR C n ρ s v) (hs : s ≠ .undef) : v.cells = #[v] := by
  cases h <;> first | rfl | exact absurd rfl hs
theorem HR.ext {hp : List Ob} {w : World} (h : HR C ρ hp w) : True := trivial
end
end Go.X
