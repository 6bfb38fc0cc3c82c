/- The store in the world, and what a call of one of its methods leaves. -/
import Derived.Test.YthcbhmgjkecppaaVa
set_option maxRecDepth 100000
set_option linter.unusedSimpArgs false
set_option linter.unusedVariables false
namespace Go.X.Try
open Go.X
/-- The store's blocks. -/
def Sb (ρ : Nat → RV) (b : Nat) : Prop := blkOf (ρ 0).hdr = some b ∨ blkOf (ρ 1).hdr = some b
def CS (P : Go.Program) (w : World) (ρ : Nat → RV) : Cx := ⟨P, w, fun b => Sb ρ b, fun _ => 0, ρ, []⟩
def CB (P : Go.Program) (W : World) : Cx := ⟨P, W, fun _ => False, fun _ => 0, fun _ => ⟨.nilFunc, 0⟩, []⟩
/-- The store lies in w, among the blocks from W's end on. -/
def stHR (W w : World) (ρ : Nat → RV) (last : Int) (E : List En) : Prop := HR (CB Go.Proofs.Try.prog W) ρ (stE none last E) w
theorem stE_alive (g : Option Nat) (last : Int) (E : List En) (X : List Ob) (k : Nat) (hk : k < 2) : alive (stE g last E ++ X) k := by
  match k, hk with
  | 0, _ => exact ⟨_, rfl, by simp⟩
  | 1, _ => exact ⟨_, rfl, by simp⟩
theorem alive_two {g : Option Nat} {last : Int} {E : List En} {k : Nat} (h : alive (stE g last E) k) : k < 2 := by
  obtain ⟨o, ho, _⟩ := h
  have := (List.getElem?_eq_some_iff.1 ho).1
  simpa [stE] using this
/-- Read in one context, read in another one. -/
theorem hr_turn {C C' : Cx} {ρ : Nat → RV} {w : World} {g g' : Option Nat} {last : Int} {E : List En} {X : List Ob} (h : HR C ρ (stE g last E ++ X) w) (ho : ∀ b, Sb ρ b → C'.own b) (hg : ∀ i, g' = some i → (C'.r0 i).hdr = (ρ 0).hdr) : HR C' ρ (stE g' last E) w := by
  refine ⟨fun k o hk => ?_, fun j k b hjk hj hk hb => h.ne j k b hjk (stE_alive _ _ _ _ _ (alive_two hj)) (stE_alive _ _ _ _ _ (alive_two hk)) hb⟩
  match k, hk with
  | 0, hk =>
    obtain rfl : Ob.cells g' [.row 1, .int .i64 last] = o := by simpa [stE] using hk
    obtain ⟨b, T, cur, e, own, hh, hv, tg⟩ := h.ob 0 _ (show (stE g last E ++ X)[0]? = some (.cells g [.row 1, .int .i64 last]) from rfl)
    refine ⟨b, T, cur, e, ho b (.inl (by rw [e]; rfl)), hh, ?_, hg⟩
    cases cur with
    | mk l =>
      cases hv with
      | cons _ v1 _ vs h1 h2 =>
        cases h2 with
        | cons _ v2 _ vs2 h3 h4 =>
          cases h4
          cases h1 with
          | row _ a m cap hk1 e1 =>
            cases h3
            exact .cons _ _ _ _ (.row 1 a m cap (by simp [stE]) e1) (.cons _ _ _ _ (.int _ _) .nil)
  | 1, hk =>
    obtain rfl : Ob.rows none (.recs 3 (E.map En.sc)) = o := by simpa [stE] using hk
    obtain ⟨wf, sz, tg, hr⟩ := h.ob 1 _ (show (stE g last E ++ X)[1]? = some (.rows none (.recs 3 (E.map En.sc))) from rfl)
    refine ⟨wf, sz, nofun, ?_⟩
    rcases hr with hr | ⟨b, o, cap, cur, T, fr, e, own, hr⟩
    · exact .inl hr
    · exact .inr ⟨b, o, cap, cur, T, fr, e, ho b (.inr (by rw [e]; rfl)), hr⟩
  | k + 2, hk => simp [stE] at hk
/-- Where the store's blocks lie. -/
theorem hr_own {C : Cx} {ρ : Nat → RV} {w : World} {g : Option Nat} {last : Int} {E : List En} {X : List Ob} (h : HR C ρ (stE g last E ++ X) w) : ∀ b, Sb ρ b → C.own b ∧ b < w.heap.size := by
  intro b hb
  rcases hb with hb | hb
  · obtain ⟨b', T, cur, e, own, hh, _⟩ := h.ob 0 _ (show (stE g last E ++ X)[0]? = some (.cells g [.row 1, .int .i64 last]) from rfl)
    rw [e] at hb
    simp [blkOf] at hb; subst hb
    exact ⟨own, (Array.getElem?_eq_some_iff.1 hh).1⟩
  · obtain ⟨wf, sz, tg, hr⟩ := h.ob 1 _ (show (stE g last E ++ X)[1]? = some (.rows none (.recs 3 (E.map En.sc))) from rfl)
    rcases hr with ⟨e, _⟩ | ⟨b', o, cap, cur, T, fr, e, own, hh, _⟩
    · rw [e] at hb; simp [blkOf] at hb
    · rw [e] at hb
      simp [blkOf] at hb; subst hb
      exact ⟨own, (Array.getElem?_eq_some_iff.1 hh).1⟩
theorem stHR.own {W w : World} {ρ : Nat → RV} {last : Int} {E : List En} (h : stHR W w ρ last E) {b : Nat} (hb : Sb ρ b) : W.heap.size ≤ b ∧ b < w.heap.size := by
  obtain ⟨h1, h2⟩ := hr_own (X := []) (by rw [List.append_nil]; exact h) b hb
  rcases h1 with h1 | h1
  · exact h1.elim
  · exact ⟨h1, h2⟩
/-- Other blocks turn, the store stays. -/
theorem stHR.kept {W w w' : World} {ρ : Nat → RV} {last : Int} {E : List En} (h : stHR W w ρ last E) (hb : ∀ b, Sb ρ b → w'.heap[b]? = w.heap[b]?) : stHR W w' ρ last E := by
  refine ⟨fun k o hk => ?_, h.ne⟩
  match k, hk with
  | 0, hk =>
    obtain rfl : Ob.cells none [.row 1, .int .i64 last] = o := by simpa [stE] using hk
    obtain ⟨b, T, cur, e, own, hh, hv⟩ := h.ob 0 _ rfl
    exact ⟨b, T, cur, e, own, by rw [hb b (.inl (by rw [e]; rfl))]; exact hh, hv⟩
  | 1, hk =>
    obtain rfl : Ob.rows none (.recs 3 (E.map En.sc)) = o := by simpa [stE] using hk
    obtain ⟨wf, sz, tg, hr⟩ := h.ob 1 _ rfl
    refine ⟨wf, sz, tg, ?_⟩
    rcases hr with hr | ⟨b, o, cap, cur, T, fr, e, own, hh, hr⟩
    · exact .inl hr
    · exact .inr ⟨b, o, cap, cur, T, fr, e, own, by rw [hb b (.inr (by rw [e]; rfl))]; exact hh, hr⟩
  | k + 2, hk => simp [stE] at hk
/-- What a method leaves: the store, and all other blocks as they were. -/
structure Left (W w w' : World) (ρ ρ' : Nat → RV) (last : Int) (E : List En) : Prop where
  st : stHR W w' ρ' last E
  ptr : (ρ' 0).hdr = (ρ 0).hdr
  os : w'.os = w.os
  tape : w'.tape = w.tape
  output : w'.output = w.output
  size : w.heap.size ≤ w'.heap.size
  block : ∀ b, b < w.heap.size → ¬ Sb ρ b → w'.heap[b]? = w.heap[b]?
  sb : ∀ b, Sb ρ' b → Sb ρ b ∨ w.heap.size ≤ b
theorem left_of {W w w' : World} {ρ ρ' : Nat → RV} {last last' : Int} {E E' : List En} {X : List Ob} (hW : W.heap.size ≤ w.heap.size) (h0 : stHR W w ρ last E) (h : HR (CS Go.Proofs.Try.prog w ρ) ρ' (stE (some 0) last' E' ++ X) w') (hF : FR (CS Go.Proofs.Try.prog w ρ) w') : Left W w w' ρ ρ' last' E' := by
  have own : ∀ b, Sb ρ' b → Sb ρ b ∨ w.heap.size ≤ b := fun b hb => (hr_own h b hb).1
  obtain ⟨_, _, _, _, _, _, _, tg⟩ := h.ob 0 _ (show (stE (some 0) last' E' ++ X)[0]? = some (.cells (some 0) [.row 1, .int .i64 last']) from rfl)
  refine ⟨hr_turn h (fun b hb => .inr ?_) nofun, (tg 0 rfl).symm, hF.os, hF.tape, hF.output, hF.size, fun b h1 h2 => hF.block b h1 h2, own⟩
  rcases own b hb with h1 | h1
  · exact (h0.own h1).1
  · exact Nat.le_trans hW h1
theorem st_call {f : Nat} {F : Callee} {W w : World} {ρ : Nat → RV} {last last' : Int} {E E' : List En} {X : List Ob} {args : List AV} {res : AV} {vs : List Value} {b0 : Nat} (hS : Sound Go.Proofs.Try.prog f F)
    (h : F (.one (.ptr 0 0) :: args) (stE (some 0) last E) = some (res, stE (some 0) last' E' ++ X)) (ha : ∀ C n ρ, AVRL C n ρ args vs) (hst : stHR W w ρ last E) (hW : W.heap.size ≤ w.heap.size) (hp : (ρ 0).hdr = .pointer (some ⟨b0, 0, none⟩)) :
    Calls Go.Proofs.Try.prog f (.pointer (some ⟨b0, 0, none⟩) :: vs).toArray w fun e w' => ∃ ρ' rv, e = .returned rv ∧ AVR (CS Go.Proofs.Try.prog w ρ) (stE (some 0) last' E' ++ X).length ρ' res rv ∧ HR (CS Go.Proofs.Try.prog w ρ) ρ' (stE (some 0) last' E' ++ X) w' ∧ Left W w w' ρ ρ' last' E' := by
  have h1 : HR (CS Go.Proofs.Try.prog w ρ) ρ (stE (some 0) last E) w := hr_turn (X := []) (g := none) (by rw [List.append_nil]; exact hst) (fun b hb => .inl hb) (fun i hi => by simp at hi; subst hi; rfl)
  refine ((hS _ _ _ _ h).2 (CS Go.Proofs.Try.prog w ρ) ρ w (.pointer (some ⟨b0, 0, none⟩) :: vs) rfl rfl rfl (.cons _ _ _ _ (.one _ _ (.ptr 0 0 b0 (by simp [stE]) hp)) (ha _ _ _)) h1).mono ?_
  rintro e w' ⟨ρ', rv, rfl, hv, hH, hF⟩
  exact ⟨ρ', rv, rfl, hv, hH, left_of hW hst hH hF⟩
end Go.X.Try
