/- The store of EpochsStay, plain: what is held stays. -/
import Derived.Test.YthcbhmgjkecppaaNk
set_option maxRecDepth 100000
set_option linter.unusedSimpArgs false
set_option linter.unusedVariables false
namespace Go.X.Try
theorem fnd_some {p : En → Bool} : ∀ {E : List En} {j : Nat}, fnd p E = some j → ∃ x, E[j]? = some x ∧ p x = true
  | [], j, h => by simp [fnd] at h
  | y :: l, j, h => by
    simp only [fnd] at h
    split at h
    · rename_i hp
      simp at h; subst h
      exact ⟨y, rfl, hp⟩
    · obtain ⟨i, hi, rfl⟩ := Option.map_eq_some_iff.1 h
      obtain ⟨x, h1, h2⟩ := fnd_some hi
      exact ⟨x, by simpa using h1, h2⟩
theorem fnd_none {p : En → Bool} : ∀ {E : List En}, fnd p E = none → ∀ x ∈ E, p x = false
  | [], h, x, hx => by simp at hx
  | y :: l, h, x, hx => by
    simp only [fnd] at h
    split at h
    · simp at h
    · rename_i hp
      rcases List.mem_cons.1 hx with rfl | hx
      · simpa using hp
      · exact fnd_none (Option.map_eq_none_iff.1 h) x hx
theorem fnd_is {p : En → Bool} : ∀ {E : List En} {j : Nat} {x : En}, E[j]? = some x → p x = true → (∀ i y, i < j → E[i]? = some y → p y = false) → fnd p E = some j
  | [], j, x, h, _, _ => by simp at h
  | y :: l, 0, x, h, hp, _ => by
    simp at h; subst h
    simp [fnd, hp]
  | y :: l, j + 1, x, h, hp, hn => by
    have h0 := hn 0 y (by omega) rfl
    have := fnd_is (E := l) (j := j) (x := x) (by simpa using h) hp (fun i z hi hz => hn (i + 1) z (by omega) (by simpa using hz))
    simp [fnd, h0, this]
/-- What the map holds. -/
def hm (E : List En) (x : Int) : Option ByteArray := (E.find? fun e => e.ep == x && decide (0 < e.hd)).map (·.tx)
def hcn (E : List En) : Nat := (E.filter fun e => decide (0 < e.hd)).length
structure Kept (E : List En) (last : Int) : Prop where
  len : E.length ≤ 8
  asc : E.Pairwise fun a b => a.ep < b.ep
  lo : ∀ e ∈ E, 1 ≤ e.ep ∧ e.ep ≤ last
  hd : ∀ e ∈ E, e.hd = 0 ∨ e.hd = 1
  pos : 0 ≤ last
theorem Kept.none (last : Int) (h : 0 ≤ last) : Kept [] last := ⟨by simp, .nil, nofun, nofun, h⟩
theorem hm_drop {A B : List En} {e : En} (h : e.hd = 0) : hm (A ++ B) = hm (A ++ e :: B) ∧ hcn (A ++ B) = hcn (A ++ e :: B) := by
  have h0 : decide (0 < e.hd) = false := by rw [h]; decide
  constructor
  · funext x
    simp [hm, List.find?_append, List.find?_cons, h0]
  · simp [hcn, List.filter_append, List.filter_cons, h0]
theorem Kept.drop {A B : List En} {e : En} {last : Int} (K : Kept (A ++ e :: B) last) : Kept (A ++ B) last := by
  have sub : (A ++ B).Sublist (A ++ e :: B) := (List.Sublist.refl A).append (List.sublist_cons_self e B)
  exact ⟨by have := K.len; have := sub.length_le; omega, K.asc.sublist sub, fun x hx => K.lo x (sub.subset hx), fun x hx => K.hd x (sub.subset hx), K.pos⟩
theorem Kept.hm_lt {E : List En} {last x : Int} (K : Kept E last) {t : ByteArray} (h : hm E x = some t) : 1 ≤ x ∧ x ≤ last := by
  simp only [hm, Option.map_eq_some_iff] at h
  obtain ⟨e, he, _⟩ := h
  have h1 := List.mem_of_find?_eq_some he
  have h2 := List.find?_some he
  simp at h2
  have := K.lo e h1
  omega
/-- One more. -/
theorem Kept.add {E : List En} {last : Int} (K : Kept E last) (hl : E.length < 8) (t : ByteArray) (h : Int) (hh : h = 0 ∨ h = 1) : Kept (E ++ [⟨last + 1, t, h⟩]) (last + 1) := by
  have kp := K.pos
  refine ⟨by simp; omega, ?_, fun e he => ?_, fun e he => ?_, by omega⟩
  · rw [List.pairwise_append]
    refine ⟨K.asc, by simp, fun a ha b hb => ?_⟩
    simp at hb; subst hb
    have := K.lo a ha
    show a.ep < last + 1
    omega
  · rcases List.mem_append.1 he with he | he
    · have := K.lo e he; omega
    · simp at he; subst he
      show 1 ≤ last + 1 ∧ last + 1 ≤ last + 1
      omega
  · rcases List.mem_append.1 he with he | he
    · exact K.hd e he
    · simp at he; subst he; exact hh
theorem hm_add {E : List En} {last : Int} (K : Kept E last) (t : ByteArray) : (hm (E ++ [⟨last + 1, t, 0⟩]) = hm E ∧ hcn (E ++ [⟨last + 1, t, 0⟩]) = hcn E) ∧ ((∀ x, hm (E ++ [⟨last + 1, t, 1⟩]) x = if x = last + 1 then some t else hm E x) ∧ hcn (E ++ [⟨last + 1, t, 1⟩]) = hcn E + 1) := by
  refine ⟨⟨?_, ?_⟩, fun x => ?_, ?_⟩
  · funext x; simp [hm, List.find?_append, List.find?_cons]
  · simp [hcn, List.filter_append]
  · by_cases hx : x = last + 1
    · subst hx
      rw [if_pos rfl]
      have h0 : E.find? (fun e => e.ep == last + 1 && decide (0 < e.hd)) = none := by
        rw [List.find?_eq_none]
        intro e he
        have := K.lo e he
        have h3 : (e.ep == last + 1) = false := by simp; omega
        simp [h3]
      simp [hm, List.find?_append, h0]
    · rw [if_neg hx]
      have h3 : (last + 1 == x) = false := by simp; omega
      simp [hm, List.find?_append, List.find?_cons, h3]
  · simp [hcn, List.filter_append]
theorem fndI_of {p : En → Bool} {E : List En} {j : Nat} (h : fnd p E = some j) : fndI p E = j := by simp [fndI, h]
theorem fndI_no {p : En → Bool} {E : List En} (h : fnd p E = none) : fndI p E = -1 := by simp [fndI, h]
/-- The place of an epoch. -/
theorem Kept.at_ {E : List En} {last : Int} (K : Kept E last) {j : Nat} {x : En} (h : E[j]? = some x) : fndI (fun e => e.ep == x.ep) E = j := by
  refine fndI_of (fnd_is h (by simp) fun i y hi hy => ?_)
  have hj := (List.getElem?_eq_some_iff.1 h).1
  have a := (List.getElem?_eq_some_iff.1 h).2
  have b := (List.getElem?_eq_some_iff.1 hy).2
  have := List.pairwise_iff_getElem.1 K.asc i j (by omega) hj hi
  rw [a, b] at this
  simp; omega
/-- Text: of what the map holds. -/
theorem Kept.text {E : List En} {last x : Int} {t : ByteArray} (K : Kept E last) (h : hm E x = some t) : F21 [.one (.ptr 0 0), .one (.int .i64 x)] (stE (some 0) last E) = some (.tup [.one (.str t), .one (.bool true)], stE (some 0) last E) := by
  simp only [hm, Option.map_eq_some_iff] at h
  obtain ⟨e, he, rfl⟩ := h
  have h2 := List.find?_some he
  simp at h2
  obtain ⟨j, hj⟩ := List.mem_iff_getElem?.1 (List.mem_of_find?_eq_some he)
  have h3 := K.at_ hj
  rw [h2.1] at h3
  exact f21y last x E j e (by have := K.len; omega) h3 hj
/-- Hold: of the one just added. -/
theorem Kept.hold {E : List En} {last : Int} (K : Kept E last) (hl : E.length < 8) (t : ByteArray) : F20 [.one (.ptr 0 0), .one (.int .i64 (last + 1))] (stE (some 0) (last + 1) (E ++ [⟨last + 1, t, 0⟩])) = some (.one (.bool true), stE (some 0) (last + 1) (E ++ [⟨last + 1, t, 1⟩])) := by
  have K1 := K.add hl t 0 (.inl rfl)
  have hj : (E ++ [(⟨last + 1, t, 0⟩ : En)])[E.length]? = some ⟨last + 1, t, 0⟩ := by simp
  have h3 := K1.at_ hj
  have := f20y (last + 1) (last + 1) (E ++ [⟨last + 1, t, 0⟩]) E.length ⟨last + 1, t, 0⟩ (by have := K1.len; omega) h3 hj (by simp)
  rw [this]
  have e : (E ++ [(⟨last + 1, t, 0⟩ : En)]).set E.length ⟨last + 1, t, 0 + 1⟩ = E ++ [⟨last + 1, t, 1⟩] := by
    rw [List.set_append_right _ _ (Nat.le_refl _)]; simp
  simp only at e ⊢
  rw [e]
/-- Add. -/
theorem Kept.adds {E : List En} {last : Int} (K : Kept E last) (t : ByteArray) (ht : t.size ≤ 256) (hla : last ≤ 1000) :
    (∃ E', Kept E' last ∧ E'.length < 8 ∧ hm E' = hm E ∧ hcn E' = hcn E ∧ F19 [.one (.ptr 0 0), .one (.str t)] (stE (some 0) last E) = some (.tup [.one (.int .i64 (last + 1)), .one (.int .i64 0)], stE (some 0) (last + 1) (E' ++ [⟨last + 1, t, 0⟩]))) ∨
    (7 ≤ hcn E ∧ F19 [.one (.ptr 0 0), .one (.str t)] (stE (some 0) last E) = some (.tup [.one (.int .i64 0), .one (.int .i64 2)], stE (some 0) last E)) := by
  have hs : ¬ (256 : Int) < t.size := by omega
  have hl := K.len
  have kp := K.pos
  by_cases h8 : E.length < 8
  · exact .inl ⟨E, K, h8, rfl, rfl, f19y last E E t hs (f79a last E h8) h8 ⟨kp, hla⟩⟩
  have h8' : E.length = 8 := by omega
  cases hf : fnd (fun x => x.hd == 0 && x.ep != last) E with
  | some j =>
    left
    obtain ⟨x, hx, hp⟩ := fnd_some hf
    have hj := (List.getElem?_eq_some_iff.1 hx).1
    have hxj := (List.getElem?_eq_some_iff.1 hx).2
    have e : E = E.take j ++ x :: E.drop (j + 1) := by rw [← hxj, ← List.drop_eq_getElem_cons hj, List.take_append_drop]
    have hz : x.hd = 0 := by simp at hp; exact hp.1
    have h1 := f79y last E j h8' (fndI_of hf) hj
    have h2 := hm_drop (A := E.take j) (B := E.drop (j + 1)) hz
    have K2 : Kept (E.take j ++ E.drop (j + 1)) last := by rw [e] at K; exact K.drop
    have hl2 : (E.take j ++ E.drop (j + 1)).length < 8 := by simp; omega
    rw [← e] at h2
    exact ⟨_, K2, hl2, h2.1, h2.2, f19y last E _ t hs h1 hl2 ⟨kp, hla⟩⟩
  | none =>
    right
    refine ⟨?_, f19f last E t hs (f79n last E h8' (fndI_no hf))⟩
    have hall := fnd_none hf
    -- all but the one with the last epoch are held
    have key : ∀ (l : List En), l.Pairwise (fun a b => a.ep < b.ep) → (∀ e ∈ l, e.ep ≤ last ∧ (e.hd = 0 ∨ e.hd = 1) ∧ (e.hd == 0 && e.ep != last) = false) → l.length ≤ hcn l + 1 := by
      intro l
      induction l with
      | nil => intro _ _; simp
      | cons a l ih =>
        intro hp hq
        rw [List.pairwise_cons] at hp
        have h1 := ih hp.2 (fun e he => hq e (List.mem_cons_of_mem _ he))
        obtain ⟨q1, q2, q3⟩ := hq a (List.mem_cons_self)
        by_cases hz : 0 < a.hd
        · have : hcn (a :: l) = hcn l + 1 := by simp [hcn, List.filter_cons, hz]
          rw [this, List.length_cons]; omega
        · have ha : a.hd = 0 := by omega
          have hla : a.ep = last := by simpa [ha] using q3
          have hnil : l = [] := by
            cases l with
            | nil => rfl
            | cons b l =>
              have := hp.1 b (List.mem_cons_self)
              have := (hq b (by simp)).1
              omega
          subst hnil; simp
    have := key E K.asc (fun e he => ⟨(K.lo e he).2, K.hd e he, hall e he⟩)
    omega
end Go.X.Try
