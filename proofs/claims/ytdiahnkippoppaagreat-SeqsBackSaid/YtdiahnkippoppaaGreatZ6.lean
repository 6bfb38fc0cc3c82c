import Derived.Test.YtdiahnkippoppaaGreatZ5
set_option linter.unusedVariables false
set_option linter.unusedSimpArgs false
set_option linter.unusedSectionVars false
set_option maxRecDepth 100000
namespace Go.X.Tryz
open Go.IntWalk
theorem f56 (l : List Int) (n : Nat) (hn : n ≤ 1000) (hB : isB l) (hl : l.length ≤ 80000) : match shS l n with
    | some (o, r) => F56 [.one (.ptr 0 0), .one (.int .i64 n)] (rHp (some 0) l false) = some (.tup [.one (.row 1), .one (.bool true)], rHp (some 0) r false ++ [.rows none (.ints .u8 o)])
    | none => ∃ l' b X, F56 [.one (.ptr 0 0), .one (.int .i64 n)] (rHp (some 0) l false) = some (.tup [.one (.row 1), .one (.bool false)], rHp (some 0) l' b ++ [.rows none (.ints .u8 X)]) := by
  unfold shS
  cases h1 : txt l with
  | none => exact ⟨_, _, _, run56a l n hB hl h1⟩
  | some p =>
    obtain ⟨h, r⟩ := p
    dsimp only
    cases h2 : txt r with
    | none => exact ⟨_, _, _, run56b l h r n hB hl h1 h2⟩
    | some p2 =>
      obtain ⟨b, r2⟩ := p2
      dsimp only
      cases h3 : hdT (leB h) (8 * h.length) 0 with
      | none => exact ⟨_, _, _, run56c l h r b r2 n hB hl h1 h2 h3⟩
      | some p3 =>
        obtain ⟨share, log, pos⟩ := p3
        dsimp only
        cases h4 : endB (leB h) (8 * h.length) pos with
        | false => rw [if_neg (by simp)]; exact ⟨_, _, _, run56d l h r b r2 share log pos n hB hl h1 h2 h3 h4⟩
        | true =>
          rw [if_pos rfl]
          have e := run56e l h r b r2 share log pos n hn hB hl h1 h2 h3 h4
          cases hd : decO log (natsOf share) b n with
          | none => rw [hd] at e; exact ⟨_, _, _, e⟩
          | some o => rw [hd] at e; exact e
def unR : List Int → Nat → Option (List Int × List Int)
  | [], _ => none
  | k :: r, n => if k = 0 then (if r.length < n then none else some (r.take n, r.drop n))
    else if k = 1 then (match r with | [] => none | c :: r' => if c < 28 then some (List.replicate n c, r') else none)
    else if k = 2 then shS r n else none
def big (o : List Int) : Bool := o.any fun c => decide (28 ≤ c)
def unS (l : List Int) (n : Nat) : Option (List Int × List Int) := match unR l n with
  | some (o, r) => if big o = true then none else some (o, r)
  | none => none
def ret35 (o : List Int) (r : List Int) (b : Bool) : Res := some (.tup [.one (.row 1), .one (.bool b)], rHp (some 0) r false ++ [.rows none (.ints .u8 o)])
theorem run35a (n : Nat) : F35 [.one (.ptr 0 0), .one (.int .i64 n)] (rHp (some 0) [] false) = some (.tup [.one (.row 1), .one (.bool false)], rHp (some 0) [] true ++ [.rows none (.ints .u8 [])]) := by
  have e54 := f54 [] 1 (by simp [isB]) (by simp)
  have hr : rAns [] (sz 1 : Nat) = ([], [], true) := by decide
  rw [hr] at e54
  have hl0 : leB ([] : List Int) = 0 := rfl
  have e34 := f34 [] true
  simp only [rHp, hl0] at e54 e34 ⊢
  simp -implicitDefEqProofs [F35, c35, upd, e54, e34]
theorem kind35 (k : Int) (r : List Int) (hB : isB (k :: r)) (hl : r.length ≤ 80000) : F54 [.one (.ptr 0 0), .one (.int .i64 1)] (rHp (some 0) (k :: r) false) = some (.one (.int .u64 k), rHp (some 0) r false) := by
  have e54 := f54 (k :: r) 1 hB (by simp; omega)
  have hs : sz 1 = 1 := by decide
  have hr : rAns (k :: r) (sz 1 : Nat) = ([k], r, false) := by
    rw [hs]; unfold rAns; rw [if_neg (by simp; omega)]; rfl
  rw [hr] at e54
  have hk := hB k (by simp)
  have hl0 : ((leB [k] : Nat) : Int) = k := by simp [leB]; omega
  simp only [hl0] at e54
  exact e54
theorem run35b (r : List Int) (n : Nat) (hn : n ≤ 1000) (hB : isB r) (hl : r.length ≤ 80000) : F35 [.one (.ptr 0 0), .one (.int .i64 n)] (rHp (some 0) (0 :: r) false) = (if r.length < n then some (.tup [.one (.row 1), .one (.bool false)], rHp (some 0) [] true ++ [.rows none (.ints .u8 [])])
    else if big (r.take n) = true then some (.tup [.one (.row 1), .one (.bool false)], rHp (some 0) (r.drop n) false ++ [.rows none (.ints .u8 [])]) else some (.tup [.one (.row 1), .one (.bool true)], rHp (some 0) (r.drop n) false ++ [.rows none (.ints .u8 (r.take n))])) := by
  have e54 := kind35 0 r (fun b hb => by rcases List.mem_cons.1 hb with rfl | h; omega; exact hB b h) hl
  have e34a := f34 r false
  have hn0 : ¬ (n : Int) < 0 := by omega
  have hn1 : ¬ (4096 : Int) < n := by omega
  have e40 := f40' r n (by omega)
  unfold rAns at e40
  by_cases h : r.length < n
  · have hi : (r.length : Int) < n := by omega
    rw [if_pos hi] at e40
    rw [if_pos h]
    have e34b := f34 [] true
    have hs := size_ofBytes []
    have ht : toBytes (ofBytes []) = [] := rfl
    simp only [rHp] at e54 e34a e34b e40 ⊢
    simp -implicitDefEqProofs [F35, c35, upd, e54, e34a, e34b, e40, hn0, hn1, hs, ht]
  · have hi : ¬ (r.length : Int) < n := by omega
    rw [if_neg hi, Int.toNat_natCast] at e40
    rw [if_neg h]
    have e34b := f34 (r.drop n) false
    have hs := size_ofBytes (r.take n)
    have hsz : (r.take n).length ≤ 140737488355328 := by simp; omega
    have ht := toBytes_ofBytes (l := r.take n) (fun b hb => hB b (List.mem_of_mem_take hb))
    have e57 := fun t => f57 t (r.take n) (by simp; omega)
    have hbb : ((r.take n).any fun c => decide (28 ≤ c)) = big (r.take n) := rfl
    rw [hbb] at e57
    simp only [rHp] at e54 e34a e34b e40 ⊢
    generalize r.take n = o at *
    generalize r.drop n = d at *
    cases hb : big o with
    | true =>
      rw [hb] at e57
      simp -implicitDefEqProofs [F35, c35, upd, e54, e34a, e34b, e40, hn0, hn1, hs, hsz, ht, e57]
    | false =>
      rw [hb] at e57
      simp -implicitDefEqProofs [F35, c35, upd, e54, e34a, e34b, e40, hn0, hn1, hs, hsz, ht, e57]
theorem run35c (n : Nat) (hn : n ≤ 1000) : F35 [.one (.ptr 0 0), .one (.int .i64 n)] (rHp (some 0) [1] false) = some (.tup [.one (.row 1), .one (.bool false)], rHp (some 0) [] true ++ [.rows none (.ints .u8 [])]) := by
  have e54 := kind35 1 [] (by intro b hb; simp at hb; omega) (by simp)
  have e34a := f34 [] false
  have hn0 : ¬ (n : Int) < 0 := by omega
  have hn1 : ¬ (4096 : Int) < n := by omega
  have e40 := f40' [] 1 (by simp)
  have hr : rAns [] 1 = ([], [], true) := by decide
  rw [hr] at e40
  have e34b := f34 [] true
  have hs := size_ofBytes []
  have ht : toBytes (ofBytes []) = [] := rfl
  simp only [rHp] at e54 e34a e34b e40 ⊢
  simp -implicitDefEqProofs [F35, c35, upd, e54, e34a, e34b, e40, hn0, hn1, hs, ht, RC.len]
theorem big_rep (c : Int) (n : Nat) (h : c < 28) : big (List.replicate n c) = false := by
  unfold big
  rw [List.any_eq_false]
  intro x hx
  rw [(List.mem_replicate.1 hx).2]
  simp; omega
theorem run35d (c : Int) (r : List Int) (n : Nat) (hn : n ≤ 1000) (hB : isB (c :: r)) (hl : r.length ≤ 70000) : F35 [.one (.ptr 0 0), .one (.int .i64 n)] (rHp (some 0) (1 :: c :: r) false) = (if c < 28 then some (.tup [.one (.row 1), .one (.bool true)], rHp (some 0) r false ++ [.rows none (.ints .u8 (List.replicate n c))])
    else some (.tup [.one (.row 1), .one (.bool false)], rHp (some 0) r false ++ [.rows none (.ints .u8 [])])) := by
  have e54 := kind35 1 (c :: r) (fun b hb => by rcases List.mem_cons.1 hb with rfl | h; omega; exact hB b h) (by simp; omega)
  have e34a := f34 (c :: r) false
  have hn0 : ¬ (n : Int) < 0 := by omega
  have hn1 : ¬ (4096 : Int) < n := by omega
  have e40 := f40' (c :: r) 1 (by simp; omega)
  have hr : rAns (c :: r) 1 = ([c], r, false) := by
    unfold rAns; rw [if_neg (by simp; omega)]; rfl
  rw [hr] at e40
  have e34b := f34 r false
  have hs := size_ofBytes [c]
  have ht := toBytes_ofBytes (l := [c]) (isB_one (hB c (by simp)))
  have h1 : (1 : Nat) ≤ 140737488355328 := by omega
  simp only [rHp] at e54 e34a e34b e40 ⊢
  by_cases h : c < 28
  · rw [if_pos h]
    have e55 := fun t => f55 t c n hn
    have e57 := fun t => f57 t (List.replicate n c) (by simp; omega)
    have hbb : ((List.replicate n c).any fun c => decide (28 ≤ c)) = big (List.replicate n c) := rfl
    rw [hbb, big_rep c n h] at e57
    simp -implicitDefEqProofs [F35, c35, upd, e54, e34a, e34b, e40, hn0, hn1, hs, ht, h1, RC.len, RC.size, RC.get, h, e55, e57]
  · rw [if_neg h]
    simp -implicitDefEqProofs [F35, c35, upd, e54, e34a, e34b, e40, hn0, hn1, hs, ht, h1, RC.len, RC.size, RC.get, h]
theorem run35e (r o r2 : List Int) (b bad : Bool) (n : Nat) (hn : n ≤ 1000) (hB : isB r) (hl : r.length ≤ 80000) (hol : o.length ≤ 1000 ∨ b = false)
    (e56 : F56 [.one (.ptr 0 0), .one (.int .i64 n)] (rHp (some 0) r false) = some (.tup [.one (.row 1), .one (.bool b)], rHp (some 0) r2 bad ++ [.rows none (.ints .u8 o)])) :
    F35 [.one (.ptr 0 0), .one (.int .i64 n)] (rHp (some 0) (2 :: r) false) = (if bad = true ∨ b = false ∨ big o = true then some (.tup [.one (.row 1), .one (.bool false)], rHp (some 0) r2 bad ++ [.rows none (.ints .u8 [])])
      else some (.tup [.one (.row 1), .one (.bool true)], rHp (some 0) r2 bad ++ [.rows none (.ints .u8 o)])) := by
  have e54 := kind35 2 r (fun b hb => by rcases List.mem_cons.1 hb with rfl | h; omega; exact hB b h) hl
  have e34a := f34 r false
  have e34b := f34 r2 bad
  have hn0 : ¬ (n : Int) < 0 := by omega
  have hn1 : ¬ (4096 : Int) < n := by omega
  cases bad with
  | true =>
    simp only [rHp, List.cons_append, List.nil_append] at e54 e34a e34b e56 ⊢
    simp -implicitDefEqProofs [F35, c35, upd, e54, e34a, e34b, e56, hn0, hn1]
  | false =>
    cases b with
    | false =>
      simp only [rHp, List.cons_append, List.nil_append] at e54 e34a e34b e56 ⊢
      simp -implicitDefEqProofs [F35, c35, upd, e54, e34a, e34b, e56, hn0, hn1]
    | true =>
      have e57 := fun t => f57 t o (by rcases hol with h | h; omega; cases h)
      have hbb : (o.any fun c => decide (28 ≤ c)) = big o := rfl
      rw [hbb] at e57
      cases hb : big o with
      | true =>
        rw [hb] at e57
        simp only [rHp, List.cons_append, List.nil_append] at e54 e34a e34b e56 ⊢
        simp -implicitDefEqProofs [F35, c35, upd, e54, e34a, e34b, e56, e57, hn0, hn1]
      | false =>
        rw [hb] at e57
        simp only [rHp, List.cons_append, List.nil_append] at e54 e34a e34b e56 ⊢
        simp -implicitDefEqProofs [F35, c35, upd, e54, e34a, e34b, e56, e57, hn0, hn1]
theorem run35f (k : Int) (r : List Int) (n : Nat) (hn : n ≤ 1000) (hB : isB (k :: r)) (hl : r.length ≤ 80000) (h0 : k ≠ 0) (h1 : k ≠ 1) (h2 : k ≠ 2) :
    F35 [.one (.ptr 0 0), .one (.int .i64 n)] (rHp (some 0) (k :: r) false) = some (.tup [.one (.row 1), .one (.bool false)], rHp (some 0) r false ++ [.rows none (.ints .u8 [])]) := by
  have e54 := kind35 k r hB hl
  have e34a := f34 r false
  have hn0 : ¬ (n : Int) < 0 := by omega
  have hn1 : ¬ (4096 : Int) < n := by omega
  simp only [rHp, List.cons_append, List.nil_append] at e54 e34a ⊢
  simp -implicitDefEqProofs [F35, c35, upd, e54, e34a, hn0, hn1, h0, h1, h2]
theorem shS_ok {l o r : List Int} {n : Nat} (hB : isB l) (h : shS l n = some (o, r)) : o.length = n ∧ isB o ∧ isB r ∧ r.length < l.length := by
  unfold shS at h
  cases h1 : txt l with
  | none => rw [h1] at h; cases h
  | some p =>
    obtain ⟨hd, r1⟩ := p
    rw [h1] at h
    dsimp only at h
    obtain ⟨_, _, hBh, hB1, hlt1⟩ := txt_inv hB h1
    cases h2 : txt r1 with
    | none => rw [h2] at h; cases h
    | some p2 =>
      obtain ⟨b, r2⟩ := p2
      rw [h2] at h
      dsimp only at h
      obtain ⟨_, _, hBb, hB2, hlt2⟩ := txt_inv hB1 h2
      cases h3 : hdT (leB hd) (8 * hd.length) 0 with
      | none => rw [h3] at h; cases h
      | some p3 =>
        obtain ⟨share, log, pos⟩ := p3
        rw [h3] at h
        dsimp only at h
        obtain ⟨hf, _⟩ := hdT_ok h3
        obtain ⟨L, hL, S⟩ := shr_of hf
        obtain rfl : log = L := by omega
        split at h
        · obtain ⟨o', ho', e⟩ := Option.map_eq_some_iff.1 h
          simp only [Prod.mk.injEq] at e
          obtain ⟨rfl, rfl⟩ := e
          obtain ⟨q1, q2⟩ := decO_ok S hBb ho'
          exact ⟨q1, q2, hB2, by omega⟩
        · cases h
theorem unR_ok {l o r : List Int} {n : Nat} (hB : isB l) (h : unR l n = some (o, r)) : o.length = n ∧ isB o ∧ isB r ∧ r.length < l.length := by
  cases l with
  | nil => cases h
  | cons k l =>
    have hBl := hB.tail
    simp only [unR] at h
    split at h
    · split at h
      · cases h
      · simp only [Option.some.injEq, Prod.mk.injEq] at h
        obtain ⟨rfl, rfl⟩ := h
        exact ⟨by simp; omega, isB_take n hBl, isB_drop n hBl, by simp; omega⟩
    · split at h
      · cases l with
        | nil => cases h
        | cons c l =>
          dsimp only at h
          split at h
          · simp only [Option.some.injEq, Prod.mk.injEq] at h
            obtain ⟨rfl, rfl⟩ := h
            refine ⟨by simp, fun b hb => ?_, hBl.tail, by simp; omega⟩
            rw [(List.mem_replicate.1 hb).2]; exact hBl c (by simp)
          · cases h
      · split at h
        · obtain ⟨q1, q2, q3, q4⟩ := shS_ok hBl h
          exact ⟨q1, q2, q3, by simp; omega⟩
        · cases h
theorem unS_ok {l o r : List Int} {n : Nat} (hB : isB l) (h : unS l n = some (o, r)) : o.length = n ∧ isB o ∧ (∀ c ∈ o, c < 28) ∧ isB r ∧ r.length < l.length := by
  unfold unS at h
  cases h1 : unR l n with
  | none => rw [h1] at h; cases h
  | some p =>
    obtain ⟨o', r'⟩ := p
    rw [h1] at h
    dsimp only at h
    split at h
    · cases h
    · rename_i hb
      simp only [Option.some.injEq, Prod.mk.injEq] at h
      obtain ⟨rfl, rfl⟩ := h
      obtain ⟨q1, q2, q3, q4⟩ := unR_ok hB h1
      refine ⟨q1, q2, fun c hc => ?_, q3, q4⟩
      have hb' : big o' = false := by simpa using hb
      unfold big at hb'
      rw [List.any_eq_false] at hb'
      have := hb' c hc
      simp at this; omega
theorem f35 (l : List Int) (n : Nat) (hn : n ≤ 1000) (hB : isB l) (hl : l.length ≤ 70000) : match unS l n with
    | some (o, r) => F35 [.one (.ptr 0 0), .one (.int .i64 n)] (rHp (some 0) l false) = some (.tup [.one (.row 1), .one (.bool true)], rHp (some 0) r false ++ [.rows none (.ints .u8 o)])
    | none => ∃ l' b, F35 [.one (.ptr 0 0), .one (.int .i64 n)] (rHp (some 0) l false) = some (.tup [.one (.row 1), .one (.bool false)], rHp (some 0) l' b ++ [.rows none (.ints .u8 [])]) := by
  cases l with
  | nil => exact ⟨_, _, run35a n⟩
  | cons k r =>
    have hBr := hB.tail
    simp only [List.length_cons] at hl
    unfold unS
    simp only [unR]
    by_cases h0 : k = 0
    · subst h0
      rw [if_pos rfl]
      have e := run35b r n hn hBr (by omega)
      by_cases h : r.length < n
      · rw [if_pos h] at e ⊢; exact ⟨_, _, e⟩
      · rw [if_neg h] at e ⊢
        dsimp only
        cases hb : big (r.take n) with
        | true => rw [hb, if_pos rfl] at e; rw [if_pos rfl]; exact ⟨_, _, e⟩
        | false => rw [hb, if_neg (by simp)] at e; rw [if_neg (by simp)]; exact e
    · rw [if_neg h0]
      by_cases h1 : k = 1
      · subst h1
        rw [if_pos rfl]
        cases r with
        | nil => exact ⟨_, _, run35c n hn⟩
        | cons c r =>
          dsimp only
          have e := run35d c r n hn hBr (by simp at hl; omega)
          by_cases hc : c < 28
          · rw [if_pos hc] at e ⊢
            dsimp only
            rw [big_rep c n hc, if_neg (by simp)]
            exact e
          · rw [if_neg hc] at e ⊢; exact ⟨_, _, e⟩
      · rw [if_neg h1]
        by_cases h2 : k = 2
        · subst h2
          rw [if_pos rfl]
          have e56 := f56 r n hn hBr (by omega)
          cases hs : shS r n with
          | none =>
            rw [hs] at e56
            obtain ⟨l', b, X, e56⟩ := e56
            have e := run35e r X l' false b n hn hBr (by omega) (.inr rfl) e56
            rw [if_pos (.inr (.inl rfl))] at e
            exact ⟨_, _, e⟩
          | some p =>
            obtain ⟨o, r2⟩ := p
            rw [hs] at e56
            dsimp only at e56 ⊢
            have hlen := (shS_ok hBr hs).1
            have e := run35e r o r2 true false n hn hBr (by omega) (.inl (by omega)) e56
            cases hb : big o with
            | true => rw [if_pos (.inr (.inr hb))] at e; rw [if_pos rfl]; exact ⟨_, _, e⟩
            | false => rw [if_neg (by simp [hb])] at e; rw [if_neg (by simp)]; exact e
        · rw [if_neg h2]
          exact ⟨_, _, run35f k r n hn hB (by omega) h0 h1 h2⟩
theorem drop_suf {l p r : List Int} (h : l = p ++ r) : l.drop (l.length - r.length) = r := by
  subst h; simp
theorem txt_drop {l t r : List Int} (hB : isB l) (h : txt l = some (t, r)) : l.drop (l.length - r.length) = r := by
  obtain ⟨e, _⟩ := txt_inv hB h
  exact drop_suf e
theorem f25s {l t r : List Int} (hB : isB l) (hl : l.length ≤ 80000) (h : txt l = some (t, r)) : F25 [.one (.str (ofBytes l))] [] = some (.tup [.one (.str (ofBytes t)), .one (.int .i64 (l.length - r.length : Nat))], []) := by
  have e := f25 l hB hl
  unfold txtN at e
  rw [h] at e
  exact e
theorem f25n {l : List Int} (hB : isB l) (hl : l.length ≤ 80000) (h : txt l = none) : F25 [.one (.str (ofBytes l))] [] = some (.tup [.one (.str (ofBytes [])), .one (.int .i64 0)], []) := by
  have e := f25 l hB hl
  unfold txtN at e
  rw [h] at e
  exact e
def rsS (l : List Int) : Option (List Int × List Int) → List Int × Nat
  | some (o, r) => (o, l.length - r.length)
  | none => ([], 0)
theorem run49a (l : List Int) (n : Nat) (hB : isB l) (hl : l.length ≤ 80000) (h1 : txt l = none) :
    F49 [.one (.str (ofBytes l)), .one (.int .i64 n)] [] = some (.tup [.one (.row 0), .one (.int .i64 0)], [.rows none (.ints .u8 [])]) := by
  have e25 := f25n hB hl h1
  simp -implicitDefEqProofs [F49, c49, upd, e25]
theorem cut49 {l : List Int} {k : Nat} {r : List Int} (hk : k ≤ l.length) (hr : l.drop k = r) : (ofBytes l).extract k l.length = ofBytes r := by
  rw [ofBytes_extract, hr, List.take_of_length_le]
  rw [← hr]; simp
theorem run49b (l h r : List Int) (n : Nat) (hB : isB l) (hl : l.length ≤ 80000) (h1 : txt l = some (h, r)) (h2 : txt r = none) :
    F49 [.one (.str (ofBytes l)), .one (.int .i64 n)] [] = some (.tup [.one (.row 0), .one (.int .i64 0)], [.rows none (.ints .u8 [])]) := by
  obtain ⟨_, _, _, hB2, hlt⟩ := txt_inv hB h1
  have e25 := f25s hB hl h1
  have e25' := f25n hB2 (by omega) h2
  have hcut := cut49 (k := l.length - r.length) (by omega) (txt_drop hB h1)
  have hs := size_ofBytes l
  have hk : (l.length - r.length) ≠ 0 := by omega
  generalize hkk : l.length - r.length = k at *
  have hk0 : ¬ (k : Int) = 0 := by omega
  have hkn : ¬ k = 0 := by omega
  have hk1 : (k : Int) ≤ l.length := by omega
  have hk2 : k ≤ l.length := by omega
  simp -implicitDefEqProofs [F49, c49, upd, e25, e25', hcut, hs, hk0, hkn, hk1, hk2]
theorem run49c (l h r b r2 : List Int) (n : Nat) (hB : isB l) (hl : l.length ≤ 80000) (h1 : txt l = some (h, r)) (h2 : txt r = some (b, r2)) (h3 : hdT (leB h) (8 * h.length) 0 = none) :
    F49 [.one (.str (ofBytes l)), .one (.int .i64 n)] [] = some (.tup [.one (.row 0), .one (.int .i64 0)], [.rows none (.ints .u8 [])]) := by
  obtain ⟨_, hl4, hBh, hB2, hlt⟩ := txt_inv hB h1
  obtain ⟨_, _, _, _, hlt'⟩ := txt_inv hB2 h2
  have e25 := f25s hB hl h1
  have e25' := f25s hB2 (by omega) h2
  have hcut := cut49 (k := l.length - r.length) (by omega) (txt_drop hB h1)
  have hs := size_ofBytes l
  have hs' := size_ofBytes h
  have hsz : h.length ≤ 140737488355328 := by omega
  have ht := s2bB h hBh
  obtain ⟨out, e26, hN, hol, hov⟩ := f26 0 h hBh (by omega)
  have e74 := f74 out hN (by omega)
  rw [hol, hov, h3] at e74
  generalize hkk : l.length - r.length = k at *
  generalize hkk' : r.length - r2.length = k' at *
  have hk0 : ¬ (k : Int) = 0 := by omega
  have hkn : ¬ k = 0 := by omega
  have hk1 : (k : Int) ≤ l.length := by omega
  have hk2 : k ≤ l.length := by omega
  have hk0' : ¬ (k' : Int) = 0 := by omega
  have hkn' : ¬ k' = 0 := by omega
  simp only [tup3i] at e74
  simp -implicitDefEqProofs [F49, c49, upd, e25, e25', hcut, hs, hk0, hkn, hk1, hk2, hk0', hkn', hs', hsz, ht, e26, e74]
theorem run49d (l h r b r2 share : List Int) (log pos n : Nat) (hB : isB l) (hl : l.length ≤ 80000) (h1 : txt l = some (h, r)) (h2 : txt r = some (b, r2)) (h3 : hdT (leB h) (8 * h.length) 0 = some (share, log, pos)) (h4 : endB (leB h) (8 * h.length) pos = false) :
    F49 [.one (.str (ofBytes l)), .one (.int .i64 n)] [] = some (.tup [.one (.row 0), .one (.int .i64 0)], [.rows none (.ints .u8 [])]) := by
  obtain ⟨_, hl4, hBh, hB2, hlt⟩ := txt_inv hB h1
  obtain ⟨_, _, _, _, hlt'⟩ := txt_inv hB2 h2
  obtain ⟨hf, hsl, hp3, hpos, _⟩ := hdT_ok h3
  have e25 := f25s hB hl h1
  have e25' := f25s hB2 (by omega) h2
  have hcut := cut49 (k := l.length - r.length) (by omega) (txt_drop hB h1)
  have hs := size_ofBytes l
  have hs' := size_ofBytes h
  have hsz : h.length ≤ 140737488355328 := by omega
  have ht := s2bB h hBh
  obtain ⟨out, e26, hN, hol, hov⟩ := f26 0 h hBh (by omega)
  have e74 := f74 out hN (by omega)
  rw [hol, hov, h3] at e74
  have hNd : isN ((out.drop pos).take (out.length - pos)) := fun x hx => hN x (List.mem_of_mem_drop (List.mem_of_mem_take hx))
  have e32 := f32 0 ((out.drop pos).take (out.length - pos)) hNd (by simp; omega)
  have hlv : leN ((out.drop pos).take (out.length - pos)) = leB h / 2 ^ pos := by
    rw [List.take_of_length_le (by simp), leN_drop pos hN, hov]
  have hll : ((out.drop pos).take (out.length - pos)).length = 8 * h.length - pos := by simp; omega
  rw [hlv, hll] at e32
  have h4' : decide (8 * h.length - pos < 8 ∧ leB h / 2 ^ pos = 0) = false := h4
  rw [h4'] at e32
  have hp0 : ¬ (pos : Int) = 0 := by omega
  have hpn : ¬ pos = 0 := by omega
  have hp1 : (pos : Int) ≤ out.length := by omega
  have hp2 : pos ≤ out.length := by omega
  generalize hkk : l.length - r.length = k at *
  generalize hkk' : r.length - r2.length = k' at *
  have hk0 : ¬ (k : Int) = 0 := by omega
  have hkn : ¬ k = 0 := by omega
  have hk1 : (k : Int) ≤ l.length := by omega
  have hk2 : k ≤ l.length := by omega
  have hk0' : ¬ (k' : Int) = 0 := by omega
  have hkn' : ¬ k' = 0 := by omega
  simp only [tup3i] at e74
  simp -implicitDefEqProofs [F49, c49, upd, e25, e25', hcut, hs, hk0, hkn, hk1, hk2, hk0', hkn', hs', hsz, ht, e26, e74, e32, hp0, hpn, hp1, hp2, RC.len, RC.size]
theorem run49e (l h r b r2 share : List Int) (log pos n : Nat) (hn : n ≤ 1000) (hB : isB l) (hl : l.length ≤ 80000) (h1 : txt l = some (h, r)) (h2 : txt r = some (b, r2)) (h3 : hdT (leB h) (8 * h.length) 0 = some (share, log, pos)) (h4 : endB (leB h) (8 * h.length) pos = true) :
    F49 [.one (.str (ofBytes l)), .one (.int .i64 n)] [] = (match decO log (natsOf share) b n with
      | some o => some (.tup [.one (.row 0), .one (.int .i64 (l.length - r2.length : Nat))], [.rows none (.ints .u8 o)])
      | none => some (.tup [.one (.row 0), .one (.int .i64 0)], [.rows none (.ints .u8 [])])) := by
  obtain ⟨_, hl4, hBh, hB2, hlt⟩ := txt_inv hB h1
  obtain ⟨_, hlb, hBb, _, hlt'⟩ := txt_inv hB2 h2
  obtain ⟨hf, hsl, hp3, hpos, _⟩ := hdT_ok h3
  obtain ⟨L, hL, S⟩ := shr_of hf
  obtain rfl : log = L := by omega
  have e75 := fun t => f75 t share log (by omega)
  rw [hf] at e75
  have e77 := fun t => f77 t share (natsOf share) S
  have e76 := f76 0 2 S b hBb (by omega) n (by omega)
  have hsb := size_ofBytes b
  have hszb : b.length ≤ 140737488355328 := by omega
  have htb := s2bB b hBb
  have e25 := f25s hB hl h1
  have e25' := f25s hB2 (by omega) h2
  have hcut := cut49 (k := l.length - r.length) (by omega) (txt_drop hB h1)
  have hs := size_ofBytes l
  have hs' := size_ofBytes h
  have hsz : h.length ≤ 140737488355328 := by omega
  have ht := s2bB h hBh
  obtain ⟨out, e26, hN, hol, hov⟩ := f26 0 h hBh (by omega)
  have e74 := f74 out hN (by omega)
  rw [hol, hov, h3] at e74
  have hNd : isN ((out.drop pos).take (out.length - pos)) := fun x hx => hN x (List.mem_of_mem_drop (List.mem_of_mem_take hx))
  have e32 := f32 0 ((out.drop pos).take (out.length - pos)) hNd (by simp; omega)
  have hlv : leN ((out.drop pos).take (out.length - pos)) = leB h / 2 ^ pos := by
    rw [List.take_of_length_le (by simp), leN_drop pos hN, hov]
  have hll : ((out.drop pos).take (out.length - pos)).length = 8 * h.length - pos := by simp; omega
  rw [hlv, hll] at e32
  have h4' : decide (8 * h.length - pos < 8 ∧ leB h / 2 ^ pos = 0) = true := h4
  rw [h4'] at e32
  have hp0 : ¬ (pos : Int) = 0 := by omega
  have hpn : ¬ pos = 0 := by omega
  have hp1 : (pos : Int) ≤ out.length := by omega
  have hp2 : pos ≤ out.length := by omega
  have htot : ((l.length - r.length : Nat) : Int) + ((r.length - r2.length : Nat) : Int) = ((l.length - r2.length : Nat) : Int) := by omega
  have hw : IntKind.i64.wrap (((l.length - r.length : Nat) : Int) + ((r.length - r2.length : Nat) : Int)) = ((l.length - r2.length : Nat) : Int) := by rw [htot]; exact i64_in _ (by omega)
  clear htot
  generalize ((l.length - r2.length : Nat) : Int) = tot at *
  generalize hkk : l.length - r.length = k at *
  generalize hkk' : r.length - r2.length = k' at *
  have hk0 : ¬ (k : Int) = 0 := by omega
  have hkn : ¬ k = 0 := by omega
  have hk1 : (k : Int) ≤ l.length := by omega
  have hk2 : k ≤ l.length := by omega
  have hk0' : ¬ (k' : Int) = 0 := by omega
  have hkn' : ¬ k' = 0 := by omega
  simp only [tup3i] at e74
  generalize cellsTo log (natsOf share) (2 ^ log) = cs at *
  cases hd : decO log (natsOf share) b n with
  | none =>
    rw [hd] at e76
    simp only [decS, decB] at e76
    simp -implicitDefEqProofs [F49, c49, upd, e25, e25', hcut, hs, hk0, hkn, hk1, hk2, hk0', hkn', hs', hsz, ht, e26, e74, e32, hp0, hpn, hp1, hp2, RC.len, RC.size, e75, e77, e76, hsb, hszb, htb]
  | some o =>
    rw [hd] at e76
    simp only [decS, decB] at e76
    simp -implicitDefEqProofs [F49, c49, upd, e25, e25', hcut, hs, hk0, hkn, hk1, hk2, hk0', hkn', hs', hsz, ht, e26, e74, e32, hp0, hpn, hp1, hp2, RC.len, RC.size, e75, e77, e76, hsb, hszb, htb, hw]
theorem f49 (l : List Int) (n : Nat) (hn : n ≤ 1000) (hB : isB l) (hl : l.length ≤ 80000) : F49 [.one (.str (ofBytes l)), .one (.int .i64 n)] [] = some (.tup [.one (.row 0), .one (.int .i64 (rsS l (shS l n)).2)], [.rows none (.ints .u8 (rsS l (shS l n)).1)]) := by
  unfold shS
  cases h1 : txt l with
  | none => exact run49a l n hB hl h1
  | some p =>
    obtain ⟨h, r⟩ := p
    dsimp only
    cases h2 : txt r with
    | none => exact run49b l h r n hB hl h1 h2
    | some p2 =>
      obtain ⟨b, r2⟩ := p2
      dsimp only
      cases h3 : hdT (leB h) (8 * h.length) 0 with
      | none => exact run49c l h r b r2 n hB hl h1 h2 h3
      | some p3 =>
        obtain ⟨share, log, pos⟩ := p3
        dsimp only
        cases h4 : endB (leB h) (8 * h.length) pos with
        | false => rw [if_neg (by simp)]; exact run49d l h r b r2 share log pos n hB hl h1 h2 h3 h4
        | true =>
          rw [if_pos rfl, run49e l h r b r2 share log pos n hn hB hl h1 h2 h3 h4]
          cases decO log (natsOf share) b n <;> rfl
def canon24 (s : ByteArray) (n sz : Int) (o : List Int) (i : Nat) : St := ⟨[(6, .one (.row 0)), (7, .one (.int .i64 sz)), (11, .one (.int .i64 i))], [.str s, .int .i64 n], [.rows none (.ints .u8 o)]⟩
def bad24 : Res := some (.tup [.one (.row 0), .one (.int .i64 0)], [.rows none (.ints .u8 [])])
theorem chk24 (s : ByteArray) (n sz : Int) (o : List Int) (ho : o.length ≤ 10000) :
    (big o = false ∧ ∃ env, loopH (evC T24 KK b24x1) [6, 7, 11] KK (canon24 s n sz o 0) = some (.exit 3, ⟨env, [.str s, .int .i64 n], [.rows none (.ints .u8 o)]⟩) ∧ getT 6 env = .one (.row 0) ∧ getT 7 env = .one (.int .i64 sz)) ∨
    (big o = true ∧ ∃ st1, loopH (evC T24 KK b24x1) [6, 7, 11] KK (canon24 s n sz o 0) = some (.ret, st1) ∧ resC [(4, none), (5, none)] (some (.ret, st1)) = bad24) := by
  have hK := KK_eq
  have hn : ∀ i, i < o.length → decide (28 ≤ o.getD i 0) = false → ∃ st1, evC T24 KK b24x1 (canon24 s n sz o i) = some (.norm, st1) ∧ St.head [6, 7, 11] st1 = canon24 s n sz o (i + 1) := by
    intro i hi hp
    have hii : (i : Int) < o.length := by omega
    have w : IntKind.i64.wrap ((i : Int) + 1) = i + 1 := i64_in _ (by omega)
    have hp' : ¬ 28 ≤ o.getD i 0 := by simpa using hp
    generalize hx : o.getD i 0 = x at *
    have hx' : (RC.ints .u8 o).get i 0 = some (.int .u8 x) := by simp only [RC.get]; rw [hx]; rfl
    simp -implicitDefEqProofs [b24x1, canon24, upd, hii, hi, w, RC.len, RC.size, hx', hp']
  have hr : ∀ i, i < o.length → decide (28 ≤ o.getD i 0) = true → ∃ st1, evC T24 KK b24x1 (canon24 s n sz o i) = some (.ret, st1) ∧ resC [(4, none), (5, none)] (some (.ret, st1)) = bad24 := by
    intro i hi hp
    have hii : (i : Int) < o.length := by omega
    have hp' : 28 ≤ o.getD i 0 := by simpa using hp
    generalize hx : o.getD i 0 = x at *
    have hx' : (RC.ints .u8 o).get i 0 = some (.int .u8 x) := by simp only [RC.get]; rw [hx]; rfl
    refine ⟨?w, ?a, ?b⟩
    case a =>
      simp -implicitDefEqProofs [b24x1, canon24, upd, hii, hi, RC.len, RC.size, hx', hp']
      rfl
    case b => simp -implicitDefEqProofs [bad24]
  obtain ⟨env, he, g6, g7⟩ : ∃ env, evC T24 KK b24x1 (canon24 s n sz o o.length) = some (.exit 3, ⟨env, [.str s, .int .i64 n], [.rows none (.ints .u8 o)]⟩) ∧ getT 6 env = .one (.row 0) ∧ getT 7 env = .one (.int .i64 sz) := by
    refine ⟨?w2, ?a2, ?b2, ?c2⟩
    case a2 =>
      simp -implicitDefEqProofs [b24x1, canon24, upd, RC.len, RC.size]
      rfl
    case b2 => simp
    case c2 => simp
  rcases loopFirst (fun i => decide (28 ≤ o.getD i 0)) hn hr he (by omega) with ⟨h1, el⟩ | ⟨i, st1, h1, h2, h3, el, er⟩
  · refine .inl ⟨?_, env, el, g6, g7⟩
    unfold big
    rw [List.any_eq_false]
    intro c hc
    obtain ⟨i, hi, rfl⟩ := List.mem_iff_getElem.1 hc
    have := h1 i hi
    simpa [List.getD, hi] using this
  · refine .inr ⟨?_, st1, el, er⟩
    unfold big
    rw [List.any_eq_true]
    exact ⟨o[i], List.getElem_mem h1, by simpa [List.getD, h1] using h2⟩
theorem neS (k : Int) (r : List Int) : ¬ (ofBytes (k :: r)).toList = [] := by
  have h := eqS0 (k :: r)
  intro e
  rw [e] at h
  simp at h
theorem run24a (n : Nat) : F24 [.one (.str (ofBytes [])), .one (.int .i64 n)] [] = bad24 := by
  have h0 := eqS0 []
  have h1 : (ofBytes ([] : List Int)).toList = [] := by simpa using h0
  simp -implicitDefEqProofs [F24, c24, upd, bad24, h0, h1]
section
variable (k : Int) (r : List Int) (n : Nat) (hn : n ≤ 1000) (hB : isB (k :: r)) (hl : r.length ≤ 79000)
include hn hB hl
theorem run24b (hk : k = 0) : F24 [.one (.str (ofBytes (k :: r))), .one (.int .i64 n)] [] = (if r.length < n then bad24 else if big (r.take n) = true then bad24 else some (.tup [.one (.row 0), .one (.int .i64 (1 + n : Nat))], [.rows none (.ints .u8 (r.take n))])) := by
  have h0 := eqS0 (k :: r)
  have hne := neS k r
  have hs := size_ofBytes (k :: r)
  have ht := toBytes_ofBytes hB
  have hn0 : ¬ (n : Int) < 0 := by omega
  have hn1 : ¬ (4096 : Int) < n := by omega
  have hp : (0 : Int) < (r.length : Int) + 1 := by omega
  have w1 : IntKind.i64.wrap (r.length : Int) = r.length := i64_in _ (by omega)
  simp only [List.length_cons] at hs
  subst hk
  by_cases h : r.length < n
  · have hi : (r.length : Int) < n := by omega
    rw [if_pos h]
    simp -implicitDefEqProofs [F24, c24, upd, bad24, hne, hs, ht, hn0, hn1, hp, w1, hi]
  · have hi : ¬ (r.length : Int) < n := by omega
    rw [if_neg h]
    have w2 : IntKind.i64.wrap (1 + (n : Int)) = 1 + (n : Int) := i64_in _ (by omega)
    have htn : (1 + (n : Int)).toNat = 1 + n := by omega
    have hex : (ofBytes (0 :: r)).extract 1 (1 + n) = ofBytes (r.take n) := by
      rw [ofBytes_extract]
      congr 1
      simp only [List.drop_succ_cons, List.drop_zero]
      congr 1; omega
    have hb1 : (1 : Int) ≤ 1 + (n : Int) := by omega
    have hb2 : 1 + (n : Int) ≤ (r.length : Int) + 1 := by omega
    have hs2 := size_ofBytes (r.take n)
    have hsz : (r.take n).length ≤ 140737488355328 := by simp; omega
    have ht2 := toBytes_ofBytes (l := r.take n) (isB_take n hB.tail)
    have hc := chk24 (ofBytes (0 :: r)) n (1 + (n : Int)) (r.take n) (by simp; omega)
    have hcast : ((1 + n : Nat) : Int) = 1 + (n : Int) := by omega
    rw [hcast]
    generalize r.take n = o at *
    rcases hc with ⟨hb, env, el, g6, g7⟩ | ⟨hb, st1, el, er⟩
    · rw [hb, if_neg (by simp)]
      simp only [canon24, Int.natCast_zero] at el
      simp -implicitDefEqProofs [F24, c24, upd, hne, hs, ht, hn0, hn1, hp, w1, hi, w2, htn, hex, hb1, hb2, hs2, hsz, ht2, el, g6, g7]
    · rw [hb, if_pos rfl, ← er]
      simp only [canon24, Int.natCast_zero] at el
      simp -implicitDefEqProofs [F24, c24, upd, hne, hs, ht, hn0, hn1, hp, w1, hi, w2, htn, hex, hb1, hb2, hs2, hsz, ht2, el]
end
def canon24b (s : ByteArray) (n : Int) (c : Int) (i : Nat) : St := ⟨[(0, .one (.str s)), (1, .one (.int .i64 n)), (6, .one (.row 0)), (8, .one (.int .i64 i))], [.str s, .int .i64 n], [.rows none (.ints .u8 (List.replicate i c))]⟩
theorem rep24 (c : Int) (r : List Int) (n : Nat) (hB : isB (1 :: c :: r)) (hl : r.length ≤ 80000) (hn : n ≤ 1000) : ∃ env, loopH (evC T24 KK b24x0) [0, 1, 6, 8] KK (canon24b (ofBytes (1 :: c :: r)) n c 0) = some (.exit 1, ⟨env, [.str (ofBytes (1 :: c :: r)), .int .i64 n], [.rows none (.ints .u8 (List.replicate n c))]⟩) ∧ getT 6 env = .one (.row 0) := by
  have hK := KK_eq
  have hs := size_ofBytes (1 :: c :: r)
  have ht := toBytes_ofBytes hB
  have hn' : ∀ i, i < n → ∃ st1, evC T24 KK b24x0 (canon24b (ofBytes (1 :: c :: r)) n c i) = some (.norm, st1) ∧ St.head [0, 1, 6, 8] st1 = canon24b (ofBytes (1 :: c :: r)) n c (i + 1) := by
    intro i hi
    have hii : (i : Int) < n := by omega
    have w : IntKind.i64.wrap ((i : Int) + 1) = i + 1 := i64_in _ (by omega)
    have hrep : List.replicate i c ++ [c] = List.replicate (i + 1) c := by rw [List.replicate_succ']
    have hp3 : (1 : Int) < (r.length : Int) + 1 + 1 := by omega
    have hm : i + 1 ≤ 140737488355328 := by omega
    simp -implicitDefEqProofs [b24x0, canon24b, upd, hii, hi, w, RC.len, RC.size, RC.app, RC.ofElems, hs, ht, hrep, hp3, hm]
  obtain ⟨env, he, g⟩ : ∃ env, evC T24 KK b24x0 (canon24b (ofBytes (1 :: c :: r)) n c n) = some (.exit 1, ⟨env, [.str (ofBytes (1 :: c :: r)), .int .i64 n], [.rows none (.ints .u8 (List.replicate n c))]⟩) ∧ getT 6 env = .one (.row 0) := by
    refine ⟨?w2, ?a2, ?b2⟩
    case a2 =>
      simp -implicitDefEqProofs [b24x0, canon24b, upd]
      rfl
    case b2 => simp
  exact ⟨env, loopUp hn' he (by omega), g⟩
theorem run24c (c : Int) (r : List Int) (n : Nat) (hn : n ≤ 1000) (hB : isB (1 :: c :: r)) (hl : r.length ≤ 79000) : F24 [.one (.str (ofBytes (1 :: c :: r))), .one (.int .i64 n)] [] = (if 28 ≤ c then bad24 else some (.tup [.one (.row 0), .one (.int .i64 2)], [.rows none (.ints .u8 (List.replicate n c))])) := by
  have hne := neS 1 (c :: r)
  have hs := size_ofBytes (1 :: c :: r)
  have ht := toBytes_ofBytes hB
  have hn0 : ¬ (n : Int) < 0 := by omega
  have hn1 : ¬ (4096 : Int) < n := by omega
  have hp : (0 : Int) < (r.length : Int) + 1 + 1 := by omega
  have hp2 : ¬ (r.length : Int) + 1 + 1 < 2 := by omega
  have hp3 : (1 : Int) < (r.length : Int) + 1 + 1 := by omega
  simp only [List.length_cons] at hs
  by_cases h : 28 ≤ c
  · rw [if_pos h]
    simp -implicitDefEqProofs [F24, c24, upd, bad24, hne, hs, ht, hn0, hn1, hp, hp2, hp3, h]
  · rw [if_neg h]
    obtain ⟨env0, el0, g0⟩ := rep24 c r n hB (by omega) hn
    have hc := chk24 (ofBytes (1 :: c :: r)) n 2 (List.replicate n c) (by simp; omega)
    rw [big_rep c n (by omega)] at hc
    simp only [canon24b, Int.natCast_zero, List.replicate_zero] at el0
    generalize List.replicate n c = o at *
    rcases hc with ⟨hb, env, el, g6, g7⟩ | ⟨hb, _⟩
    · simp only [canon24, Int.natCast_zero] at el
      simp -implicitDefEqProofs [F24, c24, upd, hne, hs, ht, hn0, hn1, hp, hp2, hp3, h, el0, g0, el, g6, g7]
    · cases hb
theorem run24c' (n : Nat) (hn : n ≤ 1000) : F24 [.one (.str (ofBytes [1])), .one (.int .i64 n)] [] = bad24 := by
  have hne := neS 1 []
  have hs := size_ofBytes [1]
  have ht := toBytes_ofBytes (l := [1]) (by intro b hb; simp at hb; omega)
  have hn0 : ¬ (n : Int) < 0 := by omega
  have hn1 : ¬ (4096 : Int) < n := by omega
  simp -implicitDefEqProofs [F24, c24, upd, bad24, hne, hs, ht, hn0, hn1]
theorem run24d (r : List Int) (n : Nat) (hn : n ≤ 1000) (hB : isB (2 :: r)) (hl : r.length ≤ 79000) : F24 [.one (.str (ofBytes (2 :: r))), .one (.int .i64 n)] [] = (match shS r n with
    | none => bad24
    | some (o, r2) => if big o = true then bad24 else some (.tup [.one (.row 0), .one (.int .i64 (1 + (r.length - r2.length) : Nat))], [.rows none (.ints .u8 o)])) := by
  have hne := neS 2 r
  have hs := size_ofBytes (2 :: r)
  have ht := toBytes_ofBytes hB
  have hn0 : ¬ (n : Int) < 0 := by omega
  have hn1 : ¬ (4096 : Int) < n := by omega
  have hp : (0 : Int) < (r.length : Int) + 1 := by omega
  have hp1 : (1 : Int) ≤ (r.length : Int) + 1 := by omega
  have hp2 : (1 : Nat) ≤ r.length + 1 := by omega
  have hex : (ofBytes (2 :: r)).extract 1 (r.length + 1) = ofBytes r := by
    rw [ofBytes_extract]
    simp only [List.drop_succ_cons, List.drop_zero]
    congr 1; simp
  have e49 := f49 r n hn hB.tail (by omega)
  simp only [List.length_cons] at hs
  cases hsh : shS r n with
  | none =>
    rw [hsh] at e49
    simp only [rsS] at e49
    simp -implicitDefEqProofs [F24, c24, upd, bad24, hne, hs, ht, hn0, hn1, hp, hp1, hp2, hex, e49]
  | some p =>
    obtain ⟨o, r2⟩ := p
    rw [hsh] at e49
    obtain ⟨hol, _, _, hlt⟩ := shS_ok hB.tail hsh
    simp only [rsS] at e49
    dsimp only
    generalize hk : r.length - r2.length = k at *
    have hk0 : ¬ (k : Int) = 0 := by omega
    have hkn : ¬ k = 0 := by omega
    have w : IntKind.i64.wrap (1 + (k : Int)) = ((1 + k : Nat) : Int) := by rw [i64_in _ (by omega)]; omega
    have hc := chk24 (ofBytes (2 :: r)) n ((1 + k : Nat) : Int) o (by omega)
    generalize ((1 + k : Nat) : Int) = sz at *
    rcases hc with ⟨hb, env, el, g6, g7⟩ | ⟨hb, st1, el, er⟩
    · rw [hb, if_neg (by simp)]
      simp only [canon24, Int.natCast_zero] at el
      simp -implicitDefEqProofs [F24, c24, upd, hne, hs, ht, hn0, hn1, hp, hp1, hp2, hex, e49, hk0, hkn, w, el, g6, g7]
    · rw [hb, if_pos rfl, ← er]
      simp only [canon24, Int.natCast_zero] at el
      simp -implicitDefEqProofs [F24, c24, upd, hne, hs, ht, hn0, hn1, hp, hp1, hp2, hex, e49, hk0, hkn, w, el]
theorem run24e (k : Int) (r : List Int) (n : Nat) (hn : n ≤ 1000) (hB : isB (k :: r)) (hl : r.length ≤ 79000) (h0 : ¬ k = 0) (h1 : ¬ k = 1) (h2 : ¬ k = 2) : F24 [.one (.str (ofBytes (k :: r))), .one (.int .i64 n)] [] = bad24 := by
  have hK := KK_eq
  have hne := neS k r
  have hs := size_ofBytes (k :: r)
  have ht := toBytes_ofBytes hB
  have hn0 : ¬ (n : Int) < 0 := by omega
  have hn1 : ¬ (4096 : Int) < n := by omega
  have hp : (0 : Int) < (r.length : Int) + 1 := by omega
  simp only [List.length_cons] at hs
  obtain ⟨_, env, el, g6, g7⟩ | ⟨hb, _⟩ := chk24 (ofBytes (k :: r)) n 0 [] (by simp)
  · simp only [canon24, Int.natCast_zero] at el
    simp -implicitDefEqProofs [F24, c24, upd, bad24, hne, hs, ht, hn0, hn1, hp, h0, h1, h2, el, g6, g7]
  · cases hb
theorem f24 (l : List Int) (n : Nat) (hn : n ≤ 1000) (hB : isB l) (hl : l.length ≤ 79000) : F24 [.one (.str (ofBytes l)), .one (.int .i64 n)] [] = some (.tup [.one (.row 0), .one (.int .i64 (rsS l (unS l n)).2)], [.rows none (.ints .u8 (rsS l (unS l n)).1)]) := by
  cases l with
  | nil => exact run24a n
  | cons k r =>
    simp only [List.length_cons] at hl
    unfold unS
    simp only [unR]
    by_cases h0 : k = 0
    · rw [if_pos h0, run24b k r n hn hB (by omega) h0]
      by_cases h : r.length < n
      · rw [if_pos h, if_pos h]; rfl
      · rw [if_neg h, if_neg h]
        dsimp only
        cases hb : big (r.take n) with
        | true => rw [if_pos rfl, if_pos rfl]; rfl
        | false =>
          rw [if_neg (by simp), if_neg (by simp)]
          simp only [rsS]
          have : (k :: r).length - (r.drop n).length = 1 + n := by simp; omega
          rw [this]
    · rw [if_neg h0]
      by_cases h1 : k = 1
      · subst h1
        rw [if_pos rfl]
        cases r with
        | nil => exact run24c' n hn
        | cons c r =>
          dsimp only
          rw [run24c c r n hn hB (by simp at hl; omega)]
          by_cases hc : c < 28
          · rw [if_pos hc, if_neg (by omega)]
            dsimp only
            rw [big_rep c n hc, if_neg (by simp)]
            simp only [rsS]
            have : (1 :: c :: r).length - r.length = 2 := by simp; omega
            rw [this]; rfl
          · rw [if_neg hc, if_pos (by omega)]; rfl
      · rw [if_neg h1]
        by_cases h2 : k = 2
        · subst h2
          rw [if_pos rfl, run24d r n hn hB (by omega)]
          cases hsh : shS r n with
          | none => rfl
          | some p =>
            obtain ⟨o, r2⟩ := p
            dsimp only
            obtain ⟨_, _, _, hlt⟩ := shS_ok hB.tail hsh
            cases hb : big o with
            | true => rw [if_pos rfl, if_pos rfl]; rfl
            | false =>
              rw [if_neg (by simp), if_neg (by simp)]
              simp only [rsS]
              have : (2 :: r).length - r2.length = 1 + (r.length - r2.length) := by simp; omega
              rw [this]
        · rw [if_neg h2]
          exact run24e k r n hn hB (by omega) h0 h1 h2
def canon10 (lim : Int) (l : List Int) (n : Int) (A B C : List Int) (i : Int) : St := ⟨[(0, .one (.ptr 0 0)), (6, .one (.int .i64 n)), (7, .one (.ptr 1 0)), (31, .one (.int .i64 i))], [.ptr 0 0, .int .i64 lim], [.cells (some 0) [.str (ofBytes l), .bool false], .cells none [.row 2, .row 3, .row 4], .rows none (.ints .u8 A), .rows none (.ints .u8 B), .rows none (.ints .u8 C)]⟩
def bad10 (l : List Int) (b : Bool) : Res := some (.tup [.one (.row 1), .one (.bool false)], rHp (some 0) l b ++ [.rows none (.recs 3 [])])
def ok35 (l : List Int) (n : Int) (o r : List Int) : Prop := F35 [.one (.ptr 0 0), .one (.int .i64 n)] (rHp (some 0) l false) = some (.tup [.one (.row 1), .one (.bool true)], rHp (some 0) r false ++ [.rows none (.ints .u8 o)])
def no35 (l : List Int) (n : Int) (l' : List Int) (b : Bool) : Prop := F35 [.one (.ptr 0 0), .one (.int .i64 n)] (rHp (some 0) l false) = some (.tup [.one (.row 1), .one (.bool false)], rHp (some 0) l' b ++ [.rows none (.ints .u8 [])])
theorem b10n0 {lim n : Int} {l o r A B C : List Int} (h : ok35 l n o r) : ∃ st1, evC T10 KK b10x0 (canon10 lim l n A B C 0) = some (.norm, st1) ∧ St.head [0, 6, 7, 31] st1 = canon10 lim r n o B C 1 := by
  have w : IntKind.i64.wrap 1 = 1 := by decide
  unfold ok35 at h
  simp only [rHp, List.cons_append, List.nil_append] at h
  simp -implicitDefEqProofs [b10x0, canon10, upd, h, w]
theorem b10n1 {lim n : Int} {l o r A B C : List Int} (h : ok35 l n o r) : ∃ st1, evC T10 KK b10x0 (canon10 lim l n A B C 1) = some (.norm, st1) ∧ St.head [0, 6, 7, 31] st1 = canon10 lim r n A o C 2 := by
  have w : IntKind.i64.wrap 2 = 2 := by decide
  unfold ok35 at h
  simp only [rHp, List.cons_append, List.nil_append] at h
  simp -implicitDefEqProofs [b10x0, canon10, upd, h, w]
theorem b10n2 {lim n : Int} {l o r A B C : List Int} (h : ok35 l n o r) : ∃ st1, evC T10 KK b10x0 (canon10 lim l n A B C 2) = some (.norm, st1) ∧ St.head [0, 6, 7, 31] st1 = canon10 lim r n A B o 3 := by
  have w : IntKind.i64.wrap 3 = 3 := by decide
  unfold ok35 at h
  simp only [rHp, List.cons_append, List.nil_append] at h
  simp -implicitDefEqProofs [b10x0, canon10, upd, h, w]
theorem b10r {lim n i : Int} {l l' A B C : List Int} {b : Bool} (hi : 0 ≤ i ∧ i < 3) (h : no35 l n l' b) : ∃ st1, evC T10 KK b10x0 (canon10 lim l n A B C i) = some (.ret, st1) ∧ resC [(4, none), (5, none)] (some (.ret, st1)) = bad10 l' b := by
  unfold no35 at h
  simp only [rHp, List.cons_append, List.nil_append] at h
  have h3 := hi.2
  refine ⟨?w, ?a, ?b⟩
  case a =>
    simp -implicitDefEqProofs [b10x0, canon10, upd, h, h3]
    rfl
  case b => simp -implicitDefEqProofs [bad10, rHp]
theorem b10e {lim n : Int} {l A B C : List Int} : ∃ env, evC T10 KK b10x0 (canon10 lim l n A B C 3) = some (.exit 0, ⟨env, [.ptr 0 0, .int .i64 lim], (canon10 lim l n A B C 3).hp⟩) ∧ getT 0 env = .one (.ptr 0 0) ∧ getT 6 env = .one (.int .i64 n) ∧ getT 7 env = .one (.ptr 1 0) := by
  refine ⟨?w2, ?a2, ?b2, ?c2, ?d2⟩
  case a2 =>
    simp -implicitDefEqProofs [b10x0, canon10, upd]
    rfl
  case b2 => simp
  case c2 => simp
  case d2 => simp
theorem strm10 {lim n : Int} {l l1 l2 l3 a b c : List Int} (h0 : ok35 l n a l1) (h1 : ok35 l1 n b l2) (h2 : ok35 l2 n c l3) :
    ∃ env, loopH (evC T10 KK b10x0) [0, 6, 7, 31] KK (canon10 lim l n [] [] [] 0) = some (.exit 0, ⟨env, [.ptr 0 0, .int .i64 lim], (canon10 lim l3 n a b c 3).hp⟩) ∧ getT 0 env = .one (.ptr 0 0) ∧ getT 6 env = .one (.int .i64 n) ∧ getT 7 env = .one (.ptr 1 0) := by
  have hK := KK_eq
  obtain ⟨s0, p0, q0⟩ := b10n0 (lim := lim) (A := []) (B := []) (C := []) h0
  obtain ⟨s1, p1, q1⟩ := b10n1 (lim := lim) (A := a) (B := []) (C := []) h1
  obtain ⟨s2, p2, q2⟩ := b10n2 (lim := lim) (A := a) (B := b) (C := []) h2
  obtain ⟨env, pe, g⟩ := b10e (lim := lim) (n := n) (l := l3) (A := a) (B := b) (C := c)
  refine ⟨env, ?_, g⟩
  rw [loopH_norm p0 (by omega), q0, loopH_norm p1 (by omega), q1, loopH_norm p2 (by omega), q2]
  exact loopH_exit pe
theorem strm10x {lim n : Int} {l : List Int} (N : Nat) (hn : n = N) (hN : N ≤ 1000) (hB : isB l) (hl : l.length ≤ 70000)
    (hx : ∀ a l1 b l2 c l3, unS l N = some (a, l1) → unS l1 N = some (b, l2) → unS l2 N = some (c, l3) → False) :
    ∃ st1 l' bad, loopH (evC T10 KK b10x0) [0, 6, 7, 31] KK (canon10 lim l n [] [] [] 0) = some (.ret, st1) ∧ resC [(4, none), (5, none)] (some (.ret, st1)) = bad10 l' bad := by
  have hK := KK_eq
  subst hn
  have e0 := f35 l N hN hB hl
  cases h0 : unS l N with
  | none =>
    rw [h0] at e0
    obtain ⟨l', b, e0⟩ := e0
    obtain ⟨st1, p, q⟩ := b10r (lim := lim) (A := []) (B := []) (C := []) (i := 0) (by omega) e0
    refine ⟨st1, l', b, ?_, q⟩
    exact loopH_ret p
  | some x =>
    obtain ⟨a, l1⟩ := x
    rw [h0] at e0
    obtain ⟨_, _, _, hB1, hl1⟩ := unS_ok hB h0
    obtain ⟨s0, p0, q0⟩ := b10n0 (lim := lim) (A := []) (B := []) (C := []) e0
    have e1 := f35 l1 N hN hB1 (by omega)
    cases h1 : unS l1 N with
    | none =>
      rw [h1] at e1
      obtain ⟨l', b, e1⟩ := e1
      obtain ⟨st1, p, q⟩ := b10r (lim := lim) (A := a) (B := []) (C := []) (i := 1) (by omega) e1
      refine ⟨st1, l', b, ?_, q⟩
      rw [loopH_norm p0 (by omega), q0]
      exact loopH_ret p
    | some x =>
      obtain ⟨b, l2⟩ := x
      rw [h1] at e1
      obtain ⟨_, _, _, hB2, hl2⟩ := unS_ok hB1 h1
      obtain ⟨s1, p1, q1⟩ := b10n1 (lim := lim) (A := a) (B := []) (C := []) e1
      have e2 := f35 l2 N hN hB2 (by omega)
      cases h2 : unS l2 N with
      | none =>
        rw [h2] at e2
        obtain ⟨l', bb, e2⟩ := e2
        obtain ⟨st1, p, q⟩ := b10r (lim := lim) (A := a) (B := b) (C := []) (i := 2) (by omega) e2
        refine ⟨st1, l', bb, ?_, q⟩
        rw [loopH_norm p0 (by omega), q0, loopH_norm p1 (by omega), q1]
        exact loopH_ret p
      | some x =>
        obtain ⟨c, l3⟩ := x
        exact (hx a l1 b l2 c l3 h0 h1 h2).elim
theorem f15r : F15 [] [] = some (RR (1, 2, 4), []) := by
  simp -implicitDefEqProofs [F15, c15, upd]
abbrev Stp := Nat × Nat × Int
def recOf (s : Stp) : List Sc := [.int .i64 s.1, .int .i64 ((s.2.1 + 3 : Nat) : Int), .int .i64 s.2.2]
def canon10b (lim : Int) (l : List Int) (a b c m : List Int) (n : Int) (pos : Nat) (out : List (List Sc)) (r : Int × Int × Int) (i : Nat) : St :=
  ⟨[(7, .one (.ptr 1 0)), (11, .one (.ptr 5 0)), (12, .one (.row 7)), (13, .one (.ptr 8 0)), (53, .one (.int .i64 n)), (54, .one (.int .i64 i))], [.ptr 0 0, .int .i64 lim],
   [.cells (some 0) [.str (ofBytes l), .bool false], .cells none [.row 2, .row 3, .row 4], .rows none (.ints .u8 a), .rows none (.ints .u8 b), .rows none (.ints .u8 c), .cells none [.row 6, .int .i64 pos], .rows none (.ints .u8 m), .rows none (.recs 3 out), .cells none [.int .i64 r.1, .int .i64 r.2.1, .int .i64 r.2.2]]⟩
theorem getU8 {a : List Int} {i : Nat} (h : i < a.length) : (RC.ints .u8 a).get i 0 = some (.int .u8 (a.getD i 0)) := by
  simp only [RC.get]
  rfl
theorem b10b {lim : Int} {l a b c m : List Int} {n i pos p : Nat} {out : List (List Sc)} {r r' : Int × Int × Int} {x y : Nat} {o : Int} (hi : i < n) (hn : n ≤ 1000) (ha : a.length = n) (hb : b.length = n) (hc : c.length = n) (ho : out.length ≤ 1000)
    (e38 : F38 [.agg [.int .u8 (a.getD i 0), .int .u8 (b.getD i 0), .int .u8 (c.getD i 0)], .one (.ptr 0 0), RR r] (bufHp (some 0) m pos) = some (.tup [.agg [.int .i64 x, .int .i64 (y + 3 : Nat), .int .i64 o], RR r', .one (.bool true)], bufHp (some 0) m p)) :
    ∃ st1, evC T10 KK b10x1 (canon10b lim l a b c m n pos out r i) = some (.norm, st1) ∧ St.head [7, 11, 12, 13, 53, 54] st1 = canon10b lim l a b c m n p (out ++ [recOf (x, y, o)]) r' (i + 1) := by
  have w : IntKind.i64.wrap ((i : Int) + 1) = i + 1 := i64_in _ (by omega)
  have hii : (i : Int) < n := by omega
  have ga := getU8 (a := a) (i := i) (by omega)
  have gb := getU8 (a := b) (i := i) (by omega)
  have gc := getU8 (a := c) (i := i) (by omega)
  generalize a.getD i 0 = a0 at *
  generalize b.getD i 0 = b0 at *
  generalize c.getD i 0 = c0 at *
  have hm : (out.length + 1) * 24 ≤ 140737488355328 := by omega
  simp only [bufHp] at e38
  simp -implicitDefEqProofs [b10x1, canon10b, upd, hi, hii, w, ha, hb, hc, ga, gb, gc, e38, RC.len, RC.size, RC.app, RC.ofElems, hm, recOf]
theorem b10f {lim : Int} {l a b c m : List Int} {n i pos p : Nat} {out : List (List Sc)} {r r' : Int × Int × Int} {x y o : Int} (hi : i < n) (hn : n ≤ 1000) (ha : a.length = n) (hb : b.length = n) (hc : c.length = n)
    (e38 : F38 [.agg [.int .u8 (a.getD i 0), .int .u8 (b.getD i 0), .int .u8 (c.getD i 0)], .one (.ptr 0 0), RR r] (bufHp (some 0) m pos) = some (.tup [.agg [.int .i64 x, .int .i64 y, .int .i64 o], RR r', .one (.bool false)], bufHp (some 0) m p)) :
    ∃ st1, evC T10 KK b10x1 (canon10b lim l a b c m n pos out r i) = some (.ret, st1) ∧ resC [(4, none), (5, none)] (some (.ret, st1)) = bad10 l false := by
  have hii : (i : Int) < n := by omega
  have ga := getU8 (a := a) (i := i) (by omega)
  have gb := getU8 (a := b) (i := i) (by omega)
  have gc := getU8 (a := c) (i := i) (by omega)
  generalize a.getD i 0 = a0 at *
  generalize b.getD i 0 = b0 at *
  generalize c.getD i 0 = c0 at *
  simp only [bufHp] at e38
  refine ⟨?w, ?a, ?b⟩
  case a =>
    simp -implicitDefEqProofs [b10x1, canon10b, upd, hi, hii, ha, hb, hc, ga, gb, gc, e38, RC.len, RC.size, RC.app, RC.ofElems]
    rfl
  case b => simp -implicitDefEqProofs [bad10, rHp]
theorem b10x {lim : Int} {l a b c m : List Int} {n pos : Nat} {out : List (List Sc)} {r : Int × Int × Int} : ∃ env, evC T10 KK b10x1 (canon10b lim l a b c m n pos out r n) = some (.exit 2, ⟨env, [.ptr 0 0, .int .i64 lim], (canon10b lim l a b c m n pos out r n).hp⟩) ∧ getT 11 env = .one (.ptr 5 0) ∧ getT 12 env = .one (.row 7) := by
  refine ⟨?w2, ?a2, ?b2, ?c2⟩
  case a2 =>
    simp -implicitDefEqProofs [b10x1, canon10b, upd]
    rfl
  case b2 => simp
  case c2 => simp
def stepsB (a b c : List Int) (N T : Nat) : Nat → Nat → Nat → (Int × Int × Int) → Option (List Stp × Nat)
  | 0, _, pos, _ => some ([], pos)
  | m + 1, i, pos, r => match stepB (a.getD i 0).toNat (b.getD i 0).toNat (c.getD i 0).toNat N T pos r with
    | none => none
    | some (s, r', p) => match stepsB a b c N T m (i + 1) p r' with
      | none => none
      | some (l, q) => some (s :: l, q)
def lt28 (a : List Int) : Prop := ∀ c ∈ a, 0 ≤ c ∧ c < 28
theorem lt28_of {a : List Int} (hB : isB a) (h : ∀ c ∈ a, c < 28) : lt28 a := fun c hc => ⟨(hB c hc).1, h c hc⟩
theorem lt28_get {a : List Int} (h : lt28 a) {i : Nat} (hi : i < a.length) : ∃ k : Nat, k < 28 ∧ a.getD i 0 = k ∧ (a.getD i 0).toNat = k := by
  have e : a.getD i 0 = a[i] := by simp [List.getD, hi]
  have := h a[i] (List.getElem_mem hi)
  exact ⟨(a.getD i 0).toNat, by rw [e]; omega, by rw [e]; omega, rfl⟩
theorem stepB_pos {c0 c1 c2 N T pos : Nat} {r : Int × Int × Int} {s : Stp} {r' : Int × Int × Int} {p : Nat} (h : stepB c0 c1 c2 N T pos r = some (s, r', p)) (hp : pos ≤ T) : p ≤ T := by
  unfold stepB at h
  cases h0 : valB c0 N T pos with
  | none => rw [h0] at h; cases h
  | some q0 =>
    obtain ⟨x0, p0⟩ := q0
    rw [h0] at h
    dsimp only at h
    have hp0 := valB_pos h0 hp
    cases h1 : valB c1 N T p0 with
    | none => rw [h1] at h; cases h
    | some q1 =>
      obtain ⟨x1, p1⟩ := q1
      rw [h1] at h
      dsimp only at h
      have hp1 := valB_pos h1 hp0
      cases h2 : valB c2 N T p1 with
      | none => rw [h2] at h; cases h
      | some q2 =>
        obtain ⟨x2, p2⟩ := q2
        rw [h2] at h
        dsimp only at h
        have hp2 := valB_pos h2 hp1
        split at h
        · cases h
        · simp only [Option.some.injEq, Prod.mk.injEq] at h
          omega
theorem loop10 {lim : Int} {l a b c m : List Int} {n : Nat} (hn : n ≤ 1000) (ha : a.length = n) (hb : b.length = n) (hc : c.length = n) (ha' : lt28 a) (hb' : lt28 b) (hc' : lt28 c) (hB : isB m) (hm : m.length ≤ 90000) :
    ∀ (k i pos : Nat) (r : Int × Int × Int) (out : List (List Sc)) (K : Nat), i + k = n → out.length = i → pos ≤ 8 * m.length → k + 1 < K →
    match stepsB a b c (leB m) (8 * m.length) k i pos r with
    | some (s, q) => q ≤ 8 * m.length ∧ ∃ env r', loopH (evC T10 KK b10x1) [7, 11, 12, 13, 53, 54] K (canon10b lim l a b c m n pos out r i) = some (.exit 2, ⟨env, [.ptr 0 0, .int .i64 lim], (canon10b lim l a b c m n q (out ++ s.map recOf) r' n).hp⟩) ∧ getT 11 env = .one (.ptr 5 0) ∧ getT 12 env = .one (.row 7)
    | none => ∃ st1, loopH (evC T10 KK b10x1) [7, 11, 12, 13, 53, 54] K (canon10b lim l a b c m n pos out r i) = some (.ret, st1) ∧ resC [(4, none), (5, none)] (some (.ret, st1)) = bad10 l false := by
  intro k
  induction k with
  | zero =>
    intro i pos r out K h1 h2 h3 h4
    obtain rfl : i = n := by omega
    obtain ⟨env, e, g⟩ := b10x (lim := lim) (l := l) (a := a) (b := b) (c := c) (m := m) (n := i) (pos := pos) (out := out) (r := r)
    refine ⟨h3, env, r, ?_, g⟩
    simp only [List.map_nil, List.append_nil]
    exact loopH_exit e
  | succ k ih =>
    intro i pos r out K h1 h2 h3 h4
    obtain ⟨x, hx, ex, tx⟩ := lt28_get ha' (i := i) (by omega)
    obtain ⟨y, hy, ey, ty⟩ := lt28_get hb' (i := i) (by omega)
    obtain ⟨z, hz, ez, tz⟩ := lt28_get hc' (i := i) (by omega)
    have e38 := f38 x y z hx hy hz m pos r hB hm h3
    simp only [stepsB, tx, ty, tz]
    cases hs : stepB x y z (leB m) (8 * m.length) pos r with
    | none =>
      rw [hs] at e38
      obtain ⟨u, v, w, r', p, e38⟩ := e38
      rw [← ex, ← ey, ← ez] at e38
      obtain ⟨st1, p1, q1⟩ := b10f (lim := lim) (l := l) (out := out) (by omega : i < n) hn ha hb hc e38
      exact ⟨st1, loopH_ret p1, q1⟩
    | some t =>
      obtain ⟨⟨u, v, w⟩, r', p⟩ := t
      rw [hs] at e38
      dsimp only at e38 ⊢
      rw [← ex, ← ey, ← ez] at e38
      obtain ⟨st1, p1, q1⟩ := b10b (lim := lim) (l := l) (out := out) (by omega : i < n) hn ha hb hc (by omega) e38
      have hp := stepB_pos hs h3
      have e := ih (i + 1) p r' (out ++ [recOf (u, v, w)]) (K - 1) (by omega) (by simp; omega) hp (by omega)
      rw [loopH_norm p1 (by omega), q1]
      cases hq : stepsB a b c (leB m) (8 * m.length) k (i + 1) p r' with
      | none => rw [hq] at e; exact e
      | some y =>
        obtain ⟨s, q⟩ := y
        rw [hq] at e
        dsimp only at e ⊢
        simpa only [List.map_cons, List.append_assoc, List.singleton_append] using e
def secS (l : List Int) (n : Nat) : Option (List Stp × List Int) := match unS l n with
  | none => none
  | some (a, l1) => match unS l1 n with
    | none => none
    | some (b, l2) => match unS l2 n with
      | none => none
      | some (c, l3) => match txt l3 with
        | none => none
        | some (m, l4) => match stepsB a b c (leB m) (8 * m.length) n 0 0 (1, 2, 4) with
          | none => none
          | some (s, q) => if endB (leB m) (8 * m.length) q = true then some (s, l4) else none
def secN (l : List Int) (lim : Int) : Option (List Stp × List Int) := match gdec 0 0 l with
  | none => none
  | some (u, r) => if lim < 0 ∨ lim < u ∨ 1000 < u then none else if u = 0 then some ([], r) else secS r u
def lim10 (lim : Int) : Int := if 1000 < lim then 1000 else lim
theorem iAns_none {l : List Int} {lim : Int} (h : gdec 0 0 l = none) : iAns l lim = (0, [], true) := by
  unfold iAns gAns
  rw [h]; simp
theorem iAns_bad {l r : List Int} {u : Nat} {lim : Int} (h : gdec 0 0 l = some (u, r)) (hb : lim < 0 ∨ lim < u ∨ 1000 < u) : iAns l (lim10 lim) = (0, [], true) := by
  unfold iAns gAns
  rw [h]
  simp only
  rw [if_pos]
  right
  unfold lim10
  split <;> omega
theorem iAns_ok {l r : List Int} {u : Nat} {lim : Int} (h : gdec 0 0 l = some (u, r)) (hb : ¬ (lim < 0 ∨ lim < u ∨ 1000 < u)) : iAns l (lim10 lim) = (u, r, false) := by
  unfold iAns gAns
  rw [h]
  simp only
  rw [if_neg]
  unfold lim10
  split <;> simp <;> omega
theorem run10a {l : List Int} {lim : Int} (hB : isB l) (hl : l.length ≤ 70000) (hlim : lim ≤ 9223372036854775807) (h : iAns l (lim10 lim) = (0, [], true)) : F10 [.one (.ptr 0 0), .one (.int .i64 lim)] (rHp (some 0) l false) = bad10 [] true := by
  have e33 := f33 l (lim10 lim) (by unfold lim10; split <;> omega) hB (by omega)
  rw [h] at e33
  have e34 := f34 [] true
  have hL : (if 1000 < lim then (1000:Int) else lim) = lim10 lim := rfl
  simp only [rHp] at e33 e34 ⊢
  simp -implicitDefEqProofs [F10, c10, upd, e33, e34, hL, bad10, rHp]
theorem run10b {l r : List Int} {lim : Int} (hB : isB l) (hl : l.length ≤ 70000) (hlim : lim ≤ 9223372036854775807) (h : iAns l (lim10 lim) = (0, r, false)) : F10 [.one (.ptr 0 0), .one (.int .i64 lim)] (rHp (some 0) l false) = some (.tup [.one (.row 1), .one (.bool true)], rHp (some 0) r false ++ [.rows none (.recs 3 [])]) := by
  have e33 := f33 l (lim10 lim) (by unfold lim10; split <;> omega) hB (by omega)
  rw [h] at e33
  have e34 := f34 r false
  have hL : (if 1000 < lim then (1000:Int) else lim) = lim10 lim := rfl
  simp only [rHp] at e33 e34 ⊢
  simp -implicitDefEqProofs [F10, c10, upd, e33, e34, hL]
section
variable {l r : List Int} {lim : Int} {n : Nat} (hB : isB l) (hl : l.length ≤ 70000) (hlim : lim ≤ 9223372036854775807) (hn : ¬ n = 0) (h : iAns l (lim10 lim) = (n, r, false))
include hB hl hlim hn h
theorem run10c {st1 : St} {l' : List Int} {bad : Bool} (el : loopH (evC T10 KK b10x0) [0, 6, 7, 31] KK (canon10 lim r n [] [] [] 0) = some (.ret, st1)) (er : resC [(4, none), (5, none)] (some (.ret, st1)) = bad10 l' bad) : F10 [.one (.ptr 0 0), .one (.int .i64 lim)] (rHp (some 0) l false) = bad10 l' bad := by
  have e33 := f33 l (lim10 lim) (by unfold lim10; split <;> omega) hB (by omega)
  rw [h] at e33
  have e34 := f34 r false
  have hL : (if 1000 < lim then (1000:Int) else lim) = lim10 lim := rfl
  have hni : ¬ (n : Int) = 0 := by omega
  rw [← er]
  simp only [canon10] at el
  simp only [rHp] at e33 e34 ⊢
  simp -implicitDefEqProofs [F10, c10, upd, e33, e34, hL, hn, hni, el]
variable {env : Env} {l3 a b c : List Int} (el : loopH (evC T10 KK b10x0) [0, 6, 7, 31] KK (canon10 lim r n [] [] [] 0) = some (.exit 0, ⟨env, [.ptr 0 0, .int .i64 lim], (canon10 lim l3 n a b c 3).hp⟩)) (g0 : getT 0 env = .one (.ptr 0 0)) (g6 : getT 6 env = .one (.int .i64 n)) (g7 : getT 7 env = .one (.ptr 1 0)) (hB3 : isB l3) (hl3 : l3.length ≤ 70000)
include el g0 g6 g7 hB3 hl3
theorem run10d (ht : txt l3 = none) : F10 [.one (.ptr 0 0), .one (.int .i64 lim)] (rHp (some 0) l false) = bad10 [] true := by
  have e33 := f33 l (lim10 lim) (by unfold lim10; split <;> omega) hB (by omega)
  rw [h] at e33
  have e37 := f37t l3 hB3 (by omega)
  rw [ht] at e37
  have e34 := f34 r false
  have e34b := f34 [] true
  have e36 := fun t => f36 t [] (by simp)
  have hs := size_ofBytes []
  have ht := s2bB [] (by simp [isB])
  have hL : (if 1000 < lim then (1000:Int) else lim) = lim10 lim := rfl
  have hni : ¬ (n : Int) = 0 := by omega
  simp only [canon10] at el
  simp only [rHp, bufHp] at e33 e34 e34b e37 e36 ⊢
  simp -implicitDefEqProofs [F10, c10, upd, e33, e34, e34b, e36, e37, hL, hn, hni, el, g0, g6, g7, hs, ht, bad10, rHp]
variable {m l4 : List Int} (ht : txt l3 = some (m, l4))
include ht
theorem run10e {st1 : St} (el2 : loopH (evC T10 KK b10x1) [7, 11, 12, 13, 53, 54] KK (canon10b lim l4 a b c m n 0 [] (1, 2, 4) 0) = some (.ret, st1)) (er : resC [(4, none), (5, none)] (some (.ret, st1)) = bad10 l4 false) : F10 [.one (.ptr 0 0), .one (.int .i64 lim)] (rHp (some 0) l false) = bad10 l4 false := by
  obtain ⟨_, hm4, hBm, _, _⟩ := txt_inv hB3 ht
  have e33 := f33 l (lim10 lim) (by unfold lim10; split <;> omega) hB (by omega)
  rw [h] at e33
  have e37 := f37t l3 hB3 (by omega)
  rw [ht] at e37
  have e34 := fun l => f34 l false
  have e36 := fun t => f36 t m (by omega)
  have e15 := f15r
  have hs := size_ofBytes m
  have hsz : m.length ≤ 140737488355328 := by omega
  have hm := s2bB m hBm
  have hL : (if 1000 < lim then (1000:Int) else lim) = lim10 lim := rfl
  have hni : ¬ (n : Int) = 0 := by omega
  rw [← er]
  simp only [canon10] at el
  simp only [canon10b, Int.natCast_zero] at el2
  simp only [rHp, bufHp] at e33 e34 e37 e36 ⊢
  simp -implicitDefEqProofs [F10, c10, upd, e33, e34, e36, e37, e15, hL, hn, hni, el, g0, g6, g7, hs, hsz, hm, el2]
theorem run10f {env2 : Env} {r' : Int × Int × Int} {q : Nat} {out : List (List Sc)} (el2 : loopH (evC T10 KK b10x1) [7, 11, 12, 13, 53, 54] KK (canon10b lim l4 a b c m n 0 [] (1, 2, 4) 0) = some (.exit 2, ⟨env2, [.ptr 0 0, .int .i64 lim], (canon10b lim l4 a b c m n q out r' n).hp⟩)) (g11 : getT 11 env2 = .one (.ptr 5 0)) (g12 : getT 12 env2 = .one (.row 7)) (hq : q ≤ 8 * m.length) : F10 [.one (.ptr 0 0), .one (.int .i64 lim)] (rHp (some 0) l false) =
     (if endB (leB m) (8 * m.length) q = true then some (.tup [.one (.row 1), .one (.bool true)], rHp (some 0) l4 false ++ [.rows none (.recs 3 out)]) else bad10 l4 false) := by
  obtain ⟨_, hm4, hBm, _, _⟩ := txt_inv hB3 ht
  have e33 := f33 l (lim10 lim) (by unfold lim10; split <;> omega) hB (by omega)
  rw [h] at e33
  have e37 := f37t l3 hB3 (by omega)
  rw [ht] at e37
  have e34 := fun l => f34 l false
  have e36 := fun t => f36 t m (by omega)
  have e15 := f15r
  obtain ⟨pos', e39⟩ := f39 m q hBm (by omega) hq
  have hs := size_ofBytes m
  have hsz : m.length ≤ 140737488355328 := by omega
  have hm := s2bB m hBm
  have hL : (if 1000 < lim then (1000:Int) else lim) = lim10 lim := rfl
  have hni : ¬ (n : Int) = 0 := by omega
  simp only [canon10] at el
  simp only [canon10b, Int.natCast_zero] at el2
  simp only [rHp, bufHp] at e33 e34 e37 e36 e39 ⊢
  generalize ((pos' : Nat) : Int) = z at *
  generalize ((q : Nat) : Int) = zq at *
  cases hE : endB (leB m) (8 * m.length) q with
  | true =>
    rw [hE] at e39
    simp -implicitDefEqProofs [F10, c10, upd, e33, e34, e36, e37, e15, hL, hn, hni, el, g0, g6, g7, hs, hsz, hm, el2, g11, g12, e39]
  | false =>
    rw [hE] at e39
    simp -implicitDefEqProofs [F10, c10, upd, e33, e34, e36, e37, e15, hL, hn, hni, el, g0, g6, g7, hs, hsz, hm, el2, g11, g12, e39, bad10, rHp]
end
theorem f10 (l : List Int) (lim : Int) (hB : isB l) (hl : l.length ≤ 70000) (hlim : lim ≤ 9223372036854775807) : match secN l lim with
    | some (s, r) => F10 [.one (.ptr 0 0), .one (.int .i64 lim)] (rHp (some 0) l false) = some (.tup [.one (.row 1), .one (.bool true)], rHp (some 0) r false ++ [.rows none (.recs 3 (s.map recOf))])
    | none => ∃ l' b, F10 [.one (.ptr 0 0), .one (.int .i64 lim)] (rHp (some 0) l false) = bad10 l' b := by
  have hK := KK_eq
  unfold secN
  cases hg : gdec 0 0 l with
  | none => exact ⟨_, _, run10a hB hl hlim (iAns_none hg)⟩
  | some p =>
    obtain ⟨n, r⟩ := p
    dsimp only
    by_cases hb : lim < 0 ∨ lim < n ∨ 1000 < n
    · rw [if_pos hb]
      exact ⟨_, _, run10a hB hl hlim (iAns_bad hg hb)⟩
    · rw [if_neg hb]
      have hi := iAns_ok hg hb
      obtain ⟨u, h1, _⟩ := gdec_inv l 0 0 n r hB (by omega) hg
      have hBr : isB r := fun b hb => hB b (by rw [h1]; simp [hb])
      have hlr : r.length ≤ 70000 := by
        have := congrArg List.length h1
        simp only [List.length_append] at this; omega
      by_cases h0 : n = 0
      · subst h0
        rw [if_pos rfl]
        exact run10b hB hl hlim hi
      · rw [if_neg h0]
        have hx := strm10x (lim := lim) (n := (n : Int)) n rfl (by omega) hBr hlr
        unfold secS
        cases h0' : unS r n with
        | none =>
          obtain ⟨st1, l', bad, p, q⟩ := hx (fun a l1 b l2 c l3 e _ _ => by rw [h0'] at e; cases e)
          exact ⟨_, _, run10c hB hl hlim h0 hi p q⟩
        | some y =>
          obtain ⟨a, l1⟩ := y
          dsimp only
          obtain ⟨la, Ba, ca, hB1, hl1⟩ := unS_ok hBr h0'
          cases h1' : unS l1 n with
          | none =>
            obtain ⟨st1, l', bad, p, q⟩ := hx (fun a' l1' b l2 c l3 e e' _ => by
              rw [h0'] at e; cases e; rw [h1'] at e'; cases e')
            exact ⟨_, _, run10c hB hl hlim h0 hi p q⟩
          | some y =>
            obtain ⟨b, l2⟩ := y
            dsimp only
            obtain ⟨lb, Bb, cb, hB2, hl2⟩ := unS_ok hB1 h1'
            cases h2' : unS l2 n with
            | none =>
              obtain ⟨st1, l', bad, p, q⟩ := hx (fun a' l1' b l2 c l3 e e' e'' => by
                rw [h0'] at e; cases e; rw [h1'] at e'; cases e'; rw [h2'] at e''; cases e'')
              exact ⟨_, _, run10c hB hl hlim h0 hi p q⟩
            | some y =>
              obtain ⟨c, l3⟩ := y
              dsimp only
              obtain ⟨lc, Bc, cc, hB3, hl3⟩ := unS_ok hB2 h2'
              have e0 := f35 r n (by omega) hBr hlr
              have e1 := f35 l1 n (by omega) hB1 (by omega)
              have e2 := f35 l2 n (by omega) hB2 (by omega)
              rw [h0'] at e0
              rw [h1'] at e1
              rw [h2'] at e2
              obtain ⟨env, el, g0, g6, g7⟩ := strm10 (lim := lim) e0 e1 e2
              cases ht : txt l3 with
              | none => exact ⟨_, _, run10d hB hl hlim h0 hi el g0 g6 g7 hB3 (by omega) ht⟩
              | some y =>
                obtain ⟨m, l4⟩ := y
                dsimp only
                obtain ⟨_, hm4, hBm, _, _⟩ := txt_inv hB3 ht
                have e := loop10 (lim := lim) (l := l4) (by omega) la lb lc (lt28_of Ba ca) (lt28_of Bb cb) (lt28_of Bc cc) hBm (by omega) n 0 0 (1, 2, 4) [] KK (by omega) rfl (by omega) (by omega)
                cases hs : stepsB a b c (leB m) (8 * m.length) n 0 0 (1, 2, 4) with
                | none =>
                  rw [hs] at e
                  obtain ⟨st1, p, q⟩ := e
                  exact ⟨_, _, run10e hB hl hlim h0 hi el g0 g6 g7 hB3 (by omega) ht p q⟩
                | some y =>
                  obtain ⟨s, q⟩ := y
                  rw [hs] at e
                  dsimp only at e ⊢
                  obtain ⟨hq, env2, r', e, g11, g12⟩ := e
                  rw [List.nil_append] at e
                  have := run10f hB hl hlim h0 hi el g0 g6 g7 hB3 (by omega) ht e g11 g12 hq
                  cases hE : endB (leB m) (8 * m.length) q with
                  | true => rw [hE, if_pos rfl] at this; rw [if_pos rfl]; exact this
                  | false => rw [hE, if_neg (by simp)] at this; rw [if_neg (by simp)]; exact ⟨_, _, this⟩
def can8 (l : List Int) (lim at_ n : Int) (A B C : List Int) (i : Int) : St := ⟨[(0, .one (.str (ofBytes l))), (7, .one (.int .i64 at_)), (8, .one (.int .i64 n)), (9, .one (.ptr 0 0)), (10, .one (.int .i64 i))], [.str (ofBytes l), .int .i64 lim], [.cells none [.row 1, .row 2, .row 3], .rows none (.ints .u8 A), .rows none (.ints .u8 B), .rows none (.ints .u8 C)]⟩
def bad8 : Res := some (.tup [.one (.row 0), .one (.int .i64 0)], [.rows none (.recs 3 [])])
def ok24 (l : List Int) (n : Int) (o : List Int) (k : Int) : Prop := F24 [.one (.str (ofBytes l)), .one (.int .i64 n)] [] = some (.tup [.one (.row 0), .one (.int .i64 k)], [.rows none (.ints .u8 o)])
section
variable {lim n : Int} {l l1 o A B C : List Int} {p k p' : Nat} (hp : p ≤ l.length) (hl : l.length ≤ 80000) (hk : k ≠ 0) (hp' : p' = p + k) (hp2 : p' ≤ l.length) (hd : l.drop p = l1) (h : ok24 l1 n o k)
include hp hl hk hp' hp2 hd h
theorem b8n0 : ∃ st1, evC T8 KK b8x0 (can8 l lim p n A B C 0) = some (.norm, st1) ∧ St.head [0, 7, 8, 9, 10] st1 = can8 l lim p' n o B C 1 := by
  have w : IntKind.i64.wrap 1 = 1 := by decide
  have hcut := cut49 hp hd
  have hs := size_ofBytes l
  have hk0 : ¬ (k : Int) = 0 := by omega
  have hkn : ¬ k = 0 := by omega
  have hpi : (p : Int) ≤ l.length := by omega
  have wp : IntKind.i64.wrap ((p : Int) + k) = p' := by rw [i64_in _ (by omega)]; omega
  unfold ok24 at h
  simp -implicitDefEqProofs [b8x0, can8, upd, h, w, hcut, hs, hk0, hkn, hpi, hp, wp]
theorem b8n1 : ∃ st1, evC T8 KK b8x0 (can8 l lim p n A B C 1) = some (.norm, st1) ∧ St.head [0, 7, 8, 9, 10] st1 = can8 l lim p' n A o C 2 := by
  have w : IntKind.i64.wrap 2 = 2 := by decide
  have hcut := cut49 hp hd
  have hs := size_ofBytes l
  have hk0 : ¬ (k : Int) = 0 := by omega
  have hkn : ¬ k = 0 := by omega
  have hpi : (p : Int) ≤ l.length := by omega
  have wp : IntKind.i64.wrap ((p : Int) + k) = p' := by rw [i64_in _ (by omega)]; omega
  unfold ok24 at h
  simp -implicitDefEqProofs [b8x0, can8, upd, h, w, hcut, hs, hk0, hkn, hpi, hp, wp]
theorem b8n2 : ∃ st1, evC T8 KK b8x0 (can8 l lim p n A B C 2) = some (.norm, st1) ∧ St.head [0, 7, 8, 9, 10] st1 = can8 l lim p' n A B o 3 := by
  have w : IntKind.i64.wrap 3 = 3 := by decide
  have hcut := cut49 hp hd
  have hs := size_ofBytes l
  have hk0 : ¬ (k : Int) = 0 := by omega
  have hkn : ¬ k = 0 := by omega
  have hpi : (p : Int) ≤ l.length := by omega
  have wp : IntKind.i64.wrap ((p : Int) + k) = p' := by rw [i64_in _ (by omega)]; omega
  unfold ok24 at h
  simp -implicitDefEqProofs [b8x0, can8, upd, h, w, hcut, hs, hk0, hkn, hpi, hp, wp]
end
theorem b8r {lim n i : Int} {l l1 A B C : List Int} {p : Nat} (hi : 0 ≤ i ∧ i < 3) (hp : p ≤ l.length) (hl : l.length ≤ 80000) (hd : l.drop p = l1) (h : ok24 l1 n [] 0) : ∃ st1, evC T8 KK b8x0 (can8 l lim p n A B C i) = some (.ret, st1) ∧ resC [(4, none), (5, none)] (some (.ret, st1)) = bad8 := by
  have hcut := cut49 hp hd
  have hs := size_ofBytes l
  have hpi : (p : Int) ≤ l.length := by omega
  have h3 := hi.2
  unfold ok24 at h
  refine ⟨?w, ?a, ?b⟩
  case a =>
    simp -implicitDefEqProofs [b8x0, can8, upd, h, hcut, hs, hpi, hp, h3]
    rfl
  case b => simp -implicitDefEqProofs [bad8]
theorem b8e {l : List Int} {lim n p : Int} {A B C : List Int} : ∃ env, evC T8 KK b8x0 (can8 l lim p n A B C 3) = some (.exit 0, ⟨env, [.str (ofBytes l), .int .i64 lim], (can8 l lim p n A B C 3).hp⟩) ∧ getT 0 env = .one (.str (ofBytes l)) ∧ getT 7 env = .one (.int .i64 p) ∧ getT 8 env = .one (.int .i64 n) ∧ getT 9 env = .one (.ptr 0 0) := by
  refine ⟨?w2, ?a2, ?b2, ?c2, ?d2, ?e2⟩
  case a2 =>
    simp -implicitDefEqProofs [b8x0, can8, upd]
    rfl
  case b2 => simp
  case c2 => simp
  case d2 => simp
  case e2 => simp
theorem okof {l o r : List Int} {n : Nat} (hn : n ≤ 1000) (hB : isB l) (hl : l.length ≤ 79000) (h : unS l n = some (o, r)) : ok24 l n o (l.length - r.length : Nat) := by
  have e := f24 l n hn hB hl
  rw [h] at e
  exact e
theorem noof {l : List Int} {n : Nat} (hn : n ≤ 1000) (hB : isB l) (hl : l.length ≤ 79000) (h : unS l n = none) : ok24 l n [] 0 := by
  have e := f24 l n hn hB hl
  rw [h] at e
  exact e
theorem unR_suf {l o r : List Int} {n : Nat} (hB : isB l) (h : unR l n = some (o, r)) : ∃ p, l = p ++ r := by
  cases l with
  | nil => cases h
  | cons k l =>
    have hBl := hB.tail
    simp only [unR] at h
    split at h
    · split at h
      · cases h
      · simp only [Option.some.injEq, Prod.mk.injEq] at h
        obtain ⟨rfl, rfl⟩ := h
        exact ⟨k :: l.take n, by rw [List.cons_append, List.take_append_drop]⟩
    · split at h
      · cases l with
        | nil => cases h
        | cons c l =>
          dsimp only at h
          split at h
          · simp only [Option.some.injEq, Prod.mk.injEq] at h
            obtain ⟨rfl, rfl⟩ := h
            exact ⟨[k, c], rfl⟩
          · cases h
      · split at h
        · unfold shS at h
          cases h1 : txt l with
          | none => rw [h1] at h; cases h
          | some p =>
            obtain ⟨hd, r1⟩ := p
            rw [h1] at h
            dsimp only at h
            obtain ⟨e1, _, hBh, hB1, hlt1⟩ := txt_inv hBl h1
            cases h2 : txt r1 with
            | none => rw [h2] at h; cases h
            | some p2 =>
              obtain ⟨b, r2⟩ := p2
              rw [h2] at h
              dsimp only at h
              obtain ⟨e2, _⟩ := txt_inv hB1 h2
              cases h3 : hdT (leB hd) (8 * hd.length) 0 with
              | none => rw [h3] at h; cases h
              | some p3 =>
                obtain ⟨share, log, pos⟩ := p3
                rw [h3] at h
                dsimp only at h
                split at h
                · obtain ⟨o', ho', e⟩ := Option.map_eq_some_iff.1 h
                  simp only [Prod.mk.injEq] at e
                  obtain ⟨rfl, rfl⟩ := e
                  exact ⟨k :: (grp hd.length ++ hd ++ (grp b.length ++ b)), by rw [List.cons_append, List.append_assoc, ← e2, ← e1]⟩
                · cases h
        · cases h
theorem unS_suf {l o r : List Int} {n : Nat} (hB : isB l) (h : unS l n = some (o, r)) : ∃ p, l = p ++ r := by
  unfold unS at h
  cases h1 : unR l n with
  | none => rw [h1] at h; cases h
  | some p =>
    obtain ⟨o', r'⟩ := p
    rw [h1] at h
    dsimp only at h
    split at h
    · cases h
    · simp only [Option.some.injEq, Prod.mk.injEq] at h
      obtain ⟨rfl, rfl⟩ := h
      exact unR_suf hB h1
theorem at_suf {l l1 l2 : List Int} {p : Nat} (hp : p ≤ l.length) (hd : l.drop p = l1) (h : ∃ q, l1 = q ++ l2) : l.drop (p + (l1.length - l2.length)) = l2 ∧ p + (l1.length - l2.length) ≤ l.length ∧ p + (l1.length - l2.length) = l.length - l2.length := by
  obtain ⟨q, hq⟩ := h
  have h1 : l1.length = l.length - p := by rw [← hd]; simp
  have h2 : l1.length = q.length + l2.length := by rw [hq]; simp
  refine ⟨?_, by omega, by omega⟩
  rw [← List.drop_drop, hd, hq, show (q ++ l2).length - l2.length = q.length by simp, List.drop_left' rfl]
theorem strm8 {lim : Int} {l r l1 l2 l3 a b c : List Int} {n p : Nat} (hn : n ≤ 1000) (hB : isB r) (hl : l.length ≤ 70000) (hp : p ≤ l.length) (hd : l.drop p = r) (h0 : unS r n = some (a, l1)) (h1 : unS l1 n = some (b, l2)) (h2 : unS l2 n = some (c, l3)) :
    l.drop (l.length - l3.length) = l3 ∧ ∃ env, loopH (evC T8 KK b8x0) [0, 7, 8, 9, 10] KK (can8 l lim p n [] [] [] 0) = some (.exit 0, ⟨env, [.str (ofBytes l), .int .i64 lim], (can8 l lim p n a b c 3).hp⟩) ∧ getT 0 env = .one (.str (ofBytes l)) ∧ getT 7 env = .one (.int .i64 (l.length - l3.length : Nat)) ∧ getT 8 env = .one (.int .i64 n) ∧ getT 9 env = .one (.ptr 0 0) := by
  have hK := KK_eq
  obtain ⟨_, _, _, hB1, hl1⟩ := unS_ok hB h0
  obtain ⟨_, _, _, hB2, hl2⟩ := unS_ok hB1 h1
  obtain ⟨_, _, _, hB3, hl3⟩ := unS_ok hB2 h2
  have hr : r.length ≤ l.length := by rw [← hd]; simp
  obtain ⟨d1, c1, t1⟩ := at_suf hp hd (unS_suf hB h0)
  obtain ⟨s0, p0, q0⟩ := b8n0 (lim := lim) (A := []) (B := []) (C := []) hp (by omega) (by omega) rfl c1 hd (okof hn hB (by omega) h0)
  obtain ⟨d2, c2, t2⟩ := at_suf c1 d1 (unS_suf hB1 h1)
  obtain ⟨s1, p1, q1⟩ := b8n1 (lim := lim) (A := a) (B := []) (C := []) c1 (by omega) (by omega) rfl c2 d1 (okof hn hB1 (by omega) h1)
  obtain ⟨d3, c3, t3⟩ := at_suf c2 d2 (unS_suf hB2 h2)
  obtain ⟨s2, p2, q2⟩ := b8n2 (lim := lim) (A := a) (B := b) (C := []) c2 (by omega) (by omega) rfl c3 d2 (okof hn hB2 (by omega) h2)
  rw [t3] at d3 q2
  obtain ⟨env, pe, g⟩ := b8e (lim := lim) (n := n) (l := l) (p := ((l.length - l3.length : Nat) : Int)) (A := a) (B := b) (C := c)
  refine ⟨d3, env, ?_, g⟩
  rw [loopH_norm p0 (by omega), q0, loopH_norm p1 (by omega), q1, loopH_norm p2 (by omega), q2]
  exact loopH_exit pe
theorem strm8x {lim : Int} {l r : List Int} {n p : Nat} (hn : n ≤ 1000) (hB : isB r) (hl : l.length ≤ 70000) (hp : p ≤ l.length) (hd : l.drop p = r)
    (hx : ∀ a l1 b l2 c l3, unS r n = some (a, l1) → unS l1 n = some (b, l2) → unS l2 n = some (c, l3) → False) :
    ∃ st1, loopH (evC T8 KK b8x0) [0, 7, 8, 9, 10] KK (can8 l lim p n [] [] [] 0) = some (.ret, st1) ∧ resC [(4, none), (5, none)] (some (.ret, st1)) = bad8 := by
  have hK := KK_eq
  have hr : r.length ≤ l.length := by rw [← hd]; simp
  cases h0 : unS r n with
  | none =>
    obtain ⟨st1, p1, q⟩ := b8r (lim := lim) (A := []) (B := []) (C := []) (i := 0) (by omega) hp (by omega) hd (noof hn hB (by omega) h0)
    exact ⟨st1, loopH_ret p1, q⟩
  | some x =>
    obtain ⟨a, l1⟩ := x
    obtain ⟨_, _, _, hB1, hl1⟩ := unS_ok hB h0
    obtain ⟨d1, c1, t1⟩ := at_suf hp hd (unS_suf hB h0)
    obtain ⟨s0, p0, q0⟩ := b8n0 (lim := lim) (A := []) (B := []) (C := []) hp (by omega) (by omega) rfl c1 hd (okof hn hB (by omega) h0)
    rw [loopH_norm p0 (by omega), q0]
    cases h1 : unS l1 n with
    | none =>
      obtain ⟨st1, p1, q⟩ := b8r (lim := lim) (A := a) (B := []) (C := []) (i := 1) (by omega) c1 (by omega) d1 (noof hn hB1 (by omega) h1)
      exact ⟨st1, loopH_ret p1, q⟩
    | some x =>
      obtain ⟨b, l2⟩ := x
      obtain ⟨_, _, _, hB2, hl2⟩ := unS_ok hB1 h1
      obtain ⟨d2, c2, t2⟩ := at_suf c1 d1 (unS_suf hB1 h1)
      obtain ⟨s1, p1, q1⟩ := b8n1 (lim := lim) (A := a) (B := []) (C := []) c1 (by omega) (by omega) rfl c2 d1 (okof hn hB1 (by omega) h1)
      rw [loopH_norm p1 (by omega), q1]
      cases h2 : unS l2 n with
      | none =>
        obtain ⟨st1, p2, q⟩ := b8r (lim := lim) (A := a) (B := b) (C := []) (i := 2) (by omega) c2 (by omega) d2 (noof hn hB2 (by omega) h2)
        exact ⟨st1, loopH_ret p2, q⟩
      | some x =>
        obtain ⟨c, l3⟩ := x
        exact (hx a l1 b l2 c l3 h0 h1 h2).elim
structure C8 where
  s : ByteArray
  lim : Int
  p : Int
  n : Int
  q : Int
  a : List Int
  b : List Int
  c : List Int
  A : List Int
def can82 (z : C8) (X : SV) (r : Int × Int × Int) (out : List (List Sc)) (i : Nat) : St :=
  ⟨[(7, .one (.int .i64 z.p)), (8, .one (.int .i64 z.n)), (9, .one (.ptr 0 0)), (14, .one (.int .i64 z.q)), (15, .one X), (16, .one (.ptr 5 0)), (17, .one (.row 6)), (18, .one (.int .i64 i))], [.str z.s, .int .i64 z.lim],
   [.cells none [.row 1, .row 2, .row 3], .rows none (.ints .u8 z.a), .rows none (.ints .u8 z.b), .rows none (.ints .u8 z.c), .rows none (.ints .i64 z.A), .cells none [.int .i64 r.1, .int .i64 r.2.1, .int .i64 r.2.2], .rows none (.recs 3 out)]⟩
def can81 (z : C8) (X : SV) (r : Int × Int × Int) (out : List (List Sc)) (i : Nat) (v : Int × Int × Int) (k : Int) : St :=
  ⟨[(7, .one (.int .i64 z.p)), (8, .one (.int .i64 z.n)), (9, .one (.ptr 0 0)), (14, .one (.int .i64 z.q)), (15, .one X), (16, .one (.ptr 5 0)), (17, .one (.row 6)), (18, .one (.int .i64 i)), (19, .one (.ptr 7 0)), (20, .one (.int .i64 k))], [.str z.s, .int .i64 z.lim],
   [.cells none [.row 1, .row 2, .row 3], .rows none (.ints .u8 z.a), .rows none (.ints .u8 z.b), .rows none (.ints .u8 z.c), .rows none (.ints .i64 z.A), .cells none [.int .i64 r.1, .int .i64 r.2.1, .int .i64 r.2.2], .rows none (.recs 3 out), .cells none [.int .i64 v.1, .int .i64 v.2.1, .int .i64 v.2.2]]⟩
def isX (X : SV) (pos T : Nat) : Prop := (X = .row 4 ∧ pos = 0) ∨ X = .view 4 pos (T - pos)
def setV (v : Int × Int × Int) (k : Nat) (x : Int) : Int × Int × Int := match k with
  | 0 => (x, v.2.1, v.2.2)
  | 1 => (v.1, x, v.2.2)
  | _ => (v.1, v.2.1, x)
def pick8 (z : C8) (k : Nat) : List Int := match k with
  | 0 => z.a
  | 1 => z.b
  | _ => z.c
section
variable {z : C8} {X : SV} {r : Int × Int × Int} {out : List (List Sc)} {i : Nat} {v : Int × Int × Int} {k : Nat} {c w pos : Nat}
variable (hk : k < 3) (hX : isX X pos z.A.length) (hpos : pos ≤ z.A.length) (hi : i < (pick8 z k).length) (hT : z.A.length ≤ 800000) (hc : c < 28) (hg : (pick8 z k).getD i 0 = c)
  (e27 : F27 [.one (.int .i64 c)] [] = some (.one (.int .i64 w), []))
include hk hX hpos hi hT hc hg e27
theorem b8a (hc16 : c < 16) (hw : w = 0) : ∃ st1, evC T8 KK b8x1 (can81 z X r out i v k) = some (.norm, st1) ∧ St.head [7, 8, 9, 14, 15, 16, 17, 18, 19, 20] st1 = can81 z (.view 4 pos (z.A.length - pos)) r out i (setV v k c) (k + 1) := by
  have w1 : IntKind.i64.wrap ((c : Int)) = c := i64_in _ (by omega)
  have hgu := getU8 hi
  rw [hg] at hgu
  have hwk : IntKind.i64.wrap ((k : Int) + 1) = k + 1 := i64_in _ (by omega)
  have hw1 : IntKind.i64.wrap 1 = 1 := by decide
  have hw2 : IntKind.i64.wrap 2 = 2 := by decide
  have hw3 : IntKind.i64.wrap 3 = 3 := by decide
  have hc16i : ¬ (16 : Int) ≤ c := by omega
  subst hw
  have hn : ¬ ((z.A.length : Int) < 0) := by omega
  have hn2 : ¬ ((z.A.length - pos : Nat) : Int) < 0 := by omega
  have hn3 : (0 : Int) ≤ ((z.A.length - pos : Nat) : Int) := by omega
  obtain ⟨s, lim, p, n, q, a, b, c', A⟩ := z
  dsimp only at *
  obtain rfl | rfl | rfl : k = 0 ∨ k = 1 ∨ k = 2 := by omega
  all_goals simp only [pick8] at hi hgu
  · rcases hX with ⟨rfl, rfl⟩ | rfl
    · simp -implicitDefEqProofs [b8x1, can81, setV, upd, hi, hgu, w1, e27, hw1, hw2, hw3, hc16, hc16i, RC.len, RC.size, hn]
    · simp -implicitDefEqProofs [b8x1, can81, setV, upd, hi, hgu, w1, e27, hw1, hw2, hw3, hc16, hc16i, RC.len, RC.size, hn2, hn3, hpos]
  · rcases hX with ⟨rfl, rfl⟩ | rfl
    · simp -implicitDefEqProofs [b8x1, can81, setV, upd, hi, hgu, w1, e27, hw1, hw2, hw3, hc16, hc16i, RC.len, RC.size, hn]
    · simp -implicitDefEqProofs [b8x1, can81, setV, upd, hi, hgu, w1, e27, hw1, hw2, hw3, hc16, hc16i, RC.len, RC.size, hn2, hn3, hpos]
  · rcases hX with ⟨rfl, rfl⟩ | rfl
    · simp -implicitDefEqProofs [b8x1, can81, setV, upd, hi, hgu, w1, e27, hw1, hw2, hw3, hc16, hc16i, RC.len, RC.size, hn]
    · simp -implicitDefEqProofs [b8x1, can81, setV, upd, hi, hgu, w1, e27, hw1, hw2, hw3, hc16, hc16i, RC.len, RC.size, hn2, hn3, hpos]
theorem b8b {y x : Nat} (hc16 : ¬ c < 16) (hw : w = c - 12) (hwl : w ≤ z.A.length - pos) (e29 : ∀ t, F29 [.one (.ro t (.ints .i64 ((z.A.drop pos).take w)))] [] = some (.one (.int .u32 y), [])) (hy : y < 32768) (hx : x = 2 ^ w + y) :
    ∃ st1, evC T8 KK b8x1 (can81 z X r out i v k) = some (.norm, st1) ∧ St.head [7, 8, 9, 14, 15, 16, 17, 18, 19, 20] st1 = can81 z (.view 4 (pos + w) (z.A.length - pos - w)) r out i (setV v k x) (k + 1) := by
  have w1 : IntKind.i64.wrap ((c : Int)) = c := i64_in _ (by omega)
  have hgu := getU8 hi
  rw [hg] at hgu
  have hw1 : IntKind.i64.wrap 1 = 1 := by decide
  have hw2 : IntKind.i64.wrap 2 = 2 := by decide
  have hw3 : IntKind.i64.wrap 3 = 3 := by decide
  have hc16i : (16 : Int) ≤ c := by omega
  have hc16n : 16 ≤ c := by omega
  have e28 := e28 (w : Int) (by omega) (by omega)
  rw [Int.toNat_natCast] at e28
  have wy : IntKind.i64.wrap (y : Int) = y := i64_in _ (by omega)
  have h2w : 2 ^ w ≤ 2 ^ 15 := Nat.pow_le_pow_right (by omega) (by omega)
  have h15 : (2 : Nat) ^ 15 = 32768 := rfl
  have wx : IntKind.i64.wrap (((2 ^ w : Nat) : Int) + y) = x := by rw [i64_in _ (by omega)]; omega
  generalize ((2 ^ w : Nat) : Int) = P at *
  clear hc hw
  obtain ⟨s, lim, p, n, q, a, b, c', A⟩ := z
  dsimp only at *
  have hp2 : pos + w ≤ A.length := by omega
  have hn : ¬ ((A.length : Int) < w) := by omega
  have hn1 : (w : Int) ≤ A.length := by omega
  have hn1' : w ≤ A.length := by omega
  have hn2 : ¬ ((A.length - pos : Nat) : Int) < w := by omega
  have hn3 : (w : Int) ≤ ((A.length - pos : Nat) : Int) := by omega
  obtain rfl | rfl | rfl : k = 0 ∨ k = 1 ∨ k = 2 := by omega
  all_goals simp only [pick8] at hi hgu
  · rcases hX with ⟨rfl, rfl⟩ | rfl
    · simp only [List.drop_zero, Nat.sub_zero] at e29 hwl
      simp -implicitDefEqProofs [b8x1, can81, setV, upd, hi, hgu, w1, e27, e28, e29, wy, wx, hw1, hw2, hw3, hc16, hc16i, hc16n, RC.len, RC.size, hn, hn1, hn1', hwl, hp2, takeE]
    · simp -implicitDefEqProofs [b8x1, can81, setV, upd, hi, hgu, w1, e27, e28, e29, wy, wx, hw1, hw2, hw3, hc16, hc16i, hc16n, RC.len, RC.size, hn2, hn3, hpos, hwl, hp2, takeE]
  · rcases hX with ⟨rfl, rfl⟩ | rfl
    · simp only [List.drop_zero, Nat.sub_zero] at e29 hwl
      simp -implicitDefEqProofs [b8x1, can81, setV, upd, hi, hgu, w1, e27, e28, e29, wy, wx, hw1, hw2, hw3, hc16, hc16i, hc16n, RC.len, RC.size, hn, hn1, hn1', hwl, hp2, takeE]
    · simp -implicitDefEqProofs [b8x1, can81, setV, upd, hi, hgu, w1, e27, e28, e29, wy, wx, hw1, hw2, hw3, hc16, hc16i, hc16n, RC.len, RC.size, hn2, hn3, hpos, hwl, hp2, takeE]
  · rcases hX with ⟨rfl, rfl⟩ | rfl
    · simp only [List.drop_zero, Nat.sub_zero] at e29 hwl
      simp -implicitDefEqProofs [b8x1, can81, setV, upd, hi, hgu, w1, e27, e28, e29, wy, wx, hw1, hw2, hw3, hc16, hc16i, hc16n, RC.len, RC.size, hn, hn1, hn1', hwl, hp2, takeE]
    · simp -implicitDefEqProofs [b8x1, can81, setV, upd, hi, hgu, w1, e27, e28, e29, wy, wx, hw1, hw2, hw3, hc16, hc16i, hc16n, RC.len, RC.size, hn2, hn3, hpos, hwl, hp2, takeE]
theorem b8c (hwl : z.A.length - pos < w) : ∃ st1, evC T8 KK b8x1 (can81 z X r out i v k) = some (.ret, st1) ∧ resC [(4, none), (5, none)] (some (.ret, st1)) = bad8 := by
  have w1 : IntKind.i64.wrap ((c : Int)) = c := i64_in _ (by omega)
  have hgu := getU8 hi
  rw [hg] at hgu
  obtain ⟨s, lim, p, n, q, a, b, c', A⟩ := z
  dsimp only at *
  have hn2 : ((A.length - pos : Nat) : Int) < w := by omega
  obtain rfl | rfl | rfl : k = 0 ∨ k = 1 ∨ k = 2 := by omega
  all_goals simp only [pick8] at hi hgu
  · rcases hX with ⟨rfl, rfl⟩ | rfl
    · have hn : ((A.length : Nat) : Int) < w := by simpa using hn2
      refine ⟨?w1, ?a1, ?b1⟩
      case a1 =>
        simp -implicitDefEqProofs [b8x1, can81, setV, upd, hi, hgu, w1, e27, RC.len, RC.size, hn]
        rfl
      case b1 => simp -implicitDefEqProofs [bad8]
    · skip
      refine ⟨?w2, ?a2, ?b2⟩
      case a2 =>
        simp -implicitDefEqProofs [b8x1, can81, setV, upd, hi, hgu, w1, e27, RC.len, RC.size, hn2, hpos]
        rfl
      case b2 => simp -implicitDefEqProofs [bad8]
  · rcases hX with ⟨rfl, rfl⟩ | rfl
    · have hn : ((A.length : Nat) : Int) < w := by simpa using hn2
      refine ⟨?w3, ?a3, ?b3⟩
      case a3 =>
        simp -implicitDefEqProofs [b8x1, can81, setV, upd, hi, hgu, w1, e27, RC.len, RC.size, hn]
        rfl
      case b3 => simp -implicitDefEqProofs [bad8]
    · skip
      refine ⟨?w4, ?a4, ?b4⟩
      case a4 =>
        simp -implicitDefEqProofs [b8x1, can81, setV, upd, hi, hgu, w1, e27, RC.len, RC.size, hn2, hpos]
        rfl
      case b4 => simp -implicitDefEqProofs [bad8]
  · rcases hX with ⟨rfl, rfl⟩ | rfl
    · have hn : ((A.length : Nat) : Int) < w := by simpa using hn2
      refine ⟨?w5, ?a5, ?b5⟩
      case a5 =>
        simp -implicitDefEqProofs [b8x1, can81, setV, upd, hi, hgu, w1, e27, RC.len, RC.size, hn]
        rfl
      case b5 => simp -implicitDefEqProofs [bad8]
    · skip
      refine ⟨?w6, ?a6, ?b6⟩
      case a6 =>
        simp -implicitDefEqProofs [b8x1, can81, setV, upd, hi, hgu, w1, e27, RC.len, RC.size, hn2, hpos]
        rfl
      case b6 => simp -implicitDefEqProofs [bad8]
end
theorem isX_view {pos T : Nat} : isX (.view 4 pos (T - pos)) pos T := .inr rfl
theorem val8 {z : C8} {X : SV} {r : Int × Int × Int} {out : List (List Sc)} {i : Nat} {v : Int × Int × Int} {k c pos : Nat} (hk : k < 3) (hX : isX X pos z.A.length) (hpos : pos ≤ z.A.length) (hi : i < (pick8 z k).length) (hT : z.A.length ≤ 800000) (hN : isN z.A) (hc : c < 28) (hg : (pick8 z k).getD i 0 = c) :
    match valB c (leN z.A) z.A.length pos with
    | some (x, p) => ∃ st1, evC T8 KK b8x1 (can81 z X r out i v k) = some (.norm, st1) ∧ St.head [7, 8, 9, 14, 15, 16, 17, 18, 19, 20] st1 = can81 z (.view 4 p (z.A.length - p)) r out i (setV v k x) ((k + 1 : Nat) : Int)
    | none => ∃ st1, evC T8 KK b8x1 (can81 z X r out i v k) = some (.ret, st1) ∧ resC [(4, none), (5, none)] (some (.ret, st1)) = bad8 := by
  have e27 := e27 (c : Int) (by omega)
  unfold valB
  by_cases h16 : c < 16
  · rw [if_pos h16]
    rw [if_pos (by omega)] at e27
    exact b8a hk hX hpos hi hT hc hg e27 h16 rfl
  · rw [if_neg h16]
    rw [if_neg (by omega), if_neg (by omega), show (c : Int) - 12 = ((c - 12 : Nat) : Int) by omega] at e27
    by_cases hT2 : z.A.length < pos + (c - 12)
    · rw [if_pos hT2]
      exact b8c hk hX hpos hi hT hc hg e27 (by omega)
    · rw [if_neg hT2]
      have hN' : isN ((z.A.drop pos).take (c - 12)) := fun x hx => hN x (List.mem_of_mem_drop (List.mem_of_mem_take hx))
      have e29 := fun t => f29 t ((z.A.drop pos).take (c - 12)) hN' (by simp; omega)
      rw [leN_cut hN] at e29
      have h1 : leN z.A / 2 ^ pos % 2 ^ (c - 12) < 2 ^ (c - 12) := Nat.mod_lt _ (Nat.two_pow_pos _)
      have h2 : 2 ^ (c - 12) ≤ 2 ^ 15 := Nat.pow_le_pow_right (by omega) (by omega)
      have h15 : (2 : Nat) ^ 15 = 32768 := rfl
      have e := b8b (X := X) (r := r) (out := out) (v := v) hk hX hpos hi hT hc hg e27 h16 rfl (by omega) e29 (by omega) rfl
      rw [show z.A.length - pos - (c - 12) = z.A.length - (pos + (c - 12)) by omega] at e
      exact e
theorem b8x {z : C8} {X : SV} {r : Int × Int × Int} {out : List (List Sc)} {i : Nat} {v : Int × Int × Int} : ∃ env, evC T8 KK b8x1 (can81 z X r out i v 3) = some (.exit 4, ⟨env, [.str z.s, .int .i64 z.lim], (can81 z X r out i v 3).hp⟩) ∧
    (getT 7 env = .one (.int .i64 z.p) ∧ getT 8 env = .one (.int .i64 z.n) ∧ getT 9 env = .one (.ptr 0 0) ∧ getT 14 env = .one (.int .i64 z.q) ∧ getT 15 env = .one X ∧ getT 16 env = .one (.ptr 5 0) ∧ getT 17 env = .one (.row 6) ∧ getT 18 env = .one (.int .i64 i) ∧ getT 19 env = .one (.ptr 7 0)) := by
  refine ⟨?w2, ?a2, ?b2⟩
  case a2 =>
    simp -implicitDefEqProofs [b8x1, can81, upd]
    rfl
  case b2 => simp
theorem inner8 {z : C8} {X : SV} {r : Int × Int × Int} {out : List (List Sc)} {i : Nat} {c0 c1 c2 pos : Nat} (hX : isX X pos z.A.length) (hpos : pos ≤ z.A.length) (ha : i < z.a.length) (hb : i < z.b.length) (hc : i < z.c.length) (hT : z.A.length ≤ 800000) (hN : isN z.A) (h0 : c0 < 28) (h1 : c1 < 28) (h2 : c2 < 28) (g0 : z.a.getD i 0 = c0) (g1 : z.b.getD i 0 = c1) (g2 : z.c.getD i 0 = c2) :
    (∃ x0 x1 x2 p0 p1 p2, valB c0 (leN z.A) z.A.length pos = some (x0, p0) ∧ valB c1 (leN z.A) z.A.length p0 = some (x1, p1) ∧ valB c2 (leN z.A) z.A.length p1 = some (x2, p2) ∧
      ∃ env, loopH (evC T8 KK b8x1) [7, 8, 9, 14, 15, 16, 17, 18, 19, 20] KK (can81 z X r out i (0, 0, 0) 0) = some (.exit 4, ⟨env, [.str z.s, .int .i64 z.lim], (can81 z (.view 4 p2 (z.A.length - p2)) r out i (x0, x1, x2) 3).hp⟩) ∧
      (getT 7 env = .one (.int .i64 z.p) ∧ getT 8 env = .one (.int .i64 z.n) ∧ getT 9 env = .one (.ptr 0 0) ∧ getT 14 env = .one (.int .i64 z.q) ∧ getT 15 env = .one (.view 4 p2 (z.A.length - p2)) ∧ getT 16 env = .one (.ptr 5 0) ∧ getT 17 env = .one (.row 6) ∧ getT 18 env = .one (.int .i64 i) ∧ getT 19 env = .one (.ptr 7 0)))
    ∨ (stepB c0 c1 c2 (leN z.A) z.A.length pos r = none ∧ ∃ st1, loopH (evC T8 KK b8x1) [7, 8, 9, 14, 15, 16, 17, 18, 19, 20] KK (can81 z X r out i (0, 0, 0) 0) = some (.ret, st1) ∧ resC [(4, none), (5, none)] (some (.ret, st1)) = bad8) := by
  have hK := KK_eq
  have E0 := val8 (k := 0) (r := r) (out := out) (v := (0, 0, 0)) (by omega) hX hpos ha hT hN h0 g0
  cases v0 : valB c0 (leN z.A) z.A.length pos with
  | none =>
    rw [v0] at E0
    obtain ⟨st1, p, q⟩ := E0
    exact .inr ⟨by unfold stepB; rw [v0], st1, loopH_ret p, q⟩
  | some y =>
    obtain ⟨x0, p0⟩ := y
    rw [v0] at E0
    obtain ⟨s0, e0, f0⟩ := E0
    have hp0 := valB_pos v0 hpos
    have E1 := val8 (k := 1) (r := r) (out := out) (v := setV (0, 0, 0) 0 x0) (by omega) (isX_view (pos := p0)) hp0 hb hT hN h1 g1
    have z0 : ((0 : Nat) : Int) = 0 := rfl
    rw [z0] at e0
    cases v1 : valB c1 (leN z.A) z.A.length p0 with
    | none =>
      rw [v1] at E1
      obtain ⟨st1, p, q⟩ := E1
      refine .inr ⟨by unfold stepB; rw [v0]; dsimp only; rw [v1], st1, ?_, q⟩
      rw [loopH_norm e0 (by omega), f0]
      exact loopH_ret p
    | some y =>
      obtain ⟨x1, p1⟩ := y
      rw [v1] at E1
      obtain ⟨s1, e1, f1⟩ := E1
      have hp1 := valB_pos v1 hp0
      have E2 := val8 (k := 2) (r := r) (out := out) (v := setV (setV (0, 0, 0) 0 x0) 1 x1) (by omega) (isX_view (pos := p1)) hp1 hc hT hN h2 g2
      cases v2 : valB c2 (leN z.A) z.A.length p1 with
      | none =>
        rw [v2] at E2
        obtain ⟨st1, p, q⟩ := E2
        refine .inr ⟨by unfold stepB; rw [v0]; dsimp only; rw [v1]; dsimp only; rw [v2], st1, ?_, q⟩
        rw [loopH_norm e0 (by omega), f0, loopH_norm e1 (by omega), f1]
        exact loopH_ret p
      | some y =>
        obtain ⟨x2, p2⟩ := y
        rw [v2] at E2
        obtain ⟨s2, e2, f2⟩ := E2
        obtain ⟨env, e3, g⟩ := b8x (z := z) (X := .view 4 p2 (z.A.length - p2)) (r := r) (out := out) (i := i) (v := (x0, x1, x2))
        refine .inl ⟨x0, x1, x2, p0, p1, p2, rfl, v1, v2, env, ?_, g⟩
        rw [loopH_norm e0 (by omega), f0, loopH_norm e1 (by omega), f1, loopH_norm e2 (by omega), f2]
        exact loopH_exit e3
theorem b82 {z : C8} {X : SV} {r : Int × Int × Int} {out : List (List Sc)} {n i : Nat} (hn : z.n = n) (hi : i < n) (hn' : n ≤ 1000) (ho : out.length ≤ 1000) {c0 c1 c2 pos : Nat} (hX : isX X pos z.A.length) (hpos : pos ≤ z.A.length) (ha : i < z.a.length) (hb : i < z.b.length) (hc : i < z.c.length) (hT : z.A.length ≤ 800000) (hN : isN z.A) (h0 : c0 < 28) (h1 : c1 < 28) (h2 : c2 < 28) (g0 : z.a.getD i 0 = c0) (g1 : z.b.getD i 0 = c1) (g2 : z.c.getD i 0 = c2) :
    match stepB c0 c1 c2 (leN z.A) z.A.length pos r with
    | some (s, r', p) => ∃ st1, evC T8 KK b8x2 (can82 z X r out i) = some (.norm, st1) ∧ St.head [7, 8, 9, 14, 15, 16, 17, 18] st1 = can82 z (.view 4 p (z.A.length - p)) r' (out ++ [recOf s]) (i + 1)
    | none => ∃ st1, evC T8 KK b8x2 (can82 z X r out i) = some (.ret, st1) ∧ resC [(4, none), (5, none)] (some (.ret, st1)) = bad8 := by
  have hii : (i : Int) < n := by omega
  have w : IntKind.i64.wrap ((i : Int) + 1) = i + 1 := i64_in _ (by omega)
  have hm : (out.length + 1) * 24 ≤ 140737488355328 := by omega
  rcases inner8 (r := r) (out := out) hX hpos ha hb hc hT hN h0 h1 h2 g0 g1 g2 with ⟨x0, x1, x2, p0, p1, p2, v0, v1, v2, env, el, q7, q8, q9, q14, q15, q16, q17, q18, q19⟩ | ⟨hs, st1, el, er⟩
  · have hx1 := valB_lt h1 v1
    have hx2 := valB_lt h2 v2
    have e30 := f30 r (x2 : Int) (by omega)
    have e31 := f31 r.1 r.2.1 r.2.2 (offN r x2)
    rw [beh_be] at e31
    have w3 : IntKind.i64.wrap ((x1 : Int) + 3) = x1 + 3 := i64_in _ (by omega)
    have hst : stepB c0 c1 c2 (leN z.A) z.A.length pos r = if offN r x2 = 0 then none else some ((x0, x1, offN r x2), be r (offN r x2), p2) := by
      unfold stepB; rw [v0]; dsimp only; rw [v1]; dsimp only; rw [v2]
    rw [hst]
    obtain ⟨s, lim, p, n', q, a, b, c', A⟩ := z
    dsimp only at *
    subst hn
    simp only [can81] at el
    generalize offN r x2 = o at *
    clear hst v0
    by_cases ho0 : o = 0
    · rw [if_pos ho0]
      rcases hX with ⟨rfl, rfl⟩ | rfl
      · refine ⟨?w1, ?a1, ?b1⟩
        case a1 =>
          simp -implicitDefEqProofs [b8x2, can82, upd, hi, hii, el, q7, q8, q9, q14, q15, q16, q17, q18, q19, e30, ho0]
          rfl
        case b1 => simp -implicitDefEqProofs [bad8]
      · refine ⟨?w2, ?a2, ?b2⟩
        case a2 =>
          simp -implicitDefEqProofs [b8x2, can82, upd, hi, hii, el, q7, q8, q9, q14, q15, q16, q17, q18, q19, e30, ho0]
          rfl
        case b2 => simp -implicitDefEqProofs [bad8]
    · rw [if_neg ho0]
      dsimp only
      rcases hX with ⟨rfl, rfl⟩ | rfl
      · simp -implicitDefEqProofs [b8x2, can82, upd, hi, hii, el, q7, q8, q9, q14, q15, q16, q17, q18, q19, e30, ho0, e31, w3, w, hm, RC.len, RC.size, RC.app, RC.ofElems, recOf]
      · simp -implicitDefEqProofs [b8x2, can82, upd, hi, hii, el, q7, q8, q9, q14, q15, q16, q17, q18, q19, e30, ho0, e31, w3, w, hm, RC.len, RC.size, RC.app, RC.ofElems, recOf]
  · rw [hs]
    dsimp only
    refine ⟨st1, ?_, er⟩
    obtain ⟨s, lim, p, n', q, a, b, c', A⟩ := z
    dsimp only at *
    subst hn
    simp only [can81] at el
    rcases hX with ⟨rfl, rfl⟩ | rfl
    · simp -implicitDefEqProofs [b8x2, can82, upd, hi, hii, el]
    · simp -implicitDefEqProofs [b8x2, can82, upd, hi, hii, el]
theorem b82x {z : C8} {X : SV} {r : Int × Int × Int} {out : List (List Sc)} {n pos : Nat} (hn : z.n = n) (hX : isX X pos z.A.length) : ∃ env, evC T8 KK b8x2 (can82 z X r out n) = some (.exit 2, ⟨env, [.str z.s, .int .i64 z.lim], (can82 z X r out n).hp⟩) ∧
    (getT 7 env = .one (.int .i64 z.p) ∧ getT 14 env = .one (.int .i64 z.q) ∧ getT 15 env = .one X ∧ getT 17 env = .one (.row 6)) := by
  refine ⟨?w2, ?a2, ?b2⟩
  case a2 =>
    simp -implicitDefEqProofs [b8x2, can82, upd, hn]
    rfl
  case b2 => simp
theorem loop8 {z : C8} {n : Nat} (hn : z.n = n) (hn' : n ≤ 1000) (ha : z.a.length = n) (hb : z.b.length = n) (hc : z.c.length = n) (ha' : lt28 z.a) (hb' : lt28 z.b) (hc' : lt28 z.c) (hT : z.A.length ≤ 800000) (hN : isN z.A) :
    ∀ (k i pos : Nat) (X : SV) (r : Int × Int × Int) (out : List (List Sc)) (K : Nat), i + k = n → out.length = i → pos ≤ z.A.length → isX X pos z.A.length → k + 1 < K →
    match stepsB z.a z.b z.c (leN z.A) z.A.length k i pos r with
    | some (s, q) => q ≤ z.A.length ∧ ∃ env X' r', isX X' q z.A.length ∧ loopH (evC T8 KK b8x2) [7, 8, 9, 14, 15, 16, 17, 18] K (can82 z X r out i) = some (.exit 2, ⟨env, [.str z.s, .int .i64 z.lim], (can82 z X' r' (out ++ s.map recOf) n).hp⟩) ∧
       (getT 7 env = .one (.int .i64 z.p) ∧ getT 14 env = .one (.int .i64 z.q) ∧ getT 15 env = .one X' ∧ getT 17 env = .one (.row 6))
    | none => ∃ st1, loopH (evC T8 KK b8x2) [7, 8, 9, 14, 15, 16, 17, 18] K (can82 z X r out i) = some (.ret, st1) ∧ resC [(4, none), (5, none)] (some (.ret, st1)) = bad8 := by
  intro k
  induction k with
  | zero =>
    intro i pos X r out K h1 h2 h3 hX h4
    obtain rfl : i = n := by omega
    obtain ⟨env, e, g⟩ := b82x (r := r) (out := out) hn hX
    refine ⟨h3, env, X, r, hX, ?_, g⟩
    simp only [List.map_nil, List.append_nil]
    exact loopH_exit e
  | succ k ih =>
    intro i pos X r out K h1 h2 h3 hX h4
    obtain ⟨x, hx, ex, tx⟩ := lt28_get ha' (i := i) (by omega)
    obtain ⟨y, hy, ey, ty⟩ := lt28_get hb' (i := i) (by omega)
    obtain ⟨w, hz, ez, tz⟩ := lt28_get hc' (i := i) (by omega)
    have e38 := b82 (r := r) (out := out) hn (by omega : i < n) hn' (by omega) hX h3 (by omega) (by omega) (by omega) hT hN hx hy hz ex ey ez
    simp only [stepsB, tx, ty, tz]
    cases hs : stepB x y w (leN z.A) z.A.length pos r with
    | none =>
      rw [hs] at e38
      obtain ⟨st1, p1, q1⟩ := e38
      exact ⟨st1, loopH_ret p1, q1⟩
    | some t =>
      obtain ⟨s0, r', p⟩ := t
      rw [hs] at e38
      dsimp only at e38 ⊢
      obtain ⟨st1, p1, q1⟩ := e38
      have hp := stepB_pos hs h3
      have e := ih (i + 1) p _ r' (out ++ [recOf s0]) (K - 1) (by omega) (by simp; omega) hp isX_view (by omega)
      rw [loopH_norm p1 (by omega), q1]
      cases hq : stepsB z.a z.b z.c (leN z.A) z.A.length k (i + 1) p r' with
      | none => rw [hq] at e; exact e
      | some y =>
        obtain ⟨s, q⟩ := y
        rw [hq] at e
        dsimp only at e ⊢
        simpa only [List.map_cons, List.append_assoc, List.singleton_append] using e
def rs8 (l : List Int) : Option (List Stp × List Int) → Res
  | some (s, r) => some (.tup [.one (.row 0), .one (.int .i64 (l.length - r.length : Nat))], [.rows none (.recs 3 (s.map recOf))])
  | none => bad8
section
variable {l : List Int} {lim : Int} (hB : isB l) (hl : l.length ≤ 70000) (hlim : lim ≤ 9223372036854775807)
include hB hl hlim
theorem run8a (e23 : F23 [.one (.str (ofBytes l))] [] = some (tupF 0 0, [])) : F8 [.one (.str (ofBytes l)), .one (.int .i64 lim)] [] = bad8 := by
  simp only [tupF] at e23
  simp -implicitDefEqProofs [F8, c8, upd, e23, bad8]
variable {n k : Nat} (e23 : F23 [.one (.str (ofBytes l))] [] = some (tupF n k, [])) (hk : ¬ k = 0)
include e23 hk
theorem run8b (hb : lim < 0 ∨ lim < n ∨ 1000 < n) : F8 [.one (.str (ofBytes l)), .one (.int .i64 lim)] [] = bad8 := by
  have hki : ¬ (k : Int) = 0 := by omega
  simp only [tupF] at e23
  by_cases h0 : lim < 0
  · simp -implicitDefEqProofs [F8, c8, upd, e23, hk, hki, h0, bad8]
  · have wl : IntKind.u64.wrap lim = lim := u64_in _ (by omega)
    by_cases h1 : lim < n
    · simp -implicitDefEqProofs [F8, c8, upd, e23, hk, hki, h0, wl, h1, bad8]
    · have h2 : (1000 : Int) < n := by omega
      have h2n : 1000 < n := by omega
      simp -implicitDefEqProofs [F8, c8, upd, e23, hk, hki, h0, wl, h1, h2, h2n, bad8]
variable (hb : ¬ (lim < 0 ∨ lim < n ∨ 1000 < n))
include hb
theorem run8c (hn : n = 0) : F8 [.one (.str (ofBytes l)), .one (.int .i64 lim)] [] = some (.tup [.one (.row 0), .one (.int .i64 k)], [.rows none (.recs 3 [])]) := by
  subst hn
  have hki : ¬ (k : Int) = 0 := by omega
  have h0 : ¬ lim < 0 := by omega
  have wl : IntKind.u64.wrap lim = lim := u64_in _ (by omega)
  have w0 : IntKind.i64.wrap 0 = 0 := by decide
  simp only [tupF] at e23
  simp -implicitDefEqProofs [F8, c8, upd, e23, hk, hki, h0, wl, w0]
variable (hn : ¬ n = 0)
include hn
theorem run8d {st1 : St} (el : loopH (evC T8 KK b8x0) [0, 7, 8, 9, 10] KK (can8 l lim k n [] [] [] 0) = some (.ret, st1)) (er : resC [(4, none), (5, none)] (some (.ret, st1)) = bad8) : F8 [.one (.str (ofBytes l)), .one (.int .i64 lim)] [] = bad8 := by
  have hki : ¬ (k : Int) = 0 := by omega
  have hni : ¬ (n : Int) = 0 := by omega
  have h0 : ¬ lim < 0 := by omega
  have h1 : ¬ lim < n := by omega
  have h2 : ¬ (1000 : Int) < n := by omega
  have h2n : ¬ 1000 < n := by omega
  have wn : IntKind.i64.wrap (n : Int) = n := i64_in _ (by omega)
  have wl : IntKind.u64.wrap lim = lim := u64_in _ (by omega)
  simp only [tupF] at e23
  simp only [can8] at el
  rw [← er]
  simp -implicitDefEqProofs [F8, c8, upd, e23, hk, hki, h0, wl, h1, h2, h2n, wn, hn, hni, el]
variable {env : Env} {p : Nat} {l3 a b c : List Int} (el : loopH (evC T8 KK b8x0) [0, 7, 8, 9, 10] KK (can8 l lim k n [] [] [] 0) = some (.exit 0, ⟨env, [.str (ofBytes l), .int .i64 lim], (can8 l lim p n a b c 3).hp⟩)) (g0 : getT 0 env = .one (.str (ofBytes l))) (g7 : getT 7 env = .one (.int .i64 p)) (g8 : getT 8 env = .one (.int .i64 n)) (g9 : getT 9 env = .one (.ptr 0 0)) (hp : p ≤ l.length) (hd : l.drop p = l3) (hB3 : isB l3)
include el g0 g7 g8 g9 hp hd hB3
theorem run8e (ht : txt l3 = none) : F8 [.one (.str (ofBytes l)), .one (.int .i64 lim)] [] = bad8 := by
  have hki : ¬ (k : Int) = 0 := by omega
  have hni : ¬ (n : Int) = 0 := by omega
  have h0 : ¬ lim < 0 := by omega
  have h1 : ¬ lim < n := by omega
  have h2 : ¬ (1000 : Int) < n := by omega
  have h2n : ¬ 1000 < n := by omega
  have wn : IntKind.i64.wrap (n : Int) = n := i64_in _ (by omega)
  have wl : IntKind.u64.wrap lim = lim := u64_in _ (by omega)
  have hcut := cut49 hp hd
  have hpi : (p : Int) ≤ l.length := by omega
  have hs := size_ofBytes l
  have e25 := f25n hB3 (by rw [← hd]; simp; omega) ht
  simp only [tupF] at e23
  simp only [can8] at el
  simp -implicitDefEqProofs [F8, c8, upd, e23, hk, hki, h0, wl, h1, h2, h2n, wn, hn, hni, el, g0, g7, g8, g9, hcut, hp, hpi, hs, e25, bad8]
variable {m l4 A : List Int} (ht : txt l3 = some (m, l4)) (e26 : ∀ t, F26 [.one (.ro t (.ints .u8 m))] [] = some (.one (.row 0), [.rows none (.ints .i64 A)]))
include ht e26
theorem run8f {st1 : St} (el2 : loopH (evC T8 KK b8x2) [7, 8, 9, 14, 15, 16, 17, 18] KK (can82 ⟨ofBytes l, lim, p, n, (l3.length - l4.length : Nat), a, b, c, A⟩ (.row 4) (1, 2, 4) [] 0) = some (.ret, st1)) (er : resC [(4, none), (5, none)] (some (.ret, st1)) = bad8) : F8 [.one (.str (ofBytes l)), .one (.int .i64 lim)] [] = bad8 := by
  have hki : ¬ (k : Int) = 0 := by omega
  have hni : ¬ (n : Int) = 0 := by omega
  have h0 : ¬ lim < 0 := by omega
  have h1 : ¬ lim < n := by omega
  have h2 : ¬ (1000 : Int) < n := by omega
  have h2n : ¬ 1000 < n := by omega
  have wn : IntKind.i64.wrap (n : Int) = n := i64_in _ (by omega)
  have wl : IntKind.u64.wrap lim = lim := u64_in _ (by omega)
  have hcut := cut49 hp hd
  have hpi : (p : Int) ≤ l.length := by omega
  have hs := size_ofBytes l
  obtain ⟨_, hm4, hBm, _, hlt⟩ := txt_inv hB3 ht
  have e25 := f25s hB3 (by rw [← hd]; simp; omega) ht
  have hq : ¬ l3.length - l4.length = 0 := by omega
  have hsm := size_ofBytes m
  have hsz : m.length ≤ 140737488355328 := by omega
  have htm := s2bB m hBm
  generalize l3.length - l4.length = q at *
  have hqi : ¬ (q : Int) = 0 := by omega
  simp only [tupF] at e23
  simp only [can8] at el
  simp only [can82, Int.natCast_zero] at el2
  rw [← er]
  simp -implicitDefEqProofs [F8, c8, upd, e23, hk, hki, h0, wl, h1, h2, h2n, wn, hn, hni, el, g0, g7, g8, g9, hcut, hp, hpi, hs, e25, hq, hqi, hsm, hsz, htm, e26, el2]
theorem run8g {env2 : Env} {X : SV} {r' : Int × Int × Int} {pos : Nat} {out : List (List Sc)} (hT : A.length = 8 * m.length) (hN : isN A) (hX : isX X pos A.length) (hpos : pos ≤ A.length)
    (el2 : loopH (evC T8 KK b8x2) [7, 8, 9, 14, 15, 16, 17, 18] KK (can82 ⟨ofBytes l, lim, p, n, (l3.length - l4.length : Nat), a, b, c, A⟩ (.row 4) (1, 2, 4) [] 0) = some (.exit 2, ⟨env2, [.str (ofBytes l), .int .i64 lim], (can82 ⟨ofBytes l, lim, p, n, (l3.length - l4.length : Nat), a, b, c, A⟩ X r' out n).hp⟩)) (q7 : getT 7 env2 = .one (.int .i64 p)) (q14 : getT 14 env2 = .one (.int .i64 (l3.length - l4.length : Nat))) (q15 : getT 15 env2 = .one X) (q17 : getT 17 env2 = .one (.row 6)) :
    F8 [.one (.str (ofBytes l)), .one (.int .i64 lim)] [] = (if endB (leN A) A.length pos = true then some (.tup [.one (.row 0), .one (.int .i64 (p + (l3.length - l4.length) : Nat))], [.rows none (.recs 3 out)]) else bad8) := by
  have hki : ¬ (k : Int) = 0 := by omega
  have hni : ¬ (n : Int) = 0 := by omega
  have h0 : ¬ lim < 0 := by omega
  have h1 : ¬ lim < n := by omega
  have h2 : ¬ (1000 : Int) < n := by omega
  have h2n : ¬ 1000 < n := by omega
  have wn : IntKind.i64.wrap (n : Int) = n := i64_in _ (by omega)
  have wl : IntKind.u64.wrap lim = lim := u64_in _ (by omega)
  have hcut := cut49 hp hd
  have hpi : (p : Int) ≤ l.length := by omega
  have hs := size_ofBytes l
  obtain ⟨_, hm4, hBm, _, hlt⟩ := txt_inv hB3 ht
  have hl3 : l3.length = l.length - p := by rw [← hd]; simp
  have e25 := f25s hB3 (by omega) ht
  have hq : ¬ l3.length - l4.length = 0 := by omega
  have hsm := size_ofBytes m
  have hsz : m.length ≤ 140737488355328 := by omega
  have htm := s2bB m hBm
  have e32 := fun t => f32 t ((A.drop pos).take (A.length - pos)) (fun x hx => hN x (List.mem_of_mem_drop (List.mem_of_mem_take hx))) (by simp; omega)
  have hlv : leN ((A.drop pos).take (A.length - pos)) = leN A / 2 ^ pos := by
    rw [List.take_of_length_le (by simp), leN_drop pos hN]
  have hll : ((A.drop pos).take (A.length - pos)).length = A.length - pos := by simp
  rw [hlv, hll] at e32
  have hE : decide (A.length - pos < 8 ∧ leN A / 2 ^ pos = 0) = endB (leN A) A.length pos := rfl
  rw [hE] at e32
  have wq : IntKind.i64.wrap ((p : Int) + ((l3.length - l4.length : Nat) : Int)) = ((p + (l3.length - l4.length) : Nat) : Int) := by rw [i64_in _ (by omega)]; omega
  generalize ((p + (l3.length - l4.length) : Nat) : Int) = sz at *
  generalize l3.length - l4.length = q at *
  have hqi : ¬ (q : Int) = 0 := by omega
  simp only [tupF] at e23
  simp only [can8] at el
  simp only [can82, Int.natCast_zero] at el2
  clear hE hlv hll
  generalize endB (leN A) A.length pos = E at *
  have hle : pos + (A.length - pos) ≤ A.length := by omega
  rcases hX with ⟨rfl, rfl⟩ | rfl
  · simp only [List.drop_zero, Nat.sub_zero, List.take_length] at e32
    cases E with
    | true => simp -implicitDefEqProofs [F8, c8, upd, e23, hk, hki, h0, wl, h1, h2, h2n, wn, hn, hni, el, g0, g7, g8, g9, hcut, hp, hpi, hs, e25, hq, hqi, hsm, hsz, htm, e26, el2, q7, q14, q15, q17, e32, wq, takeE]
    | false => simp -implicitDefEqProofs [F8, c8, upd, e23, hk, hki, h0, wl, h1, h2, h2n, wn, hn, hni, el, g0, g7, g8, g9, hcut, hp, hpi, hs, e25, hq, hqi, hsm, hsz, htm, e26, el2, q7, q14, q15, q17, e32, wq, takeE, bad8]
  · cases E with
    | true => simp -implicitDefEqProofs [F8, c8, upd, e23, hk, hki, h0, wl, h1, h2, h2n, wn, hn, hni, el, g0, g7, g8, g9, hcut, hp, hpi, hs, e25, hq, hqi, hsm, hsz, htm, e26, el2, q7, q14, q15, q17, e32, wq, takeE, RC.len, RC.size, hle]
    | false => simp -implicitDefEqProofs [F8, c8, upd, e23, hk, hki, h0, wl, h1, h2, h2n, wn, hn, hni, el, g0, g7, g8, g9, hcut, hp, hpi, hs, e25, hq, hqi, hsm, hsz, htm, e26, el2, q7, q14, q15, q17, e32, wq, takeE, RC.len, RC.size, hle, bad8]
end
theorem f8 (l : List Int) (lim : Int) (hB : isB l) (hl : l.length ≤ 70000) (hlim : lim ≤ 9223372036854775807) : F8 [.one (.str (ofBytes l)), .one (.int .i64 lim)] [] = rs8 l (secN l lim) := by
  have hK := KK_eq
  unfold secN
  cases hg : gdec 0 0 l with
  | none =>
    have e23 := f40_none l hB (by omega) (fun u r hu e => by
      have h64 : u * 2 ^ (7 * 0) < 2 ^ 64 := by simpa using hu
      rw [e, gdec_grp r u 0 0 (by omega) h64 (.inl rfl)] at hg
      cases hg)
    exact run8a hB hl hlim e23
  | some p =>
    obtain ⟨n, r⟩ := p
    dsimp only
    obtain ⟨u, h1, h2, _⟩ := gdec_inv l 0 0 n r hB (by omega) hg
    obtain rfl : n = u := by simpa using h2
    have hu : n < 2 ^ 64 := gdec_lt l 0 0 n r hB (by omega) (by simp) hg
    have e23 := f40_some l n r hB (by omega) h1 hu
    have hpos := grp_pos n
    have hlen : l.length = (grp n).length + r.length := by rw [h1]; simp
    have hBr : isB r := fun b hb => hB b (by rw [h1]; simp [hb])
    have hd : l.drop (grp n).length = r := by rw [h1, List.drop_left' rfl]
    have hk : (grp n).length = l.length - r.length := by omega
    by_cases hb : lim < 0 ∨ lim < n ∨ 1000 < n
    · rw [if_pos hb]
      exact run8b hB hl hlim e23 (by omega) hb
    · rw [if_neg hb]
      by_cases h0 : n = 0
      · rw [if_pos h0]
        have e := run8c hB hl hlim e23 (by omega) hb h0
        rw [e, hk]; rfl
      · rw [if_neg h0]
        have hx := strm8x (lim := lim) (l := l) (r := r) (n := n) (p := (grp n).length) (by omega) hBr hl (by omega) hd
        unfold secS
        cases h0' : unS r n with
        | none =>
          obtain ⟨st1, p, q⟩ := hx (fun a l1 b l2 c l3 e _ _ => by rw [h0'] at e; cases e)
          exact run8d hB hl hlim e23 (by omega) hb h0 p q
        | some y =>
          obtain ⟨a, l1⟩ := y
          dsimp only
          obtain ⟨la, Ba, ca, hB1, hl1⟩ := unS_ok hBr h0'
          cases h1' : unS l1 n with
          | none =>
            obtain ⟨st1, p, q⟩ := hx (fun a' l1' b l2 c l3 e e' _ => by
              rw [h0'] at e; cases e; rw [h1'] at e'; cases e')
            exact run8d hB hl hlim e23 (by omega) hb h0 p q
          | some y =>
            obtain ⟨b, l2⟩ := y
            dsimp only
            obtain ⟨lb, Bb, cb, hB2, hl2⟩ := unS_ok hB1 h1'
            cases h2' : unS l2 n with
            | none =>
              obtain ⟨st1, p, q⟩ := hx (fun a' l1' b l2 c l3 e e' e'' => by
                rw [h0'] at e; cases e; rw [h1'] at e'; cases e'; rw [h2'] at e''; cases e'')
              exact run8d hB hl hlim e23 (by omega) hb h0 p q
            | some y =>
              obtain ⟨c, l3⟩ := y
              dsimp only
              obtain ⟨lc, Bc, cc, hB3, hl3⟩ := unS_ok hB2 h2'
              obtain ⟨hd3, env, el, g0, g7, g8, g9⟩ := strm8 (lim := lim) (by omega) hBr hl (by omega) hd h0' h1' h2'
              cases ht : txt l3 with
              | none => exact run8e hB hl hlim e23 (by omega) hb h0 (by simpa only [can8] using el) g0 g7 g8 g9 (by omega) hd3 hB3 ht
              | some y =>
                obtain ⟨m, l4⟩ := y
                dsimp only
                obtain ⟨_, hm4, hBm, _, hlt4⟩ := txt_inv hB3 ht
                have e26 : ∃ A, (∀ t, F26 [.one (.ro t (.ints .u8 m))] [] = some (.one (.row 0), [.rows none (.ints .i64 A)])) ∧ isN A ∧ A.length = 8 * m.length ∧ leN A = leB m := by
                  obtain ⟨A, eA, hA, hA2, hA3⟩ := f26 0 m hBm (by omega)
                  refine ⟨A, fun t => ?_, hA, hA2, hA3⟩
                  obtain ⟨A', eA', hA', hA2', hA3'⟩ := f26 t m hBm (by omega)
                  have : A' = A := leN_inj hA' hA (by omega) (by omega)
                  rw [this] at eA'
                  exact eA'
                obtain ⟨A, e26, hN, hA2, hA3⟩ := e26
                have e := loop8 (z := ⟨ofBytes l, lim, (l.length - l3.length : Nat), n, (l3.length - l4.length : Nat), a, b, c, A⟩) rfl (by omega) la lb lc (lt28_of Ba ca) (lt28_of Bb cb) (lt28_of Bc cc) (by show A.length ≤ _; omega) hN n 0 0 (.row 4) (1, 2, 4) [] KK (by omega) rfl (by show 0 ≤ A.length; omega) (.inl ⟨rfl, rfl⟩) (by omega)
                rw [← hA2, ← hA3]
                dsimp only at e
                cases hs : stepsB a b c (leN A) A.length n 0 0 (1, 2, 4) with
                | none =>
                  rw [hs] at e
                  obtain ⟨st1, p, q⟩ := e
                  exact run8f hB hl hlim e23 (by omega) hb h0 (by simpa only [can8] using el) g0 g7 g8 g9 (by omega) hd3 hB3 ht e26 p q
                | some y =>
                  obtain ⟨s, q⟩ := y
                  rw [hs] at e
                  dsimp only at e ⊢
                  obtain ⟨hq, env2, X, r', hX, e, g7', g14, g15, g17⟩ := e
                  rw [List.nil_append] at e
                  have := run8g hB hl hlim e23 (by omega) hb h0 (by simpa only [can8] using el) g0 g7 g8 g9 (by omega) hd3 hB3 ht e26 hA2 hN hX hq e g7' g14 g15 g17
                  rw [this]
                  have hz : l.length - l3.length + (l3.length - l4.length) = l.length - l4.length := by omega
                  rw [hz]
                  cases endB (leN A) A.length q <;> rfl
theorem run47 (t : Nat) (l C Y hb out : List Int) (L c2 : Int) (cs : List (List Sc)) (fi al : List Int) (hhb : hb.length ≤ 4096) (hout : out.length ≤ 4096) (hB1 : isB hb) (hB2 : isB out)
    (e68 : ∀ t, F68 [.one (.ro t (.ints .u8 l))] [] = some (.one (.row 0), [.rows none (.ints .i64 C)]))
    (e69 : F69 [.one (.ro 0 (.ints .i64 C))] [] = some (.one (.int .i64 L), []))
    (e70 : F70 [.one (.ro 0 (.ints .i64 C)), .one (.int .i64 L)] [] = some (.tup [.one (.row 0), .one (.bool true)], [.rows none (.ints .i64 Y)]))
    (e71 : F71 [.one (.ptr 0 0), .one (.ro 1 (.ints .i64 Y)), .one (.int .i64 L)] (bufHp (some 0) [] 0) = some (tupB true, bufHp (some 0) hb c2))
    (e72 : F72 [.one (.ro 0 (.ints .i64 Y)), .one (.int .i64 L)] [] = some (.tup [.one (.ptr 0 0), .one (.bool true)], tabHp none L cs Y fi al))
    (e73 : F73 [.one (.ptr 0 0), .one (.ro 1 (.ints .u8 l))] (tabHp (some 0) L cs Y fi al) = some (.tup [.one (.row 5), .one (.bool true)], tabHp (some 0) L cs Y fi al ++ [.rows none (.ints .u8 out)])) :
    F47 [.one (.ro t (.ints .u8 l))] [] = some (.tup [.one (.str (ofBytes (2 :: (grp hb.length ++ hb ++ (grp out.length ++ out))))), .one (.bool true)], []) := by
  have e44 := f44 2 (by omega)
  have e22 := f22 hb c2 (by omega)
  have s1 := size_ofBytes hb
  have s2 := size_ofBytes out
  have t1 := s2bB hb hB1
  have t2 := s2bB out hB2
  have g1 := grp_ten (v := hb.length) (by omega)
  have g2 := grp_ten (v := out.length) (by omega)
  have e21a := f21 (ofBytes hb) [2] (by simp) (by omega)
  rw [s1, t1] at e21a
  have e21b := f21 (ofBytes out) ([2] ++ grp hb.length ++ hb) (by simp; omega) (by omega)
  rw [s2, t2] at e21b
  have e14 := f14 ([2] ++ grp hb.length ++ hb ++ grp out.length ++ out)
  have hz : [2] ++ grp hb.length ++ hb ++ grp out.length ++ out = 2 :: (grp hb.length ++ hb ++ (grp out.length ++ out)) := by simp
  rw [hz] at e14 e21b
  generalize 2 :: (grp hb.length ++ hb ++ (grp out.length ++ out)) = z at *
  generalize [2] ++ grp hb.length ++ hb = z1 at *
  have c2' : ((2 : Nat) : Int) = 2 := rfl
  rw [c2'] at e44
  simp only [bufHp, wHp, tabHp, tupB, List.cons_append, List.nil_append] at e71 e72 e73 e44 e22 e21a e21b e14
  simp -implicitDefEqProofs [F47, c47, upd, e68, e69, e70, e71, e72, e73, e44, e22, e21a, e21b, e14]
theorem hpr_le : ∀ (l : List Int) (rest : Nat), rest ≤ 512 → prL (hpr rest l) ≤ 10 * l.length
  | [], rest, h => by cases rest <;> simp [hpr, prL]
  | n :: l, rest, h => by
    rw [hpr]
    split
    · simp [prL]
    · have ih := hpr_le l (rest - n.toNat) (by omega)
      have hb : bl rest ≤ 10 := bl_le (by omega)
      simp only [prL, List.length_cons]
      omega
theorem mx_has (l : List Int) : ∀ i : Nat, 0 < i → i ≤ l.length → ∃ c ∈ l, c.toNat + 1 = mxK l i
  | 0, h, _ => by omega
  | i + 1, _, h => by
    have hg : l.getD i 0 = l[i] := by simp [List.getD, show i < l.length by omega]
    simp only [mxK]
    by_cases hi : mxK l i ≤ (l.getD i 0).toNat + 1
    · exact ⟨l[i], List.getElem_mem _, by rw [Nat.max_eq_right hi, hg]⟩
    · rcases Nat.eq_zero_or_pos i with rfl | h0
      · simp [mxK] at hi
      · obtain ⟨c, hc, e⟩ := mx_has l i h0 (by omega)
        exact ⟨c, hc, by rw [Nat.max_eq_left (by omega), e]⟩
theorem isB_ap {a b : List Int} (ha : isB a) (hb : isB b) : isB (a ++ b) := fun x hx => by
  rcases List.mem_append.1 hx with h | h
  · exact ha x h
  · exact hb x h
theorem f47 (l : List Int) (h0 : 0 < l.length) (hl : l.length ≤ 400) (hB : isB l) : ∃ s, (∀ t, F47 [.one (.ro t (.ints .u8 l))] [] = some (.tup [.one (.str (ofBytes (2 :: s))), .one (.bool true)], [])) ∧ isB s ∧ 1 ≤ s.length ∧ s.length ≤ 9000 ∧ ∀ r, isB r → shS (s ++ r) l.length = some (l, r) := by
  have hB5 : ∀ z ∈ l, 0 ≤ z ∧ z ≤ 255 := fun z hz => by have := hB z hz; omega
  have e68 := fun t => f68 t l hl hB5
  have hs := sum_ofK l
  have hlen : (ofK l).length ≤ 256 := by rw [ofK_len]; exact mxK_le l hB5 _ (Nat.le_refl _)
  have hm := ofK_mem l
  have hpos := fun c (hc : c ∈ l) => ofK_pos hc
  obtain ⟨cm, hcm, hcx⟩ := mx_has l l.length h0 (Nat.le_refl _)
  rw [← ofK_len] at hcx
  generalize ofK l = C at *
  have hC : 0 < C.length := by omega
  obtain ⟨log, e69, h5, h9, h2⟩ := f69 0 C hlen (fun z hz => by have := hm z hz; omega) (by omega)
  obtain ⟨Y, e70, hY, hYs⟩ := f70s 0 C log hC hlen ⟨by omega, by omega⟩ (fun z hz => by have := hm z hz; omega) ⟨h5, h9⟩ h2
  have hf := fair_of ⟨h5, h9⟩ hlen hY hYs
  have hYl := hY.len
  obtain ⟨L, rfl, S⟩ := shr_of hf
  have hL := S.hi
  obtain ⟨hb, e71, hH⟩ := f71 Y L (by omega) hf 0 0 [] ⟨by simp [isB], by simp, rfl, by simp⟩ (by omega)
  simp only [Nat.zero_add, Nat.pow_zero, Nat.mul_one] at e71 hH
  obtain ⟨al, e72, hal, hok⟩ := f72 0 Y (natsOf Y) S hf
  obtain ⟨⟨st, c, N⟩, hw⟩ := wk_some S l.reverse 0 0 0 (Nat.two_pow_pos L) (fun y hy => by
    have hy : y ∈ l := by simpa using hy
    obtain ⟨n, q1, q2⟩ := hpos y hy
    obtain ⟨x, q3, q4, _⟩ := hY.pos q1
    have := q4 q2
    exact ⟨x.toNat, by rw [natsOf_get, q3]; rfl, by omega⟩)
  obtain ⟨out, e73, hO, hst, hc⟩ := f73 1 S hok l hB (by omega) hw
  have hd := dec_enc S hB (by omega) hw hO
  have hol := hO.len
  have hhl := hH.len
  obtain ⟨h5', hl', ho', hs'⟩ := fair_parts hf
  have hp2 := pow9 h5'
  obtain ⟨k1, k2, k3, ⟨x, k4, k5⟩, k6⟩ := hpr_take Y (2 ^ (L : Int).toNat) ho' hs' (by omega)
  have hple := hpr_le Y (2 ^ (L : Int).toNat) (by omega)
  have hall : prL (allP L Y) = 3 + prL (hpr (2 ^ (L : Int).toNat) Y) := rfl
  have hfull : (hpr (2 ^ (L : Int).toNat) Y).length = Y.length := by
    by_cases hlt : (hpr (2 ^ (L : Int).toNat) Y).length = Y.length
    · exact hlt
    · exfalso
      have := k6 (Y.length - 1) (by omega) (by omega)
      obtain ⟨n, q1, q2⟩ := hpos cm hcm
      obtain ⟨x, q3, q4, _⟩ := hY.pos q1
      have q5 := q4 q2
      rw [show cm.toNat = Y.length - 1 by omega, this] at q3
      cases q3; omega
  have hput := hdT_put hf (N := leB hb) (T := 8 * hb.length) (pos := 0) (M := 0) (by rw [hH.val]; simp) (by omega)
  rw [hfull, List.take_length, Nat.zero_add] at hput
  have hend : endB (leB hb) (8 * hb.length) (prL (allP L Y)) = true := by
    unfold endB
    rw [decide_eq_true_eq]
    refine ⟨by omega, ?_⟩
    rw [hH.val]
    exact Nat.div_eq_of_lt hH.lt
  have hhb : hb.length ≤ 4096 := by omega
  have hout : out.length ≤ 4096 := by omega
  have g1 := grp_ten (v := hb.length) (by omega)
  have g2 := grp_ten (v := out.length) (by omega)
  have g1' := grp_pos hb.length
  refine ⟨grp hb.length ++ hb ++ (grp out.length ++ out), fun t => run47 t l C Y hb out L _ _ _ al hhb hout hH.isB hO.isB e68 e69 e70 e71 e72 e73, ?_, by simp; omega, by simp; omega, fun r hr => ?_⟩
  · exact isB_ap (isB_ap (grp_isB _) hH.isB) (isB_ap (grp_isB _) hO.isB)
  · have hx : grp hb.length ++ hb ++ (grp out.length ++ out) ++ r = grp hb.length ++ hb ++ (grp out.length ++ out ++ r) := by simp
    unfold shS
    rw [hx, txt_put hb _ hhb]
    dsimp only
    rw [txt_put out r hout]
    dsimp only
    rw [hput]
    dsimp only [Int.toNat_natCast]
    rw [if_pos hend, hd]
    rfl
section
variable (t : Nat) (x : Int) (l : List Int) (s : List Int) (hl : l.length ≤ 399) (hB : isB (x :: l)) (hB2 : isB (2 :: s)) (hs : s.length ≤ 9000)
  (e47 : ∀ t, F47 [.one (.ro t (.ints .u8 (x :: l)))] [] = some (.tup [.one (.str (ofBytes (2 :: s))), .one (.bool true)], []))
include hl hB hB2 hs e47
theorem run20a (h1 : ¬ mxL l x = mnL l x) : F20 [.one (.ro t (.ints .u8 (x :: l)))] [] = some (.one (.str (ofBytes (if s.length < l.length + 1 then 2 :: s else 0 :: x :: l))), []) := by
  have e44 := f44 0 (by omega)
  have e45 := fun t => f45 t x l (by omega)
  have e46 := fun t => f46 t x l (by omega)
  have e19 := f19 (ofBytes (x :: l)) [0] (by rw [size_ofBytes]; simp; omega)
  rw [s2bB _ hB] at e19
  have e14 := f14 ([0] ++ x :: l)
  have s1 := size_ofBytes (0 :: x :: l)
  have s2 := size_ofBytes (2 :: s)
  simp only [List.length_cons] at s1 s2
  have c0 : ((0 : Nat) : Int) = 0 := rfl
  rw [c0] at e44
  have hp : (0 : Int) < (l.length : Int) + 1 := by omega
  simp only [wHp, List.cons_append, List.nil_append] at e44 e19 e14
  by_cases h : s.length < l.length + 1
  · rw [if_pos h]
    have hi : (s.length : Int) < (l.length : Int) + 1 := by omega
    have hi2 : (s.length : Int) + 1 < (l.length : Int) + 1 + 1 := by omega
    simp -implicitDefEqProofs [F20, c20, upd, e44, e45, e46, e19, e14, e47, s1, s2, h1, hp, RC.len, hi2, hi, h]
  · rw [if_neg h]
    have hi : ¬ (s.length : Int) < (l.length : Int) + 1 := by omega
    have hi2 : ¬ (s.length : Int) + 1 < (l.length : Int) + 1 + 1 := by omega
    simp -implicitDefEqProofs [F20, c20, upd, e44, e45, e46, e19, e14, e47, s1, s2, h1, hp, RC.len, hi2, hi, h]
theorem run20b (h1 : mxL l x = mnL l x) (hs1 : 1 ≤ s.length) : F20 [.one (.ro t (.ints .u8 (x :: l)))] [] = some (.one (.str (ofBytes (if 0 < l.length then [1, x] else 0 :: x :: l))), []) := by
  have e44 := f44 0 (by omega)
  have e44b := f44 1 (by omega)
  have e45 := fun t => f45 t x l (by omega)
  have e46 := fun t => f46 t x l (by omega)
  have e19 := f19 (ofBytes (x :: l)) [0] (by rw [size_ofBytes]; simp; omega)
  rw [s2bB _ hB] at e19
  have hBx := isB_one (hB x (by simp))
  have e19b := f19 (ofBytes [x]) [1] (by rw [size_ofBytes]; simp)
  rw [s2bB _ hBx] at e19b
  have e14 := f14 ([0] ++ x :: l)
  have e14b := f14 ([1] ++ [x])
  have s1 := size_ofBytes (0 :: x :: l)
  have s2 := size_ofBytes (2 :: s)
  have s3 := size_ofBytes [1, x]
  simp only [List.length_cons, List.length_nil] at s1 s2 s3
  have c0 : ((0 : Nat) : Int) = 0 := rfl
  have c1 : ((1 : Nat) : Int) = 1 := rfl
  rw [c0] at e44
  rw [c1] at e44b
  have hp : (0 : Int) < (l.length : Int) + 1 := by omega
  have hp1 : (1 : Int) ≤ (l.length : Int) + 1 := by omega
  have hp2 : 1 ≤ l.length + 1 := by omega
  simp only [wHp, List.cons_append, List.nil_append] at e44 e44b e19 e19b e14 e14b
  have hi2 : ¬ (s.length : Int) + 1 < 2 := by omega
  have hi4 : ¬ (s.length : Int) < 1 := by omega
  by_cases h : 0 < l.length
  · rw [if_pos h]
    have hi : (2 : Int) < (l.length : Int) + 1 + 1 := by omega
    have hi3 : (1 : Int) < (l.length : Int) + 1 := by omega
    simp -implicitDefEqProofs [F20, c20, upd, e44, e44b, e45, e46, e19, e19b, e14, e14b, e47, s1, s2, s3, h1, hp, hp1, hp2, RC.len, RC.size, hi2, hi, hi3, hi4, h]
  · rw [if_neg h]
    obtain rfl : l = [] := List.eq_nil_of_length_eq_zero (by omega)
    have hi : ¬ (2 : Int) < 0 + 1 + 1 := by omega
    simp only [List.length_nil] at s1
    simp -implicitDefEqProofs [F20, c20, upd, e44, e44b, e45, e46, e19, e19b, e14, e14b, e47, s1, s2, s3, h1, RC.len, RC.size, hi2, hi, hi4]
end
structure OkSt (s l : List Int) : Prop where
  byt : isB s
  pos : 1 ≤ s.length
  len : s.length ≤ l.length + 1
  read : ∀ r, isB r → unS (s ++ r) l.length = some (l, r)
theorem lt28_big {l : List Int} (h : lt28 l) : big l = false := by
  unfold big
  rw [List.any_eq_false]
  intro x hx
  have := (h x hx).2
  simp; omega
theorem okst_raw {l : List Int} (hB : isB l) (h : lt28 l) : OkSt (0 :: l) l := ⟨fun x hx => by
    rcases List.mem_cons.1 hx with rfl | hx
    · omega
    · exact hB x hx, by simp, by simp, fun r _ => by
    unfold unS
    simp only [List.cons_append, unR, if_true]
    rw [if_neg (by simp), List.take_left' rfl, List.drop_left' rfl]
    dsimp only
    rw [if_neg (by rw [lt28_big h]; simp)]⟩
theorem okst_run {l : List Int} {x : Int} (hB : isB (x :: l)) (h : lt28 (x :: l)) (h0 : 0 < l.length) (e : x :: l = List.replicate (l.length + 1) x) : OkSt [1, x] (x :: l) := ⟨fun y hy => by
    rcases List.mem_cons.1 hy with rfl | hy
    · omega
    · exact hB y (by simp at hy; simp [hy]), by simp, by simp, fun r _ => by
    unfold unS
    have hx := (h x (by simp)).2
    simp only [List.cons_append, List.nil_append, unR]
    rw [if_neg (by omega), if_pos trivial, if_pos hx]
    dsimp only
    rw [big_rep x _ hx, if_neg (by simp), List.length_cons, ← e]⟩
theorem okst_tab {l s : List Int} (hB : isB s) (h : lt28 l) (hs : s.length ≤ l.length) (hr : ∀ r, isB r → shS (s ++ r) l.length = some (l, r)) : OkSt (2 :: s) l := ⟨fun y hy => by
    rcases List.mem_cons.1 hy with rfl | hy
    · omega
    · exact hB y hy, by simp, by simp; omega, fun r hBr => by
    unfold unS
    simp only [List.cons_append, unR]
    rw [if_neg (by omega), if_neg (by omega), if_pos trivial, hr r hBr]
    dsimp only
    rw [if_neg (by rw [lt28_big h]; simp)]⟩
theorem f20 (l : List Int) (h0 : 0 < l.length) (hl : l.length ≤ 400) (h : lt28 l) : ∃ s, (∀ t, F20 [.one (.ro t (.ints .u8 l))] [] = some (.one (.str (ofBytes s)), [])) ∧ OkSt s l ∧ (l.length = 1 → s = 0 :: l) := by
  have hB : isB l := fun x hx => by have := h x hx; omega
  obtain ⟨s, e47, hBs, hs1, hs2, hsr⟩ := f47 l h0 hl hB
  cases l with
  | nil => simp at h0
  | cons x l =>
    simp only [List.length_cons] at hl
    have hB2 : isB (2 :: s) := fun y hy => by
      rcases List.mem_cons.1 hy with rfl | hy
      · omega
      · exact hBs y hy
    by_cases h1 : mxL l x = mnL l x
    · have e := fun t => run20b t x l s (by simp at hl ⊢; omega) hB hB2 hs2 e47 h1 hs1
      by_cases hp : 0 < l.length
      · rw [if_pos hp] at e
        exact ⟨_, e, okst_run hB h hp (alike_of h1), fun hh => by simp only [List.length_cons] at hh; omega⟩
      · rw [if_neg hp] at e
        exact ⟨_, e, okst_raw hB h, fun _ => rfl⟩
    · have e := fun t => run20a t x l s (by omega) hB hB2 hs2 e47 h1
      by_cases hp : s.length < l.length + 1
      · rw [if_pos hp] at e
        refine ⟨_, e, okst_tab hBs h (by simp; omega) hsr, fun hh => ?_⟩
        simp only [List.length_cons] at hh
        omega
      · rw [if_neg hp] at e
        exact ⟨_, e, okst_raw hB h, fun _ => rfl⟩
theorem f16a (r : Int × Int × Int) (x m m' o : Int) (hm : IntKind.i64.wrap (m - 3) = m') (h : 1 ≤ o ∧ o ≤ 65533) : F16 [.agg [.int .i64 x, .int .i64 m, .int .i64 o], RR r] [] = some (.tup [.agg [.int .i64 x, .int .i64 m', .int .i64 (num r.1 r.2.1 r.2.2 o)], RR (be r o), .one (.bool true)], []) := by
  have e41 := f41 r.1 r.2.1 r.2.2 o h
  rw [beh_be] at e41
  generalize num r.1 r.2.1 r.2.2 o = n at *
  generalize be r o = r' at *
  simp -implicitDefEqProofs [F16, c16, upd, e41, hm]
theorem f16b (r : Int × Int × Int) (x m m' o : Int) (hm : IntKind.i64.wrap (m - 3) = m') (h : ¬ (1 ≤ o ∧ o ≤ 65533)) : F16 [.agg [.int .i64 x, .int .i64 m, .int .i64 o], RR r] [] = some (.tup [.agg [.int .i64 x, .int .i64 m', .int .i64 0], RR r, .one (.bool false)], []) := by
  have e41 := f41n r.1 r.2.1 r.2.2 o h
  simp -implicitDefEqProofs [F16, c16, upd, e41, hm]
def cod (v : Nat) : Nat := if v < 16 then v else 11 + bl v
def ext (v : Nat) : Nat × Nat := if v < 16 then (0, 0) else (v - 2 ^ (bl v - 1), bl v - 1)
theorem ext_ok {v : Nat} (h : v ≤ 65535) : cod v < 28 ∧ (ext v).2 ≤ 15 ∧ (ext v).1 < 2 ^ (ext v).2 ∧ (ext v).1 < 65536 := by
  unfold cod ext
  by_cases h16 : v < 16
  · simp only [if_pos h16]; omega
  · simp only [if_neg h16]
    obtain ⟨q1, q2, q3⟩ := bl_pos (n := v) (by omega)
    have hb : bl v ≤ 16 := bl_le (by omega)
    obtain ⟨k, hk⟩ : ∃ k, bl v = k + 1 := ⟨bl v - 1, by omega⟩
    rw [hk] at q2 q3 hb ⊢
    simp only [Nat.add_sub_cancel] at q3 ⊢
    rw [Nat.pow_succ] at q2
    omega
theorem f17 (v : Nat) (h : v ≤ 65535) : F17 [.one (.int .i64 v)] [] = some (.tup [.one (.int .u8 (cod v)), .one (.int .i64 (ext v).1), .one (.int .i64 (ext v).2), .one (.bool true)], []) := by
  unfold cod ext
  by_cases h16 : v < 16
  · simp only [if_pos h16]
    exact e17b v (by omega) (by omega)
  · simp only [if_neg h16]
    have e := e17c v (by omega) (by omega)
    obtain ⟨q1, q2, q3⟩ := bl_pos (n := v) (by omega)
    rw [Int.toNat_natCast] at e
    have e1 : (v : Int) - ((2 ^ (bl v - 1) : Nat) : Int) = ((v - 2 ^ (bl v - 1) : Nat) : Int) := by
      generalize 2 ^ (bl v - 1) = P at *
      omega
    have e2 : ((bl v : Nat) : Int) - 1 = ((bl v - 1 : Nat) : Int) := by omega
    have e3 : (11 : Int) + ((bl v : Nat) : Int) = ((11 + bl v : Nat) : Int) := by omega
    rw [e1, e2, e3] at e
    exact e
structure C6 where
  t : Nat
  cs : List (List Sc)
  gr : List Int
def can6 (z : C6) (A B C bs : List Int) (c : Nat) (r : Int × Int × Int) (i : Nat) : St :=
  ⟨[(4, .one (.ptr 0 0)), (5, .one (.ptr 2 0)), (6, .one (.ptr 6 0)), (7, .one (.ptr 8 0)), (33, .one (.ro z.t (.recs 3 z.cs))), (34, .one (.int .i64 z.cs.length)), (35, .one (.int .i64 i))], [.ro z.t (.recs 3 z.cs)],
   [.cells none [.row 1], .rows none (.ints .u8 z.gr), .cells none [.row 3, .row 4, .row 5], .rows none (.ints .u8 A), .rows none (.ints .u8 B), .rows none (.ints .u8 C), .cells none [.row 7, .int .i64 c], .rows none (.ints .u8 bs), .cells none [.int .i64 r.1, .int .i64 r.2.1, .int .i64 r.2.2]]⟩
def can6i (z : C6) (A B C bs : List Int) (c : Nat) (r r' : Int × Int × Int) (i : Nat) (v : Int × Int × Int) (k : Int) : St :=
  ⟨[(4, .one (.ptr 0 0)), (5, .one (.ptr 2 0)), (6, .one (.ptr 6 0)), (7, .one (.ptr 8 0)), (11, .one (.ptr 9 0)), (33, .one (.ro z.t (.recs 3 z.cs))), (34, .one (.int .i64 z.cs.length)), (35, .one (.int .i64 i)), (48, .agg [.int .i64 v.1, .int .i64 v.2.1, .int .i64 v.2.2]), (49, .one (.int .i64 k))], [.ro z.t (.recs 3 z.cs)],
   [.cells none [.row 1], .rows none (.ints .u8 z.gr), .cells none [.row 3, .row 4, .row 5], .rows none (.ints .u8 A), .rows none (.ints .u8 B), .rows none (.ints .u8 C), .cells none [.row 7, .int .i64 c], .rows none (.ints .u8 bs), .cells none [.int .i64 r.1, .int .i64 r.2.1, .int .i64 r.2.2], .cells none [.int .i64 r'.1, .int .i64 r'.2.1, .int .i64 r'.2.2]]⟩
def bad6 : Res := some (.tup [.one (.str (ofBytes [])), .one (.bool false)], [])
section
variable {z : C6} {A B C bs bs' : List Int} {c c' : Nat} {r r' : Int × Int × Int} {i : Nat} {v : Int × Int × Int} {x : Int} {cd e nb u : Int}
variable (e17 : F17 [.one (.int .i64 x)] [] = some (.tup [.one (.int .u8 cd), .one (.int .i64 e), .one (.int .i64 nb), .one (.bool true)], [])) (hu : IntKind.u32.wrap e = u)
  (e18 : F18 [.one (.ptr 0 0), .one (.int .u32 u), .one (.int .i64 nb)] (bufHp (some 0) bs c) = some (.one (.bool true), bufHp (some 0) bs' c'))
include e17 hu e18
theorem b6n0 (hx : v.1 = x) (hA : A.length ≤ 1000) : ∃ st1, evC T6 KK b6x0 (can6i z A B C bs c r r' i v 0) = some (.norm, st1) ∧ St.head [4, 5, 6, 7, 11, 33, 34, 35, 48, 49] st1 = can6i z (A ++ [cd]) B C bs' c' r r' i v 1 := by
  have w : IntKind.i64.wrap 1 = 1 := by decide
  have hm : A.length + 1 ≤ 140737488355328 := by omega
  obtain ⟨v0, v1, v2⟩ := v
  dsimp only at hx
  subst hx
  simp only [bufHp] at e18
  simp -implicitDefEqProofs [b6x0, can6i, upd, e17, e18, hu, w, hm, RC.len, RC.size, RC.app, RC.ofElems]
theorem b6n1 (hx : v.2.1 = x) (hA : B.length ≤ 1000) : ∃ st1, evC T6 KK b6x0 (can6i z A B C bs c r r' i v 1) = some (.norm, st1) ∧ St.head [4, 5, 6, 7, 11, 33, 34, 35, 48, 49] st1 = can6i z A (B ++ [cd]) C bs' c' r r' i v 2 := by
  have w : IntKind.i64.wrap 2 = 2 := by decide
  have hm : B.length + 1 ≤ 140737488355328 := by omega
  obtain ⟨v0, v1, v2⟩ := v
  dsimp only at hx
  subst hx
  simp only [bufHp] at e18
  simp -implicitDefEqProofs [b6x0, can6i, upd, e17, e18, hu, w, hm, RC.len, RC.size, RC.app, RC.ofElems]
theorem b6n2 (hx : v.2.2 = x) (hA : C.length ≤ 1000) : ∃ st1, evC T6 KK b6x0 (can6i z A B C bs c r r' i v 2) = some (.norm, st1) ∧ St.head [4, 5, 6, 7, 11, 33, 34, 35, 48, 49] st1 = can6i z A B (C ++ [cd]) bs' c' r r' i v 3 := by
  have w : IntKind.i64.wrap 3 = 3 := by decide
  have hm : C.length + 1 ≤ 140737488355328 := by omega
  obtain ⟨v0, v1, v2⟩ := v
  dsimp only at hx
  subst hx
  simp only [bufHp] at e18
  simp -implicitDefEqProofs [b6x0, can6i, upd, e17, e18, hu, w, hm, RC.len, RC.size, RC.app, RC.ofElems]
end
theorem b6r0 {z : C6} {A B C bs : List Int} {c : Nat} {r r' : Int × Int × Int} {i : Nat} {v : Int × Int × Int} (h : v.1 < 0 ∨ 65535 < v.1) :
    ∃ st1, evC T6 KK b6x0 (can6i z A B C bs c r r' i v 0) = some (.ret, st1) ∧ resC [(2, none), (3, none)] (some (.ret, st1)) = bad6 := by
  have e17 := e17a _ h
  obtain ⟨v0, v1, v2⟩ := v
  dsimp only at e17
  refine ⟨?w1, ?a1, ?b1⟩
  case a1 =>
    simp -implicitDefEqProofs [b6x0, can6i, upd, e17]
    rfl
  case b1 => simp -implicitDefEqProofs [bad6]; rfl
theorem b6r1 {z : C6} {A B C bs : List Int} {c : Nat} {r r' : Int × Int × Int} {i : Nat} {v : Int × Int × Int} (h : v.2.1 < 0 ∨ 65535 < v.2.1) :
    ∃ st1, evC T6 KK b6x0 (can6i z A B C bs c r r' i v 1) = some (.ret, st1) ∧ resC [(2, none), (3, none)] (some (.ret, st1)) = bad6 := by
  have e17 := e17a _ h
  obtain ⟨v0, v1, v2⟩ := v
  dsimp only at e17
  refine ⟨?w1, ?a1, ?b1⟩
  case a1 =>
    simp -implicitDefEqProofs [b6x0, can6i, upd, e17]
    rfl
  case b1 => simp -implicitDefEqProofs [bad6]; rfl
theorem b6r2 {z : C6} {A B C bs : List Int} {c : Nat} {r r' : Int × Int × Int} {i : Nat} {v : Int × Int × Int} (h : v.2.2 < 0 ∨ 65535 < v.2.2) :
    ∃ st1, evC T6 KK b6x0 (can6i z A B C bs c r r' i v 2) = some (.ret, st1) ∧ resC [(2, none), (3, none)] (some (.ret, st1)) = bad6 := by
  have e17 := e17a _ h
  obtain ⟨v0, v1, v2⟩ := v
  dsimp only at e17
  refine ⟨?w1, ?a1, ?b1⟩
  case a1 =>
    simp -implicitDefEqProofs [b6x0, can6i, upd, e17]
    rfl
  case b1 => simp -implicitDefEqProofs [bad6]; rfl
theorem b6e {z : C6} {A B C bs : List Int} {c : Nat} {r r' : Int × Int × Int} {i : Nat} {v : Int × Int × Int} : ∃ env, evC T6 KK b6x0 (can6i z A B C bs c r r' i v 3) = some (.exit 2, ⟨env, [.ro z.t (.recs 3 z.cs)], (can6i z A B C bs c r r' i v 3).hp⟩) ∧
   (getT 4 env = .one (.ptr 0 0) ∧ getT 5 env = .one (.ptr 2 0) ∧ getT 6 env = .one (.ptr 6 0) ∧ getT 7 env = .one (.ptr 8 0) ∧ getT 11 env = .one (.ptr 9 0) ∧ getT 33 env = .one (.ro z.t (.recs 3 z.cs)) ∧ getT 34 env = .one (.int .i64 z.cs.length) ∧ getT 35 env = .one (.int .i64 i)) := by
  refine ⟨?w2, ?a2, ?b2⟩
  case a2 =>
    simp -implicitDefEqProofs [b6x0, can6i, upd]
    rfl
  case b2 => simp
theorem prL_snoc (p : Nat × Nat) : ∀ P, prL (P ++ [p]) = prL P + p.2
  | [] => by simp [prL]
  | q :: P => by simp only [List.cons_append, prL, prL_snoc p P]; omega
theorem prN_snoc (p : Nat × Nat) : ∀ P, prN (P ++ [p]) = prN P + p.1 % 2 ^ p.2 * 2 ^ prL P
  | [] => by simp [prN, prL]
  | q :: P => by
    simp only [List.cons_append, prN, prL, prN_snoc p P]
    rw [Nat.mul_add, Nat.pow_add, Nat.add_assoc]
    congr 2
    rw [Nat.mul_left_comm]
theorem put18 (x : Nat) (hx : x ≤ 65535) {bs : List Int} {P : List (Nat × Nat)} (hH : Holds bs (prL P) (prN P)) (hP : prL P ≤ 600000) : ∃ bs', F18 [.one (.ptr 0 0), .one (.int .u32 (ext x).1), .one (.int .i64 (ext x).2)] (bufHp (some 0) bs (prL P)) = some (.one (.bool true), bufHp (some 0) bs' (prL (P ++ [ext x]))) ∧ Holds bs' (prL (P ++ [ext x])) (prN (P ++ [ext x])) := by
  obtain ⟨_, h15, hlt, h16⟩ := ext_ok hx
  obtain ⟨bs', e, h⟩ := f18 (ext x).1 (ext x).2 (prL P) (prN P) bs hH (by omega) (by omega) (by omega)
  refine ⟨bs', ?_, ?_⟩
  · rw [prL_snoc]; exact e
  · rw [prL_snoc, prN_snoc]; exact h
theorem wu32 (x : Nat) (hx : x ≤ 65535) : IntKind.u32.wrap ((ext x).1 : Int) = (ext x).1 := by
  obtain ⟨_, h15, hlt, h16⟩ := ext_ok hx
  exact u32_in _ (by omega)
theorem in6 {z : C6} {A B C bs : List Int} {P : List (Nat × Nat)} {r r' : Int × Int × Int} {i x y n : Nat} (hx : x ≤ 65535) (hy : y ≤ 65535) (hn : n ≤ 65535) (hA : A.length ≤ 1000) (hB : B.length ≤ 1000) (hC : C.length ≤ 1000) (hH : Holds bs (prL P) (prN P)) (hP : prL P ≤ 500000) :
    ∃ bs', Holds bs' (prL (P ++ [ext x] ++ [ext y] ++ [ext n])) (prN (P ++ [ext x] ++ [ext y] ++ [ext n])) ∧ ∃ env, loopH (evC T6 KK b6x0) [4, 5, 6, 7, 11, 33, 34, 35, 48, 49] KK (can6i z A B C bs (prL P) r r' i (x, y, n) 0) = some (.exit 2, ⟨env, [.ro z.t (.recs 3 z.cs)], (can6i z (A ++ [(cod x : Int)]) (B ++ [(cod y : Int)]) (C ++ [(cod n : Int)]) bs' (prL (P ++ [ext x] ++ [ext y] ++ [ext n])) r r' i (x, y, n) 3).hp⟩) ∧
   (getT 4 env = .one (.ptr 0 0) ∧ getT 5 env = .one (.ptr 2 0) ∧ getT 6 env = .one (.ptr 6 0) ∧ getT 7 env = .one (.ptr 8 0) ∧ getT 11 env = .one (.ptr 9 0) ∧ getT 33 env = .one (.ro z.t (.recs 3 z.cs)) ∧ getT 34 env = .one (.int .i64 z.cs.length) ∧ getT 35 env = .one (.int .i64 i)) := by
  have hK := KK_eq
  have bx := (ext_ok hx).2.1
  have by' := (ext_ok hy).2.1
  obtain ⟨bs1, p1, h1⟩ := put18 x hx hH (by omega)
  obtain ⟨bs2, p2, h2⟩ := put18 y hy h1 (by rw [prL_snoc]; omega)
  obtain ⟨bs3, p3, h3⟩ := put18 n hn h2 (by rw [prL_snoc, prL_snoc]; omega)
  obtain ⟨s0, e0, f0⟩ := b6n0 (z := z) (B := B) (C := C) (r := r) (r' := r') (i := i) (v := (x, y, n)) (f17 x hx) (wu32 x hx) p1 rfl hA
  obtain ⟨s1, e1, f1⟩ := b6n1 (z := z) (A := A ++ [(cod x : Int)]) (C := C) (r := r) (r' := r') (i := i) (v := (x, y, n)) (f17 y hy) (wu32 y hy) p2 rfl hB
  obtain ⟨s2, e2, f2⟩ := b6n2 (z := z) (A := A ++ [(cod x : Int)]) (B := B ++ [(cod y : Int)]) (r := r) (r' := r') (i := i) (v := (x, y, n)) (f17 n hn) (wu32 n hn) p3 rfl hC
  obtain ⟨env, e3, g⟩ := b6e (z := z) (A := A ++ [(cod x : Int)]) (B := B ++ [(cod y : Int)]) (C := C ++ [(cod n : Int)]) (bs := bs3) (c := prL (P ++ [ext x] ++ [ext y] ++ [ext n])) (r := r) (r' := r') (i := i) (v := (x, y, n))
  refine ⟨bs3, h3, env, ?_, g⟩
  rw [loopH_norm e0 (by omega), f0, loopH_norm e1 (by omega), f1, loopH_norm e2 (by omega), f2]
  exact loopH_exit e3
theorem in6r {z : C6} {A B C bs : List Int} {P : List (Nat × Nat)} {r r' : Int × Int × Int} {i : Nat} {v : Int × Int × Int} (hv : ¬ ((0 ≤ v.1 ∧ v.1 ≤ 65535) ∧ (0 ≤ v.2.1 ∧ v.2.1 ≤ 65535) ∧ (0 ≤ v.2.2 ∧ v.2.2 ≤ 65535))) (hA : A.length ≤ 1000) (hB : B.length ≤ 1000) (hH : Holds bs (prL P) (prN P)) (hP : prL P ≤ 500000) :
    ∃ st1, loopH (evC T6 KK b6x0) [4, 5, 6, 7, 11, 33, 34, 35, 48, 49] KK (can6i z A B C bs (prL P) r r' i v 0) = some (.ret, st1) ∧ resC [(2, none), (3, none)] (some (.ret, st1)) = bad6 := by
  have hK := KK_eq
  by_cases h0 : 0 ≤ v.1 ∧ v.1 ≤ 65535
  · obtain ⟨x, hxe⟩ := Int.eq_ofNat_of_zero_le h0.1
    have hx : x ≤ 65535 := by omega
    have bx := (ext_ok hx).2.1
    obtain ⟨bs1, p1, h1⟩ := put18 x hx hH (by omega)
    obtain ⟨s0, e0, f0⟩ := b6n0 (z := z) (B := B) (C := C) (r := r) (r' := r') (i := i) (v := v) (f17 x hx) (wu32 x hx) p1 hxe hA
    rw [loopH_norm e0 (by omega), f0]
    by_cases h1' : 0 ≤ v.2.1 ∧ v.2.1 ≤ 65535
    · obtain ⟨y, hye⟩ := Int.eq_ofNat_of_zero_le h1'.1
      have hy : y ≤ 65535 := by omega
      obtain ⟨bs2, p2, h2⟩ := put18 y hy h1 (by rw [prL_snoc]; omega)
      obtain ⟨s1, e1, f1⟩ := b6n1 (z := z) (A := A ++ [(cod x : Int)]) (C := C) (r := r) (r' := r') (i := i) (v := v) (f17 y hy) (wu32 y hy) p2 hye hB
      rw [loopH_norm e1 (by omega), f1]
      obtain ⟨st1, p, q⟩ := b6r2 (z := z) (A := A ++ [(cod x : Int)]) (B := B ++ [(cod y : Int)]) (C := C) (bs := bs2) (c := prL (P ++ [ext x] ++ [ext y])) (r := r) (r' := r') (i := i) (v := v) (by omega)
      exact ⟨st1, loopH_ret p, q⟩
    · obtain ⟨st1, p, q⟩ := b6r1 (z := z) (A := A ++ [(cod x : Int)]) (B := B) (C := C) (bs := bs1) (c := prL (P ++ [ext x])) (r := r) (r' := r') (i := i) (v := v) (by omega)
      exact ⟨st1, loopH_ret p, q⟩
  · obtain ⟨st1, p, q⟩ := b6r0 (z := z) (A := A) (B := B) (C := C) (bs := bs) (c := prL P) (r := r) (r' := r') (i := i) (v := v) (by omega)
    exact ⟨st1, loopH_ret p, q⟩
def okS (x m o : Int) : Prop := (0 ≤ x ∧ x ≤ 65535) ∧ (3 ≤ m ∧ m ≤ 65538) ∧ (1 ≤ o ∧ o ≤ 65533)
theorem num_lt (r : Int × Int × Int) {o : Int} (h : 1 ≤ o ∧ o ≤ 65533) : 0 ≤ num r.1 r.2.1 r.2.2 o ∧ num r.1 r.2.1 r.2.2 o ≤ 65535 := by
  unfold num
  split
  · omega
  · split
    · omega
    · split <;> omega
theorem wrap3 {m : Int} (h : -9223372036854775808 ≤ m ∧ m ≤ 9223372036854775807) (h3 : ¬ (3 ≤ m ∧ m ≤ 65538)) : ¬ (0 ≤ IntKind.i64.wrap (m - 3) ∧ IntKind.i64.wrap (m - 3) ≤ 65535) := by
  rw [IntKind.wrap_i64]; omega
def rec3 (s : Int × Int × Int) : List Sc := [.int .i64 s.1, .int .i64 s.2.1, .int .i64 s.2.2]
section
variable {z : C6} {A B C bs : List Int} {P : List (Nat × Nat)} {r : Int × Int × Int} {i : Nat} {x m o : Int}
variable (hc : z.cs[i]? = some (rec3 (x, m, o))) (hn : z.cs.length ≤ 1000) (hm : -9223372036854775808 ≤ m ∧ m ≤ 9223372036854775807) (hA : A.length ≤ 1000) (hB : B.length ≤ 1000) (hC : C.length ≤ 1000) (hH : Holds bs (prL P) (prN P)) (hP : prL P ≤ 500000)
include hc hn hm hA hB hC hH hP
theorem b61n {u v n : Nat} (hx : x = u) (hmv : m = v + 3) (hu : u ≤ 65535) (hv : v ≤ 65535) (ho : 1 ≤ o ∧ o ≤ 65533) (hnum : num r.1 r.2.1 r.2.2 o = n) :
    ∃ bs' st1, Holds bs' (prL (P ++ [ext u] ++ [ext v] ++ [ext n])) (prN (P ++ [ext u] ++ [ext v] ++ [ext n])) ∧ evC T6 KK b6x1 (can6 z A B C bs (prL P) r i) = some (.norm, st1) ∧ St.head [4, 5, 6, 7, 33, 34, 35] st1 = can6 z (A ++ [(cod u : Int)]) (B ++ [(cod v : Int)]) (C ++ [(cod n : Int)]) bs' (prL (P ++ [ext u] ++ [ext v] ++ [ext n])) (be r o) (i + 1) := by
  have hnn := num_lt r ho
  obtain ⟨bs', h', env, el, g4, g5, g6, g7, g11, g33, g34, g35⟩ := in6 (z := z) (r := r) (r' := be r o) (i := i) hu hv (n := n) (by omega) hA hB hC hH hP
  have l2 := (List.getElem?_eq_some_iff.1 hc).1
  have l2i : (i : Int) < z.cs.length := by omega
  have wm : IntKind.i64.wrap (m - 3) = v := by rw [i64_in _ (by omega)]; omega
  have e16 := f16a r x m v o wm ho
  rw [hnum] at e16
  have wi : IntKind.i64.wrap ((i : Int) + 1) = i + 1 := i64_in _ (by omega)
  suffices key : ∃ st1, evC T6 KK b6x1 (can6 z A B C bs (prL P) r i) = some (.norm, st1) ∧ St.head [4, 5, 6, 7, 33, 34, 35] st1 = can6 z (A ++ [(cod u : Int)]) (B ++ [(cod v : Int)]) (C ++ [(cod n : Int)]) bs' (prL (P ++ [ext u] ++ [ext v] ++ [ext n])) (be r o) (i + 1) by
    obtain ⟨st1, k1, k2⟩ := key
    exact ⟨bs', st1, h', k1, k2⟩
  clear h'
  generalize prL (P ++ [ext u] ++ [ext v] ++ [ext n]) = c' at *
  generalize prL P = c at *
  generalize be r o = r' at *
  obtain ⟨t, cs, gr⟩ := z
  dsimp only at *
  have hc' : ∀ hh, cs[i]'hh = [Sc.int .i64 x, Sc.int .i64 m, Sc.int .i64 o] := fun hh => by rw [List.getElem?_eq_getElem hh] at hc; simpa [rec3] using hc
  subst hx
  simp only [can6i, Int.natCast_zero] at el
  simp -implicitDefEqProofs [b6x1, can6, upd, l2, l2i, hc', e16, el, g4, g5, g6, g7, g11, g33, g34, g35, wi, RC.len, RC.size, RC.get, RC.elem]
theorem b61r (hbad : ¬ okS x m o) : ∃ st1, evC T6 KK b6x1 (can6 z A B C bs (prL P) r i) = some (.ret, st1) ∧ resC [(2, none), (3, none)] (some (.ret, st1)) = bad6 := by
  have l2 := (List.getElem?_eq_some_iff.1 hc).1
  have l2i : (i : Int) < z.cs.length := by omega
  by_cases ho : 1 ≤ o ∧ o ≤ 65533
  · have hnn := num_lt r ho
    have e16 := f16a r x m _ o rfl ho
    generalize num r.1 r.2.1 r.2.2 o = n at *
    have hv : ¬ ((0 ≤ x ∧ x ≤ 65535) ∧ (0 ≤ IntKind.i64.wrap (m - 3) ∧ IntKind.i64.wrap (m - 3) ≤ 65535) ∧ (0 ≤ n ∧ n ≤ 65535)) := by
      rintro ⟨h1, h2, h3⟩
      by_cases h4 : 3 ≤ m ∧ m ≤ 65538
      · exact hbad ⟨h1, h4, ho⟩
      · exact wrap3 hm h4 h2
    obtain ⟨st1, el, er⟩ := in6r (z := z) (C := C) (r := r) (r' := be r o) (i := i) (v := (x, IntKind.i64.wrap (m - 3), n)) hv hA hB hH hP
    generalize IntKind.i64.wrap (m - 3) = m' at *
    generalize be r o = r' at *
    refine ⟨st1, ?_, er⟩
    obtain ⟨t, cs, gr⟩ := z
    dsimp only at *
    have hc' : ∀ hh, cs[i]'hh = [Sc.int .i64 x, Sc.int .i64 m, Sc.int .i64 o] := fun hh => by rw [List.getElem?_eq_getElem hh] at hc; simpa [rec3] using hc
    simp only [can6i, Int.natCast_zero] at el
    simp -implicitDefEqProofs [b6x1, can6, upd, l2, l2i, hc', e16, el, RC.len, RC.size, RC.get, RC.elem]
  · have e16 := f16b r x m _ o rfl ho
    generalize IntKind.i64.wrap (m - 3) = m' at *
    obtain ⟨t, cs, gr⟩ := z
    dsimp only at *
    have hc' : ∀ hh, cs[i]'hh = [Sc.int .i64 x, Sc.int .i64 m, Sc.int .i64 o] := fun hh => by rw [List.getElem?_eq_getElem hh] at hc; simpa [rec3] using hc
    refine ⟨?w1, ?a1, ?b1⟩
    case a1 =>
      simp -implicitDefEqProofs [b6x1, can6, upd, l2, l2i, hc', e16, RC.len, RC.size, RC.get, RC.elem]
      rfl
    case b1 => simp -implicitDefEqProofs [bad6]; rfl
end
theorem b6x {z : C6} {A B C bs : List Int} {c : Nat} {r : Int × Int × Int} : ∃ env, evC T6 KK b6x1 (can6 z A B C bs c r z.cs.length) = some (.exit 0, ⟨env, [.ro z.t (.recs 3 z.cs)], (can6 z A B C bs c r z.cs.length).hp⟩) ∧
   (getT 4 env = .one (.ptr 0 0) ∧ getT 5 env = .one (.ptr 2 0) ∧ getT 6 env = .one (.ptr 6 0)) := by
  refine ⟨?w2, ?a2, ?b2⟩
  case a2 =>
    simp -implicitDefEqProofs [b6x1, can6, upd]
    rfl
  case b2 => simp
def encS : List Stp → (Int × Int × Int) → List Int × List Int × List Int × List (Nat × Nat)
  | [], _ => ([], [], [], [])
  | s :: l, r => ((cod s.1 : Int) :: (encS l (be r s.2.2)).1, (cod s.2.1 : Int) :: (encS l (be r s.2.2)).2.1, (cod (num r.1 r.2.1 r.2.2 s.2.2).toNat : Int) :: (encS l (be r s.2.2)).2.2.1, ext s.1 :: ext s.2.1 :: ext (num r.1 r.2.1 r.2.2 s.2.2).toNat :: (encS l (be r s.2.2)).2.2.2)
def toS (s : Int × Int × Int) : Stp := (s.1.toNat, (s.2.1 - 3).toNat, s.2.2)
def okT (s : Int × Int × Int) : Prop := okS s.1 s.2.1 s.2.2
def inT (s : Int × Int × Int) : Prop := -9223372036854775808 ≤ s.2.1 ∧ s.2.1 ≤ 9223372036854775807
theorem drop_map_cons {cs : List (List Sc)} {i : Nat} {s : Int × Int × Int} {l : List (Int × Int × Int)} (h : cs.drop i = (s :: l).map rec3) : cs[i]? = some (rec3 s) ∧ cs.drop (i + 1) = l.map rec3 := by
  constructor
  · have := congrArg (·[0]?) h
    simpa using this
  · have := congrArg List.tail h
    simpa using this
theorem loop6 {z : C6} (hn : z.cs.length ≤ 1000) : ∀ (l : List (Int × Int × Int)) (i : Nat) (A B C bs : List Int) (P : List (Nat × Nat)) (r : Int × Int × Int) (K : Nat), (∀ s ∈ l, inT s) → (∀ s ∈ l, okT s) → z.cs.drop i = l.map rec3 → i ≤ z.cs.length → A.length = i → B.length = i → C.length = i → prL P ≤ 45 * i → Holds bs (prL P) (prN P) → l.length + 1 < K →
    ∃ bs' r' env, Holds bs' (prL (P ++ (encS (l.map toS) r).2.2.2)) (prN (P ++ (encS (l.map toS) r).2.2.2)) ∧ prL (P ++ (encS (l.map toS) r).2.2.2) ≤ 45 * z.cs.length ∧
      loopH (evC T6 KK b6x1) [4, 5, 6, 7, 33, 34, 35] K (can6 z A B C bs (prL P) r i) = some (.exit 0, ⟨env, [.ro z.t (.recs 3 z.cs)], (can6 z (A ++ (encS (l.map toS) r).1) (B ++ (encS (l.map toS) r).2.1) (C ++ (encS (l.map toS) r).2.2.1) bs' (prL (P ++ (encS (l.map toS) r).2.2.2)) r' z.cs.length).hp⟩) ∧ (getT 4 env = .one (.ptr 0 0) ∧ getT 5 env = .one (.ptr 2 0) ∧ getT 6 env = .one (.ptr 6 0))
  | [], i, A, B, C, bs, P, r, K, _, _, hd, hi, hA, hB, hC, hP, hH, hK => by
    have : i = z.cs.length := by
      have := congrArg List.length hd
      simp at this; omega
    subst this
    obtain ⟨env, e, g⟩ := b6x (z := z) (A := A) (B := B) (C := C) (bs := bs) (c := prL P) (r := r)
    refine ⟨bs, r, env, ?_, ?_, ?_, g⟩
    · simpa only [List.map_nil, encS, List.append_nil] using hH
    · simpa only [List.map_nil, encS, List.append_nil] using hP
    · simp only [List.map_nil, encS, List.append_nil]
      exact loopH_exit e
  | s :: l, i, A, B, C, bs, P, r, K, hin, hok, hd, hi, hA, hB, hC, hP, hH, hK => by
    obtain ⟨hc, hd'⟩ := drop_map_cons hd
    have hil := (List.getElem?_eq_some_iff.1 hc).1
    obtain ⟨x, m, o⟩ := s
    obtain ⟨h1, h2, h3⟩ := hok _ (List.mem_cons_self)
    have hm := hin _ (List.mem_cons_self)
    dsimp only at h1 h2 h3
    unfold inT at hm
    dsimp only at hm
    have hnn := num_lt r h3
    have b1 := (ext_ok (v := x.toNat) (by omega)).2.1
    have b2 := (ext_ok (v := (m - 3).toNat) (by omega)).2.1
    have b3 := (ext_ok (v := (num r.1 r.2.1 r.2.2 o).toNat) (by omega)).2.1
    obtain ⟨bs1, st1, H1, e1, f1⟩ := b61n (A := A) (B := B) (C := C) (r := r) hc hn hm (by omega) (by omega) (by omega) hH (by omega) (u := x.toNat) (v := (m - 3).toNat) (n := (num r.1 r.2.1 r.2.2 o).toNat) (by omega) (by omega) (by omega) (by omega) h3 (by omega)
    simp only [List.length_cons] at hK
    obtain ⟨bs', r', env, H, hL, e, g⟩ := loop6 hn l (i + 1) (A ++ [(cod x.toNat : Int)]) (B ++ [(cod (m - 3).toNat : Int)]) (C ++ [(cod (num r.1 r.2.1 r.2.2 o).toNat : Int)]) bs1 _ (be r o) (K - 1) (fun s hs => hin s (List.mem_cons_of_mem _ hs)) (fun s hs => hok s (List.mem_cons_of_mem _ hs)) hd' (by omega) (by simp [hA]) (by simp [hB]) (by simp [hC]) (by simp only [prL_snoc]; omega) H1 (by omega)
    have hP' : P ++ [ext x.toNat] ++ [ext (m - 3).toNat] ++ [ext (num r.1 r.2.1 r.2.2 o).toNat] ++ (encS (l.map toS) (be r o)).2.2.2 = P ++ (encS (((x, m, o) :: l).map toS) r).2.2.2 := by
      simp [encS, toS]
    rw [hP'] at H hL e
    refine ⟨bs', r', env, H, hL, ?_, g⟩
    rw [loopH_norm e1 (by omega), f1, e]
    simp only [List.append_assoc, List.singleton_append, List.map_cons, encS, toS]
theorem loop6r {z : C6} (hn : z.cs.length ≤ 1000) : ∀ (l : List (Int × Int × Int)) (i : Nat) (A B C bs : List Int) (P : List (Nat × Nat)) (r : Int × Int × Int) (K : Nat), (∀ s ∈ l, inT s) → ¬ (∀ s ∈ l, okT s) → z.cs.drop i = l.map rec3 → i ≤ z.cs.length → A.length = i → B.length = i → C.length = i → prL P ≤ 45 * i → Holds bs (prL P) (prN P) → l.length + 1 < K →
    ∃ st1, loopH (evC T6 KK b6x1) [4, 5, 6, 7, 33, 34, 35] K (can6 z A B C bs (prL P) r i) = some (.ret, st1) ∧ resC [(2, none), (3, none)] (some (.ret, st1)) = bad6
  | [], i, A, B, C, bs, P, r, K, _, hok, _, _, _, _, _, _, _, _ => absurd (fun s hs => by cases hs) hok
  | s :: l, i, A, B, C, bs, P, r, K, hin, hok, hd, hi, hA, hB, hC, hP, hH, hK => by
    obtain ⟨hc, hd'⟩ := drop_map_cons hd
    have hil := (List.getElem?_eq_some_iff.1 hc).1
    obtain ⟨x, m, o⟩ := s
    have hm := hin _ (List.mem_cons_self)
    unfold inT at hm
    dsimp only at hm
    by_cases h : okS x m o
    · obtain ⟨h1, h2, h3⟩ := h
      have hnn := num_lt r h3
      have b1 := (ext_ok (v := x.toNat) (by omega)).2.1
      have b2 := (ext_ok (v := (m - 3).toNat) (by omega)).2.1
      have b3 := (ext_ok (v := (num r.1 r.2.1 r.2.2 o).toNat) (by omega)).2.1
      obtain ⟨bs1, st1, H1, e1, f1⟩ := b61n (A := A) (B := B) (C := C) (r := r) hc hn hm (by omega) (by omega) (by omega) hH (by omega) (u := x.toNat) (v := (m - 3).toNat) (n := (num r.1 r.2.1 r.2.2 o).toNat) (by omega) (by omega) (by omega) (by omega) h3 (by omega)
      simp only [List.length_cons] at hK
      have hok' : ¬ (∀ s ∈ l, okT s) := fun hh => hok fun s hs => by
        rcases List.mem_cons.1 hs with rfl | hs
        · exact ⟨h1, h2, h3⟩
        · exact hh s hs
      rw [loopH_norm e1 (by omega), f1]
      exact loop6r hn l (i + 1) (A ++ [(cod x.toNat : Int)]) (B ++ [(cod (m - 3).toNat : Int)]) (C ++ [(cod (num r.1 r.2.1 r.2.2 o).toNat : Int)]) bs1 _ (be r o) (K - 1) (fun s hs => hin s (List.mem_cons_of_mem _ hs)) hok' hd' (by omega) (by simp [hA]) (by simp [hB]) (by simp [hC]) (by simp only [prL_snoc]; omega) H1 (by omega)
    · obtain ⟨st1, p, q⟩ := b61r (A := A) (B := B) (C := C) (r := r) hc hn hm (by omega) (by omega) (by omega) hH (by omega) h
      exact ⟨st1, loopH_ret p, q⟩
def can6s (t : Nat) (cs : List (List Sc)) (gr bs A B C : List Int) (c : Nat) (k : Int) : St :=
  ⟨[(4, .one (.ptr 0 0)), (6, .one (.ptr 2 0)), (77, .agg [.row 4, .row 5, .row 6]), (78, .one (.int .i64 k))], [.ro t (.recs 3 cs)], [.cells none [.row 1], .rows none (.ints .u8 gr), .cells none [.row 3, .int .i64 c], .rows none (.ints .u8 bs), .rows none (.ints .u8 A), .rows none (.ints .u8 B), .rows none (.ints .u8 C)]⟩
theorem strm6 {t : Nat} {cs : List (List Sc)} {gr bs A B C sa sb sc : List Int} {c : Nat} (hg : gr.length ≤ 10000) (la : sa.length ≤ 10000) (lb : sb.length ≤ 10000) (lc : sc.length ≤ 10000) (ba : isB sa) (bb : isB sb) (bc : isB sc)
    (ea : ∀ t, F20 [.one (.ro t (.ints .u8 A))] [] = some (.one (.str (ofBytes sa)), [])) (eb : ∀ t, F20 [.one (.ro t (.ints .u8 B))] [] = some (.one (.str (ofBytes sb)), [])) (ec : ∀ t, F20 [.one (.ro t (.ints .u8 C))] [] = some (.one (.str (ofBytes sc)), [])) :
    ∃ env, loopH (evC T6 KK b6x2) [4, 6, 77, 78] KK (can6s t cs gr bs A B C c 0) = some (.exit 4, ⟨env, [.ro t (.recs 3 cs)], (can6s t cs (gr ++ sa ++ sb ++ sc) bs A B C c 3).hp⟩) ∧ (getT 4 env = .one (.ptr 0 0) ∧ getT 6 env = .one (.ptr 2 0)) := by
  have hK := KK_eq
  have w1 : IntKind.i64.wrap 1 = 1 := by decide
  have w2 : IntKind.i64.wrap 2 = 2 := by decide
  have w3 : IntKind.i64.wrap 3 = 3 := by decide
  have n0 : ∃ st1, evC T6 KK b6x2 (can6s t cs gr bs A B C c 0) = some (.norm, st1) ∧ St.head [4, 6, 77, 78] st1 = can6s t cs (gr ++ sa) bs A B C c 1 := by
    have e19 := f19 (ofBytes sa) gr (by rw [size_ofBytes]; omega)
    rw [s2bB _ ba] at e19
    simp only [wHp] at e19
    simp -implicitDefEqProofs [b6x2, can6s, upd, ea, e19, w1]
  have n1 : ∃ st1, evC T6 KK b6x2 (can6s t cs (gr ++ sa) bs A B C c 1) = some (.norm, st1) ∧ St.head [4, 6, 77, 78] st1 = can6s t cs (gr ++ sa ++ sb) bs A B C c 2 := by
    have e19 := f19 (ofBytes sb) (gr ++ sa) (by rw [size_ofBytes]; simp; omega)
    rw [s2bB _ bb] at e19
    simp only [wHp] at e19
    generalize gr ++ sa ++ sb = g2 at *
    generalize gr ++ sa = g1 at *
    simp -implicitDefEqProofs [b6x2, can6s, upd, eb, e19, w2]
  have n2 : ∃ st1, evC T6 KK b6x2 (can6s t cs (gr ++ sa ++ sb) bs A B C c 2) = some (.norm, st1) ∧ St.head [4, 6, 77, 78] st1 = can6s t cs (gr ++ sa ++ sb ++ sc) bs A B C c 3 := by
    have e19 := f19 (ofBytes sc) (gr ++ sa ++ sb) (by rw [size_ofBytes]; simp; omega)
    rw [s2bB _ bc] at e19
    simp only [wHp] at e19
    generalize gr ++ sa ++ sb ++ sc = g2 at *
    generalize gr ++ sa ++ sb = g1 at *
    simp -implicitDefEqProofs [b6x2, can6s, upd, ec, e19, w3]
  obtain ⟨env, e, g⟩ : ∃ env, evC T6 KK b6x2 (can6s t cs (gr ++ sa ++ sb ++ sc) bs A B C c 3) = some (.exit 4, ⟨env, [.ro t (.recs 3 cs)], (can6s t cs (gr ++ sa ++ sb ++ sc) bs A B C c 3).hp⟩) ∧ (getT 4 env = .one (.ptr 0 0) ∧ getT 6 env = .one (.ptr 2 0)) := by
    refine ⟨?w2, ?a2, ?b2⟩
    case a2 =>
      simp -implicitDefEqProofs [b6x2, can6s, upd]
      rfl
    case b2 => simp
  obtain ⟨s0, p0, q0⟩ := n0
  obtain ⟨s1, p1, q1⟩ := n1
  obtain ⟨s2, p2, q2⟩ := n2
  refine ⟨env, ?_, g⟩
  rw [loopH_norm p0 (by omega), q0, loopH_norm p1 (by omega), q1, loopH_norm p2 (by omega), q2]
  exact loopH_exit e
theorem encS_len : ∀ (l : List Stp) (r : Int × Int × Int), (encS l r).1.length = l.length ∧ (encS l r).2.1.length = l.length ∧ (encS l r).2.2.1.length = l.length
  | [], r => by simp [encS]
  | s :: l, r => by
    obtain ⟨h1, h2, h3⟩ := encS_len l (be r s.2.2)
    simp [encS, h1, h2, h3]
def okU (s : Stp) : Prop := s.1 ≤ 65535 ∧ s.2.1 ≤ 65535 ∧ 1 ≤ s.2.2 ∧ s.2.2 ≤ 65533
theorem lt28_cons {c : Nat} {l : List Int} (hc : c < 28) (h : lt28 l) : lt28 ((c : Int) :: l) := fun x hx => by
  rcases List.mem_cons.1 hx with rfl | hx
  · omega
  · exact h x hx
theorem encS_28 : ∀ (l : List Stp) (r : Int × Int × Int), (∀ s ∈ l, okU s) → lt28 (encS l r).1 ∧ lt28 (encS l r).2.1 ∧ lt28 (encS l r).2.2.1
  | [], r, _ => by simp [encS, lt28]
  | s :: l, r, h => by
    obtain ⟨h1, h2, h3⟩ := encS_28 l (be r s.2.2) fun s hs => h s (List.mem_cons_of_mem _ hs)
    obtain ⟨q1, q2, q3⟩ := h s List.mem_cons_self
    have hn := num_lt r q3
    exact ⟨lt28_cons (ext_ok q1).1 h1, lt28_cons (ext_ok q2).1 h2, lt28_cons (ext_ok (by omega)).1 h3⟩
theorem okU_toS {s : Int × Int × Int} (h : okT s) : okU (toS s) := by
  obtain ⟨h1, h2, h3⟩ := h
  unfold okU toS
  dsimp only
  omega
theorem rec_toS {s : Int × Int × Int} (h : okT s) : recOf (toS s) = rec3 s := by
  obtain ⟨h1, h2, h3⟩ := h
  obtain ⟨x, m, o⟩ := s
  dsimp only at h1 h2 h3
  unfold recOf toS rec3
  dsimp only
  have e1 : ((x.toNat : Nat) : Int) = x := by omega
  have e2 : (((m - 3).toNat + 3 : Nat) : Int) = m := by omega
  rw [e1, e2]
theorem run6a (t : Nat) : F6 [.one (.ro t (.recs 3 []))] [] = some (.tup [.one (.str (ofBytes (grp 0))), .one (.bool true)], []) := by
  have e13 := f13 0 [] (by decide) (by simp)
  have e14 := f14 (grp 0)
  have c0 : ((0 : Nat) : Int) = 0 := rfl
  have w0 : IntKind.u64.wrap 0 = 0 := by decide
  rw [c0] at e13
  simp only [wHp, List.nil_append] at e13 e14
  simp -implicitDefEqProofs [F6, c6, upd, RC.len, w0, e13, e14]
section
variable (t : Nat) (cs : List (List Sc)) (h4 : cs.length ≤ 1000) (h0 : ¬ cs.length = 0)
include h4 h0
theorem run6b {st1 : St} (el : loopH (evC T6 KK b6x1) [4, 5, 6, 7, 33, 34, 35] KK (can6 ⟨t, cs, grp cs.length⟩ [] [] [] [] 0 (1, 2, 4) 0) = some (.ret, st1)) (er : resC [(2, none), (3, none)] (some (.ret, st1)) = bad6) : F6 [.one (.ro t (.recs 3 cs))] [] = bad6 := by
  have h : ¬ (1000 : Int) < cs.length := by omega
  have hn : ¬ 1000 < cs.length := by omega
  have h0i : ¬ (cs.length : Int) = 0 := by omega
  have w : IntKind.u64.wrap (cs.length : Int) = cs.length := u64_in _ (by omega)
  have e13 := f13 cs.length [] (by omega) (by simp)
  have e15 := f15r
  rw [← er]
  simp only [can6, Int.natCast_zero] at el
  simp only [wHp, List.nil_append] at e13
  generalize grp cs.length = gr at *
  simp -implicitDefEqProofs [F6, c6, upd, RC.len, h, hn, h0, h0i, w, e13, e15, el]
theorem run6c {A B C bs sa sb sc : List Int} {c : Nat} {r : Int × Int × Int} {env env2 : Env} (hbs : bs.length ≤ 10000) (hBb : isB bs) (hl : (grp cs.length ++ sa ++ sb ++ sc).length ≤ 80000)
    (el : loopH (evC T6 KK b6x1) [4, 5, 6, 7, 33, 34, 35] KK (can6 ⟨t, cs, grp cs.length⟩ [] [] [] [] 0 (1, 2, 4) 0) = some (.exit 0, ⟨env, [.ro t (.recs 3 cs)], (can6 ⟨t, cs, grp cs.length⟩ A B C bs c r cs.length).hp⟩)) (g4 : getT 4 env = .one (.ptr 0 0)) (g5 : getT 5 env = .one (.ptr 2 0)) (g6 : getT 6 env = .one (.ptr 6 0))
    (el2 : loopH (evC T6 KK b6x2) [4, 6, 77, 78] KK (can6s t cs (grp cs.length) bs A B C c 0) = some (.exit 4, ⟨env2, [.ro t (.recs 3 cs)], (can6s t cs (grp cs.length ++ sa ++ sb ++ sc) bs A B C c 3).hp⟩)) (q4 : getT 4 env2 = .one (.ptr 0 0)) (q6 : getT 6 env2 = .one (.ptr 2 0)) :
    F6 [.one (.ro t (.recs 3 cs))] [] = some (.tup [.one (.str (ofBytes (grp cs.length ++ sa ++ sb ++ sc ++ grp bs.length ++ bs))), .one (.bool true)], []) := by
  have h : ¬ (1000 : Int) < cs.length := by omega
  have hn : ¬ 1000 < cs.length := by omega
  have h0i : ¬ (cs.length : Int) = 0 := by omega
  have w : IntKind.u64.wrap (cs.length : Int) = cs.length := u64_in _ (by omega)
  have e13 := f13 cs.length [] (by omega) (by simp)
  have e15 := f15r
  have e22 := f22 bs c (by omega)
  have s1 := size_ofBytes bs
  have e21 := f21 (ofBytes bs) (grp cs.length ++ sa ++ sb ++ sc) hl (by omega)
  rw [s1, s2bB bs hBb] at e21
  have e14 := f14 (grp cs.length ++ sa ++ sb ++ sc ++ grp bs.length ++ bs)
  simp only [can6, Int.natCast_zero] at el
  simp only [can6s] at el2
  simp only [wHp, bufHp, List.nil_append, List.cons_append] at e13 e21 e14 e22
  generalize grp cs.length ++ sa ++ sb ++ sc ++ grp bs.length ++ bs = z2 at *
  generalize grp cs.length ++ sa ++ sb ++ sc = z1 at *
  generalize grp cs.length = gr at *
  simp -implicitDefEqProofs [F6, c6, upd, RC.len, h, hn, h0, h0i, w, e13, e15, el, g4, g5, g6, el2, q4, q6, e22, e21, e14]
end
structure Sect (l : List (Int × Int × Int)) (s sa sb sc m : List Int) : Prop where
  eq : s = grp l.length ++ sa ++ sb ++ sc ++ grp m.length ++ m
  a : OkSt sa (encS (l.map toS) (1, 2, 4)).1
  b : OkSt sb (encS (l.map toS) (1, 2, 4)).2.1
  c : OkSt sc (encS (l.map toS) (1, 2, 4)).2.2.1
  bits : Holds m (prL (encS (l.map toS) (1, 2, 4)).2.2.2) (prN (encS (l.map toS) (1, 2, 4)).2.2.2)
  few : prL (encS (l.map toS) (1, 2, 4)).2.2.2 ≤ 45 * l.length
theorem f6 (t : Nat) (l : List (Int × Int × Int)) (hl : l.length ≤ 400) (hin : ∀ s ∈ l, inT s) :
    (l = [] ∧ F6 [.one (.ro t (.recs 3 (l.map rec3)))] [] = some (.tup [.one (.str (ofBytes (grp 0))), .one (.bool true)], [])) ∨
    (l ≠ [] ∧ (∀ s ∈ l, okT s) ∧ ∃ s sa sb sc m, Sect l s sa sb sc m ∧ F6 [.one (.ro t (.recs 3 (l.map rec3)))] [] = some (.tup [.one (.str (ofBytes s)), .one (.bool true)], []) ∧ (l.length = 1 → sa = 0 :: (encS (l.map toS) (1, 2, 4)).1 ∧ sb = 0 :: (encS (l.map toS) (1, 2, 4)).2.1 ∧ sc = 0 :: (encS (l.map toS) (1, 2, 4)).2.2.1)) ∨
    (¬ (∀ s ∈ l, okT s) ∧ F6 [.one (.ro t (.recs 3 (l.map rec3)))] [] = bad6) := by
  have hK := KK_eq
  by_cases hne : l = []
  · subst hne
    exact .inl ⟨rfl, run6a t⟩
  have hl0 : ¬ (l.map rec3).length = 0 := by
    rw [List.length_map]
    intro h; exact hne (List.eq_nil_of_length_eq_zero h)
  have hcl : (l.map rec3).length = l.length := List.length_map ..
  have H0 : Holds [] (prL []) (prN []) := holds0
  by_cases hok : ∀ s ∈ l, okT s
  · refine .inr (.inl ⟨hne, hok, ?_⟩)
    obtain ⟨bs, r', env, hH, hP, el, g4, g5, g6⟩ := loop6 (z := ⟨t, l.map rec3, grp (l.map rec3).length⟩) (by show (l.map rec3).length ≤ 1000; omega) l 0 [] [] [] [] [] (1, 2, 4) KK hin hok rfl (Nat.zero_le _) rfl rfl rfl (by simp [prL]) H0 (by omega)
    simp only [List.nil_append] at hH hP el
    have hU : ∀ s ∈ l.map toS, okU s := fun s hs => by
      obtain ⟨s', hs', rfl⟩ := List.mem_map.1 hs
      exact okU_toS (hok s' hs')
    obtain ⟨L1, L2, L3⟩ := encS_len (l.map toS) (1, 2, 4)
    obtain ⟨T1, T2, T3⟩ := encS_28 (l.map toS) (1, 2, 4) hU
    rw [List.length_map] at L1 L2 L3
    obtain ⟨sa, ea, oa, xa⟩ := f20 _ (by omega) (by omega) T1
    obtain ⟨sb, eb, ob, xb⟩ := f20 _ (by omega) (by omega) T2
    obtain ⟨sc, ec, oc, xc⟩ := f20 _ (by omega) (by omega) T3
    have la := oa.len
    have lb := ob.len
    have lc := oc.len
    have hbl := hH.len
    have hg := grp_ten (v := (l.map rec3).length) (by omega)
    obtain ⟨env2, el2, q4, q6⟩ := strm6 (t := t) (cs := l.map rec3) (gr := grp (l.map rec3).length) (bs := bs) (c := prL (encS (l.map toS) (1, 2, 4)).2.2.2) (by omega) (by omega) (by omega) (by omega) oa.byt ob.byt oc.byt ea eb ec
    have hP' : prL (encS (l.map toS) (1, 2, 4)).2.2.2 ≤ 45 * l.length := by rw [← hcl]; exact hP
    have e := run6c t (l.map rec3) (by omega) hl0 (by omega) hH.isB (by simp; simp at hg; omega) el g4 g5 g6 el2 q4 q6
    rw [hcl] at e
    exact ⟨_, sa, sb, sc, bs, ⟨rfl, oa, ob, oc, hH, hP'⟩, e, fun h1 => ⟨xa (by omega), xb (by omega), xc (by omega)⟩⟩
  · refine .inr (.inr ⟨hok, ?_⟩)
    obtain ⟨st1, el, er⟩ := loop6r (z := ⟨t, l.map rec3, grp (l.map rec3).length⟩) (by show (l.map rec3).length ≤ 1000; omega) l 0 [] [] [] [] [] (1, 2, 4) KK hin hok rfl (Nat.zero_le _) rfl rfl rfl (by simp [prL]) H0 (by omega)
    exact run6b t (l.map rec3) (by omega) hl0 el er
theorem valB_ext {v N T pos : Nat} {P : List (Nat × Nat)} (hv : v ≤ 65535) (hN : N / 2 ^ pos = prN (ext v :: P)) (hT : pos + (ext v).2 ≤ T) : valB (cod v) N T pos = some (v, pos + (ext v).2) ∧ N / 2 ^ (pos + (ext v).2) = prN P := by
  have hdiv : N / 2 ^ (pos + (ext v).2) = prN P := by
    rw [Nat.pow_add, ← Nat.div_div_eq_div_mul, hN]
    simp only [prN]
    rw [Nat.add_mul_div_left _ _ (Nat.two_pow_pos _), Nat.div_eq_of_lt (Nat.mod_lt _ (Nat.two_pow_pos _)), Nat.zero_add]
  refine ⟨?_, hdiv⟩
  have hlt := (ext_ok hv).2.2.1
  unfold valB
  unfold cod ext at *
  by_cases h16 : v < 16
  · simp only [if_pos h16, Nat.add_zero]
  · simp only [if_neg h16] at hN hT hlt ⊢
    obtain ⟨q1, q2, q3⟩ := bl_pos (n := v) (by omega)
    have h5 : 5 ≤ bl v := by
      by_cases h : 5 ≤ bl v
      · exact h
      · exfalso
        have : 2 ^ bl v ≤ 2 ^ 4 := Nat.pow_le_pow_right (by omega) (by omega)
        have h24 : (2 : Nat) ^ 4 = 16 := rfl
        omega
    have e12 : 11 + bl v - 12 = bl v - 1 := by omega
    rw [if_neg (by omega), e12, if_neg (by omega), hN]
    simp only [prN]
    rw [Nat.add_mul_mod_self_left, Nat.mod_mod, Nat.mod_eq_of_lt hlt]
    congr 2
    omega
theorem offN_num (r : Int × Int × Int) {o : Int} (ho : 1 ≤ o ∧ o ≤ 65533) : offN r (num r.1 r.2.1 r.2.2 o) = o := by
  have hoff : offOf r.1 r.2.1 r.2.2 (num r.1 r.2.1 r.2.2 o) = o := by
    unfold num
    split
    · simp [offOf]; omega
    · split
      · simp [offOf]; omega
      · split
        · simp [offOf]; omega
        · unfold offOf
          rw [if_neg (by omega), if_neg (by omega), if_neg (by omega)]; omega
  unfold offN
  rw [hoff, if_pos ⟨ho, rfl⟩]
theorem steps_enc : ∀ (l : List Stp) (r : Int × Int × Int) (pa pb pc : List Int) (i N T pos : Nat), (∀ s ∈ l, okU s) → pa.length = i → pb.length = i → pc.length = i → N / 2 ^ pos = prN (encS l r).2.2.2 → pos + prL (encS l r).2.2.2 ≤ T →
    stepsB (pa ++ (encS l r).1) (pb ++ (encS l r).2.1) (pc ++ (encS l r).2.2.1) N T l.length i pos r = some (l, pos + prL (encS l r).2.2.2)
  | [], r, pa, pb, pc, i, N, T, pos, _, _, _, _, _, _ => by simp [stepsB, encS, prL]
  | (x, y, o) :: l, r, pa, pb, pc, i, N, T, pos, hok, h1, h2, h3, hN, hT => by
    obtain ⟨q1, q2, q3⟩ := hok _ List.mem_cons_self
    dsimp only at q1 q2 q3
    have hn := num_lt r q3
    simp only [encS] at hN hT ⊢
    have hnN : (((num r.1 r.2.1 r.2.2 o).toNat : Nat) : Int) = num r.1 r.2.1 r.2.2 o := by omega
    have hoff := offN_num r q3
    rw [← hnN] at hoff
    have hn' : (num r.1 r.2.1 r.2.2 o).toNat ≤ 65535 := by omega
    generalize (num r.1 r.2.1 r.2.2 o).toNat = n at *
    simp only [prL] at hT
    obtain ⟨v0, n0⟩ := valB_ext q1 hN (T := T) (by omega)
    obtain ⟨v1, n1⟩ := valB_ext q2 n0 (T := T) (by omega)
    obtain ⟨v2, n2⟩ := valB_ext hn' n1 (T := T) (by omega)
    have ga : ∀ (p : List Int) (c : Nat) (t : List Int), p.length = i → ((p ++ (c : Int) :: t).getD i 0).toNat = c := fun p c t hp => by
      subst hp; simp [List.getD]
    simp only [List.length_cons, stepsB, ga pa _ _ h1, ga pb _ _ h2, ga pc _ _ h3]
    have hst : stepB (cod x) (cod y) (cod n) N T pos r = some ((x, y, o), be r o, pos + (ext x).2 + (ext y).2 + (ext n).2) := by
      unfold stepB
      rw [v0]; dsimp only
      rw [v1]; dsimp only
      rw [v2]; dsimp only
      rw [hoff, if_neg (by omega)]
    rw [hst]
    dsimp only
    have ih := steps_enc l (be r o) (pa ++ [(cod x : Int)]) (pb ++ [(cod y : Int)]) (pc ++ [(cod n : Int)]) (i + 1) N T (pos + (ext x).2 + (ext y).2 + (ext n).2) (fun s hs => hok s (List.mem_cons_of_mem _ hs)) (by simp [h1]) (by simp [h2]) (by simp [h3]) n2 (by omega)
    simp only [List.append_assoc, List.singleton_append] at ih
    rw [ih]
    dsimp only [prL]
    congr 2
    omega
theorem dec_sect {l : List (Int × Int × Int)} {s sa sb sc m r : List Int} (h : Sect l s sa sb sc m) (hok : ∀ s ∈ l, okT s) (hne : l ≠ []) (hl : l.length ≤ 400) (hB : isB r) : secN (s ++ r) l.length = some (l.map toS, r) := by
  have hU : ∀ s ∈ l.map toS, okU s := fun s hs => by
    obtain ⟨s', hs', rfl⟩ := List.mem_map.1 hs
    exact okU_toS (hok s' hs')
  obtain ⟨L1, L2, L3⟩ := encS_len (l.map toS) (1, 2, 4)
  rw [List.length_map] at L1 L2 L3
  have hl0 : l.length ≠ 0 := fun h => hne (List.eq_nil_of_length_eq_zero h)
  have hbl := h.bits.len
  have hfew := h.few
  have hm : m.length ≤ 4096 := by omega
  have hBm : isB (grp m.length ++ m ++ r) := isB_ap (isB_ap (grp_isB _) h.bits.isB) hB
  have hBc := isB_ap h.c.byt hBm
  have hBb := isB_ap h.b.byt hBc
  have e : s ++ r = grp l.length ++ (sa ++ (sb ++ (sc ++ (grp m.length ++ m ++ r)))) := by rw [h.eq]; simp
  have ra := h.a.read _ hBb
  have rb := h.b.read _ hBc
  have rc := h.c.read _ hBm
  rw [L1] at ra
  rw [L2] at rb
  rw [L3] at rc
  have h64 : l.length * 2 ^ (7 * 0) < 2 ^ 64 := by
    have : (2 : Nat) ^ 64 = 18446744073709551616 := rfl
    simp; omega
  unfold secN
  rw [e, gdec_grp _ l.length 0 0 (by omega) h64 (.inl rfl)]
  simp only [Nat.mul_zero, Nat.pow_zero, Nat.mul_one, Nat.zero_add]
  rw [if_neg (by omega), if_neg hl0]
  unfold secS
  rw [ra]; dsimp only
  rw [rb]; dsimp only
  rw [rc]; dsimp only
  rw [txt_put m r hm]; dsimp only
  have hst := steps_enc (l.map toS) (1, 2, 4) [] [] [] 0 (leB m) (8 * m.length) 0 hU rfl rfl rfl (by rw [h.bits.val]; simp) (by omega)
  simp only [List.nil_append, List.length_map, Nat.zero_add] at hst
  rw [hst]; dsimp only
  have hend : endB (leB m) (8 * m.length) (prL (encS (l.map toS) (1, 2, 4)).2.2.2) = true := by
    unfold endB
    rw [decide_eq_true_eq]
    refine ⟨by omega, ?_⟩
    rw [h.bits.val]
    exact Nat.div_eq_of_lt h.bits.lt
  rw [if_pos hend]
theorem e6one (t : Nat) : F6 [.one (.ro t (.recs 3 [[.int .i64 2, .int .i64 3, .int .i64 1]]))] [] = some (.tup [.one (.str (ofBytes [1, 0, 2, 0, 0, 0, 0, 0])), .one (.bool true)], []) := by
  have hr : [[Sc.int .i64 2, Sc.int .i64 3, Sc.int .i64 1]] = [((2 : Int), (3 : Int), (1 : Int))].map rec3 := rfl
  have hok : ∀ s ∈ [((2 : Int), (3 : Int), (1 : Int))], okT s := by
    intro s hs
    simp at hs; subst hs
    simp [okT, okS]
  rw [hr]
  rcases f6 t [(2, 3, 1)] (by simp) (by intro s hs; simp at hs; subst hs; simp [inT]) with ⟨h, _⟩ | ⟨_, _, s, sa, sb, sc, m, hS, e, h1⟩ | ⟨h, _⟩
  · cases h
  · obtain ⟨e1, e2, e3⟩ := h1 rfl
    rw [e]
    have hbl := hS.bits.len
    have hP : (encS ([((2 : Int), (3 : Int), (1 : Int))].map toS) (1, 2, 4)) = ([2], [0], [0], [(0, 0), (0, 0), (0, 0)]) := by decide
    rw [hP] at e1 e2 e3 hbl
    have hm : m = [] := List.eq_nil_of_length_eq_zero (by simpa [prL] using hbl)
    have hs : s = [1, 0, 2, 0, 0, 0, 0, 0] := by
      have g1 : grp 1 = [1] := by rw [grp]; rfl
      have g0 : grp 0 = [0] := by rw [grp]; rfl
      rw [hS.eq, e1, e2, e3, hm]
      show grp 1 ++ _ ++ _ ++ _ ++ grp 0 ++ [] = _
      rw [g1, g0]
      rfl
    rw [hs]
  · exact absurd hok h
theorem isBone : isB [1, 0, 2, 0, 0, 0, 0, 0] := by
  intro b hb
  simp at hb
  omega
theorem e10one : F10 [.one (.ptr 0 0), .one (.int .i64 1)] (rHp (some 0) [1, 0, 2, 0, 0, 0, 0, 0] false) = some (.tup [.one (.row 1), .one (.bool true)], rHp (some 0) [] false ++ [.rows none (.recs 3 [[.int .i64 2, .int .i64 3, .int .i64 1]])]) := by
  have e := f10 [1, 0, 2, 0, 0, 0, 0, 0] 1 isBone (by simp) (by omega)
  have hd : secN [1, 0, 2, 0, 0, 0, 0, 0] 1 = some ([(2, 0, 1)], []) := by decide
  rw [hd] at e
  exact e
theorem f5 : F5 [] [] = some (.one (.bool true), []) := by
  have e6 := e6one
  have e10 := e10one
  have e9 := f9 (ofBytes [1, 0, 2, 0, 0, 0, 0, 0])
  have hB := isBone
  rw [s2bB _ hB] at e9
  have hs : ofBytes [1, 0, 2, 0, 0, 0, 0, 0] = ⟨#[1, 0, 2, 0, 0, 0, 0, 0]⟩ := by decide
  simp only [rHp, List.cons_append, List.nil_append] at e9 e10
  rw [hs] at e6 e9 e10
  simp -implicitDefEqProofs [F5, c5, upd, e6, e9, e10, RC.len, RC.size, RC.get, RC.elem, RC.ofElems]
def canon11 (t t2 : Nat) (a b : List (Int × Int × Int)) (i : Nat) : St := ⟨[(0, .one (.ro t (.recs 3 (a.map rec3)))), (1, .one (.ro t2 (.recs 3 (b.map rec3)))), (12, .one (.int .i64 a.length)), (13, .one (.int .i64 i))], [.ro t (.recs 3 (a.map rec3)), .ro t2 (.recs 3 (b.map rec3))], []⟩
theorem b11n (t t2 : Nat) (a b : List (Int × Int × Int)) (i : Nat) (hl : a.length ≤ 1000) (hab : a.length = b.length) (hi : i < a.length) (h : a[i]? = b[i]?) : ∃ st1, evC T11 KK b11x0 (canon11 t t2 a b i) = some (.norm, st1) ∧ St.head [0, 1, 12, 13] st1 = canon11 t t2 a b (i + 1) := by
  have hii : (i : Int) < a.length := by omega
  have hib : i < b.length := by omega
  have hiib : (i : Int) < b.length := by omega
  have w : IntKind.i64.wrap ((i : Int) + 1) = i + 1 := i64_in _ (by omega)
  have h' : a[i]'hi = b[i]'hib := by
    rw [List.getElem?_eq_getElem hi, List.getElem?_eq_getElem hib] at h
    simpa using h
  obtain ⟨s, hs⟩ : ∃ s, b[i]'hib = s := ⟨_, rfl⟩
  rw [hs] at h'
  obtain ⟨x, m, o⟩ := s
  simp -implicitDefEqProofs [b11x0, canon11, upd, hii, hi, hib, hiib, w, RC.len, RC.size, RC.get, RC.elem, h', hs, rec3]
theorem b11r (t t2 : Nat) (a b : List (Int × Int × Int)) (i : Nat) (hl : a.length ≤ 1000) (hab : a.length = b.length) (hi : i < a.length) (h : ¬ a[i]? = b[i]?) : ∃ st1, evC T11 KK b11x0 (canon11 t t2 a b i) = some (.ret, st1) ∧ resC [(4, none)] (some (.ret, st1)) = some (.one (.bool false), []) := by
  have hii : (i : Int) < a.length := by omega
  have hib : i < b.length := by omega
  have hiib : (i : Int) < b.length := by omega
  have h' : ¬ a[i]'hi = b[i]'hib := by
    rw [List.getElem?_eq_getElem hi, List.getElem?_eq_getElem hib] at h
    simpa using h
  obtain ⟨s, hs⟩ : ∃ s, b[i]'hib = s := ⟨_, rfl⟩
  obtain ⟨u, hu⟩ : ∃ s, a[i]'hi = s := ⟨_, rfl⟩
  rw [hs, hu] at h'
  obtain ⟨x, m, o⟩ := s
  obtain ⟨x', m', o'⟩ := u
  have h2 : ¬ x' = x ∨ ¬ m' = m ∨ ¬ o' = o := by
    by_cases h1 : x' = x
    · by_cases h2 : m' = m
      · by_cases h3 : o' = o
        · exact absurd (by rw [h1, h2, h3]) h'
        · exact .inr (.inr h3)
      · exact .inr (.inl h2)
    · exact .inl h1
  refine ⟨?w1, ?a1, ?b1⟩
  case a1 =>
    simp -implicitDefEqProofs [b11x0, canon11, upd, hii, hi, hib, hiib, RC.len, RC.size, RC.get, RC.elem, hs, hu, rec3, h2]
    rfl
  case b1 => simp -implicitDefEqProofs []
theorem f11 (t t2 : Nat) (a b : List (Int × Int × Int)) (hl : a.length ≤ 1000) (hl2 : b.length ≤ 1000) : F11 [.one (.ro t (.recs 3 (a.map rec3))), .one (.ro t2 (.recs 3 (b.map rec3)))] [] = some (.one (.bool (decide (a = b))), []) := by
  have hK := KK_eq
  by_cases hab : a.length = b.length
  · have habi : (a.length : Int) = b.length := by omega
    obtain ⟨env, he⟩ : ∃ env, evC T11 KK b11x0 (canon11 t t2 a b a.length) = some (.exit 0, ⟨env, [.ro t (.recs 3 (a.map rec3)), .ro t2 (.recs 3 (b.map rec3))], []⟩) := by
      refine ⟨?w2, ?a2⟩
      case a2 =>
        simp -implicitDefEqProofs [b11x0, canon11, upd]
        rfl
    rcases loopFirst (canon := canon11 t t2 a b) (fun i => decide (¬ a[i]? = b[i]?)) (fun i hi hp => b11n t t2 a b i hl hab hi (by simpa using hp)) (fun i hi hp => b11r t t2 a b i hl hab hi (by simpa using hp)) he (by omega) with ⟨h1, el⟩ | ⟨i, st1, h1, h2, h3, el, er⟩
    · have heq : a = b := List.ext_getElem? fun i => by
        by_cases hi : i < a.length
        · simpa using h1 i hi
        · rw [List.getElem?_eq_none (by omega), List.getElem?_eq_none (by omega)]
      rw [decide_eq_true heq]
      simp only [canon11, Int.natCast_zero, hab] at el
      simp -implicitDefEqProofs [F11, c11, upd, RC.len, hab, habi, el]
    · have hne : ¬ a = b := fun h => by subst h; simp at h2
      rw [decide_eq_false hne, ← er]
      simp only [canon11, Int.natCast_zero, hab] at el
      simp -implicitDefEqProofs [F11, c11, upd, RC.len, hab, habi, el]
  · have habi : ¬ (a.length : Int) = b.length := by omega
    have hne : ¬ a = b := fun h => hab (by rw [h])
    rw [decide_eq_false hne]
    simp -implicitDefEqProofs [F11, c11, upd, RC.len, hab, habi]
def canon7 (t : Nat) (l : List (Int × Int × Int)) (i : Nat) : St := ⟨[(0, .one (.ro t (.recs 3 (l.map rec3)))), (3, .one (.int .i64 i))], [.ro t (.recs 3 (l.map rec3))], []⟩
instance (x m o : Int) : Decidable (okS x m o) := by unfold okS; infer_instance
instance (s : Int × Int × Int) : Decidable (okT s) := by unfold okT; infer_instance
def ok7 (l : List (Int × Int × Int)) (i : Nat) : Bool := match l[i]? with
  | some s => decide (okT s)
  | none => true
theorem b7n (t : Nat) (l : List (Int × Int × Int)) (i : Nat) (hl : l.length ≤ 1000) (hi : i < l.length) (h : ok7 l i = true) : ∃ st1, evC T7 KK b7x0 (canon7 t l i) = some (.norm, st1) ∧ St.head [0, 3] st1 = canon7 t l (i + 1) := by
  have hii : (i : Int) < l.length := by omega
  have w : IntKind.i64.wrap ((i : Int) + 1) = i + 1 := i64_in _ (by omega)
  unfold ok7 at h
  rw [List.getElem?_eq_getElem hi] at h
  obtain ⟨s, hs⟩ : ∃ s, l[i]'hi = s := ⟨_, rfl⟩
  rw [hs] at h
  obtain ⟨x, m, o⟩ := s
  simp only [decide_eq_true_eq] at h
  obtain ⟨⟨h1, h2⟩, ⟨h3, h4⟩, ⟨h5, h6⟩⟩ := h
  dsimp only at h1 h2 h3 h4 h5 h6
  have g1 : ¬ x < 0 := by omega
  have g2 : ¬ 65535 < x := by omega
  have g3 : ¬ m < 3 := by omega
  have g4 : ¬ 65538 < m := by omega
  have g5 : ¬ o < 1 := by omega
  have g6 : ¬ 65533 < o := by omega
  simp -implicitDefEqProofs [b7x0, canon7, upd, hii, hi, w, RC.len, RC.size, RC.get, RC.elem, hs, rec3, g1, g2, g3, g4, g5, g6]
@[simp 2000] theorem skip7_16 (env : Env) (rts : List SV) (hp : List Ob) : evIs T7 [⟨(some 17), (some (16, false)), (.mv (.tmp 0))⟩, ⟨(some 18), (some (16, false)), (.mv (.tmp 3))⟩, ⟨(some 19), (some (16, false)), (.iadrR 3 (.tmp 17) (.tmp 18))⟩, ⟨(some 20), (some (16, false)), (.fadr 0 (.tmp 19))⟩, ⟨(some 21), (some (16, false)), (.load none (.tmp 20))⟩, ⟨(some 22), (some (16, false)), (.bin .gtr (.tmp 21) (.const (.one (.int .i64 65535))))⟩, ⟨(some 23), none, (.pick (.tmp 16) (.const (.one (.bool true))) (.tmp 22))⟩, ⟨(some 24), none, (.mv (.tmp 23))⟩, ⟨(some 25), (some (24, false)), (.mv (.tmp 0))⟩, ⟨(some 26), (some (24, false)), (.mv (.tmp 3))⟩, ⟨(some 27), (some (24, false)), (.iadrR 3 (.tmp 25) (.tmp 26))⟩, ⟨(some 28), (some (24, false)), (.fadr 1 (.tmp 27))⟩, ⟨(some 29), (some (24, false)), (.load none (.tmp 28))⟩, ⟨(some 30), (some (24, false)), (.bin .lss (.tmp 29) (.const (.one (.int .i64 3))))⟩, ⟨(some 31), none, (.pick (.tmp 24) (.const (.one (.bool true))) (.tmp 30))⟩, ⟨(some 32), none, (.mv (.tmp 31))⟩, ⟨(some 33), (some (32, false)), (.mv (.tmp 0))⟩, ⟨(some 34), (some (32, false)), (.mv (.tmp 3))⟩, ⟨(some 35), (some (32, false)), (.iadrR 3 (.tmp 33) (.tmp 34))⟩, ⟨(some 36), (some (32, false)), (.fadr 1 (.tmp 35))⟩, ⟨(some 37), (some (32, false)), (.load none (.tmp 36))⟩, ⟨(some 38), (some (32, false)), (.bin .gtr (.tmp 37) (.const (.one (.int .i64 65538))))⟩, ⟨(some 39), none, (.pick (.tmp 32) (.const (.one (.bool true))) (.tmp 38))⟩, ⟨(some 40), none, (.mv (.tmp 39))⟩, ⟨(some 41), (some (40, false)), (.mv (.tmp 0))⟩, ⟨(some 42), (some (40, false)), (.mv (.tmp 3))⟩, ⟨(some 43), (some (40, false)), (.iadrR 3 (.tmp 41) (.tmp 42))⟩, ⟨(some 44), (some (40, false)), (.fadr 2 (.tmp 43))⟩, ⟨(some 45), (some (40, false)), (.load none (.tmp 44))⟩, ⟨(some 46), (some (40, false)), (.bin .lss (.tmp 45) (.const (.one (.int .i64 1))))⟩, ⟨(some 47), none, (.pick (.tmp 40) (.const (.one (.bool true))) (.tmp 46))⟩, ⟨(some 48), none, (.mv (.tmp 47))⟩, ⟨(some 49), (some (48, false)), (.mv (.tmp 0))⟩, ⟨(some 50), (some (48, false)), (.mv (.tmp 3))⟩, ⟨(some 51), (some (48, false)), (.iadrR 3 (.tmp 49) (.tmp 50))⟩, ⟨(some 52), (some (48, false)), (.fadr 2 (.tmp 51))⟩, ⟨(some 53), (some (48, false)), (.load none (.tmp 52))⟩, ⟨(some 54), (some (48, false)), (.bin .gtr (.tmp 53) (.const (.one (.int .i64 65533))))⟩, ⟨(some 55), none, (.pick (.tmp 48) (.const (.one (.bool true))) (.tmp 54))⟩] ⟨(16, .one (.bool true)) :: env, rts, hp⟩ = evIs T7 [⟨(some 23), none, (.pick (.tmp 16) (.const (.one (.bool true))) (.tmp 22))⟩, ⟨(some 24), none, (.mv (.tmp 23))⟩, ⟨(some 25), (some (24, false)), (.mv (.tmp 0))⟩, ⟨(some 26), (some (24, false)), (.mv (.tmp 3))⟩, ⟨(some 27), (some (24, false)), (.iadrR 3 (.tmp 25) (.tmp 26))⟩, ⟨(some 28), (some (24, false)), (.fadr 1 (.tmp 27))⟩, ⟨(some 29), (some (24, false)), (.load none (.tmp 28))⟩, ⟨(some 30), (some (24, false)), (.bin .lss (.tmp 29) (.const (.one (.int .i64 3))))⟩, ⟨(some 31), none, (.pick (.tmp 24) (.const (.one (.bool true))) (.tmp 30))⟩, ⟨(some 32), none, (.mv (.tmp 31))⟩, ⟨(some 33), (some (32, false)), (.mv (.tmp 0))⟩, ⟨(some 34), (some (32, false)), (.mv (.tmp 3))⟩, ⟨(some 35), (some (32, false)), (.iadrR 3 (.tmp 33) (.tmp 34))⟩, ⟨(some 36), (some (32, false)), (.fadr 1 (.tmp 35))⟩, ⟨(some 37), (some (32, false)), (.load none (.tmp 36))⟩, ⟨(some 38), (some (32, false)), (.bin .gtr (.tmp 37) (.const (.one (.int .i64 65538))))⟩, ⟨(some 39), none, (.pick (.tmp 32) (.const (.one (.bool true))) (.tmp 38))⟩, ⟨(some 40), none, (.mv (.tmp 39))⟩, ⟨(some 41), (some (40, false)), (.mv (.tmp 0))⟩, ⟨(some 42), (some (40, false)), (.mv (.tmp 3))⟩, ⟨(some 43), (some (40, false)), (.iadrR 3 (.tmp 41) (.tmp 42))⟩, ⟨(some 44), (some (40, false)), (.fadr 2 (.tmp 43))⟩, ⟨(some 45), (some (40, false)), (.load none (.tmp 44))⟩, ⟨(some 46), (some (40, false)), (.bin .lss (.tmp 45) (.const (.one (.int .i64 1))))⟩, ⟨(some 47), none, (.pick (.tmp 40) (.const (.one (.bool true))) (.tmp 46))⟩, ⟨(some 48), none, (.mv (.tmp 47))⟩, ⟨(some 49), (some (48, false)), (.mv (.tmp 0))⟩, ⟨(some 50), (some (48, false)), (.mv (.tmp 3))⟩, ⟨(some 51), (some (48, false)), (.iadrR 3 (.tmp 49) (.tmp 50))⟩, ⟨(some 52), (some (48, false)), (.fadr 2 (.tmp 51))⟩, ⟨(some 53), (some (48, false)), (.load none (.tmp 52))⟩, ⟨(some 54), (some (48, false)), (.bin .gtr (.tmp 53) (.const (.one (.int .i64 65533))))⟩, ⟨(some 55), none, (.pick (.tmp 48) (.const (.one (.bool true))) (.tmp 54))⟩] ⟨(22, .tup []) :: (21, .tup []) :: (20, .tup []) :: (19, .tup []) :: (18, .tup []) :: (17, .tup []) :: (16, .one (.bool true)) :: env, rts, hp⟩ := rfl
@[simp 2000] theorem skip7_24 (env : Env) (rts : List SV) (hp : List Ob) : evIs T7 [⟨(some 25), (some (24, false)), (.mv (.tmp 0))⟩, ⟨(some 26), (some (24, false)), (.mv (.tmp 3))⟩, ⟨(some 27), (some (24, false)), (.iadrR 3 (.tmp 25) (.tmp 26))⟩, ⟨(some 28), (some (24, false)), (.fadr 1 (.tmp 27))⟩, ⟨(some 29), (some (24, false)), (.load none (.tmp 28))⟩, ⟨(some 30), (some (24, false)), (.bin .lss (.tmp 29) (.const (.one (.int .i64 3))))⟩, ⟨(some 31), none, (.pick (.tmp 24) (.const (.one (.bool true))) (.tmp 30))⟩, ⟨(some 32), none, (.mv (.tmp 31))⟩, ⟨(some 33), (some (32, false)), (.mv (.tmp 0))⟩, ⟨(some 34), (some (32, false)), (.mv (.tmp 3))⟩, ⟨(some 35), (some (32, false)), (.iadrR 3 (.tmp 33) (.tmp 34))⟩, ⟨(some 36), (some (32, false)), (.fadr 1 (.tmp 35))⟩, ⟨(some 37), (some (32, false)), (.load none (.tmp 36))⟩, ⟨(some 38), (some (32, false)), (.bin .gtr (.tmp 37) (.const (.one (.int .i64 65538))))⟩, ⟨(some 39), none, (.pick (.tmp 32) (.const (.one (.bool true))) (.tmp 38))⟩, ⟨(some 40), none, (.mv (.tmp 39))⟩, ⟨(some 41), (some (40, false)), (.mv (.tmp 0))⟩, ⟨(some 42), (some (40, false)), (.mv (.tmp 3))⟩, ⟨(some 43), (some (40, false)), (.iadrR 3 (.tmp 41) (.tmp 42))⟩, ⟨(some 44), (some (40, false)), (.fadr 2 (.tmp 43))⟩, ⟨(some 45), (some (40, false)), (.load none (.tmp 44))⟩, ⟨(some 46), (some (40, false)), (.bin .lss (.tmp 45) (.const (.one (.int .i64 1))))⟩, ⟨(some 47), none, (.pick (.tmp 40) (.const (.one (.bool true))) (.tmp 46))⟩, ⟨(some 48), none, (.mv (.tmp 47))⟩, ⟨(some 49), (some (48, false)), (.mv (.tmp 0))⟩, ⟨(some 50), (some (48, false)), (.mv (.tmp 3))⟩, ⟨(some 51), (some (48, false)), (.iadrR 3 (.tmp 49) (.tmp 50))⟩, ⟨(some 52), (some (48, false)), (.fadr 2 (.tmp 51))⟩, ⟨(some 53), (some (48, false)), (.load none (.tmp 52))⟩, ⟨(some 54), (some (48, false)), (.bin .gtr (.tmp 53) (.const (.one (.int .i64 65533))))⟩, ⟨(some 55), none, (.pick (.tmp 48) (.const (.one (.bool true))) (.tmp 54))⟩] ⟨(24, .one (.bool true)) :: env, rts, hp⟩ = evIs T7 [⟨(some 31), none, (.pick (.tmp 24) (.const (.one (.bool true))) (.tmp 30))⟩, ⟨(some 32), none, (.mv (.tmp 31))⟩, ⟨(some 33), (some (32, false)), (.mv (.tmp 0))⟩, ⟨(some 34), (some (32, false)), (.mv (.tmp 3))⟩, ⟨(some 35), (some (32, false)), (.iadrR 3 (.tmp 33) (.tmp 34))⟩, ⟨(some 36), (some (32, false)), (.fadr 1 (.tmp 35))⟩, ⟨(some 37), (some (32, false)), (.load none (.tmp 36))⟩, ⟨(some 38), (some (32, false)), (.bin .gtr (.tmp 37) (.const (.one (.int .i64 65538))))⟩, ⟨(some 39), none, (.pick (.tmp 32) (.const (.one (.bool true))) (.tmp 38))⟩, ⟨(some 40), none, (.mv (.tmp 39))⟩, ⟨(some 41), (some (40, false)), (.mv (.tmp 0))⟩, ⟨(some 42), (some (40, false)), (.mv (.tmp 3))⟩, ⟨(some 43), (some (40, false)), (.iadrR 3 (.tmp 41) (.tmp 42))⟩, ⟨(some 44), (some (40, false)), (.fadr 2 (.tmp 43))⟩, ⟨(some 45), (some (40, false)), (.load none (.tmp 44))⟩, ⟨(some 46), (some (40, false)), (.bin .lss (.tmp 45) (.const (.one (.int .i64 1))))⟩, ⟨(some 47), none, (.pick (.tmp 40) (.const (.one (.bool true))) (.tmp 46))⟩, ⟨(some 48), none, (.mv (.tmp 47))⟩, ⟨(some 49), (some (48, false)), (.mv (.tmp 0))⟩, ⟨(some 50), (some (48, false)), (.mv (.tmp 3))⟩, ⟨(some 51), (some (48, false)), (.iadrR 3 (.tmp 49) (.tmp 50))⟩, ⟨(some 52), (some (48, false)), (.fadr 2 (.tmp 51))⟩, ⟨(some 53), (some (48, false)), (.load none (.tmp 52))⟩, ⟨(some 54), (some (48, false)), (.bin .gtr (.tmp 53) (.const (.one (.int .i64 65533))))⟩, ⟨(some 55), none, (.pick (.tmp 48) (.const (.one (.bool true))) (.tmp 54))⟩] ⟨(30, .tup []) :: (29, .tup []) :: (28, .tup []) :: (27, .tup []) :: (26, .tup []) :: (25, .tup []) :: (24, .one (.bool true)) :: env, rts, hp⟩ := rfl
@[simp 2000] theorem skip7_32 (env : Env) (rts : List SV) (hp : List Ob) : evIs T7 [⟨(some 33), (some (32, false)), (.mv (.tmp 0))⟩, ⟨(some 34), (some (32, false)), (.mv (.tmp 3))⟩, ⟨(some 35), (some (32, false)), (.iadrR 3 (.tmp 33) (.tmp 34))⟩, ⟨(some 36), (some (32, false)), (.fadr 1 (.tmp 35))⟩, ⟨(some 37), (some (32, false)), (.load none (.tmp 36))⟩, ⟨(some 38), (some (32, false)), (.bin .gtr (.tmp 37) (.const (.one (.int .i64 65538))))⟩, ⟨(some 39), none, (.pick (.tmp 32) (.const (.one (.bool true))) (.tmp 38))⟩, ⟨(some 40), none, (.mv (.tmp 39))⟩, ⟨(some 41), (some (40, false)), (.mv (.tmp 0))⟩, ⟨(some 42), (some (40, false)), (.mv (.tmp 3))⟩, ⟨(some 43), (some (40, false)), (.iadrR 3 (.tmp 41) (.tmp 42))⟩, ⟨(some 44), (some (40, false)), (.fadr 2 (.tmp 43))⟩, ⟨(some 45), (some (40, false)), (.load none (.tmp 44))⟩, ⟨(some 46), (some (40, false)), (.bin .lss (.tmp 45) (.const (.one (.int .i64 1))))⟩, ⟨(some 47), none, (.pick (.tmp 40) (.const (.one (.bool true))) (.tmp 46))⟩, ⟨(some 48), none, (.mv (.tmp 47))⟩, ⟨(some 49), (some (48, false)), (.mv (.tmp 0))⟩, ⟨(some 50), (some (48, false)), (.mv (.tmp 3))⟩, ⟨(some 51), (some (48, false)), (.iadrR 3 (.tmp 49) (.tmp 50))⟩, ⟨(some 52), (some (48, false)), (.fadr 2 (.tmp 51))⟩, ⟨(some 53), (some (48, false)), (.load none (.tmp 52))⟩, ⟨(some 54), (some (48, false)), (.bin .gtr (.tmp 53) (.const (.one (.int .i64 65533))))⟩, ⟨(some 55), none, (.pick (.tmp 48) (.const (.one (.bool true))) (.tmp 54))⟩] ⟨(32, .one (.bool true)) :: env, rts, hp⟩ = evIs T7 [⟨(some 39), none, (.pick (.tmp 32) (.const (.one (.bool true))) (.tmp 38))⟩, ⟨(some 40), none, (.mv (.tmp 39))⟩, ⟨(some 41), (some (40, false)), (.mv (.tmp 0))⟩, ⟨(some 42), (some (40, false)), (.mv (.tmp 3))⟩, ⟨(some 43), (some (40, false)), (.iadrR 3 (.tmp 41) (.tmp 42))⟩, ⟨(some 44), (some (40, false)), (.fadr 2 (.tmp 43))⟩, ⟨(some 45), (some (40, false)), (.load none (.tmp 44))⟩, ⟨(some 46), (some (40, false)), (.bin .lss (.tmp 45) (.const (.one (.int .i64 1))))⟩, ⟨(some 47), none, (.pick (.tmp 40) (.const (.one (.bool true))) (.tmp 46))⟩, ⟨(some 48), none, (.mv (.tmp 47))⟩, ⟨(some 49), (some (48, false)), (.mv (.tmp 0))⟩, ⟨(some 50), (some (48, false)), (.mv (.tmp 3))⟩, ⟨(some 51), (some (48, false)), (.iadrR 3 (.tmp 49) (.tmp 50))⟩, ⟨(some 52), (some (48, false)), (.fadr 2 (.tmp 51))⟩, ⟨(some 53), (some (48, false)), (.load none (.tmp 52))⟩, ⟨(some 54), (some (48, false)), (.bin .gtr (.tmp 53) (.const (.one (.int .i64 65533))))⟩, ⟨(some 55), none, (.pick (.tmp 48) (.const (.one (.bool true))) (.tmp 54))⟩] ⟨(38, .tup []) :: (37, .tup []) :: (36, .tup []) :: (35, .tup []) :: (34, .tup []) :: (33, .tup []) :: (32, .one (.bool true)) :: env, rts, hp⟩ := rfl
@[simp 2000] theorem skip7_40 (env : Env) (rts : List SV) (hp : List Ob) : evIs T7 [⟨(some 41), (some (40, false)), (.mv (.tmp 0))⟩, ⟨(some 42), (some (40, false)), (.mv (.tmp 3))⟩, ⟨(some 43), (some (40, false)), (.iadrR 3 (.tmp 41) (.tmp 42))⟩, ⟨(some 44), (some (40, false)), (.fadr 2 (.tmp 43))⟩, ⟨(some 45), (some (40, false)), (.load none (.tmp 44))⟩, ⟨(some 46), (some (40, false)), (.bin .lss (.tmp 45) (.const (.one (.int .i64 1))))⟩, ⟨(some 47), none, (.pick (.tmp 40) (.const (.one (.bool true))) (.tmp 46))⟩, ⟨(some 48), none, (.mv (.tmp 47))⟩, ⟨(some 49), (some (48, false)), (.mv (.tmp 0))⟩, ⟨(some 50), (some (48, false)), (.mv (.tmp 3))⟩, ⟨(some 51), (some (48, false)), (.iadrR 3 (.tmp 49) (.tmp 50))⟩, ⟨(some 52), (some (48, false)), (.fadr 2 (.tmp 51))⟩, ⟨(some 53), (some (48, false)), (.load none (.tmp 52))⟩, ⟨(some 54), (some (48, false)), (.bin .gtr (.tmp 53) (.const (.one (.int .i64 65533))))⟩, ⟨(some 55), none, (.pick (.tmp 48) (.const (.one (.bool true))) (.tmp 54))⟩] ⟨(40, .one (.bool true)) :: env, rts, hp⟩ = evIs T7 [⟨(some 47), none, (.pick (.tmp 40) (.const (.one (.bool true))) (.tmp 46))⟩, ⟨(some 48), none, (.mv (.tmp 47))⟩, ⟨(some 49), (some (48, false)), (.mv (.tmp 0))⟩, ⟨(some 50), (some (48, false)), (.mv (.tmp 3))⟩, ⟨(some 51), (some (48, false)), (.iadrR 3 (.tmp 49) (.tmp 50))⟩, ⟨(some 52), (some (48, false)), (.fadr 2 (.tmp 51))⟩, ⟨(some 53), (some (48, false)), (.load none (.tmp 52))⟩, ⟨(some 54), (some (48, false)), (.bin .gtr (.tmp 53) (.const (.one (.int .i64 65533))))⟩, ⟨(some 55), none, (.pick (.tmp 48) (.const (.one (.bool true))) (.tmp 54))⟩] ⟨(46, .tup []) :: (45, .tup []) :: (44, .tup []) :: (43, .tup []) :: (42, .tup []) :: (41, .tup []) :: (40, .one (.bool true)) :: env, rts, hp⟩ := rfl
@[simp 2000] theorem skip7_48 (env : Env) (rts : List SV) (hp : List Ob) : evIs T7 [⟨(some 49), (some (48, false)), (.mv (.tmp 0))⟩, ⟨(some 50), (some (48, false)), (.mv (.tmp 3))⟩, ⟨(some 51), (some (48, false)), (.iadrR 3 (.tmp 49) (.tmp 50))⟩, ⟨(some 52), (some (48, false)), (.fadr 2 (.tmp 51))⟩, ⟨(some 53), (some (48, false)), (.load none (.tmp 52))⟩, ⟨(some 54), (some (48, false)), (.bin .gtr (.tmp 53) (.const (.one (.int .i64 65533))))⟩, ⟨(some 55), none, (.pick (.tmp 48) (.const (.one (.bool true))) (.tmp 54))⟩] ⟨(48, .one (.bool true)) :: env, rts, hp⟩ = evIs T7 [⟨(some 55), none, (.pick (.tmp 48) (.const (.one (.bool true))) (.tmp 54))⟩] ⟨(54, .tup []) :: (53, .tup []) :: (52, .tup []) :: (51, .tup []) :: (50, .tup []) :: (49, .tup []) :: (48, .one (.bool true)) :: env, rts, hp⟩ := rfl
theorem b7r (t : Nat) (l : List (Int × Int × Int)) (i : Nat) (hl : l.length ≤ 1000) (hi : i < l.length) (h : ok7 l i = false) : ∃ st1, evC T7 KK b7x0 (canon7 t l i) = some (.ret, st1) ∧ resC [(2, none)] (some (.ret, st1)) = some (.one (.bool false), []) := by
  have hii : (i : Int) < l.length := by omega
  unfold ok7 at h
  rw [List.getElem?_eq_getElem hi] at h
  obtain ⟨s, hs⟩ : ∃ s, l[i]'hi = s := ⟨_, rfl⟩
  rw [hs] at h
  obtain ⟨x, m, o⟩ := s
  simp only [decide_eq_false_iff_not] at h
  by_cases g1 : x < 0
  · refine ⟨?w0, ?a0, ?b0⟩
    case a0 =>
      simp -implicitDefEqProofs [b7x0, canon7, upd, hii, hi, RC.len, RC.size, RC.get, RC.elem, hs, rec3, g1]
      rfl
    case b0 => simp -implicitDefEqProofs []
  by_cases g2 : 65535 < x
  · refine ⟨?w1, ?a1, ?b1⟩
    case a1 =>
      simp -implicitDefEqProofs [b7x0, canon7, upd, hii, hi, RC.len, RC.size, RC.get, RC.elem, hs, rec3, g1, g2]
      rfl
    case b1 => simp -implicitDefEqProofs []
  by_cases g3 : m < 3
  · refine ⟨?w2, ?a2, ?b2⟩
    case a2 =>
      simp -implicitDefEqProofs [b7x0, canon7, upd, hii, hi, RC.len, RC.size, RC.get, RC.elem, hs, rec3, g1, g2, g3]
      rfl
    case b2 => simp -implicitDefEqProofs []
  by_cases g4 : 65538 < m
  · refine ⟨?w3, ?a3, ?b3⟩
    case a3 =>
      simp -implicitDefEqProofs [b7x0, canon7, upd, hii, hi, RC.len, RC.size, RC.get, RC.elem, hs, rec3, g1, g2, g3, g4]
      rfl
    case b3 => simp -implicitDefEqProofs []
  by_cases g5 : o < 1
  · refine ⟨?w4, ?a4, ?b4⟩
    case a4 =>
      simp -implicitDefEqProofs [b7x0, canon7, upd, hii, hi, RC.len, RC.size, RC.get, RC.elem, hs, rec3, g1, g2, g3, g4, g5]
      rfl
    case b4 => simp -implicitDefEqProofs []
  by_cases g6 : 65533 < o
  · refine ⟨?w5, ?a5, ?b5⟩
    case a5 =>
      simp -implicitDefEqProofs [b7x0, canon7, upd, hii, hi, RC.len, RC.size, RC.get, RC.elem, hs, rec3, g1, g2, g3, g4, g5, g6]
      rfl
    case b5 => simp -implicitDefEqProofs []
  exact absurd (show okT (x, m, o) from ⟨⟨by show 0 ≤ x; omega, by show x ≤ 65535; omega⟩, ⟨by show 3 ≤ m; omega, by show m ≤ 65538; omega⟩, ⟨by show 1 ≤ o; omega, by show o ≤ 65533; omega⟩⟩) h
theorem f7 (t : Nat) (l : List (Int × Int × Int)) (hl : l.length ≤ 1000) : F7 [.one (.ro t (.recs 3 (l.map rec3)))] [] = some (.one (.bool (decide (∀ s ∈ l, okT s))), []) := by
  have hK := KK_eq
  obtain ⟨env, he, g⟩ : ∃ env, evC T7 KK b7x0 (canon7 t l l.length) = some (.exit 0, ⟨env, [.ro t (.recs 3 (l.map rec3))], []⟩) ∧ getT 0 env = .one (.ro t (.recs 3 (l.map rec3))) := by
    refine ⟨?w2, ?a2, ?b2⟩
    case a2 =>
      simp -implicitDefEqProofs [b7x0, canon7, upd, RC.len, RC.size]
      rfl
    case b2 => simp
  have hli : (l.length : Int) ≤ 1000 := by omega
  rcases loopFirst (canon := canon7 t l) (fun i => decide (¬ ok7 l i = true)) (fun i hi hp => b7n t l i hl hi (by simpa using hp)) (fun i hi hp => b7r t l i hl hi (by simpa using hp)) he (by omega) with ⟨h1, el⟩ | ⟨i, st1, h1, h2, h3, el, er⟩
  · have hall : ∀ s ∈ l, okT s := fun s hs => by
      obtain ⟨i, hi, rfl⟩ := List.getElem_of_mem hs
      have := h1 i hi
      simp only [ok7, List.getElem?_eq_getElem hi] at this
      simpa using this
    rw [decide_eq_true hall]
    simp only [canon7, Int.natCast_zero] at el
    simp -implicitDefEqProofs [F7, c7, upd, RC.len, el, g, hli, hl]
  · have hne : ¬ ∀ s ∈ l, okT s := fun h => by
      simp only [ok7, List.getElem?_eq_getElem h1] at h2
      have := h _ (List.getElem_mem h1)
      simp [this] at h2
    rw [decide_eq_false hne, ← er]
    simp only [canon7, Int.natCast_zero] at el
    simp -implicitDefEqProofs [F7, c7, upd, RC.len, el]
theorem stepsB_len {a b c : List Int} {N T : Nat} : ∀ (m i pos : Nat) (r : Int × Int × Int) (l : List Stp) (q : Nat), stepsB a b c N T m i pos r = some (l, q) → l.length = m
  | 0, i, pos, r, l, q, h => by
    simp only [stepsB, Option.some.injEq, Prod.mk.injEq] at h
    rw [← h.1]; rfl
  | m + 1, i, pos, r, l, q, h => by
    simp only [stepsB] at h
    split at h
    · cases h
    · rename_i s r' p hs
      split at h
      · cases h
      · rename_i l' q' hl
        simp only [Option.some.injEq, Prod.mk.injEq] at h
        rw [← h.1, List.length_cons, stepsB_len m _ _ _ _ _ hl]
theorem secN_suf {l r : List Int} {lim : Int} {s : List Stp} (hB : isB l) (h : secN l lim = some (s, r)) : ∃ p, l = p ++ r ∧ 1 ≤ p.length ∧ s.length ≤ 1000 := by
  unfold secN at h
  cases hg : gdec 0 0 l with
  | none => rw [hg] at h; cases h
  | some y =>
    obtain ⟨n, r0⟩ := y
    rw [hg] at h
    dsimp only at h
    obtain ⟨u, h1, _⟩ := gdec_inv l 0 0 n r0 hB (by omega) hg
    have hB0 : isB r0 := fun b hb => hB b (by rw [h1]; simp [hb])
    have hpos := grp_pos u
    split at h
    · cases h
    · rename_i hc
      split at h
      · simp only [Option.some.injEq, Prod.mk.injEq] at h
        obtain ⟨rfl, rfl⟩ := h
        exact ⟨_, h1, hpos, by simp⟩
      · unfold secS at h
        cases e0 : unS r0 n with
        | none => rw [e0] at h; cases h
        | some y =>
          obtain ⟨a, r1⟩ := y
          rw [e0] at h
          dsimp only at h
          obtain ⟨_, _, _, hB1, _⟩ := unS_ok hB0 e0
          obtain ⟨p1, s1⟩ := unS_suf hB0 e0
          cases e1 : unS r1 n with
          | none => rw [e1] at h; cases h
          | some y =>
            obtain ⟨b, r2⟩ := y
            rw [e1] at h
            dsimp only at h
            obtain ⟨_, _, _, hB2, _⟩ := unS_ok hB1 e1
            obtain ⟨p2, s2⟩ := unS_suf hB1 e1
            cases e2 : unS r2 n with
            | none => rw [e2] at h; cases h
            | some y =>
              obtain ⟨c, r3⟩ := y
              rw [e2] at h
              dsimp only at h
              obtain ⟨_, _, _, hB3, _⟩ := unS_ok hB2 e2
              obtain ⟨p3, s3⟩ := unS_suf hB2 e2
              cases e3 : txt r3 with
              | none => rw [e3] at h; cases h
              | some y =>
                obtain ⟨m, r4⟩ := y
                rw [e3] at h
                dsimp only at h
                obtain ⟨s4, _⟩ := txt_inv hB3 e3
                cases e4 : stepsB a b c (leB m) (8 * m.length) n 0 0 (1, 2, 4) with
                | none => rw [e4] at h; cases h
                | some y =>
                  obtain ⟨s', q⟩ := y
                  rw [e4] at h
                  dsimp only at h
                  split at h
                  · simp only [Option.some.injEq, Prod.mk.injEq] at h
                    obtain ⟨rfl, rfl⟩ := h
                    have hl := stepsB_len _ _ _ _ _ _ e4
                    refine ⟨grp u ++ (p1 ++ (p2 ++ (p3 ++ (grp m.length ++ m)))), ?_, by simp; omega, by omega⟩
                    rw [h1, s1, s2, s3, s4]
                    simp
                  · cases h
def ofS (s : Stp) : Int × Int × Int := (s.1, ((s.2.1 + 3 : Nat) : Int), s.2.2)
theorem recOf_map (s : List Stp) : s.map recOf = (s.map ofS).map rec3 := by
  rw [List.map_map]; rfl
theorem law4 (a0 : ByteArray) (a1 : Int) (w0 : a0.size ≤ maxLen) (w1 : (Lit.int .i64 a1).wf = true) : F4 [.one (.str a0), .one (.int .i64 a1)] [] = some (.one (.bool true), []) := by
  have e5 := f5
  by_cases h1 : 100 < a0.size
  · have h1i : (100 : Int) < a0.size := by omega
    simp -implicitDefEqProofs [F4, c4, upd, e5, h1i, h1]
  have h1i : ¬ (100 : Int) < a0.size := by omega
  by_cases h2 : (60 : Int) < a1
  · simp -implicitDefEqProofs [F4, c4, upd, e5, h1i, h1, h2]
  have hl : (toBytes a0).length ≤ 100 := by rw [size_toBytes]; omega
  have hB : isB (toBytes a0) := isB_toBytes a0
  have hs : ofBytes (toBytes a0) = a0 := ofBytes_toBytes a0
  have e9 := f9 a0
  have e10 := f10 (toBytes a0) a1 hB (by omega) (by omega)
  have e8 := f8 (toBytes a0) a1 hB (by omega) (by omega)
  rw [hs] at e8
  cases hd : secN (toBytes a0) a1 with
  | none =>
    rw [hd] at e10 e8
    obtain ⟨l', b, e10⟩ := e10
    have e11 := f11 0 1 [] [] (by simp) (by simp)
    simp only [List.map_nil, decide_true] at e11
    simp only [rs8, bad8, bad10, rHp, List.cons_append, List.nil_append] at e8 e9 e10
    rw [hs] at e9 e10
    simp -implicitDefEqProofs [F4, c4, upd, e5, h1i, h1, h2, e9, e10, e8, e11]
  | some y =>
    obtain ⟨s, r⟩ := y
    rw [hd] at e10 e8
    obtain ⟨p, hp, hp1, hsl⟩ := secN_suf hB hd
    have hlen := congrArg List.length hp
    simp only [List.length_append] at hlen
    have e11 := f11 0 1 (s.map ofS) (s.map ofS) (by simp; omega) (by simp; omega)
    rw [← recOf_map] at e11
    simp only [decide_true] at e11
    have e12 := f12 r false (by omega)
    have hk : (toBytes a0).length - r.length = p.length := by omega
    have hcut := cut49 (l := toBytes a0) (k := p.length) (r := r) (by omega) (by rw [hp, List.drop_left' rfl])
    have hsz := size_toBytes a0
    rw [hs, hsz] at hcut
    rw [hsz] at hlen
    simp only [rs8, rHp, List.cons_append, List.nil_append, hk, if_false] at e8 e9 e10 e12
    rw [hs] at e9 e10
    have hp0 : (0 : Int) < p.length := by omega
    have hp0n : 0 < p.length := by omega
    have hpl : (p.length : Int) ≤ a0.size := by omega
    have hpln : p.length ≤ a0.size := by omega
    simp -implicitDefEqProofs [F4, c4, upd, e5, h1i, h1, h2, e9, e10, e8, e11, e12, hcut, hp0, hp0n, hpl, hpln]
theorem ok_rec3 {z : List Sc} (h : okFields [.int .i64, .int .i64, .int .i64] z) : ∃ s, z = rec3 s ∧ inT s := by
  match z, h with
  | [.int k0 x, .int k1 m, .int k2 o], ⟨h0, h1, h2, _⟩ =>
    obtain ⟨rfl, _⟩ := h0
    obtain ⟨rfl, w⟩ := h1
    obtain ⟨rfl, _⟩ := h2
    refine ⟨(x, m, o), rfl, ?_⟩
    unfold inT
    simp [Lit.wf, IntKind.min, IntKind.max, IntKind.signed, IntKind.bits] at w
    omega
theorem ok_recs : ∀ {a : List (List Sc)}, (∀ z ∈ a, okFields [.int .i64, .int .i64, .int .i64] z) → ∃ l : List (Int × Int × Int), a = l.map rec3 ∧ ∀ s ∈ l, inT s
  | [], _ => ⟨[], rfl, fun s hs => by cases hs⟩
  | z :: a, h => by
    obtain ⟨s, rfl, hs⟩ := ok_rec3 (h z List.mem_cons_self)
    obtain ⟨l, rfl, hl⟩ := ok_recs fun y hy => h y (List.mem_cons_of_mem _ hy)
    exact ⟨s :: l, rfl, fun y hy => by
      rcases List.mem_cons.1 hy with rfl | hy
      · exact hs
      · exact hl y hy⟩
theorem toS_back {l : List (Int × Int × Int)} (h : ∀ s ∈ l, okT s) : (l.map toS).map recOf = l.map rec3 := by
  rw [List.map_map]
  exact List.map_congr_left fun s hs => rec_toS (h s hs)
section
variable (l : List (Int × Int × Int)) (a1 : ByteArray) (h1 : l.length ≤ 60) (h2 : a1.size ≤ 20)
include h1 h2
theorem run3 (s : List Int) (hs : s.length ≤ 20000) (hBs : isB s) (hok : ∀ x ∈ l, okT x) (hr : (l.map toS).map recOf = l.map rec3)
    (e6 : F6 [.one (.ro 0 (.recs 3 (l.map rec3)))] [] = some (.tup [.one (.str (ofBytes s)), .one (.bool true)], []))
    (hd : secN (s ++ toBytes a1) l.length = some (l.map toS, toBytes a1)) : F3 [.one (.ro 0 (.recs 3 (l.map rec3))), .one (.str a1)] [] = some (.one (.bool true), []) := by
  have e5 := f5
  have h1i : ¬ (60 : Int) < l.length := by omega
  have h1n : ¬ 60 < l.length := by omega
  have h2i : ¬ (20 : Int) < a1.size := by omega
  have h2n : ¬ 20 < a1.size := by omega
  have e7 := fun t => f7 t l (by omega)
  simp only [decide_eq_true hok] at e7
  have hB1 : isB (toBytes a1) := isB_toBytes a1
  have hB := isB_ap hBs hB1
  have ha : ofBytes s ++ a1 = ofBytes (s ++ toBytes a1) := by rw [← ofBytes_append, ofBytes_toBytes]
  have hsz := size_toBytes a1
  have hl : (s ++ toBytes a1).length ≤ 70000 := by simp [hsz]; omega
  have e9 := f9 (ofBytes (s ++ toBytes a1))
  rw [s2bB _ hB] at e9
  have e10 := f10 (s ++ toBytes a1) l.length hB hl (by omega)
  have e8 := f8 (s ++ toBytes a1) l.length hB hl (by omega)
  rw [hd] at e8 e10
  have e11 := fun t t2 => f11 t t2 l l (by omega) (by omega)
  simp only [decide_true] at e11
  have e12 := f12 (toBytes a1) false (by omega)
  have hk : (s ++ toBytes a1).length - (toBytes a1).length = s.length := by simp
  have s1 := size_ofBytes s
  have hb : ofBytes (toBytes a1) = a1 := ofBytes_toBytes a1
  simp only [rs8, hr, hk, rHp, List.cons_append, List.nil_append, if_false, Bool.false_eq_true] at e8 e9 e10 e12
  rw [hb] at e10 e12
  have hsm : s.length + a1.size ≤ 9223372036854775807 := by omega
  generalize s ++ toBytes a1 = z at *
  simp -implicitDefEqProofs [F3, c3, upd, e5, RC.len, h1i, h1n, h2i, h2n, e6, e7, ha, e8, e9, e10, e11, e12, s1, hsm]
end
theorem law3 (a0 : List (List Sc)) (a1 : ByteArray) (_ : a0.length ≤ maxLen) (w0 : ∀ z ∈ a0, okFields [.int .i64, .int .i64, .int .i64] z) (w1 : a1.size ≤ maxLen) : F3 [.one (.ro 0 (.recs 3 a0)), .one (.str a1)] [] = some (.one (.bool true), []) := by
  obtain ⟨l, rfl, hin⟩ := ok_recs w0
  have e5 := f5
  by_cases h1 : 60 < l.length
  · have h1i : (60 : Int) < l.length := by omega
    simp -implicitDefEqProofs [F3, c3, upd, e5, RC.len, h1, h1i]
  have h1i : ¬ (60 : Int) < l.length := by omega
  by_cases h2 : 20 < a1.size
  · have h2i : (20 : Int) < a1.size := by omega
    simp -implicitDefEqProofs [F3, c3, upd, e5, RC.len, h1, h1i, h2, h2i]
  have h2i : ¬ (20 : Int) < a1.size := by omega
  have hB1 : isB (toBytes a1) := isB_toBytes a1
  rcases f6 0 l (by omega) hin with ⟨rfl, e6⟩ | ⟨hne, hok, s, sa, sb, sc, m, hS, e6, _⟩ | ⟨hok, e6⟩
  · refine run3 [] a1 (by simp) (by omega) (grp 0) (by have := grp_ten (v := 0) (by decide); omega) (grp_isB 0) (fun s hs => by cases hs) rfl e6 ?_
    unfold secN
    rw [gdec_grp _ 0 0 0 (by omega) (by decide) (.inl rfl)]
    simp
  · have hlen : s.length ≤ 20000 := by
      have e := congrArg List.length hS.eq
      simp only [List.length_append] at e
      obtain ⟨L1, L2, L3⟩ := encS_len (l.map toS) (1, 2, 4)
      rw [List.length_map] at L1 L2 L3
      have := hS.a.len
      have := hS.b.len
      have := hS.c.len
      have hbl := hS.bits.len
      have hfew := hS.few
      have g1 := grp_ten (v := l.length) (by omega)
      have g2 := grp_ten (v := m.length) (by omega)
      omega
    have hBs : isB s := by
      rw [hS.eq]
      exact isB_ap (isB_ap (isB_ap (isB_ap (isB_ap (grp_isB _) hS.a.byt) hS.b.byt) hS.c.byt) (grp_isB _)) hS.bits.isB
    exact run3 l a1 (by omega) (by omega) s hlen hBs hok (toS_back hok) e6 (dec_sect hS hok hne (by omega) hB1)
  · have e7 := fun t => f7 t l (by omega)
    simp only [decide_eq_false hok] at e7
    have h0 : (ofBytes ([] : List Int)).toList = [] := by simpa using eqS0 []
    unfold bad6 at e6
    simp -implicitDefEqProofs [F3, c3, upd, e5, RC.len, h1, h1i, h2, h2i, e6, e7, h0]
end Go.X.Tryz
