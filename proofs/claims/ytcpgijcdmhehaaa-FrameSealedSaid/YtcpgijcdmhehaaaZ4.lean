import Derived.Deep.Slices
import Derived.Deep.Fields
import Derived.ChangeSame
import Derived.SizedLaws
import Derived.Test.YtcpgijcdmhehaaaZ3
set_option linter.unusedVariables false
set_option linter.unusedSimpArgs false
set_option maxRecDepth 100000
set_option linter.unusedSimpArgs false
namespace Go.X.Try
open Go.IntWalk
theorem i_some {most : Nat} {l r : List Int} {v : Nat} (hm : most < 2 ^ 63) (hB : isB l) (hl : l.length ≤ 140737488352000) (h : rdN most l = some (v, r)) : F81 [.one (.ptr 0 0), .one (.int .i64 most)] [.cells (some 0) [.str (ofBytes l), .bool false]] = some (.one (.int .i64 v), [.cells (some 0) [.str (ofBytes r), .bool false]]) := by
  have e := f81 l most (by omega) hB hl
  rw [iAns_some h] at e
  exact e
theorem i_none {most : Nat} {l : List Int} (hm : most < 2 ^ 63) (hB : isB l) (hl : l.length ≤ 140737488352000) (h : rdN most l = none) : F81 [.one (.ptr 0 0), .one (.int .i64 most)] [.cells (some 0) [.str (ofBytes l), .bool false]] = some (.one (.int .i64 0), [.cells (some 0) [.str (ofBytes []), .bool true]]) := by
  have e := f81 l most (by omega) hB hl
  rw [iAns_none h] at e
  exact e
theorem i_bad (l : List Int) (most : Int) : F81 [.one (.ptr 0 0), .one (.int .i64 most)] [.cells (some 0) [.str (ofBytes l), .bool true]] = some (.one (.int .i64 0), [.cells (some 0) [.str (ofBytes []), .bool true]]) := f81b l most
theorem t_bad (l : List Int) (most : Int) : F82 [.one (.ptr 0 0), .one (.int .i64 most)] [.cells (some 0) [.str (ofBytes l), .bool true]] = some (.one (.str (ofBytes [])), [.cells (some 0) [.str (ofBytes []), .bool true]]) := f82b l most
theorem x_bad (l : List Int) (n : Int) : F52 [.one (.ptr 0 0), .one (.int .i64 n)] [.cells (some 0) [.str (ofBytes l), .bool true]] = some (.one (.int .u64 0), [.cells (some 0) [.str (ofBytes []), .bool true]]) := f52b l n
theorem t_some {most : Nat} {l d : List Int} (hm : most < 2 ^ 63) (hB : isB l) (hl : l.length ≤ 140737488352000) (h : lst most l = some d) : F82 [.one (.ptr 0 0), .one (.int .i64 most)] [.cells (some 0) [.str (ofBytes l), .bool false]] = some (.one (.str (ofBytes d)), [.cells (some 0) [.str (ofBytes []), .bool false]]) := by
  have e := f82 l most (by omega) hB hl
  unfold lst at h
  obtain ⟨⟨n, r⟩, h1, h2⟩ := Option.bind_eq_some_iff.1 h
  simp only at h2
  split at h2
  · rename_i hn
    simp only [Option.some.injEq] at h2
    subst h2
    unfold tAns at e
    rw [iAns_some h1] at e
    simp only [Bool.false_eq_true, if_false] at e
    rw [rAns_nat, if_neg (by omega), List.take_of_length_le (by omega), List.drop_eq_nil_of_le (by omega)] at e
    exact e
  · cases h2
theorem t_none {most : Nat} {l : List Int} (hm : most < 2 ^ 63) (hB : isB l) (hl : l.length ≤ 140737488352000) (h : lst most l = none) : ∃ x r b, F82 [.one (.ptr 0 0), .one (.int .i64 most)] [.cells (some 0) [.str (ofBytes l), .bool false]] = some (.one (.str (ofBytes x)), [.cells (some 0) [.str (ofBytes r), .bool b]]) ∧ (!b && decide (r = [])) = false := by
  have e := f82 l most (by omega) hB hl
  unfold lst at h
  cases h1 : rdN most l with
  | none =>
    unfold tAns at e
    rw [iAns_none h1] at e
    exact ⟨_, _, _, e, rfl⟩
  | some p =>
    obtain ⟨n, r⟩ := p
    rw [h1] at h
    simp only [Option.bind_some] at h
    unfold tAns at e
    rw [iAns_some h1] at e
    simp only [Bool.false_eq_true, if_false] at e
    rw [rAns_nat] at e
    by_cases hr : r.length < n
    · rw [if_pos hr] at e
      exact ⟨_, _, _, e, rfl⟩
    · rw [if_neg hr] at e
      refine ⟨_, _, _, e, ?_⟩
      have hn : ¬ r.length = n := fun c => by rw [if_pos c] at h; cases h
      have : ¬ r.drop n = [] := fun c => by
        have := congrArg List.length c
        rw [List.length_drop, List.length_nil] at this
        omega
      simp [this]
theorem d55 (l : List Int) (b : Bool) : F55 [.one (.ptr 0 0)] [.cells (some 0) [.str (ofBytes l), .bool b]] = some (.one (.bool (!b && decide (l = []))), [.cells (some 0) [.str (ofBytes l), .bool b]]) := f55 l b
def mAg (m : Msg) : AV := .agg [.int .i64 m.kind, .int .i64 m.next, .int .i64 m.epoch, .int .i64 m.size, .int .u64 m.sum, .str (ofBytes m.data)]
/-- What 'get' answers. -/
def okGet (k : Int) (l : List Int) : Prop := match gD k l with
  | some m => F60 [.one (.int .i64 k), .one (.str (ofBytes l))] [] = some (.tup [mAg m, .one (.bool true)], [])
  | none => ∃ k' a b c d s, F60 [.one (.int .i64 k), .one (.str (ofBytes l))] [] = some (.tup [.agg [.int .i64 k', .int .i64 a, .int .i64 b, .int .i64 c, .int .u64 d, .str s], .one (.bool false)], [])
theorem f50' {l : List Int} (hB : isB l) : F50 [.one (.str (ofBytes l))] [] = some (.one (.ptr 0 0), [.cells none [.str (ofBytes l), .bool false]]) := by
  have e := f50 (ofBytes l)
  rw [toBytes_ofBytes hB] at e
  exact e
theorem get1 (k : Int) (hk : k = 1 ∨ k = 2) (l : List Int) (hB : isB l) (hl : l.length ≤ 140737488352000) : okGet k l := by
  have e50 := f50' hB
  unfold okGet gD
  rw [if_pos hk]
  cases h1 : rdN 400 l with
  | none =>
    have a1 := i_none (by decide) hB (by omega) h1
    simp only [Int.cast_ofNat_Int] at a1
    have a2 := i_bad [] 1073741824
    have a3 := d55 [] true
    simp only [Option.bind_none]
    rcases hk with rfl | rfl <;> simp -implicitDefEqProofs [F60, c60, upd, e50, a1, a2, a3, mAg]
  | some p =>
    obtain ⟨n, r⟩ := p
    have hr := rdN_ok hB (by decide) h1
    have a1 := i_some (by decide) hB (by omega) h1
    simp only [Int.cast_ofNat_Int] at a1
    simp only [Option.bind_some]
    cases h2 : rdN 1073741824 r with
    | none =>
      have a2 := i_none (by decide) hr.2.1 (by omega) h2
      simp only [Int.cast_ofNat_Int] at a2
      have a3 := d55 [] true
      simp only [Option.bind_none]
      rcases hk with rfl | rfl <;> simp -implicitDefEqProofs [F60, c60, upd, e50, a1, a2, a3, mAg]
    | some q =>
      obtain ⟨e, s⟩ := q
      have a2 := i_some (by decide) hr.2.1 (by omega) h2
      simp only [Int.cast_ofNat_Int] at a2
      have a3 := d55 s false
      simp only [Option.bind_some]
      by_cases hs : s = []
      · rw [if_pos hs]
        subst hs
        simp only [ofBytes_nil] at a2 a3
        rcases hk with rfl | rfl <;> simp -implicitDefEqProofs [F60, c60, upd, e50, a1, a2, a3, mAg, ofBytes_nil]
      · rw [if_neg hs]
        rcases hk with rfl | rfl <;> simp -implicitDefEqProofs [F60, c60, upd, e50, a1, a2, a3, mAg, hs]
theorem get3 (l : List Int) (hB : isB l) (hl : l.length ≤ 140737488352000) : okGet 3 l := by
  have e50 := f50' hB
  unfold okGet gD
  simp only [show ¬ ((3 : Int) = 1 ∨ (3 : Int) = 2) by decide, if_false, if_true]
  cases h1 : rdN 1073741824 l with
  | none =>
    have a1 := i_none (by decide) hB (by omega) h1
    simp only [Int.cast_ofNat_Int] at a1
    have a2 := t_bad [] 300
    have a3 := d55 [] true
    simp only [Option.bind_none]
    simp -implicitDefEqProofs [F60, c60, upd, e50, a1, a2, a3, mAg]
  | some p =>
    obtain ⟨n, r⟩ := p
    have hr := rdN_ok hB (by decide) h1
    have a1 := i_some (by decide) hB (by omega) h1
    simp only [Int.cast_ofNat_Int] at a1
    simp only [Option.bind_some]
    cases h2 : lst 300 r with
    | none =>
      obtain ⟨x, s, b, a2, hd⟩ := t_none (by decide) hr.2.1 (by omega) h2
      simp only [Int.cast_ofNat_Int] at a2
      have a3 := d55 s b
      rw [hd] at a3
      simp only [Option.bind_none]
      simp -implicitDefEqProofs [F60, c60, upd, e50, a1, a2, a3, mAg]
    | some d =>
      have a2 := t_some (by decide) hr.2.1 (by omega) h2
      simp only [Int.cast_ofNat_Int] at a2
      have a3 := d55 [] false
      simp only [Option.bind_some]
      simp -implicitDefEqProofs [F60, c60, upd, e50, a1, a2, a3, mAg]
theorem get4 (k : Int) (hk : k = 4 ∨ k = 5) (l : List Int) (hB : isB l) (hl : l.length ≤ 140737488352000) : okGet k l := by
  have e50 := f50' hB
  unfold okGet gD
  rw [if_neg (by omega), if_neg (by omega), if_pos hk]
  cases h1 : rdN 1073741824 l with
  | none =>
    have a1 := i_none (by decide) hB (by omega) h1
    simp only [Int.cast_ofNat_Int] at a1
    have a3 := d55 [] true
    simp only [Option.bind_none]
    rcases hk with rfl | rfl <;> simp -implicitDefEqProofs [F60, c60, upd, e50, a1, a3, mAg]
  | some p =>
    obtain ⟨n, r⟩ := p
    have a1 := i_some (by decide) hB (by omega) h1
    simp only [Int.cast_ofNat_Int] at a1
    have a3 := d55 r false
    simp only [Option.bind_some]
    by_cases hs : r = []
    · rw [if_pos hs]
      subst hs
      simp only [ofBytes_nil] at a1 a3
      rcases hk with rfl | rfl <;> simp -implicitDefEqProofs [F60, c60, upd, e50, a1, a3, mAg, ofBytes_nil]
    · rw [if_neg hs]
      rcases hk with rfl | rfl <;> simp -implicitDefEqProofs [F60, c60, upd, e50, a1, a3, mAg, hs]
theorem get6 (l : List Int) (hB : isB l) (hl : l.length ≤ 140737488352000) : okGet 6 l := by
  have e50 := f50' hB
  unfold okGet gD
  rw [if_neg (by decide), if_neg (by decide), if_neg (by decide), if_pos rfl]
  cases h1 : rdN 400 l with
  | none =>
    have a1 := i_none (by decide) hB (by omega) h1
    simp only [Int.cast_ofNat_Int] at a1
    have a2 := t_bad [] 600
    have a3 := d55 [] true
    simp only [Option.bind_none]
    simp -implicitDefEqProofs [F60, c60, upd, e50, a1, a2, a3, mAg]
  | some p =>
    obtain ⟨n, r⟩ := p
    have hr := rdN_ok hB (by decide) h1
    have a1 := i_some (by decide) hB (by omega) h1
    simp only [Int.cast_ofNat_Int] at a1
    simp only [Option.bind_some]
    cases h2 : lst 600 r with
    | none =>
      obtain ⟨x, s, b, a2, hd⟩ := t_none (by decide) hr.2.1 (by omega) h2
      simp only [Int.cast_ofNat_Int] at a2
      have a3 := d55 s b
      rw [hd] at a3
      simp only [Option.bind_none]
      simp -implicitDefEqProofs [F60, c60, upd, e50, a1, a2, a3, mAg]
    | some d =>
      have a2 := t_some (by decide) hr.2.1 (by omega) h2
      simp only [Int.cast_ofNat_Int] at a2
      have a3 := d55 [] false
      simp only [Option.bind_some]
      simp -implicitDefEqProofs [F60, c60, upd, e50, a1, a2, a3, mAg]
theorem get7 (l : List Int) (hB : isB l) (hl : l.length ≤ 140737488352000) : okGet 7 l := by
  have e50 := f50' hB
  unfold okGet gD
  rw [if_neg (by decide), if_neg (by decide), if_neg (by decide), if_neg (by decide), if_pos rfl]
  cases h1 : rdN 400 l with
  | none =>
    have a1 := i_none (by decide) hB (by omega) h1
    simp only [Int.cast_ofNat_Int] at a1
    have a3 := d55 [] true
    simp only [Option.bind_none]
    simp -implicitDefEqProofs [F60, c60, upd, e50, a1, a3, mAg]
  | some p =>
    obtain ⟨n, r⟩ := p
    have a1 := i_some (by decide) hB (by omega) h1
    simp only [Int.cast_ofNat_Int] at a1
    have a3 := d55 r false
    simp only [Option.bind_some]
    by_cases hs : r = []
    · rw [if_pos hs]
      subst hs
      simp only [ofBytes_nil] at a1 a3
      simp -implicitDefEqProofs [F60, c60, upd, e50, a1, a3, mAg, ofBytes_nil]
    · rw [if_neg hs]
      simp -implicitDefEqProofs [F60, c60, upd, e50, a1, a3, mAg, hs]
theorem get8 (l : List Int) (hB : isB l) (hl : l.length ≤ 140737488352000) : okGet 8 l := by
  have e50 := f50' hB
  have hz : sz 8 = 8 := by unfold sz; rfl
  unfold okGet gD
  rw [if_neg (by decide), if_neg (by decide), if_neg (by decide), if_neg (by decide), if_neg (by decide), if_pos rfl]
  cases h1 : rdN 400 l with
  | none =>
    have a1 := i_none (by decide) hB (by omega) h1
    simp only [Int.cast_ofNat_Int] at a1
    have a2 := i_bad [] 1048576
    have a4 := x_bad [] 8
    have a3 := d55 [] true
    simp only [Option.bind_none]
    simp -implicitDefEqProofs [F60, c60, upd, e50, a1, a2, a3, a4, mAg]
  | some p =>
    obtain ⟨n, r⟩ := p
    have hr := rdN_ok hB (by decide) h1
    have a1 := i_some (by decide) hB (by omega) h1
    simp only [Int.cast_ofNat_Int] at a1
    simp only [Option.bind_some]
    cases h2 : rdN 1048576 r with
    | none =>
      have a2 := i_none (by decide) hr.2.1 (by omega) h2
      simp only [Int.cast_ofNat_Int] at a2
      have a4 := x_bad [] 8
      have a3 := d55 [] true
      simp only [Option.bind_none]
      simp -implicitDefEqProofs [F60, c60, upd, e50, a1, a2, a3, a4, mAg]
    | some q =>
      obtain ⟨e, s⟩ := q
      have hs := rdN_ok hr.2.1 (by decide) h2
      have a2 := i_some (by decide) hr.2.1 (by omega) h2
      simp only [Int.cast_ofNat_Int] at a2
      have a4 := f52 s 8 hs.2.1 (by omega)
      rw [hz, rAns_nat] at a4
      simp only [Option.bind_some]
      by_cases h8 : s.length < 8
      · rw [if_pos h8] at a4
        have a3 := d55 [] true
        rw [if_neg (by omega)]
        simp only [rHp] at a4
        simp -implicitDefEqProofs [F60, c60, upd, e50, a1, a2, a3, a4, mAg]
      · rw [if_neg h8] at a4
        have a3 := d55 (s.drop 8) false
        simp only [rHp] at a4
        by_cases h9 : s.length = 8
        · rw [if_pos h9]
          have ht : s.take 8 = s := List.take_of_length_le (by omega)
          have hd : s.drop 8 = [] := List.drop_eq_nil_of_le (by omega)
          rw [ht, hd] at a4
          rw [hd] at a3
          simp only [ofBytes_nil] at a4 a3
          simp -implicitDefEqProofs [F60, c60, upd, e50, a1, a2, a3, a4, mAg, ofBytes_nil]
        · rw [if_neg h9]
          have hd : ¬ s.drop 8 = [] := fun c => by
            have := congrArg List.length c
            rw [List.length_drop, List.length_nil] at this
            omega
          have hd2 : decide (s.drop 8 = []) = false := decide_eq_false hd
          rw [hd2] at a3
          generalize s.drop 8 = w at *
          simp -implicitDefEqProofs [F60, c60, upd, e50, a1, a2, a3, a4, mAg]
theorem get9 (l : List Int) (hB : isB l) (hl : l.length ≤ 140737488352000) : okGet 9 l := by
  have e50 := f50' hB
  unfold okGet gD
  rw [if_neg (by decide), if_neg (by decide), if_neg (by decide), if_neg (by decide), if_neg (by decide), if_neg (by decide), if_pos rfl]
  cases h1 : rdN 1048576 l with
  | none =>
    have a1 := i_none (by decide) hB (by omega) h1
    simp only [Int.cast_ofNat_Int] at a1
    have a2 := t_bad [] 200
    have a3 := d55 [] true
    simp only [Option.bind_none]
    simp -implicitDefEqProofs [F60, c60, upd, e50, a1, a2, a3, mAg]
  | some p =>
    obtain ⟨n, r⟩ := p
    have hr := rdN_ok hB (by decide) h1
    have a1 := i_some (by decide) hB (by omega) h1
    simp only [Int.cast_ofNat_Int] at a1
    simp only [Option.bind_some]
    cases h2 : lst 200 r with
    | none =>
      obtain ⟨x, s, b, a2, hd⟩ := t_none (by decide) hr.2.1 (by omega) h2
      simp only [Int.cast_ofNat_Int] at a2
      have a3 := d55 s b
      rw [hd] at a3
      simp only [Option.bind_none]
      simp -implicitDefEqProofs [F60, c60, upd, e50, a1, a2, a3, mAg]
    | some d =>
      have a2 := t_some (by decide) hr.2.1 (by omega) h2
      simp only [Int.cast_ofNat_Int] at a2
      have a3 := d55 [] false
      simp only [Option.bind_some]
      simp -implicitDefEqProofs [F60, c60, upd, e50, a1, a2, a3, mAg]
theorem get10 (l : List Int) (hB : isB l) (hl : l.length ≤ 140737488352000) : okGet 10 l := by
  have e50 := f50' hB
  have a3 := d55 l false
  unfold okGet gD
  rw [if_neg (by decide), if_neg (by decide), if_neg (by decide), if_neg (by decide), if_neg (by decide), if_neg (by decide), if_neg (by decide), if_pos rfl]
  by_cases hs : l = []
  · rw [if_pos hs]
    subst hs
    simp only [ofBytes_nil] at e50 a3
    simp -implicitDefEqProofs [F60, c60, upd, e50, a3, mAg, ofBytes_nil]
  · rw [if_neg hs]
    simp -implicitDefEqProofs [F60, c60, upd, e50, a3, mAg, hs]
theorem getx (k : Int) (hk : k < 1 ∨ 10 < k) (l : List Int) (hB : isB l) (hl : l.length ≤ 140737488352000) : okGet k l := by
  have e50 := f50' hB
  unfold okGet gD
  rw [if_neg (by omega), if_neg (by omega), if_neg (by omega), if_neg (by omega), if_neg (by omega), if_neg (by omega), if_neg (by omega), if_neg (by omega)]
  have n1 : ¬ k = 1 := by omega
  have n2 : ¬ k = 2 := by omega
  have n3 : ¬ k = 3 := by omega
  have n4 : ¬ k = 4 := by omega
  have n5 : ¬ k = 5 := by omega
  have n6 : ¬ k = 6 := by omega
  have n7 : ¬ k = 7 := by omega
  have n8 : ¬ k = 8 := by omega
  have n9 : ¬ k = 9 := by omega
  have n10 : ¬ k = 10 := by omega
  simp -implicitDefEqProofs [F60, c60, upd, e50, mAg, n1, n2, n3, n4, n5, n6, n7, n8, n9, n10]
theorem f60 (k : Int) (l : List Int) (hB : isB l) (hl : l.length ≤ 140737488352000) : okGet k l := by
  by_cases h : k < 1 ∨ 10 < k
  · exact getx k h l hB hl
  · have : k = 1 ∨ k = 2 ∨ k = 3 ∨ k = 4 ∨ k = 5 ∨ k = 6 ∨ k = 7 ∨ k = 8 ∨ k = 9 ∨ k = 10 := by omega
    rcases this with rfl | rfl | rfl | rfl | rfl | rfl | rfl | rfl | rfl | rfl
    · exact get1 1 (.inl rfl) l hB hl
    · exact get1 2 (.inr rfl) l hB hl
    · exact get3 l hB hl
    · exact get4 4 (.inl rfl) l hB hl
    · exact get4 5 (.inr rfl) l hB hl
    · exact get6 l hB hl
    · exact get7 l hB hl
    · exact get8 l hB hl
    · exact get9 l hB hl
    · exact get10 l hB hl
end Go.X.Try
set_option maxRecDepth 100000
set_option linter.unusedSimpArgs false
namespace Go.X.Try
open Go.IntWalk
/-- What a message must not lack. -/
def lstM (m : Msg) : Bool := if m.kind = 3 ∨ m.kind = 4 ∨ m.kind = 5 then decide (1 ≤ m.epoch) else if m.kind = 9 then !decide (m.data = []) else true
instance (m : Msg) : Decidable (mR0 m) := by unfold mR0; infer_instance
theorem f61 (k : Int) (a c : Int) (b d : Nat) (t : List Int) : F61 [.agg [.int .i64 k, .int .i64 a, .int .i64 b, .int .i64 c, .int .u64 d, .str (ofBytes t)]] [] = some (.one (.bool (lstM ⟨k, a.toNat, b, c.toNat, d, t⟩)), []) := by
  unfold lstM
  simp only
  by_cases h3 : k = 3
  · subst h3
    simp -implicitDefEqProofs [F61, c61, upd]
    omega
  · by_cases h4 : k = 4
    · subst h4
      simp -implicitDefEqProofs [F61, c61, upd]
      omega
    · by_cases h5 : k = 5
      · subst h5
        simp -implicitDefEqProofs [F61, c61, upd]
        omega
      · by_cases h9 : k = 9
        · subst h9
          have e := emptyS t
          by_cases ht : t = []
          · subst ht
            simp -implicitDefEqProofs [F61, c61, upd, ofBytes_nil]
          · simp -implicitDefEqProofs [F61, c61, upd, e, ht]
        · simp -implicitDefEqProofs [F61, c61, upd, h3, h4, h5, h9]
theorem f63x (k a b c d : Int) (s : ByteArray) (wa : IntKind.u64.wrap a = a) (wb : IntKind.u64.wrap b = b) (wc : IntKind.u64.wrap c = c) (hk : k < 1 ∨ 10 < k) : F63 [.agg [.int .i64 k, .int .i64 a, .int .i64 b, .int .i64 c, .int .u64 d, .str s]] [] = some (.tup [.one (.str ⟨#[]⟩), .one (.bool false)], []) := by
  have n1 : ¬ k = 1 := by omega
  have n2 : ¬ k = 2 := by omega
  have n3 : ¬ k = 3 := by omega
  have n4 : ¬ k = 4 := by omega
  have n5 : ¬ k = 5 := by omega
  have n6 : ¬ k = 6 := by omega
  have n7 : ¬ k = 7 := by omega
  have n8 : ¬ k = 8 := by omega
  have n9 : ¬ k = 9 := by omega
  have n10 : ¬ k = 10 := by omega
  simp -implicitDefEqProofs [F63, c63, upd, wa, wb, wc, n1, n2, n3, n4, n5, n6, n7, n8, n9, n10]
def tupSB (s : ByteArray) (b : Bool) : AV := .tup [.one (.str s), .one (.bool b)]
theorem f63 (m : Msg) (hk : 1 ≤ m.kind ∧ m.kind ≤ 10) (h1 : m.next < 2 ^ 63) (h2 : m.epoch < 2 ^ 63) (h3 : m.size < 2 ^ 63) (h4 : m.sum < 2 ^ 64) (hB : isB m.data) (hl : m.data.length ≤ 140737488351232) : F63 [mAg m] [] = some (tupSB (ofBytes (mput m)) true, []) := by
  obtain ⟨k, a, b, c, d, t⟩ := m
  simp only at hk h1 h2 h3 h4 hB hl
  have wa : IntKind.u64.wrap (a : Int) = a := u64_in _ (by omega)
  have wb : IntKind.u64.wrap (b : Int) = b := u64_in _ (by omega)
  have wc : IntKind.u64.wrap (c : Int) = c := u64_in _ (by omega)
  have ga := grp_ten (v := a) (by omega)
  have gb := grp_ten (v := b) (by omega)
  have gc := grp_ten (v := c) (by omega)
  have hz : sz 8 = 8 := by unfold sz; rfl
  have e78 := fun (v : Nat) (bs : List Int) (hv : v < 2 ^ 64) (hl : bs.length ≤ 1000) => f78 v bs hv (by omega)
  have e48 := fun (bs : List Int) (hl : bs.length ≤ 1000) => f48 (ofBytes t) bs hl (by rw [size_ofBytes]; omega)
  rw [size_ofBytes, toBytes_ofBytes hB] at e48
  have e47 := fun (bs : List Int) (hl : bs.length ≤ 1000) => f47 d 8 bs h4 (by omega)
  rw [hz] at e47
  have e49 := f49
  simp only [wHp] at e78 e48 e47 e49
  have : k = 1 ∨ k = 2 ∨ k = 3 ∨ k = 4 ∨ k = 5 ∨ k = 6 ∨ k = 7 ∨ k = 8 ∨ k = 9 ∨ k = 10 := by omega
  rcases this with rfl | rfl | rfl | rfl | rfl | rfl | rfl | rfl | rfl | rfl
  · have q1 := e78 a [] (by omega) (by simp)
    rw [List.nil_append] at q1
    have q2 := e78 b (grp a) (by omega) (by omega)
    have q3 := e49 (grp a ++ grp b)
    simp -implicitDefEqProofs [F63, c63, upd, mAg, mput, tupSB, wa, wb, wc, q1, q2, q3]
  · have q1 := e78 a [] (by omega) (by simp)
    rw [List.nil_append] at q1
    have q2 := e78 b (grp a) (by omega) (by omega)
    have q3 := e49 (grp a ++ grp b)
    simp -implicitDefEqProofs [F63, c63, upd, mAg, mput, tupSB, wa, wb, wc, q1, q2, q3]
  · have q1 := e78 b [] (by omega) (by simp)
    rw [List.nil_append] at q1
    have q2 := e48 (grp b) (by omega)
    rw [List.append_assoc] at q2
    have q3 := e49 (grp b ++ (grp t.length ++ t))
    simp -implicitDefEqProofs [F63, c63, upd, mAg, mput, tupSB, wa, wb, wc, q1, q2, q3]
  · have q1 := e78 b [] (by omega) (by simp)
    rw [List.nil_append] at q1
    have q3 := e49 (grp b)
    simp -implicitDefEqProofs [F63, c63, upd, mAg, mput, tupSB, wa, wb, wc, q1, q3]
  · have q1 := e78 b [] (by omega) (by simp)
    rw [List.nil_append] at q1
    have q3 := e49 (grp b)
    simp -implicitDefEqProofs [F63, c63, upd, mAg, mput, tupSB, wa, wb, wc, q1, q3]
  · have q1 := e78 a [] (by omega) (by simp)
    rw [List.nil_append] at q1
    have q2 := e48 (grp a) (by omega)
    rw [List.append_assoc] at q2
    have q3 := e49 (grp a ++ (grp t.length ++ t))
    simp -implicitDefEqProofs [F63, c63, upd, mAg, mput, tupSB, wa, wb, wc, q1, q2, q3]
  · have q1 := e78 a [] (by omega) (by simp)
    rw [List.nil_append] at q1
    have q3 := e49 (grp a)
    simp -implicitDefEqProofs [F63, c63, upd, mAg, mput, tupSB, wa, wb, wc, q1, q3]
  · have q1 := e78 a [] (by omega) (by simp)
    rw [List.nil_append] at q1
    have q2 := e78 c (grp a) (by omega) (by omega)
    have q4 := e47 (grp a ++ grp c) (by rw [List.length_append]; omega)
    rw [List.append_assoc] at q4
    have q3 := e49 (grp a ++ (grp c ++ fixB d 8))
    simp -implicitDefEqProofs [F63, c63, upd, mAg, mput, tupSB, wa, wb, wc, q1, q2, q3, q4]
  · have q1 := e78 c [] (by omega) (by simp)
    rw [List.nil_append] at q1
    have q2 := e48 (grp c) (by omega)
    rw [List.append_assoc] at q2
    have q3 := e49 (grp c ++ (grp t.length ++ t))
    simp -implicitDefEqProofs [F63, c63, upd, mAg, mput, tupSB, wa, wb, wc, q1, q2, q3]
  · have q3 := e49 []
    simp -implicitDefEqProofs [F63, c63, upd, mAg, mput, tupSB, wa, wb, wc, q3]
theorem f62s (l r : List Int) (v : Nat) (hB : isB l) (hl : l.length ≤ 5000) (h : rdN 1073741824 l = some (v, r)) : F62 [.one (.str (ofBytes l))] [] = some (.tup [.one (.int .i64 v), .one (.str (ofBytes r))], []) := by
  obtain ⟨h1, h2⟩ := (rdN_iff hB (by decide)).1 h
  have e58 := f40_some l v r hB (by omega) h2 (by omega)
  have hk := grp_pos v
  have hlen : l.length = (grp v).length + r.length := by rw [h2, List.length_append]
  have n0 : ¬ ((grp v).length : Int) = 0 := by omega
  have n0' : ¬ (grp v).length = 0 := by omega
  have n0'' : ¬ grp v = [] := fun h => n0' (by rw [h]; rfl)
  have n1 : ¬ (1073741824 : Int) < v := by omega
  have n1' : ¬ 1073741824 < v := by omega
  have w2 : IntKind.i64.wrap (v : Int) = v := i64_in _ (by omega)
  have hc1 : (grp v).length ≤ l.length := by omega
  have hc2 : ((grp v).length : Int) ≤ (l.length : Int) := by omega
  have e3 := size_ofBytes l
  have ex := ofBytes_extract l (grp v).length l.length
  have hdr : (l.drop (grp v).length).take (l.length - (grp v).length) = r := by
    rw [h2, List.drop_left' rfl]
    exact List.take_of_length_le (by rw [List.length_append]; omega)
  rw [hdr] at ex
  simp -implicitDefEqProofs [F62, c62, upd, e58, tupF, n0, n0', n0'', n1, n1', w2, hc1, hc2, e3, ex]
theorem f62n (l : List Int) (hB : isB l) (hl : l.length ≤ 5000) (h : rdN 1073741824 l = none) : F62 [.one (.str (ofBytes l))] [] = some (.tup [.one (.int .i64 (-1)), .one (.str (ofBytes l))], []) := by
  cases hg : gdec 0 0 l with
  | none =>
    have e58 := f40_none l hB (by omega) (fun u r hu h => by rw [h, gdec_grp r u 0 0 (by omega) (by simpa using hu) (.inl rfl)] at hg; cases hg)
    simp -implicitDefEqProofs [F62, c62, upd, e58, tupF]
  | some p =>
    obtain ⟨v, r⟩ := p
    obtain ⟨a, h2, hu, _⟩ := gdec_inv l 0 0 v r hB (by omega) hg
    have hlt := gdec_lt l 0 0 v r hB (by omega) (by simp) hg
    simp only [Nat.mul_zero, Nat.pow_zero, Nat.mul_one, Nat.zero_add] at hu
    subst hu
    have e58 := f40_some l v r hB (by omega) h2 hlt
    have hk := grp_pos v
    have n0 : ¬ ((grp v).length : Int) = 0 := by omega
    have n0' : ¬ (grp v).length = 0 := by omega
    have n0'' : ¬ grp v = [] := fun h => n0' (by rw [h]; rfl)
    have n1 : (1073741824 : Int) < v := by
      unfold rdN at h
      rw [hg] at h
      simp only at h
      by_cases hv : v ≤ 1073741824
      · rw [if_pos hv] at h; cases h
      · omega
    have n1' : 1073741824 < v := by omega
    simp -implicitDefEqProofs [F62, c62, upd, e58, tupF, n0, n0', n0'', n1, n1']
end Go.X.Try
set_option maxRecDepth 100000
set_option linter.unusedSimpArgs false
namespace Go.X.Try
open Go.IntWalk
/-- May a message be? -/
def RI (k a b c : Int) (d : Nat) (t : List Int) : Bool := decide (0 ≤ a ∧ 0 ≤ b ∧ 0 ≤ c ∧ mR0 ⟨k, a.toNat, b.toNat, c.toNat, d, t⟩ ∧ lstM ⟨k, a.toNat, b.toNat, c.toNat, d, t⟩ = true)
def ag6 (k a b c : Int) (d : Nat) (t : List Int) : AV := .agg [.int .i64 k, .int .i64 a, .int .i64 b, .int .i64 c, .int .u64 d, .str (ofBytes t)]
theorem RI_range {k a b c : Int} {d : Nat} {t : List Int} (h : a < 0 ∨ 400 < a ∨ b < 0 ∨ 1073741824 < b ∨ c < 0 ∨ 1048576 < c) : RI k a b c d t = false := by
  refine decide_eq_false ?_
  rintro ⟨h1, h2, h3, h4, _⟩
  unfold mR0 at h4
  simp only at h4
  omega
theorem f42r (k a b c : Int) (d : Nat) (t : List Int) (h : a < 0 ∨ 400 < a ∨ b < 0 ∨ 1073741824 < b ∨ c < 0 ∨ 1048576 < c) : F42 [ag6 k a b c d t] [] = some (.one (.bool false), []) := by
  unfold ag6
  by_cases h1 : a < 0
  · simp -implicitDefEqProofs [F42, c42, upd, h1]
  · by_cases h2 : 400 < a
    · simp -implicitDefEqProofs [F42, c42, upd, h1, h2]
    · by_cases h3 : b < 0
      · simp -implicitDefEqProofs [F42, c42, upd, h1, h2, h3]
      · by_cases h4 : 1073741824 < b
        · simp -implicitDefEqProofs [F42, c42, upd, h1, h2, h3, h4]
        · by_cases h5 : c < 0
          · simp -implicitDefEqProofs [F42, c42, upd, h1, h2, h3, h4, h5]
          · have h6 : 1048576 < c := by omega
            simp -implicitDefEqProofs [F42, c42, upd, h1, h2, h3, h4, h5, h6]
theorem f42k1 (a b c : Int) (d : Nat) (t : List Int) (ha : 0 ≤ a ∧ a ≤ 400) (hb : 0 ≤ b ∧ b ≤ 1073741824) (hc : 0 ≤ c ∧ c ≤ 1048576) (hd : d < 2 ^ 64) : F42 [ag6 1 a b c d t] [] = some (.one (.bool (RI 1 a b c d t)), []) := by
  have x1 : ¬ a < 0 := by omega
  have x2 : ¬ 400 < a := by omega
  have x3 : ¬ b < 0 := by omega
  have x4 : ¬ 1073741824 < b := by omega
  have x5 : ¬ c < 0 := by omega
  have x6 : ¬ 1048576 < c := by omega
  have e0 := emptyS t
  have e3 := size_ofBytes t
  unfold ag6
  by_cases H_c : ¬ (c = 0)
  · have hR : RI 1 a b c d t = false := by
      refine decide_eq_false ?_
      rintro ⟨g1, g2, g3, g4, g5⟩
      unfold mR0 at g4
      simp only at g4
      omega
    rw [hR]
    simp -implicitDefEqProofs [F42, c42, upd, x1, x2, x3, x4, x5, x6, e0, e3, ofBytes_nil, H_c]
  replace H_c := Classical.not_not.1 H_c
  by_cases H_d : ¬ (d = 0)
  · have hR : RI 1 a b c d t = false := by
      refine decide_eq_false ?_
      rintro ⟨g1, g2, g3, g4, g5⟩
      unfold mR0 at g4
      simp only at g4
      omega
    rw [hR]
    have hdi : ¬ ((d : Nat) : Int) = 0 := by omega
    simp -implicitDefEqProofs [F42, c42, upd, x1, x2, x3, x4, x5, x6, e0, e3, ofBytes_nil, H_c, H_d, hdi]
  replace H_d := Classical.not_not.1 H_d
  by_cases H_t : ¬ (t = [])
  · have hR : RI 1 a b c d t = false := by
      refine decide_eq_false ?_
      rintro ⟨g1, g2, g3, g4, g5⟩
      simp [mR0, H_t] at g4
    rw [hR]
    simp -implicitDefEqProofs [F42, c42, upd, x1, x2, x3, x4, x5, x6, e0, e3, ofBytes_nil, H_c, H_d, H_t]
  replace H_t := Classical.not_not.1 H_t
  have hR : RI 1 a b c d t = true := decide_eq_true ⟨by omega, by omega, by omega, .inl ⟨.inl rfl, by dsimp only; omega, by dsimp only; omega, by dsimp only; omega, H_d, H_t⟩, by simp [lstM]⟩
  rw [hR]
  simp -implicitDefEqProofs [F42, c42, upd, x1, x2, x3, x4, x5, x6, e0, e3, ofBytes_nil, H_c, H_d, H_t]
theorem f42k2 (a b c : Int) (d : Nat) (t : List Int) (ha : 0 ≤ a ∧ a ≤ 400) (hb : 0 ≤ b ∧ b ≤ 1073741824) (hc : 0 ≤ c ∧ c ≤ 1048576) (hd : d < 2 ^ 64) : F42 [ag6 2 a b c d t] [] = some (.one (.bool (RI 2 a b c d t)), []) := by
  have x1 : ¬ a < 0 := by omega
  have x2 : ¬ 400 < a := by omega
  have x3 : ¬ b < 0 := by omega
  have x4 : ¬ 1073741824 < b := by omega
  have x5 : ¬ c < 0 := by omega
  have x6 : ¬ 1048576 < c := by omega
  have e0 := emptyS t
  have e3 := size_ofBytes t
  unfold ag6
  by_cases H_c : ¬ (c = 0)
  · have hR : RI 2 a b c d t = false := by
      refine decide_eq_false ?_
      rintro ⟨g1, g2, g3, g4, g5⟩
      unfold mR0 at g4
      simp only at g4
      omega
    rw [hR]
    simp -implicitDefEqProofs [F42, c42, upd, x1, x2, x3, x4, x5, x6, e0, e3, ofBytes_nil, H_c]
  replace H_c := Classical.not_not.1 H_c
  by_cases H_d : ¬ (d = 0)
  · have hR : RI 2 a b c d t = false := by
      refine decide_eq_false ?_
      rintro ⟨g1, g2, g3, g4, g5⟩
      unfold mR0 at g4
      simp only at g4
      omega
    rw [hR]
    have hdi : ¬ ((d : Nat) : Int) = 0 := by omega
    simp -implicitDefEqProofs [F42, c42, upd, x1, x2, x3, x4, x5, x6, e0, e3, ofBytes_nil, H_c, H_d, hdi]
  replace H_d := Classical.not_not.1 H_d
  by_cases H_t : ¬ (t = [])
  · have hR : RI 2 a b c d t = false := by
      refine decide_eq_false ?_
      rintro ⟨g1, g2, g3, g4, g5⟩
      simp [mR0, H_t] at g4
    rw [hR]
    simp -implicitDefEqProofs [F42, c42, upd, x1, x2, x3, x4, x5, x6, e0, e3, ofBytes_nil, H_c, H_d, H_t]
  replace H_t := Classical.not_not.1 H_t
  have hR : RI 2 a b c d t = true := decide_eq_true ⟨by omega, by omega, by omega, .inl ⟨.inr rfl, by dsimp only; omega, by dsimp only; omega, by dsimp only; omega, H_d, H_t⟩, by simp [lstM]⟩
  rw [hR]
  simp -implicitDefEqProofs [F42, c42, upd, x1, x2, x3, x4, x5, x6, e0, e3, ofBytes_nil, H_c, H_d, H_t]
theorem f42k3 (a b c : Int) (d : Nat) (t : List Int) (ha : 0 ≤ a ∧ a ≤ 400) (hb : 0 ≤ b ∧ b ≤ 1073741824) (hc : 0 ≤ c ∧ c ≤ 1048576) (hd : d < 2 ^ 64) : F42 [ag6 3 a b c d t] [] = some (.one (.bool (RI 3 a b c d t)), []) := by
  have x1 : ¬ a < 0 := by omega
  have x2 : ¬ 400 < a := by omega
  have x3 : ¬ b < 0 := by omega
  have x4 : ¬ 1073741824 < b := by omega
  have x5 : ¬ c < 0 := by omega
  have x6 : ¬ 1048576 < c := by omega
  have e0 := emptyS t
  have e3 := size_ofBytes t
  unfold ag6
  by_cases H_a : ¬ (a = 0)
  · have hR : RI 3 a b c d t = false := by
      refine decide_eq_false ?_
      rintro ⟨g1, g2, g3, g4, g5⟩
      unfold mR0 at g4
      simp only at g4
      omega
    rw [hR]
    simp -implicitDefEqProofs [F42, c42, upd, x1, x2, x3, x4, x5, x6, e0, e3, ofBytes_nil, H_a]
  replace H_a := Classical.not_not.1 H_a
  by_cases H_c : ¬ (c = 0)
  · have hR : RI 3 a b c d t = false := by
      refine decide_eq_false ?_
      rintro ⟨g1, g2, g3, g4, g5⟩
      unfold mR0 at g4
      simp only at g4
      omega
    rw [hR]
    simp -implicitDefEqProofs [F42, c42, upd, x1, x2, x3, x4, x5, x6, e0, e3, ofBytes_nil, H_a, H_c]
  replace H_c := Classical.not_not.1 H_c
  by_cases H_d : ¬ (d = 0)
  · have hR : RI 3 a b c d t = false := by
      refine decide_eq_false ?_
      rintro ⟨g1, g2, g3, g4, g5⟩
      unfold mR0 at g4
      simp only at g4
      omega
    rw [hR]
    have hdi : ¬ ((d : Nat) : Int) = 0 := by omega
    simp -implicitDefEqProofs [F42, c42, upd, x1, x2, x3, x4, x5, x6, e0, e3, ofBytes_nil, H_a, H_c, H_d, hdi]
  replace H_d := Classical.not_not.1 H_d
  by_cases H_nb : ¬ (¬ b = 0)
  · have hR : RI 3 a b c d t = false := by
      refine decide_eq_false ?_
      rintro ⟨g1, g2, g3, g4, g5⟩
      have hb0 : b = 0 := Classical.not_not.1 H_nb
      simp [lstM, hb0] at g5
    rw [hR]
    have H_nb' := Classical.not_not.1 H_nb
    simp -implicitDefEqProofs [F42, c42, upd, x1, x2, x3, x4, x5, x6, e0, e3, ofBytes_nil, H_a, H_c, H_d, H_nb']
  replace H_nb := Classical.not_not.1 H_nb
  by_cases H_l300 : ¬ (t.length ≤ 300)
  · have hR : RI 3 a b c d t = false := by
      refine decide_eq_false ?_
      rintro ⟨g1, g2, g3, g4, g5⟩
      unfold mR0 at g4
      simp only at g4
      omega
    rw [hR]
    have hli : ¬ ((t.length : Nat) : Int) ≤ 300 := by omega
    simp -implicitDefEqProofs [F42, c42, upd, x1, x2, x3, x4, x5, x6, e0, e3, ofBytes_nil, H_a, H_c, H_d, H_nb, H_l300, hli]
  replace H_l300 := Classical.not_not.1 H_l300
  have hR : RI 3 a b c d t = true := decide_eq_true ⟨by omega, by omega, by omega, .inr (.inl ⟨rfl, by dsimp only; omega, by dsimp only; omega, by dsimp only; omega, H_d, H_l300⟩), by simp only [lstM]; rw [if_pos (by decide)]; exact decide_eq_true (by omega)⟩
  rw [hR]
  have hli : ((t.length : Nat) : Int) ≤ 300 := by omega
  simp -implicitDefEqProofs [F42, c42, upd, x1, x2, x3, x4, x5, x6, e0, e3, ofBytes_nil, H_a, H_c, H_d, H_nb, H_l300, hli]
theorem f42k4 (a b c : Int) (d : Nat) (t : List Int) (ha : 0 ≤ a ∧ a ≤ 400) (hb : 0 ≤ b ∧ b ≤ 1073741824) (hc : 0 ≤ c ∧ c ≤ 1048576) (hd : d < 2 ^ 64) : F42 [ag6 4 a b c d t] [] = some (.one (.bool (RI 4 a b c d t)), []) := by
  have x1 : ¬ a < 0 := by omega
  have x2 : ¬ 400 < a := by omega
  have x3 : ¬ b < 0 := by omega
  have x4 : ¬ 1073741824 < b := by omega
  have x5 : ¬ c < 0 := by omega
  have x6 : ¬ 1048576 < c := by omega
  have e0 := emptyS t
  have e3 := size_ofBytes t
  unfold ag6
  by_cases H_a : ¬ (a = 0)
  · have hR : RI 4 a b c d t = false := by
      refine decide_eq_false ?_
      rintro ⟨g1, g2, g3, g4, g5⟩
      unfold mR0 at g4
      simp only at g4
      omega
    rw [hR]
    simp -implicitDefEqProofs [F42, c42, upd, x1, x2, x3, x4, x5, x6, e0, e3, ofBytes_nil, H_a]
  replace H_a := Classical.not_not.1 H_a
  by_cases H_c : ¬ (c = 0)
  · have hR : RI 4 a b c d t = false := by
      refine decide_eq_false ?_
      rintro ⟨g1, g2, g3, g4, g5⟩
      unfold mR0 at g4
      simp only at g4
      omega
    rw [hR]
    simp -implicitDefEqProofs [F42, c42, upd, x1, x2, x3, x4, x5, x6, e0, e3, ofBytes_nil, H_a, H_c]
  replace H_c := Classical.not_not.1 H_c
  by_cases H_d : ¬ (d = 0)
  · have hR : RI 4 a b c d t = false := by
      refine decide_eq_false ?_
      rintro ⟨g1, g2, g3, g4, g5⟩
      unfold mR0 at g4
      simp only at g4
      omega
    rw [hR]
    have hdi : ¬ ((d : Nat) : Int) = 0 := by omega
    simp -implicitDefEqProofs [F42, c42, upd, x1, x2, x3, x4, x5, x6, e0, e3, ofBytes_nil, H_a, H_c, H_d, hdi]
  replace H_d := Classical.not_not.1 H_d
  by_cases H_nb : ¬ (¬ b = 0)
  · have hR : RI 4 a b c d t = false := by
      refine decide_eq_false ?_
      rintro ⟨g1, g2, g3, g4, g5⟩
      have hb0 : b = 0 := Classical.not_not.1 H_nb
      simp [lstM, hb0] at g5
    rw [hR]
    have H_nb' := Classical.not_not.1 H_nb
    simp -implicitDefEqProofs [F42, c42, upd, x1, x2, x3, x4, x5, x6, e0, e3, ofBytes_nil, H_a, H_c, H_d, H_nb']
  replace H_nb := Classical.not_not.1 H_nb
  by_cases H_t : ¬ (t = [])
  · have hR : RI 4 a b c d t = false := by
      refine decide_eq_false ?_
      rintro ⟨g1, g2, g3, g4, g5⟩
      simp [mR0, H_t] at g4
    rw [hR]
    simp -implicitDefEqProofs [F42, c42, upd, x1, x2, x3, x4, x5, x6, e0, e3, ofBytes_nil, H_a, H_c, H_d, H_nb, H_t]
  replace H_t := Classical.not_not.1 H_t
  have hR : RI 4 a b c d t = true := decide_eq_true ⟨by omega, by omega, by omega, .inr (.inr (.inl ⟨.inl rfl, by dsimp only; omega, by dsimp only; omega, by dsimp only; omega, H_d, H_t⟩)), by simp only [lstM]; rw [if_pos (by decide)]; exact decide_eq_true (by omega)⟩
  rw [hR]
  simp -implicitDefEqProofs [F42, c42, upd, x1, x2, x3, x4, x5, x6, e0, e3, ofBytes_nil, H_a, H_c, H_d, H_nb, H_t]
theorem f42k5 (a b c : Int) (d : Nat) (t : List Int) (ha : 0 ≤ a ∧ a ≤ 400) (hb : 0 ≤ b ∧ b ≤ 1073741824) (hc : 0 ≤ c ∧ c ≤ 1048576) (hd : d < 2 ^ 64) : F42 [ag6 5 a b c d t] [] = some (.one (.bool (RI 5 a b c d t)), []) := by
  have x1 : ¬ a < 0 := by omega
  have x2 : ¬ 400 < a := by omega
  have x3 : ¬ b < 0 := by omega
  have x4 : ¬ 1073741824 < b := by omega
  have x5 : ¬ c < 0 := by omega
  have x6 : ¬ 1048576 < c := by omega
  have e0 := emptyS t
  have e3 := size_ofBytes t
  unfold ag6
  by_cases H_a : ¬ (a = 0)
  · have hR : RI 5 a b c d t = false := by
      refine decide_eq_false ?_
      rintro ⟨g1, g2, g3, g4, g5⟩
      unfold mR0 at g4
      simp only at g4
      omega
    rw [hR]
    simp -implicitDefEqProofs [F42, c42, upd, x1, x2, x3, x4, x5, x6, e0, e3, ofBytes_nil, H_a]
  replace H_a := Classical.not_not.1 H_a
  by_cases H_c : ¬ (c = 0)
  · have hR : RI 5 a b c d t = false := by
      refine decide_eq_false ?_
      rintro ⟨g1, g2, g3, g4, g5⟩
      unfold mR0 at g4
      simp only at g4
      omega
    rw [hR]
    simp -implicitDefEqProofs [F42, c42, upd, x1, x2, x3, x4, x5, x6, e0, e3, ofBytes_nil, H_a, H_c]
  replace H_c := Classical.not_not.1 H_c
  by_cases H_d : ¬ (d = 0)
  · have hR : RI 5 a b c d t = false := by
      refine decide_eq_false ?_
      rintro ⟨g1, g2, g3, g4, g5⟩
      unfold mR0 at g4
      simp only at g4
      omega
    rw [hR]
    have hdi : ¬ ((d : Nat) : Int) = 0 := by omega
    simp -implicitDefEqProofs [F42, c42, upd, x1, x2, x3, x4, x5, x6, e0, e3, ofBytes_nil, H_a, H_c, H_d, hdi]
  replace H_d := Classical.not_not.1 H_d
  by_cases H_nb : ¬ (¬ b = 0)
  · have hR : RI 5 a b c d t = false := by
      refine decide_eq_false ?_
      rintro ⟨g1, g2, g3, g4, g5⟩
      have hb0 : b = 0 := Classical.not_not.1 H_nb
      simp [lstM, hb0] at g5
    rw [hR]
    have H_nb' := Classical.not_not.1 H_nb
    simp -implicitDefEqProofs [F42, c42, upd, x1, x2, x3, x4, x5, x6, e0, e3, ofBytes_nil, H_a, H_c, H_d, H_nb']
  replace H_nb := Classical.not_not.1 H_nb
  by_cases H_t : ¬ (t = [])
  · have hR : RI 5 a b c d t = false := by
      refine decide_eq_false ?_
      rintro ⟨g1, g2, g3, g4, g5⟩
      simp [mR0, H_t] at g4
    rw [hR]
    simp -implicitDefEqProofs [F42, c42, upd, x1, x2, x3, x4, x5, x6, e0, e3, ofBytes_nil, H_a, H_c, H_d, H_nb, H_t]
  replace H_t := Classical.not_not.1 H_t
  have hR : RI 5 a b c d t = true := decide_eq_true ⟨by omega, by omega, by omega, .inr (.inr (.inl ⟨.inr rfl, by dsimp only; omega, by dsimp only; omega, by dsimp only; omega, H_d, H_t⟩)), by simp only [lstM]; rw [if_pos (by decide)]; exact decide_eq_true (by omega)⟩
  rw [hR]
  simp -implicitDefEqProofs [F42, c42, upd, x1, x2, x3, x4, x5, x6, e0, e3, ofBytes_nil, H_a, H_c, H_d, H_nb, H_t]
theorem f42k6 (a b c : Int) (d : Nat) (t : List Int) (ha : 0 ≤ a ∧ a ≤ 400) (hb : 0 ≤ b ∧ b ≤ 1073741824) (hc : 0 ≤ c ∧ c ≤ 1048576) (hd : d < 2 ^ 64) : F42 [ag6 6 a b c d t] [] = some (.one (.bool (RI 6 a b c d t)), []) := by
  have x1 : ¬ a < 0 := by omega
  have x2 : ¬ 400 < a := by omega
  have x3 : ¬ b < 0 := by omega
  have x4 : ¬ 1073741824 < b := by omega
  have x5 : ¬ c < 0 := by omega
  have x6 : ¬ 1048576 < c := by omega
  have e0 := emptyS t
  have e3 := size_ofBytes t
  unfold ag6
  by_cases H_b : ¬ (b = 0)
  · have hR : RI 6 a b c d t = false := by
      refine decide_eq_false ?_
      rintro ⟨g1, g2, g3, g4, g5⟩
      unfold mR0 at g4
      simp only at g4
      omega
    rw [hR]
    simp -implicitDefEqProofs [F42, c42, upd, x1, x2, x3, x4, x5, x6, e0, e3, ofBytes_nil, H_b]
  replace H_b := Classical.not_not.1 H_b
  by_cases H_c : ¬ (c = 0)
  · have hR : RI 6 a b c d t = false := by
      refine decide_eq_false ?_
      rintro ⟨g1, g2, g3, g4, g5⟩
      unfold mR0 at g4
      simp only at g4
      omega
    rw [hR]
    simp -implicitDefEqProofs [F42, c42, upd, x1, x2, x3, x4, x5, x6, e0, e3, ofBytes_nil, H_b, H_c]
  replace H_c := Classical.not_not.1 H_c
  by_cases H_d : ¬ (d = 0)
  · have hR : RI 6 a b c d t = false := by
      refine decide_eq_false ?_
      rintro ⟨g1, g2, g3, g4, g5⟩
      unfold mR0 at g4
      simp only at g4
      omega
    rw [hR]
    have hdi : ¬ ((d : Nat) : Int) = 0 := by omega
    simp -implicitDefEqProofs [F42, c42, upd, x1, x2, x3, x4, x5, x6, e0, e3, ofBytes_nil, H_b, H_c, H_d, hdi]
  replace H_d := Classical.not_not.1 H_d
  by_cases H_l600 : ¬ (t.length ≤ 600)
  · have hR : RI 6 a b c d t = false := by
      refine decide_eq_false ?_
      rintro ⟨g1, g2, g3, g4, g5⟩
      unfold mR0 at g4
      simp only at g4
      omega
    rw [hR]
    have hli : ¬ ((t.length : Nat) : Int) ≤ 600 := by omega
    simp -implicitDefEqProofs [F42, c42, upd, x1, x2, x3, x4, x5, x6, e0, e3, ofBytes_nil, H_b, H_c, H_d, H_l600, hli]
  replace H_l600 := Classical.not_not.1 H_l600
  have hR : RI 6 a b c d t = true := decide_eq_true ⟨by omega, by omega, by omega, .inr (.inr (.inr (.inl ⟨rfl, by dsimp only; omega, by dsimp only; omega, by dsimp only; omega, H_d, H_l600⟩))), by simp [lstM]⟩
  rw [hR]
  have hli : ((t.length : Nat) : Int) ≤ 600 := by omega
  simp -implicitDefEqProofs [F42, c42, upd, x1, x2, x3, x4, x5, x6, e0, e3, ofBytes_nil, H_b, H_c, H_d, H_l600, hli]
theorem f42k7 (a b c : Int) (d : Nat) (t : List Int) (ha : 0 ≤ a ∧ a ≤ 400) (hb : 0 ≤ b ∧ b ≤ 1073741824) (hc : 0 ≤ c ∧ c ≤ 1048576) (hd : d < 2 ^ 64) : F42 [ag6 7 a b c d t] [] = some (.one (.bool (RI 7 a b c d t)), []) := by
  have x1 : ¬ a < 0 := by omega
  have x2 : ¬ 400 < a := by omega
  have x3 : ¬ b < 0 := by omega
  have x4 : ¬ 1073741824 < b := by omega
  have x5 : ¬ c < 0 := by omega
  have x6 : ¬ 1048576 < c := by omega
  have e0 := emptyS t
  have e3 := size_ofBytes t
  unfold ag6
  by_cases H_b : ¬ (b = 0)
  · have hR : RI 7 a b c d t = false := by
      refine decide_eq_false ?_
      rintro ⟨g1, g2, g3, g4, g5⟩
      unfold mR0 at g4
      simp only at g4
      omega
    rw [hR]
    simp -implicitDefEqProofs [F42, c42, upd, x1, x2, x3, x4, x5, x6, e0, e3, ofBytes_nil, H_b]
  replace H_b := Classical.not_not.1 H_b
  by_cases H_c : ¬ (c = 0)
  · have hR : RI 7 a b c d t = false := by
      refine decide_eq_false ?_
      rintro ⟨g1, g2, g3, g4, g5⟩
      unfold mR0 at g4
      simp only at g4
      omega
    rw [hR]
    simp -implicitDefEqProofs [F42, c42, upd, x1, x2, x3, x4, x5, x6, e0, e3, ofBytes_nil, H_b, H_c]
  replace H_c := Classical.not_not.1 H_c
  by_cases H_d : ¬ (d = 0)
  · have hR : RI 7 a b c d t = false := by
      refine decide_eq_false ?_
      rintro ⟨g1, g2, g3, g4, g5⟩
      unfold mR0 at g4
      simp only at g4
      omega
    rw [hR]
    have hdi : ¬ ((d : Nat) : Int) = 0 := by omega
    simp -implicitDefEqProofs [F42, c42, upd, x1, x2, x3, x4, x5, x6, e0, e3, ofBytes_nil, H_b, H_c, H_d, hdi]
  replace H_d := Classical.not_not.1 H_d
  by_cases H_t : ¬ (t = [])
  · have hR : RI 7 a b c d t = false := by
      refine decide_eq_false ?_
      rintro ⟨g1, g2, g3, g4, g5⟩
      simp [mR0, H_t] at g4
    rw [hR]
    simp -implicitDefEqProofs [F42, c42, upd, x1, x2, x3, x4, x5, x6, e0, e3, ofBytes_nil, H_b, H_c, H_d, H_t]
  replace H_t := Classical.not_not.1 H_t
  have hR : RI 7 a b c d t = true := decide_eq_true ⟨by omega, by omega, by omega, .inr (.inr (.inr (.inr (.inl ⟨rfl, by dsimp only; omega, by dsimp only; omega, by dsimp only; omega, H_d, H_t⟩)))), by simp [lstM]⟩
  rw [hR]
  simp -implicitDefEqProofs [F42, c42, upd, x1, x2, x3, x4, x5, x6, e0, e3, ofBytes_nil, H_b, H_c, H_d, H_t]
theorem f42k8 (a b c : Int) (d : Nat) (t : List Int) (ha : 0 ≤ a ∧ a ≤ 400) (hb : 0 ≤ b ∧ b ≤ 1073741824) (hc : 0 ≤ c ∧ c ≤ 1048576) (hd : d < 2 ^ 64) : F42 [ag6 8 a b c d t] [] = some (.one (.bool (RI 8 a b c d t)), []) := by
  have x1 : ¬ a < 0 := by omega
  have x2 : ¬ 400 < a := by omega
  have x3 : ¬ b < 0 := by omega
  have x4 : ¬ 1073741824 < b := by omega
  have x5 : ¬ c < 0 := by omega
  have x6 : ¬ 1048576 < c := by omega
  have e0 := emptyS t
  have e3 := size_ofBytes t
  unfold ag6
  by_cases H_b : ¬ (b = 0)
  · have hR : RI 8 a b c d t = false := by
      refine decide_eq_false ?_
      rintro ⟨g1, g2, g3, g4, g5⟩
      unfold mR0 at g4
      simp only at g4
      omega
    rw [hR]
    simp -implicitDefEqProofs [F42, c42, upd, x1, x2, x3, x4, x5, x6, e0, e3, ofBytes_nil, H_b]
  replace H_b := Classical.not_not.1 H_b
  by_cases H_t : ¬ (t = [])
  · have hR : RI 8 a b c d t = false := by
      refine decide_eq_false ?_
      rintro ⟨g1, g2, g3, g4, g5⟩
      simp [mR0, H_t] at g4
    rw [hR]
    simp -implicitDefEqProofs [F42, c42, upd, x1, x2, x3, x4, x5, x6, e0, e3, ofBytes_nil, H_b, H_t]
  replace H_t := Classical.not_not.1 H_t
  have hR : RI 8 a b c d t = true := decide_eq_true ⟨by omega, by omega, by omega, .inr (.inr (.inr (.inr (.inr (.inl ⟨rfl, by dsimp only; omega, by dsimp only; omega, by dsimp only; omega, hd, H_t⟩))))), by simp [lstM]⟩
  rw [hR]
  simp -implicitDefEqProofs [F42, c42, upd, x1, x2, x3, x4, x5, x6, e0, e3, ofBytes_nil, H_b, H_t]
theorem f42k9 (a b c : Int) (d : Nat) (t : List Int) (ha : 0 ≤ a ∧ a ≤ 400) (hb : 0 ≤ b ∧ b ≤ 1073741824) (hc : 0 ≤ c ∧ c ≤ 1048576) (hd : d < 2 ^ 64) : F42 [ag6 9 a b c d t] [] = some (.one (.bool (RI 9 a b c d t)), []) := by
  have x1 : ¬ a < 0 := by omega
  have x2 : ¬ 400 < a := by omega
  have x3 : ¬ b < 0 := by omega
  have x4 : ¬ 1073741824 < b := by omega
  have x5 : ¬ c < 0 := by omega
  have x6 : ¬ 1048576 < c := by omega
  have e0 := emptyS t
  have e3 := size_ofBytes t
  unfold ag6
  by_cases H_a : ¬ (a = 0)
  · have hR : RI 9 a b c d t = false := by
      refine decide_eq_false ?_
      rintro ⟨g1, g2, g3, g4, g5⟩
      unfold mR0 at g4
      simp only at g4
      omega
    rw [hR]
    simp -implicitDefEqProofs [F42, c42, upd, x1, x2, x3, x4, x5, x6, e0, e3, ofBytes_nil, H_a]
  replace H_a := Classical.not_not.1 H_a
  by_cases H_b : ¬ (b = 0)
  · have hR : RI 9 a b c d t = false := by
      refine decide_eq_false ?_
      rintro ⟨g1, g2, g3, g4, g5⟩
      unfold mR0 at g4
      simp only at g4
      omega
    rw [hR]
    simp -implicitDefEqProofs [F42, c42, upd, x1, x2, x3, x4, x5, x6, e0, e3, ofBytes_nil, H_a, H_b]
  replace H_b := Classical.not_not.1 H_b
  by_cases H_d : ¬ (d = 0)
  · have hR : RI 9 a b c d t = false := by
      refine decide_eq_false ?_
      rintro ⟨g1, g2, g3, g4, g5⟩
      unfold mR0 at g4
      simp only at g4
      omega
    rw [hR]
    have hdi : ¬ ((d : Nat) : Int) = 0 := by omega
    simp -implicitDefEqProofs [F42, c42, upd, x1, x2, x3, x4, x5, x6, e0, e3, ofBytes_nil, H_a, H_b, H_d, hdi]
  replace H_d := Classical.not_not.1 H_d
  by_cases H_nt : ¬ (¬ t = [])
  · have hR : RI 9 a b c d t = false := by
      refine decide_eq_false ?_
      rintro ⟨g1, g2, g3, g4, g5⟩
      simp [lstM, Classical.not_not.1 H_nt] at g5
    rw [hR]
    have H_nt' := Classical.not_not.1 H_nt
    simp -implicitDefEqProofs [F42, c42, upd, x1, x2, x3, x4, x5, x6, e0, e3, ofBytes_nil, H_a, H_b, H_d, H_nt']
  replace H_nt := Classical.not_not.1 H_nt
  by_cases H_l200 : ¬ (t.length ≤ 200)
  · have hR : RI 9 a b c d t = false := by
      refine decide_eq_false ?_
      rintro ⟨g1, g2, g3, g4, g5⟩
      unfold mR0 at g4
      simp only at g4
      omega
    rw [hR]
    have hli : ¬ ((t.length : Nat) : Int) ≤ 200 := by omega
    simp -implicitDefEqProofs [F42, c42, upd, x1, x2, x3, x4, x5, x6, e0, e3, ofBytes_nil, H_a, H_b, H_d, H_nt, H_l200, hli]
  replace H_l200 := Classical.not_not.1 H_l200
  have hR : RI 9 a b c d t = true := decide_eq_true ⟨by omega, by omega, by omega, .inr (.inr (.inr (.inr (.inr (.inr (.inl ⟨rfl, by dsimp only; omega, by dsimp only; omega, by dsimp only; omega, H_d, H_l200⟩)))))), by simp [lstM, H_nt]⟩
  rw [hR]
  have hli : ((t.length : Nat) : Int) ≤ 200 := by omega
  simp -implicitDefEqProofs [F42, c42, upd, x1, x2, x3, x4, x5, x6, e0, e3, ofBytes_nil, H_a, H_b, H_d, H_nt, H_l200, hli]
theorem f42k10 (a b c : Int) (d : Nat) (t : List Int) (ha : 0 ≤ a ∧ a ≤ 400) (hb : 0 ≤ b ∧ b ≤ 1073741824) (hc : 0 ≤ c ∧ c ≤ 1048576) (hd : d < 2 ^ 64) : F42 [ag6 10 a b c d t] [] = some (.one (.bool (RI 10 a b c d t)), []) := by
  have x1 : ¬ a < 0 := by omega
  have x2 : ¬ 400 < a := by omega
  have x3 : ¬ b < 0 := by omega
  have x4 : ¬ 1073741824 < b := by omega
  have x5 : ¬ c < 0 := by omega
  have x6 : ¬ 1048576 < c := by omega
  have e0 := emptyS t
  have e3 := size_ofBytes t
  unfold ag6
  by_cases H_a : ¬ (a = 0)
  · have hR : RI 10 a b c d t = false := by
      refine decide_eq_false ?_
      rintro ⟨g1, g2, g3, g4, g5⟩
      unfold mR0 at g4
      simp only at g4
      omega
    rw [hR]
    simp -implicitDefEqProofs [F42, c42, upd, x1, x2, x3, x4, x5, x6, e0, e3, ofBytes_nil, H_a]
  replace H_a := Classical.not_not.1 H_a
  by_cases H_b : ¬ (b = 0)
  · have hR : RI 10 a b c d t = false := by
      refine decide_eq_false ?_
      rintro ⟨g1, g2, g3, g4, g5⟩
      unfold mR0 at g4
      simp only at g4
      omega
    rw [hR]
    simp -implicitDefEqProofs [F42, c42, upd, x1, x2, x3, x4, x5, x6, e0, e3, ofBytes_nil, H_a, H_b]
  replace H_b := Classical.not_not.1 H_b
  by_cases H_c : ¬ (c = 0)
  · have hR : RI 10 a b c d t = false := by
      refine decide_eq_false ?_
      rintro ⟨g1, g2, g3, g4, g5⟩
      unfold mR0 at g4
      simp only at g4
      omega
    rw [hR]
    simp -implicitDefEqProofs [F42, c42, upd, x1, x2, x3, x4, x5, x6, e0, e3, ofBytes_nil, H_a, H_b, H_c]
  replace H_c := Classical.not_not.1 H_c
  by_cases H_d : ¬ (d = 0)
  · have hR : RI 10 a b c d t = false := by
      refine decide_eq_false ?_
      rintro ⟨g1, g2, g3, g4, g5⟩
      unfold mR0 at g4
      simp only at g4
      omega
    rw [hR]
    have hdi : ¬ ((d : Nat) : Int) = 0 := by omega
    simp -implicitDefEqProofs [F42, c42, upd, x1, x2, x3, x4, x5, x6, e0, e3, ofBytes_nil, H_a, H_b, H_c, H_d, hdi]
  replace H_d := Classical.not_not.1 H_d
  by_cases H_t : ¬ (t = [])
  · have hR : RI 10 a b c d t = false := by
      refine decide_eq_false ?_
      rintro ⟨g1, g2, g3, g4, g5⟩
      simp [mR0, H_t] at g4
    rw [hR]
    simp -implicitDefEqProofs [F42, c42, upd, x1, x2, x3, x4, x5, x6, e0, e3, ofBytes_nil, H_a, H_b, H_c, H_d, H_t]
  replace H_t := Classical.not_not.1 H_t
  have hR : RI 10 a b c d t = true := decide_eq_true ⟨by omega, by omega, by omega, .inr (.inr (.inr (.inr (.inr (.inr (.inr (⟨rfl, by dsimp only; omega, by dsimp only; omega, by dsimp only; omega, H_d, H_t⟩))))))), by simp [lstM]⟩
  rw [hR]
  simp -implicitDefEqProofs [F42, c42, upd, x1, x2, x3, x4, x5, x6, e0, e3, ofBytes_nil, H_a, H_b, H_c, H_d, H_t]
theorem f42x (k a b c : Int) (d : Nat) (t : List Int) (hk : k < 1 ∨ 10 < k) (ha : 0 ≤ a ∧ a ≤ 400) (hb : 0 ≤ b ∧ b ≤ 1073741824) (hc : 0 ≤ c ∧ c ≤ 1048576) : F42 [ag6 k a b c d t] [] = some (.one (.bool (RI k a b c d t)), []) := by
  have x1 : ¬ a < 0 := by omega
  have x2 : ¬ 400 < a := by omega
  have x3 : ¬ b < 0 := by omega
  have x4 : ¬ 1073741824 < b := by omega
  have x5 : ¬ c < 0 := by omega
  have x6 : ¬ 1048576 < c := by omega
  have hR : RI k a b c d t = false := by
    refine decide_eq_false ?_
    rintro ⟨g1, g2, g3, g4, g5⟩
    unfold mR0 at g4
    simp only at g4
    omega
  have n1 : ¬ k = 1 := by omega
  have n2 : ¬ k = 2 := by omega
  have n3 : ¬ k = 3 := by omega
  have n4 : ¬ k = 4 := by omega
  have n5 : ¬ k = 5 := by omega
  have n6 : ¬ k = 6 := by omega
  have n7 : ¬ k = 7 := by omega
  have n8 : ¬ k = 8 := by omega
  have n9 : ¬ k = 9 := by omega
  have n10 : ¬ k = 10 := by omega
  unfold ag6
  rw [hR]
  simp -implicitDefEqProofs [F42, c42, upd, x1, x2, x3, x4, x5, x6, n1, n2, n3, n4, n5, n6, n7, n8, n9, n10]
theorem f42 (k a b c : Int) (d : Nat) (t : List Int) (hd : d < 2 ^ 64) : F42 [ag6 k a b c d t] [] = some (.one (.bool (RI k a b c d t)), []) := by
  by_cases h : a < 0 ∨ 400 < a ∨ b < 0 ∨ 1073741824 < b ∨ c < 0 ∨ 1048576 < c
  · rw [RI_range h]; exact f42r k a b c d t h
  · by_cases hk : k < 1 ∨ 10 < k
    · exact f42x k a b c d t hk (by omega) (by omega) (by omega)
    · have : k = 1 ∨ k = 2 ∨ k = 3 ∨ k = 4 ∨ k = 5 ∨ k = 6 ∨ k = 7 ∨ k = 8 ∨ k = 9 ∨ k = 10 := by omega
      rcases this with rfl | rfl | rfl | rfl | rfl | rfl | rfl | rfl | rfl | rfl
      · exact f42k1 a b c d t (by omega) (by omega) (by omega) hd
      · exact f42k2 a b c d t (by omega) (by omega) (by omega) hd
      · exact f42k3 a b c d t (by omega) (by omega) (by omega) hd
      · exact f42k4 a b c d t (by omega) (by omega) (by omega) hd
      · exact f42k5 a b c d t (by omega) (by omega) (by omega) hd
      · exact f42k6 a b c d t (by omega) (by omega) (by omega) hd
      · exact f42k7 a b c d t (by omega) (by omega) (by omega) hd
      · exact f42k8 a b c d t (by omega) (by omega) (by omega) hd
      · exact f42k9 a b c d t (by omega) (by omega) (by omega) hd
      · exact f42k10 a b c d t (by omega) (by omega) (by omega) hd
end Go.X.Try
set_option maxRecDepth 100000
set_option linter.unusedSimpArgs false
namespace Go.X.Try
open Go.IntWalk
def mD (k : Int) (l : List Int) : Option Msg := match gD k l with
  | some m => if lstM m = true then some m else none
  | none => none
theorem mD_iff {k : Int} {l : List Int} {m : Msg} (hB : isB l) : mD k l = some m ↔ m.kind = k ∧ mR0 m ∧ lstM m = true ∧ mput m = l := by
  unfold mD
  constructor
  · intro h
    cases hg : gD k l with
    | none => rw [hg] at h; cases h
    | some m' =>
      rw [hg] at h
      simp only at h
      by_cases hl : lstM m' = true
      · rw [if_pos hl] at h
        simp only [Option.some.injEq] at h
        subst h
        obtain ⟨h1, h2, h3⟩ := (gD_iff hB).1 hg
        exact ⟨h1, h2, hl, h3⟩
      · rw [if_neg hl] at h; cases h
  · rintro ⟨h1, h2, h3, h4⟩
    rw [(gD_iff hB).2 ⟨h1, h2, h4⟩]
    simp only
    rw [if_pos h3]
def zeroM : Msg := ⟨0, 0, 0, 0, 0, []⟩
/-- The number at the beginning, and what is behind it; below 0: there is none. -/
def num (l : List Int) : Int × List Int := match rdN 1073741824 l with
  | some (v, r) => (v, r)
  | none => (-1, l)
theorem f62 (l : List Int) (hB : isB l) (hl : l.length ≤ 5000) : F62 [.one (.str (ofBytes l))] [] = some (.tup [.one (.int .i64 (num l).1), .one (.str (ofBytes (num l).2))], []) := by
  unfold num
  cases h : rdN 1073741824 l with
  | none => exact f62n l hB hl h
  | some p => exact f62s l p.2 p.1 hB hl h
theorem num_ok {l : List Int} (hB : isB l) : isB (num l).2 ∧ (num l).2.length ≤ l.length := by
  unfold num
  cases h : rdN 1073741824 l with
  | none => exact ⟨hB, Nat.le_refl _⟩
  | some p => exact (rdN_ok hB (by decide) h).2
theorem num_pos {l : List Int} (hB : isB l) (h : 0 ≤ (num l).1) : l = grp (num l).1.toNat ++ (num l).2 ∧ (num l).1 ≤ 1073741824 := by
  unfold num at h ⊢
  cases hr : rdN 1073741824 l with
  | none => rw [hr] at h; simp at h
  | some p =>
    obtain ⟨h1, h2⟩ := (rdN_iff hB (by decide)).1 hr
    simp only [Int.toNat_natCast]
    exact ⟨h2, by omega⟩
theorem num_grp {v : Nat} {r : List Int} (hB : isB (grp v ++ r)) (h : v ≤ 1073741824) : num (grp v ++ r) = ((v : Int), r) := by
  unfold num
  rw [(rdN_iff hB (by decide)).2 ⟨h, rfl⟩]
theorem num_grp0 {v : Nat} (h : v ≤ 1073741824) : num (grp v) = ((v : Int), []) := by
  have := num_grp (v := v) (r := []) (by rw [List.append_nil]; exact grp_isB v) h
  rwa [List.append_nil] at this
theorem RI_msg (m : Msg) : RI m.kind m.next m.epoch m.size m.sum m.data = true ↔ mR0 m ∧ lstM m = true := by
  obtain ⟨k, a, b, c, d, t⟩ := m
  unfold RI
  simp only [Int.toNat_natCast, decide_eq_true_eq]
  constructor
  · rintro ⟨_, _, _, h1, h2⟩; exact ⟨h1, h2⟩
  · rintro ⟨h1, h2⟩; exact ⟨by omega, by omega, by omega, h1, h2⟩
theorem RI_nn {k a b c : Int} {d : Nat} {t : List Int} (h : RI k a b c d t = true) : 0 ≤ a ∧ 0 ≤ b ∧ 0 ≤ c ∧ RI k a.toNat b.toNat c.toNat d t = true := by
  have h0 := of_decide_eq_true h
  refine ⟨h0.1, h0.2.1, h0.2.2.1, ?_⟩
  rw [show ((a.toNat : Nat) : Int) = a by omega, show ((b.toNat : Nat) : Int) = b by omega, show ((c.toNat : Nat) : Int) = c by omega]
  exact h
def tupMB (m : AV) (b : Bool) : AV := .tup [m, .one (.bool b)]
def okRef (k : Int) (l : List Int) : Prop := F22 [.one (.int .i64 k), .one (.str (ofBytes l))] [] = some (match mD k l with
  | some m => tupMB (mAg m) true
  | none => tupMB (mAg zeroM) false, [])
theorem sub {a b : List Int} (h : isB (a ++ b)) : isB b := fun x hx => h x (List.mem_append.2 (.inr hx))
def zA : AV := .agg [.int .i64 0, .int .i64 0, .int .i64 0, .int .i64 0, .int .u64 0, .str ⟨#[]⟩]
theorem core12 (k : Int) (hk : k = 1 ∨ k = 2) (l r s : List Int) (a b : Int) (e1 : F62 [.one (.str (ofBytes l))] [] = some (.tup [.one (.int .i64 a), .one (.str (ofBytes r))], [])) (e2 : F62 [.one (.str (ofBytes r))] [] = some (.tup [.one (.int .i64 b), .one (.str (ofBytes s))], [])) :
    F22 [.one (.int .i64 k), .one (.str (ofBytes l))] [] = some (if s = [] ∧ RI k a b 0 0 [] = true then tupMB (ag6 k a b 0 0 []) true else tupMB zA false, []) := by
  have e42 := f42 k a b 0 0 [] (by decide)
  have e0 := emptyS s
  simp only [ag6, ofBytes_nil, Int.cast_ofNat_Int] at e42
  by_cases hs : s = []
  · subst hs
    simp only [ofBytes_nil] at e2
    cases hR : RI k a b 0 0 [] <;> rw [hR] at e42 <;> rcases hk with rfl | rfl <;> simp -implicitDefEqProofs [F22, c22, upd, e1, e2, e42, tupMB, zA, ag6, ofBytes_nil]
  · rw [if_neg (fun c => hs c.1)]
    rcases hk with rfl | rfl <;> simp -implicitDefEqProofs [F22, c22, upd, e1, e2, e0, hs, tupMB, zA]
theorem core45 (k : Int) (hk : k = 4 ∨ k = 5) (l s : List Int) (b : Int) (e2 : F62 [.one (.str (ofBytes l))] [] = some (.tup [.one (.int .i64 b), .one (.str (ofBytes s))], [])) :
    F22 [.one (.int .i64 k), .one (.str (ofBytes l))] [] = some (if s = [] ∧ RI k 0 b 0 0 [] = true then tupMB (ag6 k 0 b 0 0 []) true else tupMB zA false, []) := by
  have e42 := f42 k 0 b 0 0 [] (by decide)
  have e0 := emptyS s
  simp only [ag6, ofBytes_nil, Int.cast_ofNat_Int] at e42
  by_cases hs : s = []
  · subst hs
    simp only [ofBytes_nil] at e2
    cases hR : RI k 0 b 0 0 [] <;> rw [hR] at e42 <;> rcases hk with rfl | rfl <;> simp -implicitDefEqProofs [F22, c22, upd, e2, e42, tupMB, zA, ag6, ofBytes_nil]
  · rw [if_neg (fun c => hs c.1)]
    rcases hk with rfl | rfl <;> simp -implicitDefEqProofs [F22, c22, upd, e2, e0, hs, tupMB, zA]
theorem core7 (l s : List Int) (a : Int) (e1 : F62 [.one (.str (ofBytes l))] [] = some (.tup [.one (.int .i64 a), .one (.str (ofBytes s))], [])) :
    F22 [.one (.int .i64 7), .one (.str (ofBytes l))] [] = some (if s = [] ∧ RI 7 a 0 0 0 [] = true then tupMB (ag6 7 a 0 0 0 []) true else tupMB zA false, []) := by
  have e42 := f42 7 a 0 0 0 [] (by decide)
  have e0 := emptyS s
  simp only [ag6, ofBytes_nil, Int.cast_ofNat_Int] at e42
  by_cases hs : s = []
  · subst hs
    simp only [ofBytes_nil] at e1
    cases hR : RI 7 a 0 0 0 [] <;> rw [hR] at e42 <;> simp -implicitDefEqProofs [F22, c22, upd, e1, e42, tupMB, zA, ag6, ofBytes_nil]
  · rw [if_neg (fun c => hs c.1)]
    simp -implicitDefEqProofs [F22, c22, upd, e1, e0, hs, tupMB, zA]
theorem core10 (k : Int) (hk : k < 1 ∨ 10 ≤ k) (l : List Int) : F22 [.one (.int .i64 k), .one (.str (ofBytes l))] [] = some (if l = [] ∧ RI k 0 0 0 0 [] = true then tupMB (ag6 k 0 0 0 0 []) true else tupMB zA false, []) := by
  have e42 := f42 k 0 0 0 0 [] (by decide)
  have e0 := emptyS l
  simp only [ag6, ofBytes_nil, Int.cast_ofNat_Int] at e42
  have n0 : ¬ (1 ≤ k ∧ k ≤ 5) := by omega
  have n1 : ¬ k = 1 := by omega
  have n2 : ¬ k = 2 := by omega
  have n3 : ¬ k = 3 := by omega
  have n6 : ¬ k = 6 := by omega
  have n7 : ¬ k = 7 := by omega
  have n8 : ¬ k = 8 := by omega
  have n9 : ¬ k = 9 := by omega
  by_cases hlo : 1 ≤ k
  · have hhi : ¬ k ≤ 5 := by omega
    by_cases hs : l = []
    · subst hs
      cases hR : RI k 0 0 0 0 [] <;> rw [hR] at e42 <;> simp -implicitDefEqProofs [F22, c22, upd, n1, n2, n3, n6, n7, n8, n9, hlo, hhi, e42, tupMB, zA, ag6, ofBytes_nil]
    · rw [if_neg (fun c => hs c.1)]
      simp -implicitDefEqProofs [F22, c22, upd, n1, n2, n3, n6, n7, n8, n9, hlo, hhi, e0, hs, tupMB, zA]
  · by_cases hs : l = []
    · subst hs
      cases hR : RI k 0 0 0 0 [] <;> rw [hR] at e42 <;> simp -implicitDefEqProofs [F22, c22, upd, n1, n2, n3, n6, n7, n8, n9, hlo, e42, tupMB, zA, ag6, ofBytes_nil]
    · rw [if_neg (fun c => hs c.1)]
      simp -implicitDefEqProofs [F22, c22, upd, n1, n2, n3, n6, n7, n8, n9, hlo, e0, hs, tupMB, zA]
theorem core3 (l r s : List Int) (x n : Int) (e1 : F62 [.one (.str (ofBytes l))] [] = some (.tup [.one (.int .i64 x), .one (.str (ofBytes r))], [])) (e2 : F62 [.one (.str (ofBytes r))] [] = some (.tup [.one (.int .i64 n), .one (.str (ofBytes s))], [])) :
    F22 [.one (.int .i64 3), .one (.str (ofBytes l))] [] = some (if n = s.length ∧ RI 3 0 x 0 0 s = true then tupMB (ag6 3 0 x 0 0 s) true else tupMB zA false, []) := by
  have e42 := f42 3 0 x 0 0 s (by decide)
  have e3 := size_ofBytes s
  simp only [ag6, Int.cast_ofNat_Int] at e42
  by_cases hn : n < 0
  · rw [if_neg (fun c => by have := c.1; omega)]
    simp -implicitDefEqProofs [F22, c22, upd, e1, e2, hn, tupMB, zA]
  · by_cases hs : n = s.length
    · subst hs
      cases hR : RI 3 0 x 0 0 s <;> rw [hR] at e42 <;> simp -implicitDefEqProofs [F22, c22, upd, e1, e2, e3, hn, e42, tupMB, zA, ag6]
    · rw [if_neg (fun c => hs c.1)]
      simp -implicitDefEqProofs [F22, c22, upd, e1, e2, e3, hn, hs, tupMB, zA]
theorem core6 (l r s : List Int) (x n : Int) (e1 : F62 [.one (.str (ofBytes l))] [] = some (.tup [.one (.int .i64 x), .one (.str (ofBytes r))], [])) (e2 : F62 [.one (.str (ofBytes r))] [] = some (.tup [.one (.int .i64 n), .one (.str (ofBytes s))], [])) :
    F22 [.one (.int .i64 6), .one (.str (ofBytes l))] [] = some (if n = s.length ∧ RI 6 x 0 0 0 s = true then tupMB (ag6 6 x 0 0 0 s) true else tupMB zA false, []) := by
  have e42 := f42 6 x 0 0 0 s (by decide)
  have e3 := size_ofBytes s
  simp only [ag6, Int.cast_ofNat_Int] at e42
  by_cases hn : n < 0
  · rw [if_neg (fun c => by have := c.1; omega)]
    simp -implicitDefEqProofs [F22, c22, upd, e1, e2, hn, tupMB, zA]
  · by_cases hs : n = s.length
    · subst hs
      cases hR : RI 6 x 0 0 0 s <;> rw [hR] at e42 <;> simp -implicitDefEqProofs [F22, c22, upd, e1, e2, e3, hn, e42, tupMB, zA, ag6]
    · rw [if_neg (fun c => hs c.1)]
      simp -implicitDefEqProofs [F22, c22, upd, e1, e2, e3, hn, hs, tupMB, zA]
theorem core9 (l r s : List Int) (x n : Int) (e1 : F62 [.one (.str (ofBytes l))] [] = some (.tup [.one (.int .i64 x), .one (.str (ofBytes r))], [])) (e2 : F62 [.one (.str (ofBytes r))] [] = some (.tup [.one (.int .i64 n), .one (.str (ofBytes s))], [])) :
    F22 [.one (.int .i64 9), .one (.str (ofBytes l))] [] = some (if n = s.length ∧ RI 9 0 0 x 0 s = true then tupMB (ag6 9 0 0 x 0 s) true else tupMB zA false, []) := by
  have e42 := f42 9 0 0 x 0 s (by decide)
  have e3 := size_ofBytes s
  simp only [ag6, Int.cast_ofNat_Int] at e42
  by_cases hn : n < 0
  · rw [if_neg (fun c => by have := c.1; omega)]
    simp -implicitDefEqProofs [F22, c22, upd, e1, e2, hn, tupMB, zA]
  · by_cases hs : n = s.length
    · subst hs
      cases hR : RI 9 0 0 x 0 s <;> rw [hR] at e42 <;> simp -implicitDefEqProofs [F22, c22, upd, e1, e2, e3, hn, e42, tupMB, zA, ag6]
    · rw [if_neg (fun c => hs c.1)]
      simp -implicitDefEqProofs [F22, c22, upd, e1, e2, e3, hn, hs, tupMB, zA]
theorem core8 (l r s : List Int) (a c : Int) (hB : isB s) (e1 : F62 [.one (.str (ofBytes l))] [] = some (.tup [.one (.int .i64 a), .one (.str (ofBytes r))], [])) (e2 : F62 [.one (.str (ofBytes r))] [] = some (.tup [.one (.int .i64 c), .one (.str (ofBytes s))], [])) :
    F22 [.one (.int .i64 8), .one (.str (ofBytes l))] [] = some (if s.length = 8 ∧ RI 8 a 0 c (leB s) [] = true then tupMB (ag6 8 a 0 c (leB s) []) true else tupMB zA false, []) := by
  have e3 := size_ofBytes s
  by_cases h8 : s.length < 8
  · have h8i : (s.length : Int) < 8 := by omega
    rw [if_neg (fun c => by omega)]
    simp -implicitDefEqProofs [F22, c22, upd, e1, e2, e3, h8, h8i, tupMB, zA]
  · have h8i : ¬ (s.length : Int) < 8 := by omega
    have h8j : (8 : Int) ≤ s.length := by omega
    have h8k : 8 ≤ s.length := by omega
    have ex1 := ofBytes_extract s 0 8
    rw [List.drop_zero, show 8 - 0 = 8 from rfl] at ex1
    have ex2 := ofBytes_extract s 8 s.length
    rw [List.take_of_length_le (by rw [List.length_drop]; omega)] at ex2
    have e59 := f59 (s.take 8) (isB_take 8 hB) (by rw [List.length_take]; omega)
    have e0 := emptyS (s.drop 8)
    have hlt := leB_lt (isB_take 8 hB)
    have h64 : leB (s.take 8) < 2 ^ 64 := Nat.lt_of_lt_of_le hlt (Nat.pow_le_pow_right (by decide) (by rw [List.length_take]; omega))
    by_cases hs : s.length = 8
    · have ht : s.take 8 = s := List.take_of_length_le (by omega)
      have hd : s.drop 8 = [] := List.drop_eq_nil_of_le (by omega)
      rw [ht] at e59 h64 ex1
      rw [hd] at ex2
      have e42 := f42 8 a 0 c (leB s) [] h64
      simp only [ag6, ofBytes_nil, Int.cast_ofNat_Int] at e42 ex2
      cases hR : RI 8 a 0 c (leB s) [] <;> rw [hR] at e42 <;> simp -implicitDefEqProofs [F22, c22, upd, e1, e2, e3, h8, h8i, h8j, h8k, hs, ex1, ex2, e59, e42, tupMB, zA, ag6, ofBytes_nil]
    · have hd : ¬ s.drop 8 = [] := fun c => by
        have := congrArg List.length c
        rw [List.length_drop, List.length_nil] at this
        omega
      rw [if_neg (fun c => hs c.1)]
      have hd2 : decide (s.drop 8 = []) = false := decide_eq_false hd
      rw [hd2] at e0
      generalize s.drop 8 = w at *
      simp -implicitDefEqProofs [F22, c22, upd, e1, e2, e3, h8, h8i, h8j, h8k, ex1, ex2, e59, e0, hd, tupMB, zA]
end Go.X.Try
set_option maxRecDepth 100000
set_option linter.unusedSimpArgs false
namespace Go.X.Try
open Go.IntWalk
theorem okRef_of {k : Int} {l : List Int} {C : Prop} [Decidable C] {a b c : Int} {d : Nat} {t : List Int} (hB : isB l)
    (h : F22 [.one (.int .i64 k), .one (.str (ofBytes l))] [] = some (if C then tupMB (ag6 k a b c d t) true else tupMB zA false, []))
    (h1 : C → RI k a b c d t = true ∧ mput ⟨k, a.toNat, b.toNat, c.toNat, d, t⟩ = l) (h2 : ∀ m : Msg, m.kind = k → mR0 m → lstM m = true → mput m = l → C) : okRef k l := by
  unfold okRef
  rw [h]
  by_cases hc : C
  · rw [if_pos hc]
    obtain ⟨g1, g2⟩ := h1 hc
    obtain ⟨p1, p2, p3, p4⟩ := RI_nn g1
    obtain ⟨q1, q2⟩ := (RI_msg ⟨k, a.toNat, b.toNat, c.toNat, d, t⟩).1 p4
    rw [(mD_iff hB).2 ⟨rfl, q1, q2, g2⟩]
    simp only [mAg, ag6]
    rw [show ((a.toNat : Nat) : Int) = a by omega, show ((b.toNat : Nat) : Int) = b by omega, show ((c.toNat : Nat) : Int) = c by omega]
  · rw [if_neg hc]
    cases hm : mD k l with
    | some m =>
      obtain ⟨g1, g2, g3, g4⟩ := (mD_iff hB).1 hm
      exact absurd (h2 m g1 g2 g3 g4) hc
    | none => rfl
theorem RI_of {m : Msg} (h1 : mR0 m) (h2 : lstM m = true) : RI m.kind m.next m.epoch m.size m.sum m.data = true := (RI_msg m).2 ⟨h1, h2⟩
theorem toNat_ne {a : Int} (h : 0 ≤ a) : ((a.toNat : Nat) : Int) = a := by omega
theorem ref12 (k : Int) (hk : k = 1 ∨ k = 2) (l : List Int) (hB : isB l) (hl : l.length ≤ 5000) : okRef k l := by
  have e1 := f62 l hB hl
  obtain ⟨hB2, hl2⟩ := num_ok hB
  have e2 := f62 (num l).2 hB2 (by omega)
  refine okRef_of hB (core12 k hk l _ _ _ _ e1 e2) ?_ ?_
  · rintro ⟨hs, hR⟩
    refine ⟨hR, ?_⟩
    obtain ⟨p1, p2, _, _⟩ := RI_nn hR
    have g1 := (num_pos hB p1).1
    have g2 := (num_pos hB2 p2).1
    rw [hs, List.append_nil] at g2
    have e : mput ⟨k, (num l).1.toNat, (num (num l).2).1.toNat, (0 : Int).toNat, 0, []⟩ = grp (num l).1.toNat ++ grp (num (num l).2).1.toNat := if_pos hk
    rw [e, ← g2]
    exact g1.symm
  · rintro m rfl h1 h2 rfl
    obtain ⟨kind, next, epoch, size, sum, data⟩ := m
    simp only at hk
    have hR := RI_of h1 h2
    have h1' := h1
    unfold mR0 at h1'
    simp only at h1'
    have h3 : next ≤ 400 ∧ epoch ≤ 1073741824 ∧ size = 0 ∧ sum = 0 := by omega
    have h4 : data = [] := by
      rcases hk with rfl | rfl <;> simp at h1' <;> exact h1'.2.2.2.2
    obtain ⟨g1, g2, rfl, rfl⟩ := h3
    subst h4
    have e : mput ⟨kind, next, epoch, 0, 0, []⟩ = grp next ++ grp epoch := if_pos hk
    simp only [e] at hB hR ⊢
    rw [num_grp hB (by omega)]
    simp only
    rw [num_grp0 g2]
    exact ⟨rfl, hR⟩
theorem ref45 (k : Int) (hk : k = 4 ∨ k = 5) (l : List Int) (hB : isB l) (hl : l.length ≤ 5000) : okRef k l := by
  have e1 := f62 l hB hl
  have hk1 : ¬ (k = 1 ∨ k = 2) := by omega
  have hk3 : ¬ k = 3 := by omega
  refine okRef_of hB (core45 k hk l _ _ e1) ?_ ?_
  · rintro ⟨hs, hR⟩
    refine ⟨hR, ?_⟩
    obtain ⟨_, p2, _, _⟩ := RI_nn hR
    have g1 := (num_pos hB p2).1
    rw [hs, List.append_nil] at g1
    unfold mput
    simp only [if_neg hk1, if_neg hk3, if_pos hk]
    exact g1.symm
  · rintro m rfl h1 h2 rfl
    obtain ⟨kind, next, epoch, size, sum, data⟩ := m
    simp only at hk hk1 hk3
    have hR := RI_of h1 h2
    have h1' := h1
    unfold mR0 at h1'
    simp only at h1'
    have h3 : next = 0 ∧ epoch ≤ 1073741824 ∧ size = 0 ∧ sum = 0 := by omega
    have h4 : data = [] := by
      rcases hk with rfl | rfl <;> simp at h1' <;> exact h1'.2.2.2.2
    obtain ⟨rfl, g2, rfl, rfl⟩ := h3
    subst h4
    have e : mput ⟨kind, 0, epoch, 0, 0, []⟩ = grp epoch := by unfold mput; simp only [if_neg hk1, if_neg hk3, if_pos hk]
    simp only [e] at hB hR ⊢
    rw [num_grp0 g2]
    exact ⟨rfl, hR⟩
theorem ref7 (l : List Int) (hB : isB l) (hl : l.length ≤ 5000) : okRef 7 l := by
  have e1 := f62 l hB hl
  refine okRef_of hB (core7 l _ _ e1) ?_ ?_
  · rintro ⟨hs, hR⟩
    refine ⟨hR, ?_⟩
    obtain ⟨p1, _, _, _⟩ := RI_nn hR
    have g1 := (num_pos hB p1).1
    rw [hs, List.append_nil] at g1
    simp [mput]
    exact g1.symm
  · rintro ⟨kind, next, epoch, size, sum, data⟩ rfl h1 h2 rfl
    have hR := RI_of h1 h2
    have h1' := h1
    simp [mR0] at h1'
    obtain ⟨g2, rfl, rfl, rfl, rfl⟩ := h1'
    have e : mput ⟨7, next, 0, 0, 0, []⟩ = grp next := by simp [mput]
    simp only [e] at hB hR ⊢
    rw [num_grp0 (by omega)]
    exact ⟨rfl, hR⟩
theorem ref10 (k : Int) (hk : k < 1 ∨ 10 ≤ k) (l : List Int) (hB : isB l) : okRef k l := by
  refine okRef_of hB (core10 k hk l) ?_ ?_
  · rintro ⟨hs, hR⟩
    refine ⟨hR, ?_⟩
    subst hs
    unfold mput
    simp only
    rw [if_neg (by omega), if_neg (by omega), if_neg (by omega), if_neg (by omega), if_neg (by omega), if_neg (by omega), if_neg (by omega)]
  · rintro ⟨kind, next, epoch, size, sum, data⟩ rfl h1 h2 rfl
    have hR := RI_of h1 h2
    have h1' := h1
    unfold mR0 at h1'
    simp only at hk h1'
    have h3 : kind = 10 := by omega
    subst h3
    simp at h1'
    obtain ⟨rfl, rfl, rfl, rfl, rfl⟩ := h1'
    have e : mput ⟨10, 0, 0, 0, 0, []⟩ = [] := by simp [mput]
    simp only [e] at hR ⊢
    exact ⟨trivial, hR⟩
theorem ref3 (l : List Int) (hB : isB l) (hl : l.length ≤ 5000) : okRef 3 l := by
  have e1 := f62 l hB hl
  obtain ⟨hB2, hl2⟩ := num_ok hB
  have e2 := f62 (num l).2 hB2 (by omega)
  refine okRef_of hB (core3 l _ _ _ _ e1 e2) ?_ ?_
  · rintro ⟨hs, hR⟩
    refine ⟨hR, ?_⟩
    obtain ⟨_, p2, _, _⟩ := RI_nn hR
    have g1 := (num_pos hB p2).1
    have g2 := (num_pos hB2 (by omega)).1
    simp [mput]
    rw [hs, Int.toNat_natCast] at g2
    rw [← g2]; exact g1.symm
  · rintro ⟨kind, next, epoch, size, sum, data⟩ rfl h1 h2 rfl
    have hR := RI_of h1 h2
    have h1' := h1
    simp [mR0] at h1'
    obtain ⟨rfl, g2, rfl, rfl, g3⟩ := h1'
    have e : mput ⟨3, 0, epoch, 0, 0, data⟩ = grp epoch ++ (grp data.length ++ data) := by simp [mput]
    simp only [e] at hB hR ⊢
    rw [num_grp hB (by omega)]
    simp only
    rw [num_grp (sub hB) (by omega)]
    exact ⟨rfl, hR⟩
theorem ref6 (l : List Int) (hB : isB l) (hl : l.length ≤ 5000) : okRef 6 l := by
  have e1 := f62 l hB hl
  obtain ⟨hB2, hl2⟩ := num_ok hB
  have e2 := f62 (num l).2 hB2 (by omega)
  refine okRef_of hB (core6 l _ _ _ _ e1 e2) ?_ ?_
  · rintro ⟨hs, hR⟩
    refine ⟨hR, ?_⟩
    obtain ⟨p1, _, _, _⟩ := RI_nn hR
    have g1 := (num_pos hB p1).1
    have g2 := (num_pos hB2 (by omega)).1
    simp [mput]
    rw [hs, Int.toNat_natCast] at g2
    rw [← g2]; exact g1.symm
  · rintro ⟨kind, next, epoch, size, sum, data⟩ rfl h1 h2 rfl
    have hR := RI_of h1 h2
    have h1' := h1
    simp [mR0] at h1'
    obtain ⟨g2, rfl, rfl, rfl, g3⟩ := h1'
    have e : mput ⟨6, next, 0, 0, 0, data⟩ = grp next ++ (grp data.length ++ data) := by simp [mput]
    simp only [e] at hB hR ⊢
    rw [num_grp hB (by omega)]
    simp only
    rw [num_grp (sub hB) (by omega)]
    exact ⟨rfl, hR⟩
theorem ref9 (l : List Int) (hB : isB l) (hl : l.length ≤ 5000) : okRef 9 l := by
  have e1 := f62 l hB hl
  obtain ⟨hB2, hl2⟩ := num_ok hB
  have e2 := f62 (num l).2 hB2 (by omega)
  refine okRef_of hB (core9 l _ _ _ _ e1 e2) ?_ ?_
  · rintro ⟨hs, hR⟩
    refine ⟨hR, ?_⟩
    obtain ⟨_, _, p3, _⟩ := RI_nn hR
    have g1 := (num_pos hB p3).1
    have g2 := (num_pos hB2 (by omega)).1
    simp [mput]
    rw [hs, Int.toNat_natCast] at g2
    rw [← g2]; exact g1.symm
  · rintro ⟨kind, next, epoch, size, sum, data⟩ rfl h1 h2 rfl
    have hR := RI_of h1 h2
    have h1' := h1
    simp [mR0] at h1'
    obtain ⟨rfl, rfl, g2, rfl, g3⟩ := h1'
    have e : mput ⟨9, 0, 0, size, 0, data⟩ = grp size ++ (grp data.length ++ data) := by simp [mput]
    simp only [e] at hB hR ⊢
    rw [num_grp hB (by omega)]
    simp only
    rw [num_grp (sub hB) (by omega)]
    exact ⟨rfl, hR⟩
theorem ref8 (l : List Int) (hB : isB l) (hl : l.length ≤ 5000) : okRef 8 l := by
  have e1 := f62 l hB hl
  obtain ⟨hB2, hl2⟩ := num_ok hB
  have e2 := f62 (num l).2 hB2 (by omega)
  obtain ⟨hB3, hl3⟩ := num_ok hB2
  refine okRef_of hB (core8 l _ _ _ _ hB3 e1 e2) ?_ ?_
  · rintro ⟨hs, hR⟩
    refine ⟨hR, ?_⟩
    obtain ⟨p1, _, p3, _⟩ := RI_nn hR
    have g1 := (num_pos hB p1).1
    have g2 := (num_pos hB2 p3).1
    have g3 := fixB_leB hB3
    rw [hs] at g3
    simp [mput]
    rw [g3, ← g2]; exact g1.symm
  · rintro ⟨kind, next, epoch, size, sum, data⟩ rfl h1 h2 rfl
    have hR := RI_of h1 h2
    have h1' := h1
    simp [mR0] at h1'
    obtain ⟨g1, rfl, g2, g3, rfl⟩ := h1'
    have e : mput ⟨8, next, 0, size, sum, []⟩ = grp next ++ (grp size ++ fixB sum 8) := by simp [mput]
    simp only [e] at hB hR ⊢
    rw [num_grp hB (by omega)]
    simp only
    rw [num_grp (sub hB) (by omega)]
    simp only
    rw [fixB_length, leB_fixB, Nat.mod_eq_of_lt (by omega)]
    exact ⟨rfl, hR⟩
theorem f22 (k : Int) (l : List Int) (hB : isB l) (hl : l.length ≤ 5000) : okRef k l := by
  by_cases h : k < 1 ∨ 10 ≤ k
  · exact ref10 k h l hB
  · have : k = 1 ∨ k = 2 ∨ k = 3 ∨ k = 4 ∨ k = 5 ∨ k = 6 ∨ k = 7 ∨ k = 8 ∨ k = 9 := by omega
    rcases this with rfl | rfl | rfl | rfl | rfl | rfl | rfl | rfl | rfl
    · exact ref12 1 (.inl rfl) l hB hl
    · exact ref12 2 (.inr rfl) l hB hl
    · exact ref3 l hB hl
    · exact ref45 4 (.inl rfl) l hB hl
    · exact ref45 5 (.inr rfl) l hB hl
    · exact ref6 l hB hl
    · exact ref7 l hB hl
    · exact ref8 l hB hl
    · exact ref9 l hB hl
end Go.X.Try
set_option maxRecDepth 100000
set_option linter.unusedSimpArgs false
namespace Go.X.Try
open Go.IntWalk
theorem f61m (m : Msg) : F61 [mAg m] [] = some (.one (.bool (lstM m)), []) := by
  have e := f61 m.kind m.next m.size m.epoch m.sum m.data
  simp only [Int.toNat_natCast] at e
  exact e
def tupMI (m : AV) (e : Int) : AV := .tup [m, .one (.int .i64 e)]
def decA (k : Int) (l : List Int) : AV := match mD k l with
  | some m => tupMI (mAg m) 0
  | none => tupMI zA 3
theorem f21 (k : Int) (l : List Int) (hB : isB l) (hl : l.length ≤ 140737488352000) : F21 [.agg [.int .i64 k, .str (ofBytes l)]] [] = some (decA k l, []) := by
  have e60 := f60 k l hB hl
  unfold okGet at e60
  unfold decA mD
  cases hg : gD k l with
  | none =>
    rw [hg] at e60
    obtain ⟨k', a, b, c, d, s, e60⟩ := e60
    simp -implicitDefEqProofs [F21, c21, upd, e60, tupMI, zA]
  | some m =>
    rw [hg] at e60
    have e61 := f61m m
    simp only [mAg] at e60 e61
    cases hm : lstM m <;> rw [hm] at e61 <;> simp -implicitDefEqProofs [F21, c21, upd, e60, e61, tupMI, zA, mAg, hm]
theorem beqBA (a b : ByteArray) : (a == b) = decide (a = b) := by
  obtain ⟨a⟩ := a
  obtain ⟨b⟩ := b
  have : ((⟨a⟩ : ByteArray) == ⟨b⟩) = (a == b) := rfl
  rw [this]
  by_cases h : a = b
  · subst h; simp
  · have h2 : ¬ (⟨a⟩ : ByteArray) = ⟨b⟩ := fun c => h (by injection c)
    simp [h, h2]
theorem dneq {x : List Int} {y : List Int} (hx : isB x) (hy : isB y) (h : x ≠ y) : ¬ ofBytes x = ofBytes y := by
  intro e
  have := congrArg toBytes e
  rw [toBytes_ofBytes hx, toBytes_ofBytes hy] at this
  exact h this
/-- Is a message one that may be? -/
def RM (m : Msg) : Bool := decide (mR0 m ∧ lstM m = true)
theorem f44m (m : Msg) (h1 : m.next < 2 ^ 63) (h2 : m.epoch < 2 ^ 63) (h3 : m.size < 2 ^ 63) (h4 : m.sum < 2 ^ 64) (hB : isB m.data) (hl : m.data.length ≤ 140737488351232) : F44 [mAg m] [] = some (.one (.bool (RM m)), []) := by
  have e61 := f61m m
  have n1 : ¬ (m.next : Int) < 0 := by omega
  have n2 : ¬ (m.epoch : Int) < 0 := by omega
  have n3 : ¬ (m.size : Int) < 0 := by omega
  cases hm : lstM m with
  | false =>
    have hR : RM m = false := decide_eq_false (fun h => by rw [hm] at h; cases h.2)
    rw [hm] at e61
    rw [hR]
    simp only [mAg] at e61 ⊢
    simp -implicitDefEqProofs [F44, c44, upd, n1, n2, n3, e61]
  | true =>
    rw [hm] at e61
    by_cases hk : m.kind < 1 ∨ 10 < m.kind
    · have e63 := f63x m.kind m.next m.epoch m.size m.sum (ofBytes m.data) (u64_in _ (by omega)) (u64_in _ (by omega)) (u64_in _ (by omega)) hk
      have hR : RM m = false := decide_eq_false (fun h => by have := h.1; unfold mR0 at this; omega)
      rw [hR]
      simp only [mAg] at e61 ⊢
      simp -implicitDefEqProofs [F44, c44, upd, n1, n2, n3, e61, e63]
    · have e63 := f63 m (by omega) h1 h2 h3 h4 hB hl
      have hBp : isB (mput m) := by
        have hg := fun v => grp_isB v
        have ap : ∀ {a b : List Int}, isB a → isB b → isB (a ++ b) := fun ha hb x hx => (List.mem_append.1 hx).elim (ha x) (hb x)
        unfold mput
        split
        · exact ap (hg _) (hg _)
        · split
          · exact ap (hg _) (ap (hg _) hB)
          · split
            · exact hg _
            · split
              · exact ap (hg _) (ap (hg _) hB)
              · split
                · exact hg _
                · split
                  · exact ap (hg _) (ap (hg _) (fixB_isB _ _))
                  · split
                    · exact ap (hg _) (ap (hg _) hB)
                    · intro x hx; cases hx
      have hlp : (mput m).length ≤ 140737488352000 := by
        have g1 := grp_ten (v := m.next) (by omega)
        have g2 := grp_ten (v := m.epoch) (by omega)
        have g3 := grp_ten (v := m.size) (by omega)
        have g4 := grp_ten (v := m.data.length) (by omega)
        have g5 := fixB_length 8 m.sum
        unfold mput
        repeat' split
        all_goals try simp only [List.length_append, List.length_nil, g5]
        all_goals omega
      have e60 := f60 m.kind (mput m) hBp hlp
      unfold okGet at e60
      cases hg : gD m.kind (mput m) with
      | none =>
        rw [hg] at e60
        obtain ⟨k', a, b, c, d, s, e60⟩ := e60
        have hR : RM m = false := decide_eq_false (fun h => by
          have := (gD_iff hBp).2 ⟨rfl, h.1, rfl⟩
          rw [hg] at this
          cases this)
        rw [hR]
        simp only [mAg, tupSB] at e61 e63 ⊢
        simp -implicitDefEqProofs [F44, c44, upd, n1, n2, n3, e61, e63, e60]
      | some m' =>
        rw [hg] at e60
        obtain ⟨q1, q2, q3⟩ := (gD_iff hBp).1 hg
        by_cases hmm : m' = m
        · subst hmm
          have hR : RM m' = true := decide_eq_true ⟨q2, hm⟩
          rw [hR]
          simp only [mAg, tupSB] at e60 e61 e63 ⊢
          simp -implicitDefEqProofs [F44, c44, upd, n1, n2, n3, e61, e63, e60, eqScs, eqSc, beqBA]
        · have hR : RM m = false := decide_eq_false (fun h => by
            have := (gD_iff hBp).2 ⟨rfl, h.1, rfl⟩
            rw [hg] at this
            exact hmm (Option.some.inj this))
          rw [hR]
          have hne : ¬ (m'.next = m.next ∧ m'.epoch = m.epoch ∧ m'.size = m.size ∧ m'.sum = m.sum ∧ m'.data = m.data) := fun ⟨a1, a2, a3, a4, a5⟩ => hmm (by
            obtain ⟨x1, x2, x3, x4, x5, x6⟩ := m
            obtain ⟨y1, y2, y3, y4, y5, y6⟩ := m'
            simp only at q1 a1 a2 a3 a4 a5
            subst q1 a1 a2 a3 a4 a5
            rfl)
          have hB' : isB m'.data := by
            have : isB (mput m') := by rw [q3]; exact hBp
            intro x hx
            unfold mput at this
            unfold mR0 at q2
            rcases q2 with ⟨_, _, _, _, _, h⟩ | ⟨hk, _⟩ | ⟨_, _, _, _, _, h⟩ | ⟨hk, _⟩ | ⟨_, _, _, _, _, h⟩ | ⟨_, _, _, _, _, h⟩ | ⟨hk, _⟩ | ⟨_, _, _, _, _, h⟩
            · rw [h] at hx; cases hx
            · rw [if_neg (by omega), if_pos hk] at this; exact this x (by simp [hx])
            · rw [h] at hx; cases hx
            · rw [if_neg (by omega), if_neg (by omega), if_neg (by omega), if_pos hk] at this; exact this x (by simp [hx])
            · rw [h] at hx; cases hx
            · rw [h] at hx; cases hx
            · rw [if_neg (by omega), if_neg (by omega), if_neg (by omega), if_neg (by omega), if_neg (by omega), if_neg (by omega), if_pos hk] at this; exact this x (by simp [hx])
            · rw [h] at hx; cases hx
          simp only [mAg, tupSB, q1] at e60 e61 e63 ⊢
          by_cases a1 : m'.next = m.next
          · by_cases a2 : m'.epoch = m.epoch
            · by_cases a3 : m'.size = m.size
              · by_cases a4 : m'.sum = m.sum
                · have a5 := dneq hB' hB (fun h => hne ⟨a1, a2, a3, a4, h⟩)
                  simp -implicitDefEqProofs [F44, c44, upd, n1, n2, n3, e61, e63, e60, eqScs, eqSc, a1, a2, a3, a4, a5, beqBA]
                · simp -implicitDefEqProofs [F44, c44, upd, n1, n2, n3, e61, e63, e60, eqScs, eqSc, a1, a2, a3, a4]
                  intro h; omega
              · simp -implicitDefEqProofs [F44, c44, upd, n1, n2, n3, e61, e63, e60, eqScs, eqSc, a1, a2, a3]
                intro h; omega
            · simp -implicitDefEqProofs [F44, c44, upd, n1, n2, n3, e61, e63, e60, eqScs, eqSc, a1, a2]
              intro h; omega
          · simp -implicitDefEqProofs [F44, c44, upd, n1, n2, n3, e61, e63, e60, eqScs, eqSc, a1]
            intro h; omega
end Go.X.Try
set_option maxRecDepth 100000
set_option linter.unusedSimpArgs false
namespace Go.X.Try
open Go.IntWalk
theorem RI_eq_RM (k : Int) (a b c d : Nat) (t : List Int) : RI k a b c d t = RM ⟨k, a, b, c, d, t⟩ := by
  unfold RI RM
  rw [decide_eq_decide]
  simp only [Int.toNat_natCast]
  constructor
  · rintro ⟨_, _, _, h1, h2⟩; exact ⟨h1, h2⟩
  · rintro ⟨h1, h2⟩; exact ⟨by omega, by omega, by omega, h1, h2⟩
theorem RI_neg {k a b c : Int} {d : Nat} {t : List Int} (h : a < 0 ∨ b < 0 ∨ c < 0) : RI k a b c d t = false := decide_eq_false (fun ⟨h1, h2, h3, _⟩ => by omega)
theorem f44 (k a b c : Int) (d : Nat) (t : List Int) (ha : a < 2 ^ 63) (hb : b < 2 ^ 63) (hc : c < 2 ^ 63) (hd : d < 2 ^ 64) (hB : isB t) (hl : t.length ≤ 140737488351232) : F44 [ag6 k a b c d t] [] = some (.one (.bool (RI k a b c d t)), []) := by
  by_cases h1 : a < 0
  · rw [RI_neg (.inl h1)]
    simp -implicitDefEqProofs [F44, c44, upd, ag6, h1]
  · by_cases h2 : b < 0
    · rw [RI_neg (.inr (.inl h2))]
      simp -implicitDefEqProofs [F44, c44, upd, ag6, h1, h2]
    · by_cases h3 : c < 0
      · rw [RI_neg (.inr (.inr h3))]
        simp -implicitDefEqProofs [F44, c44, upd, ag6, h1, h2, h3]
      · obtain ⟨a', rfl⟩ : ∃ n : Nat, a = n := ⟨a.toNat, by omega⟩
        obtain ⟨b', rfl⟩ : ∃ n : Nat, b = n := ⟨b.toNat, by omega⟩
        obtain ⟨c', rfl⟩ : ∃ n : Nat, c = n := ⟨c.toNat, by omega⟩
        rw [RI_eq_RM]
        exact f44m ⟨k, a', b', c', d, t⟩ (by simp only; omega) (by simp only; omega) (by simp only; omega) hd hB hl
def tupFI (k : Int) (s : ByteArray) (e : Int) : AV := .tup [.agg [.int .i64 k, .str s], .one (.int .i64 e)]
theorem f23 (k a b c : Int) (d : Nat) (t : List Int) (ha : a < 2 ^ 63) (hb : b < 2 ^ 63) (hc : c < 2 ^ 63) (hd : d < 2 ^ 64) (hB : isB t) (hl : t.length ≤ 140737488351232) :
    F23 [ag6 k a b c d t] [] = some (if RI k a b c d t = true then tupFI k (ofBytes (mput ⟨k, a.toNat, b.toNat, c.toNat, d, t⟩)) 0 else tupFI 0 ⟨#[]⟩ 3, []) := by
  have e44 := f44 k a b c d t ha hb hc hd hB hl
  cases hR : RI k a b c d t with
  | false =>
    rw [hR] at e44
    simp only [ag6] at e44 ⊢
    simp -implicitDefEqProofs [F23, c23, upd, e44, tupFI]
  | true =>
    obtain ⟨p1, p2, p3, _⟩ := RI_nn hR
    have hk : 1 ≤ k ∧ k ≤ 10 := by
      have := (of_decide_eq_true hR).2.2.2.1
      unfold mR0 at this
      simp only at this
      omega
    have e63 := f63 ⟨k, a.toNat, b.toNat, c.toNat, d, t⟩ hk (by simp only; omega) (by simp only; omega) (by simp only; omega) hd hB hl
    simp only [mAg] at e63
    rw [show ((a.toNat : Nat) : Int) = a by omega, show ((b.toNat : Nat) : Int) = b by omega, show ((c.toNat : Nat) : Int) = c by omega] at e63
    rw [hR] at e44
    simp only [ag6, tupSB] at e44 e63 ⊢
    simp -implicitDefEqProofs [F23, c23, upd, e44, e63, tupFI]
theorem f23m {m : Msg} (h : RM m = true) (hB : isB m.data) : F23 [mAg m] [] = some (tupFI m.kind (ofBytes (mput m)) 0, []) := by
  obtain ⟨k, a, b, c, d, t⟩ := m
  have h1 := (of_decide_eq_true h).1
  have hd : d < 2 ^ 64 ∧ t.length ≤ 600 ∧ a ≤ 400 ∧ b ≤ 1073741824 ∧ c ≤ 1048576 := by
    unfold mR0 at h1
    simp only at h1
    rcases h1 with ⟨_, h1, h2, h3, h4, h5⟩ | ⟨_, h1, h2, h3, h4, h5⟩ | ⟨_, h1, h2, h3, h4, h5⟩ | ⟨_, h1, h2, h3, h4, h5⟩ | ⟨_, h1, h2, h3, h4, h5⟩ | ⟨_, h1, h2, h3, h4, h5⟩ | ⟨_, h1, h2, h3, h4, h5⟩ | ⟨_, h1, h2, h3, h4, h5⟩
    all_goals first
      | (subst h5; simp only [List.length_nil]; omega)
      | omega
  have e := f23 k a b c d t (by omega) (by omega) (by omega) hd.1 hB (by omega)
  rw [RI_eq_RM, if_pos h] at e
  simp only [Int.toNat_natCast] at e
  exact e
theorem f76 (v : Nat) (hv : v < 2 ^ 63) : F76 [.one (.int .i64 v)] [] = some (.one (.str (ofBytes (grp v))), []) := by
  have e := f80 v (by omega)
  have w : IntKind.u64.wrap (v : Int) = v := u64_in _ (by omega)
  simp -implicitDefEqProofs [F76, c76, upd, e, w]
/-- A frame's bytes. -/
def frA (k : Int) (l : List Int) : List Int := fixB k.toNat 1 ++ fixB l.length 2 ++ l
def frB (k : Int) (l : List Int) : List Int := frA k l ++ fixB (sumL (frA k l)).toNat 8
theorem frA_length (k : Int) (l : List Int) : (frA k l).length = l.length + 3 := by
  unfold frA; rw [List.length_append, List.length_append, fixB_length, fixB_length]; omega
theorem frB_length (k : Int) (l : List Int) : (frB k l).length = l.length + 11 := by
  unfold frB; rw [List.length_append, frA_length, fixB_length]
theorem frA_isB {k : Int} {l : List Int} (h : isB l) : isB (frA k l) := isB_append (isB_append (fixB_isB _ _) (fixB_isB _ _)) h
theorem frB_isB {k : Int} {l : List Int} (h : isB l) : isB (frB k l) := isB_append (frA_isB h) (fixB_isB _ _)
theorem f65 (k : Int) : F65 [.one (.int .i64 k)] [] = some (.one (.bool (decide (1 ≤ k ∧ k ≤ 10))), []) := by
  by_cases h1 : 1 ≤ k
  · by_cases h2 : k ≤ 10 <;> simp -implicitDefEqProofs [F65, c65, upd, h1, h2]
  · simp -implicitDefEqProofs [F65, c65, upd, h1]
theorem f27k (k : Int) (s : ByteArray) (h : ¬ (1 ≤ k ∧ k ≤ 10)) : F27 [.agg [.int .i64 k, .str s]] [] = some (tupSI ⟨#[]⟩ 6, []) := by
  have e65 := f65 k
  rw [decide_eq_false h] at e65
  simp -implicitDefEqProofs [F27, c27, upd, e65, tupSI]
theorem f27l (k : Int) (s : ByteArray) (h : 1 ≤ k ∧ k ≤ 10) (hs : 900 < s.size) : F27 [.agg [.int .i64 k, .str s]] [] = some (tupSI ⟨#[]⟩ 5, []) := by
  have e65 := f65 k
  rw [decide_eq_true h] at e65
  have hsi : (900 : Int) < s.size := by omega
  simp -implicitDefEqProofs [F27, c27, upd, e65, hs, hsi, tupSI]
theorem f27 (k : Int) (s : ByteArray) (h : 1 ≤ k ∧ k ≤ 10) (hs : s.size ≤ 900) : F27 [.agg [.int .i64 k, .str s]] [] = some (tupSI (ofBytes (frB k (toBytes s))) 0, []) := by
  have e65 := f65 k
  rw [decide_eq_true h] at e65
  have hsi : ¬ (900 : Int) < s.size := by omega
  have hsn : ¬ 900 < s.size := by omega
  have hlen := size_toBytes s
  obtain ⟨k', rfl⟩ : ∃ n : Nat, k = n := ⟨k.toNat, by omega⟩
  have wk : IntKind.u64.wrap (k' : Int) = k' := u64_in _ (by omega)
  have wl : IntKind.u64.wrap (s.size : Int) = s.size := u64_in _ (by omega)
  have z1 : sz 1 = 1 := by unfold sz; rfl
  have z2 : sz 2 = 2 := by unfold sz; rfl
  have z8 : sz 8 = 8 := by unfold sz; rfl
  have q1 := f47 k' 1 [] (by omega) (by simp)
  rw [z1, List.nil_append] at q1
  have q2 := f47 s.size 2 (fixB k' 1) (by omega) (by rw [fixB_length]; decide)
  rw [z2] at q2
  have q3 := f46 s (fixB k' 1 ++ fixB s.size 2) (by rw [List.length_append, fixB_length, fixB_length]; omega)
  have hA : fixB k' 1 ++ fixB s.size 2 ++ toBytes s = frA k' (toBytes s) := by unfold frA; rw [Int.toNat_natCast, hlen]
  rw [hA] at q3
  have hAl := frA_length k' (toBytes s)
  have q4 := f49 (frA k' (toBytes s))
  have q5 := f40 (ofBytes (frA k' (toBytes s))) (by rw [size_ofBytes]; omega)
  rw [toBytes_ofBytes (frA_isB (isB_toBytes s))] at q5
  have hr := sumL_range (frA k' (toBytes s))
  have q6 := f47 (sumL (frA k' (toBytes s))).toNat 8 (frA k' (toBytes s)) (by omega) (by omega)
  rw [z8, show (((sumL (frA k' (toBytes s))).toNat : Nat) : Int) = sumL (frA k' (toBytes s)) by omega] at q6
  have hBB : frA k' (toBytes s) ++ fixB (sumL (frA k' (toBytes s))).toNat 8 = frB k' (toBytes s) := rfl
  rw [hBB] at q6
  have q7 := f49 (frB k' (toBytes s))
  generalize frB (k' : Int) (toBytes s) = bb at *
  generalize frA (k' : Int) (toBytes s) = aa at *
  generalize sumL aa = m at *
  simp only [wHp] at q1 q2 q3 q4 q6 q7
  simp -implicitDefEqProofs [F27, c27, upd, e65, hsi, hsn, wk, wl, q1, q2, q3, q4, q5, q6, q7, tupSI]
theorem f29 (k : Int) (s : ByteArray) (h : 1 ≤ k ∧ k ≤ 10) (hs : s.size ≤ 900) : F29 [.agg [.int .i64 k, .str s]] [] = some (.one (.str (ofBytes (frB k (toBytes s)))), []) := by
  have hlen := size_toBytes s
  obtain ⟨k', rfl⟩ : ∃ n : Nat, k = n := ⟨k.toNat, by omega⟩
  have wk : IntKind.u8.wrap (k' : Int) = k' := u8_in _ (by omega)
  have wl : IntKind.u64.wrap (s.size : Int) = s.size := u64_in _ (by omega)
  have z2 : sz 2 = 2 := by unfold sz; rfl
  have z8 : sz 8 = 8 := by unfold sz; rfl
  have q2 := f56 s.size 2 (by omega)
  rw [z2] at q2
  have hk1 : fixB k' 1 = [(k' : Int)] := by
    unfold fixB fixB
    rw [Nat.mod_eq_of_lt (by omega)]
  have a1 := ofBytes_append [(k' : Int)] (fixB s.size 2)
  have a2 := ofBytes_append ([(k' : Int)] ++ fixB s.size 2) (toBytes s)
  rw [ofBytes_toBytes] at a2
  have hA : [(k' : Int)] ++ fixB s.size 2 ++ toBytes s = frA k' (toBytes s) := by unfold frA; rw [Int.toNat_natCast, hlen, hk1]
  rw [hA] at a2
  have hAl := frA_length k' (toBytes s)
  have m1 : (ofBytes [(k' : Int)]).size + (ofBytes (fixB s.size 2)).size ≤ 9223372036854775807 := by rw [size_ofBytes, size_ofBytes, fixB_length]; simp only [List.length_cons, List.length_nil]; omega
  have m2 : (ofBytes ([(k' : Int)] ++ fixB s.size 2)).size + s.size ≤ 9223372036854775807 := by rw [size_ofBytes, List.length_append, fixB_length]; simp only [List.length_cons, List.length_nil]; omega
  have q5 := e18' (ofBytes (frA k' (toBytes s))) (by rw [size_ofBytes]; omega)
  rw [toBytes_ofBytes (frA_isB (isB_toBytes s))] at q5
  have hr := sumL_range (frA k' (toBytes s))
  have q6 := f56 (sumL (frA k' (toBytes s))).toNat 8 (by omega)
  rw [z8, show (((sumL (frA k' (toBytes s))).toNat : Nat) : Int) = sumL (frA k' (toBytes s)) by omega] at q6
  have a3 := ofBytes_append (frA k' (toBytes s)) (fixB (sumL (frA k' (toBytes s))).toNat 8)
  have hBB : frA k' (toBytes s) ++ fixB (sumL (frA k' (toBytes s))).toNat 8 = frB k' (toBytes s) := rfl
  rw [hBB] at a3
  have m3 : (ofBytes (frA k' (toBytes s))).size + (ofBytes (fixB (sumL (frA k' (toBytes s))).toNat 8)).size ≤ 9223372036854775807 := by rw [size_ofBytes, size_ofBytes, fixB_length]; omega
  generalize frB (k' : Int) (toBytes s) = bb at *
  generalize hx : [(k' : Int)] ++ fixB s.size 2 = xx at *
  generalize fixB s.size 2 = f2 at *
  generalize frA (k' : Int) (toBytes s) = aa at *
  generalize fixB (sumL aa).toNat 8 = f8 at *
  generalize sumL aa = m at *
  simp -implicitDefEqProofs [F29, c29, upd, wk, wl, q2, q5, q6, a1, a2, a3, m1, m2, m3, RC.ofElems]
end Go.X.Try
set_option maxRecDepth 100000
set_option linter.unusedSimpArgs false
namespace Go.X.Try
open Go.IntWalk
theorem body38 (s : ByteArray) (i : Nat) (b most h n : Int) (sf sc : Option (Nat × Nat)) (X Y : List (List Sc)) (hi : i < s.size) (hs : s.size < 10000) (hb : (toBytes s)[i]? = some b) (hl : (cont Y sc).length ≤ 10000) :
    ∃ st1, evC T38 KK b38x0 (canon30 s i most sf sc X Y h n) = some (.norm, st1) ∧ St.head [0, 1, 16, 17] st1 = canon30 s (i + 1 : Nat) most sf none X (cont Y sc ++ [recI b]) h n := by
  have hr := toBytes_range s i b hb
  have hc : (i : Int) < s.size := by omega
  have hg : (toBytes s)[i]?.getD 0 = b := by rw [hb]; rfl
  have w2 : IntKind.i64.wrap ((i : Int) + 1) = (i : Int) + 1 := i64_in _ (by omega)
  have hm : ((cont Y sc).length + 1) * 24 ≤ 140737488355328 := by omega
  cases sc with
  | none =>
    simp only [cont] at hm ⊢
    cases sf <;> simp -implicitDefEqProofs [b38x0, canon30, pipeHp, pipeCells, slv, upd, hc, hi, hg, w2, hm, RC.len, RC.size, RC.app, RC.ofElems, recI]
  | some p =>
    obtain ⟨o, m⟩ := p
    simp only [cont, List.length_take, List.length_drop] at hm ⊢
    cases sf <;> simp -implicitDefEqProofs [b38x0, canon30, pipeHp, pipeCells, slv, upd, hc, hi, hg, w2, hm, RC.len, RC.size, RC.app, RC.ofElems, RC.cut, recI]
theorem end38 (s : ByteArray) (i : Nat) (most h n : Int) (sf sc : Option (Nat × Nat)) (X Y : List (List Sc)) (hi : s.size = i) :
    ∃ env, evC T38 KK b38x0 (canon30 s i most sf sc X Y h n) = some (.exit 0, ⟨env, [.ptr 0 0, .str s], pipeHp (some 0) most sf sc X Y h n⟩) := by
  simp -implicitDefEqProofs [b38x0, canon30, pipeHp, pipeCells, hi]
theorem loop38 (s : ByteArray) (hs : s.size < 10000) : ∀ (j i : Nat) (most h n : Int) (sf sc : Option (Nat × Nat)) (X Y : List (List Sc)) (k : Nat), i + j = s.size → (cont Y sc).length + j ≤ 10000 → okv Y sc → j < k →
    ∃ env sc' Y', loopH (evC T38 KK b38x0) [0, 1, 16, 17] k (canon30 s i most sf sc X Y h n) = some (.exit 0, ⟨env, [.ptr 0 0, .str s], pipeHp (some 0) most sf sc' X Y' h n⟩) ∧ cont Y' sc' = cont Y sc ++ ((toBytes s).drop i).map recI ∧ okv Y' sc'
  | 0, i, most, h, n, sf, sc, X, Y, k, hi, hl, hok, hk => by
    obtain ⟨env, e⟩ := end38 s i most h n sf sc X Y (by omega)
    rw [drop_end (by omega : s.size ≤ i)]
    exact ⟨env, sc, Y, loopH_exit e, by simp, hok⟩
  | j + 1, i, most, h, n, sf, sc, X, Y, k, hi, hl, hok, hk => by
    obtain ⟨b, hb, hd⟩ := drop_cons (by omega : i < s.size)
    obtain ⟨st1, e1, e2⟩ := body38 s i b most h n sf sc X Y (by omega) hs hb (by omega)
    obtain ⟨env, sf', X', p, q, r⟩ := loop38 s hs j (i + 1) most h n sf none X (cont Y sc ++ [recI b]) (k - 1) (by omega) (by simp only [cont, List.length_append, List.length_cons, List.length_nil] at hl ⊢; omega) trivial (by omega)
    refine ⟨env, sf', X', ?_, ?_, r⟩
    · rw [loopH_norm e1 (by omega), e2]; exact p
    · rw [q, hd]; simp [cont]
theorem f38 (s : ByteArray) (most h n : Int) (sf sc : Option (Nat × Nat)) (X Y : List (List Sc)) (hw : 0 ≤ most ∧ most ≤ 2048) (h1 : slen X sf ≤ 4000) (h2 : slen Y sc ≤ 4000) (hok : okv Y sc) (hf : (s.size : Int) ≤ most - slen X sf - slen Y sc) :
    ∃ sc' Y', F38 [.one (.ptr 0 0), .one (.str s)] (pipeHp (some 0) most sf sc X Y h n) = some (.one (.bool true), pipeHp (some 0) most sf sc' X Y' h n) ∧ cont Y' sc' = cont Y sc ++ (toBytes s).map recI ∧ okv Y' sc' := by
  have hlen := cont_len Y sc hok
  have e66 := f66 most h n sf sc X Y hw h1 h2
  have hf' : ¬ (most - slen X sf - slen Y sc < (s.size : Int)) := by omega
  obtain ⟨env, sf', X', p, q, r⟩ := loop38 s (by omega) s.size 0 most h n sf sc X Y KK (by omega) (by omega) hok (by rw [KK_eq]; omega)
  have z : ((0 : Nat) : Int) = 0 := rfl
  simp only [canon30, pipeHp, pipeCells, List.drop_zero, z] at p q e66
  refine ⟨sf', X', ?_, q, r⟩
  generalize slen X sf = lx at *
  generalize slen Y sc = ly at *
  cases sf <;> cases sc <;> cases sf' <;> simp only [slv] at p e66 <;> simp -implicitDefEqProofs [F38, c38, upd, pipeHp, pipeCells, slv, e66, hf', p]
theorem f38' (s : ByteArray) (most h n : Int) (sf sc : Option (Nat × Nat)) (X Y : List (List Sc)) (hw : 0 ≤ most ∧ most ≤ 2048) (h1 : slen X sf ≤ 4000) (h2 : slen Y sc ≤ 4000) (hf : most - slen X sf - slen Y sc < (s.size : Int)) :
    F38 [.one (.ptr 0 0), .one (.str s)] (pipeHp (some 0) most sf sc X Y h n) = some (.one (.bool false), pipeHp (some 0) most sf sc X Y h n) := by
  have e66 := f66 most h n sf sc X Y hw h1 h2
  simp only [pipeHp, pipeCells] at e66
  generalize slen X sf = lx at *
  generalize slen Y sc = ly at *
  cases sf <;> cases sc <;> simp only [slv] at e66 <;> simp -implicitDefEqProofs [F38, c38, upd, pipeHp, pipeCells, slv, e66, hf]
theorem f39 (most h n : Int) (sf sc : Option (Nat × Nat)) (X Y : List (List Sc)) (hok : okv Y sc) (hl : slen Y sc ≤ 4000) (B : List (List Sc)) (x0 x1 : Int) (x2 : Bool) (hb : cont Y sc = [.int .u8 x0, .int .u64 x1, .bool x2] :: B) :
    ∃ sc' Y', F39 [.one (.ptr 0 0)] (pipeHp (some 0) most sf sc X Y h n) = some (.tup [.agg [.int .u8 x0, .int .u64 x1, .bool x2], .one (.bool true)], pipeHp (some 0) most sf sc' X Y' h n) ∧ cont Y' sc' = B ∧ okv Y' sc' := by
  have e72 := f72 most h n sf sc X Y
  have hlen := cont_len Y sc hok
  rw [hb] at hlen
  simp only [List.length_cons] at hlen
  rw [← hlen] at e72
  cases sc with
  | none =>
    simp only [cont] at hb
    subst hb
    refine ⟨some (1, B.length), [.int .u8 x0, .int .u64 x1, .bool x2] :: B, ?_, ?_, ?_⟩
    · have z : ¬ ((B.length : Int) + 1 = 0) := by omega
      have z1 : (0 : Int) < (B.length : Int) + 1 := by omega
      have z2 : (1 : Int) ≤ (B.length : Int) + 1 := by omega
      simp only [pipeHp, pipeCells] at e72
      cases sf <;> simp only [slv] at e72 <;> simp -implicitDefEqProofs [F39, c39, upd, pipeHp, pipeCells, slv, e72, RC.len, RC.size, RC.elem, takeE, z, z1, z2]
    · simp [cont]
    · simp [okv]; omega
  | some p =>
    obtain ⟨o, m⟩ := p
    simp only [slen] at hlen
    subst hlen
    simp only [cont] at hb
    simp only [okv] at hok
    have hx : Y[o]? = some [.int .u8 x0, .int .u64 x1, .bool x2] := by
      have := congrArg (fun l => l[0]?) hb
      simpa [List.getElem?_take, List.getElem?_drop] using this
    have hx2 : Y[o]?.getD [] = [.int .u8 x0, .int .u64 x1, .bool x2] := by rw [hx]; rfl
    obtain ⟨hlt, hx3⟩ := List.getElem?_eq_some_iff.1 hx
    refine ⟨some (o + 1, B.length), Y, ?_, ?_, ?_⟩
    · have z : ¬ ((B.length : Int) + 1 = 0) := by omega
      have z1 : (0 : Int) < (B.length : Int) + 1 := by omega
      have z2 : (1 : Int) ≤ (B.length : Int) + 1 := by omega
      simp only [pipeHp, pipeCells] at e72
      cases sf <;> simp only [slv] at e72 <;> simp -implicitDefEqProofs [F39, c39, upd, pipeHp, pipeCells, slv, e72, RC.len, RC.size, RC.elem, takeE, z, z1, z2, hx2]
    · simp only [cont]
      have := congrArg (fun l => l.drop 1) hb
      simpa [List.drop_take, List.drop_drop, Nat.add_comm] using this
    · simp only [okv]; omega
theorem f39' (most h n : Int) (sf sc : Option (Nat × Nat)) (X Y : List (List Sc)) (hok : okv Y sc) (hb : cont Y sc = []) :
    F39 [.one (.ptr 0 0)] (pipeHp (some 0) most sf sc X Y h n) = some (.tup [.agg [.int .u8 0, .int .u64 0, .bool false], .one (.bool false)], pipeHp (some 0) most sf sc X Y h n) := by
  have e72 := f72 most h n sf sc X Y
  have hl := cont_len Y sc hok
  rw [hb] at hl
  rw [← hl] at e72
  simp only [pipeHp, pipeCells] at e72
  cases sf <;> cases sc <;> simp only [slv] at e72 <;> simp -implicitDefEqProofs [F39, c39, upd, pipeHp, pipeCells, slv, e72]
end Go.X.Try
set_option maxRecDepth 100000
set_option linter.unusedSimpArgs false
namespace Go.X.Try
open Go.IntWalk
theorem f31z (most h n d : Int) (sf sc : Option (Nat × Nat)) (X Y : List (List Sc)) (h1 : slen X sf ≤ 4000) (h2 : slen Y sc ≤ 4000) (hok : okv X sf) (hok2 : okv Y sc) (v : Nat) (hv : v = if d < 0 then 0 else if d < slen X sf then d.toNat else slen X sf) (hz : v = 0) :
    ∃ sf' sc' X' Y', F31 [.one (.ptr 0 0), .one (.int .i64 d)] (pipeHp (some 0) most sf sc X Y h n) = some (.one (.int .i64 v), pipeHp (some 0) most sf' sc' X' Y' h n) ∧ cont X' sf' = (cont X sf).drop v ∧ okv X' sf' ∧ cont Y' sc' = cont Y sc ++ (cont X sf).take v ∧ okv Y' sc' := by
  have e69 := f69 most h n sf sc X Y
  have hlx := cont_len X sf hok
  have hly := cont_len Y sc hok2
  refine ⟨sf, sc, X, Y, ?_, by simp [hz], hok, by simp [hz], hok2⟩
  simp only [pipeHp, pipeCells] at e69
  generalize slen X sf = lx at *
  by_cases a : d < 0
  · have b : ¬ ((lx : Int) < 0) := by omega
    cases sf <;> cases sc <;> simp only [slv] at e69 <;> simp -implicitDefEqProofs [F31, c31, upd, pipeHp, pipeCells, slv, e69, hz, a, b]
  · simp only [a, if_false] at hv
    by_cases c : d < lx
    · simp only [c, if_true] at hv
      have hd : d = 0 := by omega
      subst hd
      have b : ¬ ((lx : Int) < 0) := by omega
      cases sf <;> cases sc <;> simp only [slv] at e69 <;> simp -implicitDefEqProofs [F31, c31, upd, pipeHp, pipeCells, slv, e69, hz, b]
    · simp only [c, if_false] at hv
      have b : lx = 0 := by omega
      subst b
      by_cases g : 0 < d
      · cases sf <;> cases sc <;> simp only [slv] at e69 <;> simp -implicitDefEqProofs [F31, c31, upd, pipeHp, pipeCells, slv, e69, hz, a, g]
      · have hd : d = 0 := by omega
        subst hd
        cases sf <;> cases sc <;> simp only [slv] at e69 <;> simp -implicitDefEqProofs [F31, c31, upd, pipeHp, pipeCells, slv, e69, hz]
theorem f31d (most h n d : Int) (sf sc : Option (Nat × Nat)) (X Y : List (List Sc)) (h1 : slen X sf ≤ 4000) (h2 : slen Y sc ≤ 4000) (hok : okv X sf) (hok2 : okv Y sc) (v : Nat) (hv0 : 0 < v) (hle : v ≤ slen X sf) (hd : d = v) :
    ∃ sf' sc' X' Y', F31 [.one (.ptr 0 0), .one (.int .i64 d)] (pipeHp (some 0) most sf sc X Y h n) = some (.one (.int .i64 v), pipeHp (some 0) most sf' sc' X' Y' h n) ∧ cont X' sf' = (cont X sf).drop v ∧ okv X' sf' ∧ cont Y' sc' = cont Y sc ++ (cont X sf).take v ∧ okv Y' sc' := by
  have e69 := f69 most h n sf sc X Y
  have hlx := cont_len X sf hok
  have hly := cont_len Y sc hok2
  subst hd
  have ng : ¬ ((slen X sf : Int) < (v : Int)) := by omega
  have hp0 : (0 : Int) < v := by omega
  have nn : ¬ ((v : Int) < 0) := by omega
  simp only [pipeHp, pipeCells] at e69
  cases sf with
  | none =>
    simp only [slen, slv] at e69 hle h1 ng
    have hr : X.length - v + v = X.length := by omega
    cases sc with
    | none =>
      simp only [slen] at h2
      have hm : (Y.length + v) * 24 ≤ 140737488355328 := by omega
      refine ⟨some (v, X.length - v), none, X, Y ++ X.take v, ?_, ?_, ?_, ?_, trivial⟩
      · simp only [slv] at e69
        simp -implicitDefEqProofs [F31, c31, upd, pipeHp, pipeCells, slv, e69, nn, ng, hv0, hp0, hle, hm, RC.len, RC.size, RC.app, RC.cut]
      · simp [cont, List.take_of_length_le]
      · simp only [okv]; omega
      · simp [cont]
    | some p =>
      obtain ⟨o, m⟩ := p
      simp only [slen, okv] at h2 hok2
      have hm : (min m (Y.length - o) + v) * 24 ≤ 140737488355328 := by omega
      refine ⟨some (v, X.length - v), none, X, (Y.drop o).take m ++ X.take v, ?_, ?_, ?_, ?_, trivial⟩
      · simp only [slv] at e69
        simp -implicitDefEqProofs [F31, c31, upd, pipeHp, pipeCells, slv, e69, nn, ng, hv0, hp0, hle, hm, RC.len, RC.size, RC.app, RC.cut]
      · simp [cont, List.take_of_length_le]
      · simp only [okv]; omega
      · simp [cont]
  | some q =>
    obtain ⟨o1, m1⟩ := q
    simp only [slen, slv, okv] at e69 hle h1 hok ng
    have hcut : ((X.drop o1).take m1).drop v = (X.drop (o1 + v)).take (m1 - v) := by rw [List.drop_take, List.drop_drop]
    have hcut2 : ((X.drop o1).take m1).take v = (X.drop o1).take v := by rw [List.take_take]; congr 1; omega
    have hm1 : min v (X.length - o1) = v := by omega
    cases sc with
    | none =>
      simp only [slen] at h2
      have hm : (Y.length + v) * 24 ≤ 140737488355328 := by omega
      refine ⟨some (o1 + v, m1 - v), none, X, Y ++ (X.drop o1).take v, ?_, ?_, ?_, ?_, trivial⟩
      · simp only [slv] at e69
        simp -implicitDefEqProofs [F31, c31, upd, pipeHp, pipeCells, slv, e69, nn, ng, hv0, hp0, hle, hm, RC.len, RC.size, RC.app, RC.cut, hm1]
      · simp only [cont, hcut]
      · simp only [okv]; omega
      · simp only [cont, hcut2]
    | some p =>
      obtain ⟨o, m⟩ := p
      simp only [slen, okv] at h2 hok2
      have hm : (min m (Y.length - o) + v) * 24 ≤ 140737488355328 := by omega
      refine ⟨some (o1 + v, m1 - v), none, X, (Y.drop o).take m ++ (X.drop o1).take v, ?_, ?_, ?_, ?_, trivial⟩
      · simp only [slv] at e69
        simp -implicitDefEqProofs [F31, c31, upd, pipeHp, pipeCells, slv, e69, nn, ng, hv0, hp0, hle, hm, RC.len, RC.size, RC.app, RC.cut, hm1]
      · simp only [cont, hcut]
      · simp only [okv]; omega
      · simp only [cont, hcut2]
theorem f31g (most h n d : Int) (sf sc : Option (Nat × Nat)) (X Y : List (List Sc)) (h1 : slen X sf ≤ 4000) (h2 : slen Y sc ≤ 4000) (hok : okv X sf) (hok2 : okv Y sc) (v : Nat) (hv0 : 0 < v) (hle : v = slen X sf) (hd : (v : Int) < d) :
    ∃ sf' sc' X' Y', F31 [.one (.ptr 0 0), .one (.int .i64 d)] (pipeHp (some 0) most sf sc X Y h n) = some (.one (.int .i64 v), pipeHp (some 0) most sf' sc' X' Y' h n) ∧ cont X' sf' = (cont X sf).drop v ∧ okv X' sf' ∧ cont Y' sc' = cont Y sc ++ (cont X sf).take v ∧ okv Y' sc' := by
  have e69 := f69 most h n sf sc X Y
  have hlx := cont_len X sf hok
  have hly := cont_len Y sc hok2
  have a : ¬ d < 0 := by omega
  rw [hle] at hd
  have ng : (slen X sf : Int) < d := hd
  rw [← hle] at e69 ng
  replace hle : v ≤ slen X sf := by omega
  have hp0 : (0 : Int) < v := by omega
  have nn : ¬ ((v : Int) < 0) := by omega
  simp only [pipeHp, pipeCells] at e69
  cases sf with
  | none =>
    simp only [slen, slv] at e69 hle h1
    have hr : X.length - v + v = X.length := by omega
    cases sc with
    | none =>
      simp only [slen] at h2
      have hm : (Y.length + v) * 24 ≤ 140737488355328 := by omega
      refine ⟨some (v, X.length - v), none, X, Y ++ X.take v, ?_, ?_, ?_, ?_, trivial⟩
      · simp only [slv] at e69
        simp -implicitDefEqProofs [F31, c31, upd, pipeHp, pipeCells, slv, e69, a, ng, hv0, hp0, hle, hm, RC.len, RC.size, RC.app, RC.cut]
      · simp [cont, List.take_of_length_le]
      · simp only [okv]; omega
      · simp [cont]
    | some p =>
      obtain ⟨o, m⟩ := p
      simp only [slen, okv] at h2 hok2
      have hm : (min m (Y.length - o) + v) * 24 ≤ 140737488355328 := by omega
      refine ⟨some (v, X.length - v), none, X, (Y.drop o).take m ++ X.take v, ?_, ?_, ?_, ?_, trivial⟩
      · simp only [slv] at e69
        simp -implicitDefEqProofs [F31, c31, upd, pipeHp, pipeCells, slv, e69, a, ng, hv0, hp0, hle, hm, RC.len, RC.size, RC.app, RC.cut]
      · simp [cont, List.take_of_length_le]
      · simp only [okv]; omega
      · simp [cont]
  | some q =>
    obtain ⟨o1, m1⟩ := q
    simp only [slen, slv, okv] at e69 hle h1 hok
    have hcut : ((X.drop o1).take m1).drop v = (X.drop (o1 + v)).take (m1 - v) := by rw [List.drop_take, List.drop_drop]
    have hcut2 : ((X.drop o1).take m1).take v = (X.drop o1).take v := by rw [List.take_take]; congr 1; omega
    have hm1 : min v (X.length - o1) = v := by omega
    cases sc with
    | none =>
      simp only [slen] at h2
      have hm : (Y.length + v) * 24 ≤ 140737488355328 := by omega
      refine ⟨some (o1 + v, m1 - v), none, X, Y ++ (X.drop o1).take v, ?_, ?_, ?_, ?_, trivial⟩
      · simp only [slv] at e69
        simp -implicitDefEqProofs [F31, c31, upd, pipeHp, pipeCells, slv, e69, a, ng, hv0, hp0, hle, hm, RC.len, RC.size, RC.app, RC.cut, hm1]
      · simp only [cont, hcut]
      · simp only [okv]; omega
      · simp only [cont, hcut2]
    | some p =>
      obtain ⟨o, m⟩ := p
      simp only [slen, okv] at h2 hok2
      have hm : (min m (Y.length - o) + v) * 24 ≤ 140737488355328 := by omega
      refine ⟨some (o1 + v, m1 - v), none, X, (Y.drop o).take m ++ (X.drop o1).take v, ?_, ?_, ?_, ?_, trivial⟩
      · simp only [slv] at e69
        simp -implicitDefEqProofs [F31, c31, upd, pipeHp, pipeCells, slv, e69, a, ng, hv0, hp0, hle, hm, RC.len, RC.size, RC.app, RC.cut, hm1]
      · simp only [cont, hcut]
      · simp only [okv]; omega
      · simp only [cont, hcut2]
theorem f31 (most h n d : Int) (sf sc : Option (Nat × Nat)) (X Y : List (List Sc)) (h1 : slen X sf ≤ 4000) (h2 : slen Y sc ≤ 4000) (hok : okv X sf) (hok2 : okv Y sc) (v : Nat) (hv : v = if d < 0 then 0 else if d < slen X sf then d.toNat else slen X sf) :
    ∃ sf' sc' X' Y', F31 [.one (.ptr 0 0), .one (.int .i64 d)] (pipeHp (some 0) most sf sc X Y h n) = some (.one (.int .i64 v), pipeHp (some 0) most sf' sc' X' Y' h n) ∧ cont X' sf' = (cont X sf).drop v ∧ okv X' sf' ∧ cont Y' sc' = cont Y sc ++ (cont X sf).take v ∧ okv Y' sc' := by
  by_cases hz : v = 0
  · exact f31z most h n d sf sc X Y h1 h2 hok hok2 v hv hz
  · have a : ¬ d < 0 := fun c => hz (by simp only [c, if_true] at hv; exact hv)
    simp only [a, if_false] at hv
    by_cases c : d < slen X sf
    · simp only [c, if_true] at hv
      exact f31d most h n d sf sc X Y h1 h2 hok hok2 v (by omega) (by omega) (by omega)
    · simp only [c, if_false] at hv
      by_cases e : d = v
      · exact f31d most h n d sf sc X Y h1 h2 hok hok2 v (by omega) (by omega) e
      · exact f31g most h n d sf sc X Y h1 h2 hok hok2 v (by omega) hv (by omega)
end Go.X.Try
set_option maxRecDepth 100000
set_option linter.unusedSimpArgs false
namespace Go.X.Try
open Go.IntWalk
theorem f25' (m : Int) : F25 [.one (.int .i64 m)] [] = some (.one (.ptr 0 0), pipeHp none (if (if m < 1 then 1 else m) > 2048 then 2048 else (if m < 1 then 1 else m)) none none [] [] 7640891576956012808 0) := f25 m
theorem cont_none (X : List (List Sc)) : cont X none = X := rfl
end Go.X.Try
set_option maxRecDepth 100000
set_option linter.unusedSimpArgs false
set_option linter.unusedVariables false
namespace Go.X.Try
open Go.IntWalk
/-! ### a cutter -/
def cutHp (g : Option Nat) (B : List Int) (h n e m : Int) : List Ob := [.cells g [.row 1, .int .u64 h, .int .u64 n, .int .i64 e, .int .i64 m], .rows (.ints .u8 B)]
theorem f26 : F26 [] [] = some (.one (.ptr 0 0), cutHp none [] 7640891576956012808 0 0 0) := by
  simp -implicitDefEqProofs [F26, c26, F64, c64, upd, cutHp]
theorem f36 (B : List Int) (h n e m : Int) : F36 [.one (.ptr 0 0)] (cutHp (some 0) B h n e m) = some (.one (.int .i64 m), cutHp (some 0) B h n e m) := by
  simp -implicitDefEqProofs [F36, c36, upd, cutHp]
theorem f37 (B : List Int) (h n e m : Int) : F37 [.one (.ptr 0 0)] (cutHp (some 0) B h n e m) = some (.one (.int .i64 e), cutHp (some 0) B h n e m) := by
  simp -implicitDefEqProofs [F37, c37, upd, cutHp]
/-- How long the frame that comes is, as far as it is known. -/
def szF : List Int → Nat
  | _ :: y :: z :: _ => 11 + y.toNat + 256 * z.toNat
  | _ => 11
def kd (x : Int) : Bool := decide (1 ≤ x ∧ x ≤ 10)
/-- What may be wrong with a frame's first bytes. -/
def ahd : List Int → Int
  | [x] => if kd x = true then 0 else 6
  | [x, y, z] => if 911 < szF [x, y, z] then 5 else 0
  | _ => 0
theorem f75 (B : List Int) (hB : isB B) : F75 [.one (.ro 0 (.ints .u8 B))] [] = some (.one (.int .i64 (szF B)), []) := by
  match B, hB with
  | [], _ => simp -implicitDefEqProofs [F75, c75, upd, RC.len, szF]
  | [x], _ => simp -implicitDefEqProofs [F75, c75, upd, RC.len, szF]
  | [x, y], _ => simp -implicitDefEqProofs [F75, c75, upd, RC.len, szF]
  | x :: y :: z :: r, hB =>
    have hy := hB y (by simp)
    have hz := hB z (by simp)
    have n1 : ¬ ((r.length + 1 + 1 + 1 : Nat) : Int) < 3 := by omega
    have n1' : ¬ (r.length : Int) + 1 + 1 + 1 < 3 := by omega
    have n2 : (1 : Int) < (r.length : Int) + 1 + 1 + 1 := by omega
    have n3 : (2 : Int) < (r.length : Int) + 1 + 1 + 1 := by omega
    have w1 : IntKind.i64.wrap y = y := i64_in _ (by omega)
    have w2 : IntKind.i64.wrap z = z := i64_in _ (by omega)
    have w3 : IntKind.i64.wrap (3 + y) = 3 + y := i64_in _ (by omega)
    have s1 : shlI .i64 z 8 = z * 256 := by
      have : shlI .i64 z 8 = IntKind.i64.wrap (z * 256) := rfl
      rw [this]; exact i64_in _ (by omega)
    have w4 : IntKind.i64.wrap (3 + y + z * 256) = 3 + y + z * 256 := i64_in _ (by omega)
    have w5 : IntKind.i64.wrap (3 + y + z * 256 + 8) = ((11 + y.toNat + 256 * z.toNat : Nat) : Int) := by rw [i64_in _ (by omega)]; omega
    simp -implicitDefEqProofs [F75, c75, upd, RC.len, RC.size, RC.get, szF, n1', n2, n3, w1, w2, w3, s1, w4, w5]
theorem f74 (B : List Int) (hB : isB B) : F74 [.one (.ro 0 (.ints .u8 B))] [] = some (.one (.int .i64 (ahd B)), []) := by
  have e75 := f75 B hB
  match B, hB, e75 with
  | [], _, e75 => simp -implicitDefEqProofs [F74, c74, upd, RC.len, ahd]
  | [x], hB, e75 =>
    have hx := hB x (by simp)
    have e65 := f65 x
    have w1 : IntKind.i64.wrap x = x := i64_in _ (by omega)
    cases hk : kd x with
    | true =>
      have hk' : decide (1 ≤ x ∧ x ≤ 10) = true := hk
      rw [hk'] at e65
      simp -implicitDefEqProofs [F74, c74, upd, RC.len, RC.size, RC.get, ahd, e65, hk, w1]
    | false =>
      have hk' : decide (1 ≤ x ∧ x ≤ 10) = false := hk
      rw [hk'] at e65
      simp -implicitDefEqProofs [F74, c74, upd, RC.len, RC.size, RC.get, ahd, e65, hk, w1]
  | [x, y], _, e75 => simp -implicitDefEqProofs [F74, c74, upd, RC.len, ahd]
  | [x, y, z], hB, e75 =>
    by_cases h : 911 < szF [x, y, z]
    · have hi : (911 : Int) < (szF [x, y, z] : Nat) := by omega
      have ea : ahd [x, y, z] = 5 := if_pos h
      rw [ea]
      generalize szF [x, y, z] = q at *
      simp -implicitDefEqProofs [F74, c74, upd, RC.len, e75, hi, h]
    · have hi : ¬ (911 : Int) < (szF [x, y, z] : Nat) := by omega
      have ea : ahd [x, y, z] = 0 := if_neg h
      rw [ea]
      generalize szF [x, y, z] = q at *
      simp -implicitDefEqProofs [F74, c74, upd, RC.len, e75, hi, h]
  | x :: y :: z :: w :: r, hB, e75 =>
    have n1 : ¬ (r.length : Int) + 1 + 1 + 1 + 1 = 1 := by omega
    have n2 : ¬ (r.length : Int) + 1 + 1 + 1 + 1 = 3 := by omega
    simp -implicitDefEqProofs [F74, c74, upd, RC.len, ahd, n1, n2]
/-- The frame of a frame's bytes. -/
def whl (B : List Int) : Option (Int × List Int) := if sumL (B.take (B.length - 8)) = ((leB (B.drop (B.length - 8)) : Nat) : Int) then some (B.getD 0 0, (B.take (B.length - 8)).drop 3) else none
def tupF2 (k : Int) (s : List Int) (e : Int) : AV := .tup [.agg [.int .i64 k, .str (ofBytes s)], .one (.int .i64 e)]
def whA (B : List Int) : AV := match whl B with
  | some f => tupF2 f.1 f.2 0
  | none => tupF2 0 [] 4
theorem first_of {B : List Int} (hB : isB B) (h : 0 < B.length) : ∃ x, B[0]? = some x ∧ B.getD 0 0 = x ∧ 0 ≤ x ∧ x < 256 := by
  cases B with
  | nil => simp at h
  | cons x r => exact ⟨x, rfl, rfl, hB x (by simp)⟩
theorem f71 (B : List Int) (hB : isB B) (h : 11 ≤ B.length) (h2 : B.length ≤ 9000) : F71 [.one (.ro 0 (.ints .u8 B))] [] = some (whA B, []) := by
  have w0 : IntKind.i64.wrap ((B.length : Int) - 8) = ((B.length - 8 : Nat) : Int) := by rw [i64_in _ (by omega)]; omega
  have hBt := isB_take (B.length - 8) hB
  have hBd := isB_drop (B.length - 8) hB
  have e50 := f50' hBd
  have z8 : sz 8 = 8 := by unfold sz; rfl
  have e52 := f52 (B.drop (B.length - 8)) 8 hBd (by rw [List.length_drop]; omega)
  have hd8 : (B.drop (B.length - 8)).length = 8 := by rw [List.length_drop]; omega
  rw [z8, rAns_nat, if_neg (by omega), List.take_of_length_le (by omega)] at e52
  have e40 := f40 (ofBytes (B.take (B.length - 8))) (by rw [size_ofBytes, List.length_take]; omega)
  rw [toBytes_ofBytes hBt] at e40
  unfold whA whl
  have hdr : B.drop (B.length - 8) = (B.drop (B.length - 8)).take (B.length - (B.length - 8)) := (List.take_of_length_le (by rw [List.length_drop]; omega)).symm
  have n1 : ((B.length - 8 : Nat) : Int) ≤ (B.length : Int) := by omega
  have n1n : B.length - 8 ≤ B.length := by omega
  have n3 : (3 : Int) ≤ ((B.length - 8 : Nat) : Int) := by omega
  have n3n : 3 ≤ B.length - 8 := by omega
  have n4 : (0 : Int) < (B.length : Int) := by omega
  have n4n : 0 < B.length := by omega
  obtain ⟨x, hx1, hx2, hx3⟩ := first_of hB n4n
  have hx1' : B[0]?.getD 0 = x := by rw [hx1]; rfl
  have wx : IntKind.i64.wrap x = x := i64_in _ (by omega)
  have ht3 : (B.take (B.length - 8)).drop 3 = (B.drop 3).take (B.length - 8 - 3) := by rw [List.drop_take]
  rw [hx2, ht3]
  have hx4 : ∀ hh, B[0]'hh = x := fun hh => by rw [List.getElem?_eq_getElem hh] at hx1; exact Option.some.inj hx1
  by_cases hs : sumL (B.take (B.length - 8)) = ((leB (B.drop (B.length - 8)) : Nat) : Int)
  · rw [if_pos hs]
    rw [hs] at e40
    simp only [rHp] at e52
    generalize leB (B.drop (B.length - 8)) = v at *
    rw [hdr] at e50 e52
    generalize hm : B.length - 8 = m at *
    simp -implicitDefEqProofs [F71, c71, upd, RC.len, RC.size, RC.cut, RC.get, RC.elem, takeE, w0, n1, n1n, n3, n3n, n4, n4n, e50, e52, e40, hx1', hx4, wx, tupF2]
  · rw [if_neg hs]
    simp only [rHp] at e52
    generalize sumL (B.take (B.length - 8)) = u at *
    generalize leB (B.drop (B.length - 8)) = v at *
    rw [hdr] at e50 e52
    generalize hm : B.length - 8 = m at *
    simp -implicitDefEqProofs [F71, c71, upd, RC.len, RC.size, RC.cut, RC.get, RC.elem, takeE, w0, n1, n1n, n3, n3n, n4, n4n, e50, e52, e40, hs, wx, tupF2, ofBytes_nil]
end Go.X.Try
set_option maxRecDepth 100000
set_option linter.unusedSimpArgs false
set_option linter.unusedVariables false
namespace Go.X.Try
open Go.IntWalk
theorem f70 (B : List Int) (h n e m b : Int) (hB : isB B) (hb : 0 ≤ b ∧ b < 256) (hl : B.length ≤ 90000) (hm : 0 ≤ m ∧ m < 2 ^ 62) :
    F70 [.one (.ptr 0 0), .one (.int .u8 b)] (cutHp (some 0) B h n e m) = some (.one (.bool (decide (ahd (B ++ [b]) = 0 ∧ (B ++ [b]).length = szF (B ++ [b])))), cutHp (some 0) (B ++ [b]) (sbyte (h, n) b).1 (sbyte (h, n) b).2 (ahd (B ++ [b])) (m + 1)) := by
  have hB' : isB (B ++ [b]) := isB_append hB (isB_one hb)
  have e67 := f67 h n b hb.1 hb.2
  have e74 := f74 (B ++ [b]) hB'
  have e75 := f75 (B ++ [b]) hB'
  have wm : IntKind.i64.wrap (m + 1) = m + 1 := i64_in _ (by omega)
  have hlen : (B ++ [b]).length = B.length + 1 := by simp
  have hk : B.length + 1 ≤ 140737488355328 := by omega
  rw [hlen]
  simp only [sbyte, cutHp]
  generalize hB2 : B ++ [b] = B' at *
  by_cases h0 : ahd B' = 0
  · rw [h0] at e74 ⊢
    by_cases h1 : B.length + 1 = szF B'
    · have h1i : (B.length : Int) + 1 = (szF B' : Nat) := by omega
      have hkq : szF B' ≤ 140737488355328 := by omega
      generalize szF B' = q at *
      simp -implicitDefEqProofs [hkq, F70, c70, upd, RC.ofElems, RC.app, RC.len, RC.size, hk, hB2, e67, e74, e75, wm, hlen, h1, h1i]
    · have h1i : ¬ (B.length : Int) + 1 = (szF B' : Nat) := by omega
      generalize szF B' = q at *
      simp -implicitDefEqProofs [F70, c70, upd, RC.ofElems, RC.app, RC.len, RC.size, hk, hB2, e67, e74, e75, wm, hlen, h1, h1i]
  · generalize ahd B' = a at *
    simp -implicitDefEqProofs [F70, c70, upd, RC.ofElems, RC.app, RC.len, RC.size, hk, hB2, e67, e74, wm, hlen, h0]
/-- What a cutter answers, and becomes. -/
structure Ct where
  B : List Int
  h : Int
  n : Int
  e : Int
  m : Int
def Ct.hp (g : Option Nat) (c : Ct) : List Ob := cutHp g c.B c.h c.n c.e c.m
def tupFd (k : Int) (s : List Int) (is : Bool) (e : Int) : AV := .tup [.agg [.int .i64 k, .str (ofBytes s)], .one (.bool is), .one (.int .i64 e)]
def feed (c : Ct) (b s : Int) (sl : Bool) : Ct × Option (Int × List Int) × Int :=
  if c.e = 0 then
    if ahd (c.B ++ [b]) = 0 ∧ (c.B ++ [b]).length = szF (c.B ++ [b]) then
      match whl (c.B ++ [b]) with
      | none => (⟨c.B ++ [b], (sbyte (c.h, c.n) b).1, (sbyte (c.h, c.n) b).2, 4, c.m + 1⟩, none, 4)
      | some f => if sl = true ∧ s = sfin (sbyte (c.h, c.n) b).1 (sbyte (c.h, c.n) b).2 then (⟨[], (sbyte (c.h, c.n) b).1, (sbyte (c.h, c.n) b).2, 0, c.m + 1⟩, some f, 0)
        else (⟨c.B ++ [b], (sbyte (c.h, c.n) b).1, (sbyte (c.h, c.n) b).2, 4, c.m + 1⟩, none, 4)
    else (⟨c.B ++ [b], (sbyte (c.h, c.n) b).1, (sbyte (c.h, c.n) b).2, ahd (c.B ++ [b]), c.m + 1⟩, none, ahd (c.B ++ [b]))
  else (c, none, c.e)
def fdA : Option (Int × List Int) × Int → AV
  | (some f, e) => tupFd f.1 f.2 true e
  | (none, e) => tupFd 0 [] false e
theorem szF_ge (B : List Int) : 11 ≤ szF B := by
  unfold szF
  split <;> omega
theorem f35 (c : Ct) (b s : Int) (sl : Bool) (hB : isB c.B) (hb : 0 ≤ b ∧ b < 256) (hl : c.B.length ≤ 8000) (hm : 0 ≤ c.m ∧ c.m < 2 ^ 62) :
    F35 [.one (.ptr 0 0), .agg [.int .u8 b, .int .u64 s, .bool sl]] (c.hp (some 0)) = some (fdA (feed c b s sl).2, (feed c b s sl).1.hp (some 0)) := by
  obtain ⟨B, h, n, e, m⟩ := c
  simp only at hB hl hm
  have e37 := f37 B h n e m
  unfold feed
  simp only [Ct.hp]
  by_cases he : e = 0
  · rw [if_pos he]
    subst he
    have e70 := f70 B h n 0 m b hB hb (by omega) hm
    have hB' : isB (B ++ [b]) := isB_append hB (isB_one hb)
    have hl' : (B ++ [b]).length ≤ 8001 := by rw [List.length_append]; simp only [List.length_cons, List.length_nil]; omega
    have e68 := f68 (sbyte (h, n) b).1 (sbyte (h, n) b).2
    generalize (sbyte (h, n) b).1 = h' at *
    generalize (sbyte (h, n) b).2 = n' at *
    generalize B ++ [b] = B' at *
    by_cases hw : ahd B' = 0 ∧ B'.length = szF B'
    · rw [if_pos hw]
      rw [decide_eq_true hw, hw.1] at e70
      have hge := szF_ge B'
      have e71 := f71 B' hB' (by omega) (by omega)
      unfold whA at e71
      cases hwh : whl B' with
      | none =>
        rw [hwh] at e71
        simp only [tupF2, ofBytes_nil] at e71
        simp only [cutHp] at e37 e70 ⊢
        simp -implicitDefEqProofs [F35, c35, upd, e37, e70, e71, fdA, tupFd, ofBytes_nil]
      | some f =>
        rw [hwh] at e71
        simp only [tupF2] at e71
        simp only [cutHp] at e37 e70 ⊢
        cases sl with
        | false => simp -implicitDefEqProofs [F35, c35, upd, e37, e70, e71, fdA, tupFd, ofBytes_nil]
        | true =>
          by_cases hs : s = sfin h' n'
          · simp -implicitDefEqProofs [F35, c35, upd, e37, e70, e71, e68, hs, fdA, tupFd, ofBytes_nil]
          · simp -implicitDefEqProofs [F35, c35, upd, e37, e70, e71, e68, hs, fdA, tupFd, ofBytes_nil]
    · rw [if_neg hw]
      rw [decide_eq_false hw] at e70
      generalize ahd B' = a at *
      simp only [cutHp] at e37 e70 ⊢
      simp -implicitDefEqProofs [F35, c35, upd, e37, e70, fdA, tupFd, ofBytes_nil]
  · rw [if_neg he]
    simp only [cutHp] at e37 ⊢
    simp -implicitDefEqProofs [F35, c35, upd, e37, he, fdA, tupFd, ofBytes_nil]
end Go.X.Try
set_option maxRecDepth 100000
set_option linter.unusedSimpArgs false
set_option linter.unusedVariables false
namespace Go.X.Try
open Go.IntWalk
/-- The frame at the beginning. -/
def frst (l : List Int) : Option (Int × List Int) × Nat × Int :=
  if l = [] then (none, 0, 0)
  else if kd (l.getD 0 0) = false then (none, 1, 6)
  else if l.length < 3 then (none, 0, 0)
  else if 911 < szF l then (none, 3, 5)
  else if l.length < szF l then (none, 0, 0)
  else match whl (l.take (szF l)) with
    | none => (none, szF l, 4)
    | some f => (some f, szF l, 0)
def tupFst (k : Int) (s : List Int) (n : Nat) (e : Int) : AV := .tup [.agg [.int .i64 k, .str (ofBytes s)], .one (.int .i64 n), .one (.int .i64 e)]
def fsA : Option (Int × List Int) × Nat × Int → AV
  | (some f, n, e) => tupFst f.1 f.2 n e
  | (none, n, e) => tupFst 0 [] n e
theorem f34 (l : List Int) (hB : isB l) (hl : l.length ≤ 8000) : F34 [.one (.str (ofBytes l))] [] = some (fsA (frst l), []) := by
  have e0 := emptyS l
  have e3 := size_ofBytes l
  have et := toBytes_ofBytes hB
  unfold frst
  by_cases h0 : l = []
  · rw [if_pos h0]
    subst h0
    simp -implicitDefEqProofs [F34, c34, upd, fsA, tupFst, ofBytes_nil]
  rw [if_neg h0]
  have hpos : 0 < l.length := List.length_pos_iff.2 h0
  have hposi : (0 : Int) < l.length := by omega
  obtain ⟨x, hx1, hx2, hx3⟩ := first_of hB hpos
  rw [hx2]
  have hx1' : l[0]?.getD 0 = x := by rw [hx1]; rfl
  have hx4 : ∀ hh, l[0]'hh = x := fun hh => by rw [List.getElem?_eq_getElem hh] at hx1; exact Option.some.inj hx1
  by_cases hk : kd x = false
  · rw [if_pos hk]
    by_cases hx : x < 1
    · simp -implicitDefEqProofs [F34, c34, upd, e0, e3, et, h0, hpos, hposi, hx1', hx4, hx, fsA, tupFst, ofBytes_nil]
    · have hx' : 10 < x := by
        have : ¬ (1 ≤ x ∧ x ≤ 10) := of_decide_eq_false hk
        omega
      simp -implicitDefEqProofs [F34, c34, upd, e0, e3, et, h0, hpos, hposi, hx1', hx4, hx, hx', fsA, tupFst, ofBytes_nil]
  rw [if_neg hk]
  have hkk : 1 ≤ x ∧ x ≤ 10 := by
    have : ¬ kd x = false := hk
    unfold kd at this
    rw [decide_eq_false_iff_not] at this
    omega
  have hxa : ¬ x < 1 := by omega
  have hxb : ¬ 10 < x := by omega
  by_cases h3 : l.length < 3
  · rw [if_pos h3]
    have h3i : (l.length : Int) < 3 := by omega
    simp -implicitDefEqProofs [F34, c34, upd, e0, e3, et, h0, hpos, hposi, hx1', hx4, hxa, hxb, h3, h3i, fsA, tupFst, ofBytes_nil]
  rw [if_neg h3]
  have h3i : ¬ (l.length : Int) < 3 := by omega
  have hp1 : 1 < l.length := by omega
  have hp1i : (1 : Int) < l.length := by omega
  have hp2 : 2 < l.length := by omega
  have hp2i : (2 : Int) < l.length := by omega
  obtain ⟨y, z, hy1, hz1, hsz, hy, hz⟩ : ∃ y z, l[1]? = some y ∧ l[2]? = some z ∧ szF l = 11 + y.toNat + 256 * z.toNat ∧ (0 ≤ y ∧ y < 256) ∧ (0 ≤ z ∧ z < 256) := by
    match l, h3, hB with
    | [], h, _ => exact absurd (by decide) h
    | [_], h, _ => exact absurd (by simp) h
    | [_, _], h, _ => exact absurd (by simp) h
    | x :: y :: z :: r, _, hB => exact ⟨y, z, rfl, rfl, rfl, hB y (by simp), hB z (by simp)⟩
  have hy2 : l[1]?.getD 0 = y := by rw [hy1]; rfl
  have hz2 : l[2]?.getD 0 = z := by rw [hz1]; rfl
  have hy3 : ∀ hh, l[1]'hh = y := fun hh => by rw [List.getElem?_eq_getElem hh] at hy1; exact Option.some.inj hy1
  have hz3 : ∀ hh, l[2]'hh = z := fun hh => by rw [List.getElem?_eq_getElem hh] at hz1; exact Option.some.inj hz1
  obtain ⟨q, hq⟩ : ∃ q : Nat, q = y.toNat + 256 * z.toNat := ⟨_, rfl⟩
  have hsq : szF l = q + 11 := by omega
  have wy : IntKind.i64.wrap y = y := i64_in _ (by omega)
  have wz : IntKind.i64.wrap z = z := i64_in _ (by omega)
  have wz2 : IntKind.i64.wrap (256 * z) = 256 * z := i64_in _ (by omega)
  have wq : IntKind.i64.wrap (y + 256 * z) = (q : Int) := by rw [i64_in _ (by omega)]; omega
  rw [hsq]
  by_cases h9 : 911 < q + 11
  · rw [if_pos h9]
    have h9i : (900 : Int) < q := by omega
    have h9n : 900 < q := by omega
    simp -implicitDefEqProofs [F34, c34, upd, e0, e3, et, h0, hpos, hposi, hx1', hx4, hxa, hxb, h3, h3i, hp1, hp1i, hp2, hp2i, hy2, hz2, hy3, hz3, wy, wz, wz2, wq, h9i, h9n, fsA, tupFst, ofBytes_nil]
  rw [if_neg h9]
  have h9i : ¬ (900 : Int) < q := by omega
  have h9n : ¬ 900 < q := by omega
  have w11 : IntKind.i64.wrap ((q : Int) + 11) = ((q + 11 : Nat) : Int) := by rw [i64_in _ (by omega)]; omega
  have w3 : IntKind.i64.wrap ((q : Int) + 3) = ((q + 3 : Nat) : Int) := by rw [i64_in _ (by omega)]; omega
  by_cases h11 : l.length < q + 11
  · rw [if_pos h11]
    have h11i : (l.length : Int) < ((q + 11 : Nat) : Int) := by omega
    simp -implicitDefEqProofs [F34, c34, upd, e0, e3, et, h0, hpos, hposi, hx1', hx4, hxa, hxb, h3, h3i, hp1, hp1i, hp2, hp2i, hy2, hz2, hy3, hz3, wy, wz, wz2, wq, h9i, h9n, w11, h11, h11i, fsA, tupFst, ofBytes_nil]
    omega
  rw [if_neg h11]
  have h11i : ¬ (l.length : Int) < ((q + 11 : Nat) : Int) := by omega
  have hle : ((q + 11 : Nat) : Int) ≤ l.length := by omega
  have hlen : q + 11 ≤ l.length := by omega
  have hle3 : ((q + 3 : Nat) : Int) ≤ ((q + 11 : Nat) : Int) := by omega
  have hlen3 : q + 3 ≤ q + 11 := by omega
  have hle4 : ((q + 3 : Nat) : Int) ≤ l.length := by omega
  have hlen4 : q + 3 ≤ l.length := by omega
  have hle5 : (3 : Int) ≤ ((q + 3 : Nat) : Int) := by omega
  have hlen5 : 3 ≤ q + 3 := by omega
  have ex1 := ofBytes_extract l (q + 3) (q + 11)
  have ex2 := ofBytes_extract l 0 (q + 3)
  have ex3 := ofBytes_extract l 3 (q + 3)
  rw [List.drop_zero, Nat.sub_zero] at ex2
  have h8 : q + 11 - (q + 3) = 8 := by omega
  rw [h8] at ex1
  have eB : (l.take (q + 11)).take ((l.take (q + 11)).length - 8) = l.take (q + 3) := by
    rw [List.take_take, List.length_take, Nat.min_eq_left hlen]
    congr 1
    omega
  have eB2 : (l.take (q + 11)).drop ((l.take (q + 11)).length - 8) = (l.drop (q + 3)).take 8 := by
    rw [List.length_take, Nat.min_eq_left hlen, List.drop_take]
    congr 1
  have eB3 : (l.take (q + 3)).drop 3 = (l.drop 3).take (q + 3 - 3) := by rw [List.drop_take]
  have eB4 : (l.take (q + 11)).getD 0 0 = x := by
    rw [List.getD_eq_getElem?_getD, List.getElem?_take, if_pos (by omega), hx1]; rfl
  unfold whl
  rw [eB, eB2, eB3, eB4]
  have hBt := isB_take (q + 3) hB
  have hBd := isB_take 8 (isB_drop (q + 3) hB)
  have e59 := f59 ((l.drop (q + 3)).take 8) hBd (by rw [List.length_take]; omega)
  have e18 := e18' (ofBytes (l.take (q + 3))) (by rw [size_ofBytes, List.length_take]; omega)
  rw [toBytes_ofBytes hBt] at e18
  generalize leB ((l.drop (q + 3)).take 8) = u at *
  generalize sumL (l.take (q + 3)) = v at *
  generalize hg1 : (l.drop (q + 3)).take 8 = l1 at *
  generalize hg2 : l.take (q + 3) = l2 at *
  generalize hg3 : (l.drop 3).take (q + 3 - 3) = l3 at *
  have wx : IntKind.i64.wrap x = x := i64_in _ (by omega)
  generalize hq11 : q + 11 = q11 at *
  generalize hq3 : q + 3 = q3 at *
  by_cases hs : v = (u : Nat)
  · rw [if_pos hs]
    subst hs
    simp -implicitDefEqProofs [F34, c34, upd, e0, e3, et, h0, hpos, hposi, hx1', hx4, hxa, hxb, h3, h3i, hp1, hp1i, hp2, hp2i, hy2, hz2, hy3, hz3, wx, wy, wz, wz2, wq, h9i, h9n, w11, w3, h11, h11i, hle, hlen, hle3, hlen3, hle4, hlen4, hle5, hlen5, ex1, ex2, ex3, e59, e18, fsA, tupFst, ofBytes_nil]
  · rw [if_neg hs]
    have hs' : ¬ ((u : Nat) : Int) = v := fun h => hs h.symm
    simp -implicitDefEqProofs [F34, c34, upd, e0, e3, et, h0, hpos, hposi, hx1', hx4, hxa, hxb, h3, h3i, hp1, hp1i, hp2, hp2i, hy2, hz2, hy3, hz3, wx, wy, wz, wz2, wq, h9i, h9n, w11, w3, h11, h11i, hle, hlen, hle3, hlen3, hle4, hlen4, hle5, hlen5, ex1, ex2, ex3, e59, e18, hs, hs', fsA, tupFst, ofBytes_nil]
end Go.X.Try
set_option maxRecDepth 100000
set_option linter.unusedSimpArgs false
set_option linter.unusedVariables false
namespace Go.X.Try
open Go.IntWalk
abbrev By := Int × Int × Bool
def rec3 (r : By) : List Sc := [.int .u8 r.1, .int .u64 r.2.1, .bool r.2.2]
def frS (f : Int × List Int) : List Sc := [.int .i64 f.1, .str (ofBytes f.2)]
/-- All that came, taken. -/
def tk (c : Ct) : List By → Ct × List (Int × List Int)
  | [] => (c, [])
  | r :: rs => ((tk (feed c r.1 r.2.1 r.2.2).1 rs).1, (feed c r.1 r.2.1 r.2.2).2.1.toList ++ (tk (feed c r.1 r.2.1 r.2.2).1 rs).2)
def tkHp (c : Ct) (most : Int) (sf sc : Option (Nat × Nat)) (X Y : List (List Sc)) (h n : Int) (out : List (List Sc)) : List Ob :=
  [.cells (some 0) [.row 1, .int .u64 c.h, .int .u64 c.n, .int .i64 c.e, .int .i64 c.m], .rows (.ints .u8 c.B), .cells (some 2) (pipeCells most (slv 3 sf) (slv 4 sc) h n), .rows (.recs 3 X), .rows (.recs 3 Y), .rows (.recs 2 out)]
def canon32 (c : Ct) (most : Int) (sf sc : Option (Nat × Nat)) (X Y : List (List Sc)) (h n : Int) (out : List (List Sc)) : St :=
  ⟨[(0, .one (.ptr 0 0)), (1, .one (.ptr 2 0)), (6, .one (.row 5))], [.ptr 0 0, .ptr 2 0], tkHp c most sf sc X Y h n out⟩
theorem body32 (c : Ct) (most : Int) (sf sc : Option (Nat × Nat)) (X Y : List (List Sc)) (h n : Int) (out : List (List Sc)) (r : By) (rs : List By) (hb : cont Y sc = rec3 r :: rs.map rec3) (hok : okv Y sc) (hl : slen Y sc ≤ 4000)
    (hB : isB c.B) (hr : 0 ≤ r.1 ∧ r.1 < 256) (hcl : c.B.length ≤ 8000) (hm : 0 ≤ c.m ∧ c.m < 2 ^ 62) (ho : out.length ≤ 100000) :
    ∃ sc' Y' st1, evC T32 KK b32x0 (canon32 c most sf sc X Y h n out) = some (.norm, st1) ∧ St.head [0, 1, 6] st1 = canon32 (feed c r.1 r.2.1 r.2.2).1 most sf sc' X Y' h n (out ++ (feed c r.1 r.2.1 r.2.2).2.1.toList.map frS) ∧ cont Y' sc' = rs.map rec3 ∧ okv Y' sc' := by
  obtain ⟨b, s, sl⟩ := r
  obtain ⟨sc', Y', e39, hc', hok'⟩ := f39 most h n sf sc X Y hok hl _ b s sl hb
  have e35 := f35 c b s sl hB hr hcl hm
  refine ⟨sc', Y', ?_⟩
  simp only
  generalize hfd : feed c b s sl = fd at *
  obtain ⟨c', fo, er⟩ := fd
  simp only [Ct.hp, cutHp, pipeHp, pipeCells] at e39 e35
  have ho1 : (out.length + 1) * 24 ≤ 140737488355328 := by omega
  cases fo with
  | none =>
    simp only [fdA, tupFd] at e35
    simp -implicitDefEqProofs [b32x0, canon32, tkHp, upd, pipeCells, e39, e35, hc', hok']
  | some f =>
    simp only [fdA, tupFd] at e35
    simp -implicitDefEqProofs [b32x0, canon32, tkHp, upd, pipeCells, e39, e35, hc', hok', RC.ofElems, RC.app, RC.len, RC.size, ho1, frS, scsOf, SV.sc]
theorem end32 (c : Ct) (most : Int) (sf sc : Option (Nat × Nat)) (X Y : List (List Sc)) (h n : Int) (out : List (List Sc)) (hb : cont Y sc = []) (hok : okv Y sc) :
    ∃ st1, evC T32 KK b32x0 (canon32 c most sf sc X Y h n out) = some (.ret, st1) ∧ give st1.rts st1.hp (resL st1.env st1.hp [(4, none), (5, none)]) = some (.tup [.one (.row 5), .one (.int .i64 c.e)], tkHp c most sf sc X Y h n out) := by
  have e39 := f39' most h n sf sc X Y hok hb
  have e37 := f37 c.B c.h c.n c.e c.m
  simp only [cutHp, pipeHp, pipeCells] at e39 e37
  simp -implicitDefEqProofs [b32x0, canon32, tkHp, upd, pipeCells, e39, e37]
theorem feed_ok (c : Ct) (b s : Int) (sl : Bool) (hB : isB c.B) (hb : 0 ≤ b ∧ b < 256) (hm : 0 ≤ c.m) : isB (feed c b s sl).1.B ∧ (feed c b s sl).1.B.length ≤ c.B.length + 1 ∧ 0 ≤ (feed c b s sl).1.m ∧ (feed c b s sl).1.m ≤ c.m + 1 := by
  have hB' : isB (c.B ++ [b]) := isB_append hB (isB_one hb)
  have hl : (c.B ++ [b]).length = c.B.length + 1 := by simp
  unfold feed
  split
  · split
    · split
      · exact ⟨hB', by simp only; omega, by simp only; omega, by simp only; omega⟩
      · split
        · exact ⟨by simp [isB], by simp, by simp only; omega, by simp only; omega⟩
        · exact ⟨hB', by simp only; omega, by simp only; omega, by simp only; omega⟩
    · exact ⟨hB', by simp only; omega, by simp only; omega, by simp only; omega⟩
  · exact ⟨hB, by simp only; omega, by simp only; omega, by simp only; omega⟩
theorem feed_one (c : Ct) (b s : Int) (sl : Bool) : (feed c b s sl).2.1.toList.length ≤ 1 := by
  cases (feed c b s sl).2.1 <;> simp
theorem loop32 (most : Int) (sf : Option (Nat × Nat)) (X : List (List Sc)) (h n : Int) : ∀ (rs : List By) (c : Ct) (sc : Option (Nat × Nat)) (Y out : List (List Sc)) (K : Nat), cont Y sc = rs.map rec3 → okv Y sc → slen Y sc ≤ 4000 → (∀ r ∈ rs, 0 ≤ r.1 ∧ r.1 < 256) →
    isB c.B → c.B.length + rs.length ≤ 8000 → 0 ≤ c.m → c.m + rs.length < 2 ^ 62 → out.length + rs.length ≤ 100000 → rs.length < K →
    ∃ sc' Y' st1, loopH (evC T32 KK b32x0) [0, 1, 6] K (canon32 c most sf sc X Y h n out) = some (.ret, st1) ∧ give st1.rts st1.hp (resL st1.env st1.hp [(4, none), (5, none)]) = some (.tup [.one (.row 5), .one (.int .i64 (tk c rs).1.e)], tkHp (tk c rs).1 most sf sc' X Y' h n (out ++ (tk c rs).2.map frS)) ∧ cont Y' sc' = [] ∧ okv Y' sc'
  | [], c, sc, Y, out, K, hc, hok, hl, hr, hB, h1, h2, h3, h4, hK => by
    obtain ⟨st1, e1, e2⟩ := end32 c most sf sc X Y h n out hc hok
    exact ⟨sc, Y, st1, loopH_ret e1, by simpa [tk] using e2, hc, hok⟩
  | r :: rs, c, sc, Y, out, K, hc, hok, hl, hr, hB, h1, h2, h3, h4, hK => by
    simp only [List.length_cons] at h1 h3 h4 hK
    have hr0 := hr r (by simp)
    obtain ⟨sc1, Y1, st1, e1, e2, g1, g2⟩ := body32 c most sf sc X Y h n out r rs hc hok hl hB hr0 (by omega) (by omega) (by omega)
    obtain ⟨q1, q2, q3, q4⟩ := feed_ok c r.1 r.2.1 r.2.2 hB hr0 h2
    have q5 := feed_one c r.1 r.2.1 r.2.2
    have hl1 : slen Y1 sc1 ≤ 4000 := by
      have a1 := cont_len Y sc hok
      have a2 := cont_len Y1 sc1 g2
      rw [g1, List.length_map] at a2
      rw [hc, List.length_map, List.length_cons] at a1
      omega
    obtain ⟨sc2, Y2, st2, e3, e4, g3, g4⟩ := loop32 most sf X h n rs (feed c r.1 r.2.1 r.2.2).1 sc1 Y1 (out ++ (feed c r.1 r.2.1 r.2.2).2.1.toList.map frS) (K - 1) g1 g2 hl1 (fun x hx => hr x (by simp [hx])) q1 (by omega) q3 (by omega) (by rw [List.length_append, List.length_map]; omega) (by omega)
    refine ⟨sc2, Y2, st2, by rw [loopH_norm e1 (by omega), e2]; exact e3, ?_, g3, g4⟩
    rw [e4]
    simp only [tk, List.map_append, List.append_assoc]
def tkHp0 (c : Ct) (most : Int) (sf sc : Option (Nat × Nat)) (X Y : List (List Sc)) (h n : Int) : List Ob :=
  [.cells (some 0) [.row 1, .int .u64 c.h, .int .u64 c.n, .int .i64 c.e, .int .i64 c.m], .rows (.ints .u8 c.B), .cells (some 2) (pipeCells most (slv 3 sf) (slv 4 sc) h n), .rows (.recs 3 X), .rows (.recs 3 Y)]
theorem f32 (c : Ct) (most : Int) (sf sc : Option (Nat × Nat)) (X Y : List (List Sc)) (h n : Int) (rs : List By) (hc : cont Y sc = rs.map rec3) (hok : okv Y sc) (hl : slen Y sc ≤ 4000) (hr : ∀ r ∈ rs, 0 ≤ r.1 ∧ r.1 < 256)
    (hB : isB c.B) (hcl : c.B.length ≤ 3000) (h2 : 0 ≤ c.m) (h3 : c.m < 2 ^ 60) :
    ∃ sc' Y', F32 [.one (.ptr 0 0), .one (.ptr 2 0)] (tkHp0 c most sf sc X Y h n) = some (.tup [.one (.row 5), .one (.int .i64 (tk c rs).1.e)], tkHp (tk c rs).1 most sf sc' X Y' h n ((tk c rs).2.map frS)) ∧ cont Y' sc' = [] ∧ okv Y' sc' := by
  have hrl : rs.length ≤ 4000 := by
    have a1 := cont_len Y sc hok
    rw [hc, List.length_map] at a1
    omega
  obtain ⟨sc', Y', st1, e1, e2, g1, g2⟩ := loop32 most sf X h n rs c sc Y [] KK hc hok hl hr hB (by omega) h2 (by omega) (by simp only [List.length_nil]; omega) (by rw [KK_eq]; omega)
  rw [List.nil_append] at e2
  refine ⟨sc', Y', ?_, g1, g2⟩
  generalize hres : (some (AV.tup [.one (.row 5), .one (.int .i64 (tk c rs).1.e)], tkHp (tk c rs).1 most sf sc' X Y' h n ((tk c rs).2.map frS)) : Res) = res at *
  rw [← e2]
  obtain ⟨env1, rts1, hp1⟩ := st1
  simp only [canon32, tkHp, pipeCells] at e1
  have e1' : evF T32 KK c32 [.one (.ptr 0 0), .one (.ptr 2 0)] (tkHp0 c most sf sc X Y h n) = resC [(4, none), (5, none)] (some (.ret, ⟨env1, rts1, hp1⟩)) := by
    unfold evF
    have hr2 : c32.results = [(4, none), (5, none)] := rfl
    rw [hr2]
    refine congrArg _ ?_
    simp -implicitDefEqProofs [c32, tkHp0, pipeCells, upd, e1]
  exact e1'
end Go.X.Try
set_option maxRecDepth 100000
set_option linter.unusedSimpArgs false
set_option linter.unusedVariables false
namespace Go.X.Try
open Go.IntWalk
theorem frA_eq {k : Int} (hk : 0 ≤ k ∧ k < 256) {l : List Int} (hl : l.length ≤ 900) : ∃ y z : Int, frA k l = k :: y :: z :: l ∧ y.toNat + 256 * z.toNat = l.length := by
  refine ⟨((l.length % 256 : Nat) : Int), ((l.length / 256 % 256 : Nat) : Int), ?_, ?_⟩
  · unfold frA
    have e : ((k.toNat % 256 : Nat) : Int) = k := by omega
    simp [fixB, e]
  · omega
theorem whl_frB {k : Int} (hk : 1 ≤ k ∧ k ≤ 10) {l : List Int} (hl : l.length ≤ 900) : whl (frB k l) = some (k, l) := by
  have h8 := fixB_length 8 (sumL (frA k l)).toNat
  have hlen := frB_length k l
  have hA := frA_length k l
  have hr := sumL_range (frA k l)
  unfold whl
  have e1 : (frB k l).take ((frB k l).length - 8) = frA k l := by
    rw [hlen, show l.length + 11 - 8 = (frA k l).length by omega]
    exact List.take_left' rfl
  have e2 : (frB k l).drop ((frB k l).length - 8) = fixB (sumL (frA k l)).toNat 8 := by
    rw [hlen, show l.length + 11 - 8 = (frA k l).length by omega]
    exact List.drop_left' rfl
  rw [e1, e2, leB_fixB, Nat.mod_eq_of_lt (by omega), if_pos (by omega)]
  obtain ⟨y, z, e, _⟩ := frA_eq (k := k) (by omega) hl
  have e3 : (frB k l).getD 0 0 = k := by unfold frB; rw [e]; rfl
  rw [e3, e]
  rfl
theorem frB_pre {k : Int} (hk : 1 ≤ k ∧ k ≤ 10) {l : List Int} (hl : l.length ≤ 900) {B R : List Int} (h : B ++ R = frB k l) (hB : B ≠ []) : ahd B = 0 ∧ (B.length = szF B ↔ R = []) := by
  obtain ⟨y, z, e, hyz⟩ := frA_eq (k := k) (by omega) hl
  have hlen := frB_length k l
  have hBR : B.length + R.length = l.length + 11 := by rw [← hlen, ← h, List.length_append]
  have hF : frB k l = k :: y :: z :: (l ++ fixB (sumL (frA k l)).toNat 8) := by unfold frB; rw [e]; rfl
  rw [hF] at h
  match B, hB with
  | [x], _ =>
    simp only [List.cons_append, List.nil_append, List.cons.injEq] at h
    obtain ⟨rfl, h⟩ := h
    have hkd : kd x = true := decide_eq_true hk
    refine ⟨if_pos hkd, ?_⟩
    simp only [List.length_cons, List.length_nil, szF] at hBR ⊢
    exact ⟨fun h => by omega, fun h => by subst h; simp only [List.length_nil] at hBR; omega⟩
  | [x, y'], _ =>
    refine ⟨rfl, ?_⟩
    simp only [List.length_cons, List.length_nil, szF] at hBR ⊢
    exact ⟨fun h => by omega, fun h => by subst h; simp only [List.length_nil] at hBR; omega⟩
  | [x, y', z'], _ =>
    simp only [List.cons_append, List.nil_append, List.cons.injEq] at h
    obtain ⟨rfl, rfl, rfl, h⟩ := h
    refine ⟨if_neg (by simp only [szF]; omega), ?_⟩
    simp only [List.length_cons, List.length_nil, szF] at hBR ⊢
    exact ⟨fun h => by omega, fun h => by subst h; simp only [List.length_nil] at hBR; omega⟩
  | x :: y' :: z' :: w :: r, _ =>
    simp only [List.cons_append, List.cons.injEq] at h
    obtain ⟨rfl, rfl, rfl, h⟩ := h
    refine ⟨rfl, ?_⟩
    simp only [List.length_cons, szF] at hBR ⊢
    exact ⟨fun h => by
      have : R.length = 0 := by omega
      exact List.eq_nil_of_length_eq_zero this, fun h => by subst h; simp only [List.length_nil] at hBR; omega⟩
/-- What is sent, byte by byte, with its seals. -/
def sendT : Int × Int → List Int → List By
  | _, [] => []
  | p, b :: l => (b, sfin (sstep p.1 b) (IntKind.u64.wrap (p.2 + 1)), true) :: sendT (sbyte p b) l
theorem sendT_rec : ∀ (l : List Int) (p : Int × Int), sendR p l = (sendT p l).map rec3
  | [], _ => rfl
  | b :: l, p => by simp only [sendR, sendT, List.map_cons, sendT_rec l]; rfl
theorem sendT_append : ∀ (l m : List Int) (p : Int × Int), sendT p (l ++ m) = sendT p l ++ sendT (l.foldl sbyte p) m
  | [], _, _ => rfl
  | b :: l, m, p => by simp only [List.cons_append, sendT, List.foldl_cons, sendT_append l m]
theorem sendT_length : ∀ (l : List Int) (p : Int × Int), (sendT p l).length = l.length
  | [], _ => rfl
  | b :: l, p => by simp only [sendT, List.length_cons, sendT_length l]
theorem sendT_isB : ∀ (l : List Int) (p : Int × Int), isB l → ∀ r ∈ sendT p l, 0 ≤ r.1 ∧ r.1 < 256
  | [], _, _, r, hr => by cases hr
  | b :: l, p, hB, r, hr => by
    simp only [sendT, List.mem_cons] at hr
    rcases hr with rfl | hr
    · exact hB b (by simp)
    · exact sendT_isB l _ hB.tail r hr
theorem tk_append (c : Ct) : ∀ (l m : List By), tk c (l ++ m) = ((tk (tk c l).1 m).1, (tk c l).2 ++ (tk (tk c l).1 m).2) := by
  intro l
  induction l generalizing c with
  | nil => intro m; rfl
  | cons r l ih => intro m; simp only [List.cons_append, tk, ih, List.append_assoc]
theorem tk_bad (c : Ct) (h : c.e ≠ 0) : ∀ l : List By, tk c l = (c, [])
  | [] => rfl
  | r :: l => by
    have e : feed c r.1 r.2.1 r.2.2 = (c, none, c.e) := by unfold feed; rw [if_neg h]
    simp only [tk, e, Option.toList, tk_bad c h l, List.nil_append]
/-- Whoever is well behind more bytes was well before. -/
theorem tk_ok (c : Ct) (l m : List By) (h : (tk c (l ++ m)).1.e = 0) : (tk c l).1.e = 0 := by
  rw [tk_append] at h
  simp only at h
  by_cases he : (tk c l).1.e = 0
  · exact he
  · rw [tk_bad _ he] at h; exact h
theorem tk_frame {k : Int} (hk : 1 ≤ k ∧ k ≤ 10) {l : List Int} (hl : l.length ≤ 900) : ∀ (R B : List Int) (h n m : Int), B ++ R = frB k l → R ≠ [] →
    tk ⟨B, h, n, 0, m⟩ (sendT (h, n) R) = (⟨[], (R.foldl sbyte (h, n)).1, (R.foldl sbyte (h, n)).2, 0, m + R.length⟩, [(k, l)])
  | [], _, _, _, _, _, hR => absurd rfl hR
  | b :: R, B, h, n, m, hF, _ => by
    have hF' : (B ++ [b]) ++ R = frB k l := by rw [List.append_assoc]; exact hF
    obtain ⟨h1, h2⟩ := frB_pre hk hl hF' (by simp)
    simp only [sendT, tk]
    by_cases hR : R = []
    · subst hR
      rw [List.append_nil] at hF'
      have e : feed ⟨B, h, n, 0, m⟩ b (sfin (sstep h b) (IntKind.u64.wrap (n + 1))) true = (⟨[], (sbyte (h, n) b).1, (sbyte (h, n) b).2, 0, m + 1⟩, some (k, l), 0) := by
        unfold feed
        simp only
        rw [if_pos trivial, if_pos ⟨h1, h2.2 rfl⟩, hF', whl_frB hk hl]
        simp only
        rw [if_pos ⟨trivial, rfl⟩]
      simp only [e, sendT, tk, Option.toList, List.append_nil, List.foldl_cons, List.foldl_nil, List.length_cons, List.length_nil]
      rfl
    · have e : feed ⟨B, h, n, 0, m⟩ b (sfin (sstep h b) (IntKind.u64.wrap (n + 1))) true = (⟨B ++ [b], (sbyte (h, n) b).1, (sbyte (h, n) b).2, 0, m + 1⟩, none, 0) := by
        unfold feed
        simp only
        rw [if_pos trivial, if_neg (fun c => hR (h2.1 c.2)), h1]
      have ih := tk_frame hk hl R (B ++ [b]) (sbyte (h, n) b).1 (sbyte (h, n) b).2 (m + 1) hF' hR
      simp only [e, Option.toList, List.nil_append, List.foldl_cons, List.length_cons]
      rw [ih]
      simp only [Prod.mk.injEq, Ct.mk.injEq, and_true, true_and]
      push_cast
      omega
/-- Frames one behind the other. -/
def okF (f : Int × List Int) : Prop := (1 ≤ f.1 ∧ f.1 ≤ 10) ∧ f.2.length ≤ 900
def frs (L : List (Int × List Int)) : List Int := L.flatMap fun f => frB f.1 f.2
theorem tk_frames : ∀ (L : List (Int × List Int)) (h n m : Int), (∀ f ∈ L, okF f) →
    tk ⟨[], h, n, 0, m⟩ (sendT (h, n) (frs L)) = (⟨[], ((frs L).foldl sbyte (h, n)).1, ((frs L).foldl sbyte (h, n)).2, 0, m + (frs L).length⟩, L)
  | [], h, n, m, _ => by simp [frs, sendT, tk]
  | f :: L, h, n, m, hL => by
    have hf := hL f (by simp)
    have hlen := frB_length f.1 f.2
    have e0 : frs (f :: L) = frB f.1 f.2 ++ frs L := rfl
    rw [e0, sendT_append, tk_append, tk_frame hf.1 hf.2 (frB f.1 f.2) [] h n m rfl (fun h => by rw [h] at hlen; simp at hlen)]
    have ih := tk_frames L ((frB f.1 f.2).foldl sbyte (h, n)).1 ((frB f.1 f.2).foldl sbyte (h, n)).2 (m + (frB f.1 f.2).length) (fun g hg => hL g (by simp [hg]))
    have pe : ∀ p : Int × Int, (p.1, p.2) = p := fun _ => rfl
    rw [pe] at ih
    simp only
    rw [ih, List.foldl_append, List.length_append]
    simp only [List.singleton_append, Prod.mk.injEq, Ct.mk.injEq, and_true, true_and]
    push_cast
    omega
end Go.X.Try
set_option maxRecDepth 100000
set_option linter.unusedSimpArgs false
set_option linter.unusedVariables false
namespace Go.X.Try
open Go.IntWalk
/-- May a frame be? -/
def rgt (k : Int) (n : Nat) : Int := if 1 ≤ k ∧ k ≤ 10 then (if 900 < n then 5 else 0) else 6
theorem f28 (k : Int) (s : ByteArray) : F28 [.agg [.int .i64 k, .str s]] [] = some (.one (.int .i64 (rgt k s.size)), []) := by
  unfold rgt
  by_cases h1 : k < 1
  · rw [if_neg (by omega)]
    simp -implicitDefEqProofs [F28, c28, upd, h1]
  · by_cases h2 : 10 < k
    · rw [if_neg (by omega)]
      simp -implicitDefEqProofs [F28, c28, upd, h1, h2]
    · rw [if_pos (by omega)]
      by_cases h3 : 900 < s.size
      · have h3i : (900 : Int) < s.size := by omega
        simp -implicitDefEqProofs [F28, c28, upd, h1, h2, h3, h3i]
      · have h3i : ¬ (900 : Int) < s.size := by omega
        simp -implicitDefEqProofs [F28, c28, upd, h1, h2, h3, h3i]
theorem f27g (k : Int) (s : ByteArray) : F27 [.agg [.int .i64 k, .str s]] [] = some (if rgt k s.size = 0 then tupSI (ofBytes (frB k (toBytes s))) 0 else tupSI ⟨#[]⟩ (rgt k s.size), []) := by
  unfold rgt
  by_cases h : 1 ≤ k ∧ k ≤ 10
  · rw [if_pos h]
    by_cases h3 : 900 < s.size
    · rw [if_pos h3, if_neg (by decide)]; exact f27l k s h h3
    · rw [if_neg h3, if_pos rfl]; exact f27 k s h (by omega)
  · rw [if_neg h, if_neg (by decide)]; exact f27k k s h
theorem rgt_zero {k : Int} {n : Nat} (h : rgt k n = 0) : (1 ≤ k ∧ k ≤ 10) ∧ n ≤ 900 := by
  unfold rgt at h
  by_cases h1 : 1 ≤ k ∧ k ≤ 10
  · rw [if_pos h1] at h
    by_cases h2 : 900 < n
    · rw [if_pos h2] at h; cases h
    · exact ⟨h1, by omega⟩
  · rw [if_neg h1] at h; cases h
/-! ### are two rows of frames the same? -/
def canon33 (A : List (Int × List Int)) (i : Int) : St := ⟨[(0, .one (.ro 0 (.recs 2 (A.map frS)))), (1, .one (.ro 1 (.recs 2 (A.map frS)))), (12, .one (.int .i64 A.length)), (13, .one (.int .i64 i))], [.ro 0 (.recs 2 (A.map frS)), .ro 1 (.recs 2 (A.map frS))], []⟩
theorem body33 (A : List (Int × List Int)) (i : Nat) (hi : i < A.length) (i' : Int) (wi : IntKind.i64.wrap ((i : Int) + 1) = i') :
    ∃ st1, evC T33 KK b33x0 (canon33 A i) = some (.norm, st1) ∧ St.head [0, 1, 12, 13] st1 = canon33 A i' := by
  have hii : (i : Int) < A.length := by omega
  have hg : (A.map frS)[i]?.getD [] = frS A[i] := by rw [List.getElem?_map, List.getElem?_eq_getElem hi]; rfl
  have hg' : frS A[i] = [.int .i64 A[i].1, .str (ofBytes A[i].2)] := rfl
  generalize A[i] = f at *
  have hlen : (A.map frS).length = A.length := List.length_map _
  have hgM : ∀ hh, (A.map frS)[i]'hh = frS f := fun hh => by rw [List.getElem?_eq_getElem hh] at hg; exact hg
  generalize hM : A.map frS = M at *
  simp -implicitDefEqProofs [b33x0, canon33, upd, hM, hi, hii, hg, hgM, hg', hlen, RC.len, RC.size, RC.elem, takeE, eqScs, eqSc, beqBA, wi]
theorem end33 (A : List (Int × List Int)) : ∃ env, evC T33 KK b33x0 (canon33 A A.length) = some (.exit 0, ⟨env, [.ro 0 (.recs 2 (A.map frS)), .ro 1 (.recs 2 (A.map frS))], []⟩) := by
  simp -implicitDefEqProofs [b33x0, canon33, upd]
theorem loop33 (A : List (Int × List Int)) (hA : A.length ≤ 90000) : ∀ (j i K : Nat), i + j = A.length → j < K →
    ∃ env, loopH (evC T33 KK b33x0) [0, 1, 12, 13] K (canon33 A i) = some (.exit 0, ⟨env, [.ro 0 (.recs 2 (A.map frS)), .ro 1 (.recs 2 (A.map frS))], []⟩)
  | 0, i, K, hi, hK => by
    obtain rfl : i = A.length := by omega
    obtain ⟨env, e⟩ := end33 A
    exact ⟨env, loopH_exit e⟩
  | j + 1, i, K, hi, hK => by
    obtain ⟨st1, e1, e2⟩ := body33 A i (by omega) ((i + 1 : Nat) : Int) (by rw [i64_in _ (by omega)]; omega)
    obtain ⟨env, e⟩ := loop33 A hA j (i + 1) (K - 1) (by omega) (by omega)
    exact ⟨env, by rw [loopH_norm e1 (by omega), e2]; exact e⟩
theorem f33 (A : List (Int × List Int)) (hA : A.length ≤ 90000) : F33 [.one (.ro 0 (.recs 2 (A.map frS))), .one (.ro 1 (.recs 2 (A.map frS)))] [] = some (.one (.bool true), []) := by
  obtain ⟨env, e⟩ := loop33 A hA A.length 0 KK (by omega) (by rw [KK_eq]; omega)
  have hlen : (A.map frS).length = A.length := List.length_map _
  have z : ((0 : Nat) : Int) = 0 := rfl
  simp only [canon33, z] at e
  generalize A.map frS = M at *
  simp -implicitDefEqProofs [F33, c33, upd, RC.len, hlen, e]
/-! ### a frame of a pipe -/
theorem slv_none (k : Nat) : slv k none = .row k := rfl
def c0 : Ct := ⟨[], 7640891576956012808, 0, 0, 0⟩
theorem h24 : F24 [] [] = some (.one (.bool true), []) := by
  have e27 := f27 10 ⟨#[120]⟩ (by decide) (by decide)
  have hx : toBytes ⟨#[120]⟩ = [120] := rfl
  rw [hx] at e27
  have hlen : (frB 10 [120]).length = 12 := frB_length 10 [120]
  have hBf : isB (frB 10 [120]) := frB_isB (by simp [isB])
  have e25 := f25' 99
  simp only [show ¬ ((99 : Int) < 1) by decide, if_false, show ¬ ((99 : Int) > 2048) by decide] at e25
  obtain ⟨sf, X, e30, hX, okX⟩ := f30 (ofBytes (frB 10 [120])) 99 7640891576956012808 0 none none [] [] (by decide) (by simp [slen]) (by simp [slen]) trivial (by rw [size_ofBytes, hlen]; simp [slen])
  rw [toBytes_ofBytes hBf] at e30 hX
  rw [cont_none, List.nil_append] at hX
  have hXl : slen X sf = 12 := by rw [← cont_len X sf okX, hX, sendR_length, hlen]
  obtain ⟨sf2, sc2, X2, Y2, e31, hX2, okX2, hY2, okY2⟩ := f31 99 ((frB 10 [120]).foldl sbyte (7640891576956012808, 0)).1 ((frB 10 [120]).foldl sbyte (7640891576956012808, 0)).2 99 sf none X [] (by omega) (by simp [slen]) okX trivial 12 (by rw [hXl]; rfl)
  rw [cont_none, List.nil_append, hX, sendT_rec, ← List.map_take, List.take_of_length_le (by rw [sendT_length, hlen]; decide)] at hY2
  have e26 := f26
  have hY2l : slen Y2 sc2 ≤ 4000 := by rw [← cont_len Y2 sc2 okY2, hY2, List.length_map, sendT_length, hlen]; decide
  obtain ⟨sc3, Y3, e32, _, _⟩ := f32 c0 99 sf2 sc2 X2 Y2 ((frB 10 [120]).foldl sbyte (7640891576956012808, 0)).1 ((frB 10 [120]).foldl sbyte (7640891576956012808, 0)).2 _ hY2 okY2 hY2l (sendT_isB _ _ hBf) (by simp [c0, isB]) (by simp [c0]) (by simp [c0]) (by simp [c0])
  have ht := tk_frame (k := 10) (by decide) (l := [120]) (by decide) (frB 10 [120]) [] 7640891576956012808 0 0 rfl (fun h => by rw [h] at hlen; simp at hlen)
  have hc0 : (⟨[], 7640891576956012808, 0, 0, 0⟩ : Ct) = c0 := rfl
  rw [hc0] at ht
  rw [ht] at e32
  have hz := size_ofBytes (frB 10 [120])
  rw [hlen] at hz
  generalize ((frB 10 [120]).foldl sbyte (7640891576956012808, 0)).1 = hh at *
  generalize ((frB 10 [120]).foldl sbyte (7640891576956012808, 0)).2 = nn at *
  generalize ofBytes (frB 10 [120]) = fb at *
  have ob : (ofBytes [120]) = ⟨#[120]⟩ := rfl
  simp only [tupSI, pipeHp, cutHp, tkHp0, tkHp, pipeCells, c0, List.map_cons, List.map_nil, frS, ob, slv_none] at e27 e25 e30 e31 e26 e32
  simp -implicitDefEqProofs [F24, c24, upd, e27, e25, e30, e31, e26, e32, hz, RC.len, RC.size, RC.elem, takeE, eqScs, eqSc, beqBA]
end Go.X.Try
set_option maxRecDepth 100000
set_option linter.unusedSimpArgs false
set_option linter.unusedVariables false
namespace Go.X.Try
open Go.IntWalk
/-! ### frames that are sent in whatever parts -/
abbrev Fr := Int × ByteArray
def frE (f : Fr) : List Sc := [.int .i64 f.1, .str f.2]
/-- Those that may be. -/
def goodF (L : List Fr) : List (Int × List Int) := (L.filter fun f => decide (rgt f.1 f.2.size = 0)).map fun f => (f.1, toBytes f.2)
def hSt (S : List (Int × List Int)) : Int × Int := (frs S).foldl sbyte (7640891576956012808, 0)
def canon7 (Nn : List Int) (L : List (List Sc)) (i : Int) (sf : Option (Nat × Nat)) (X : List (List Sc)) (h n : Int) (S : List (List Sc)) : St :=
  ⟨[(1, .one (.ro 1 (.ints .u8 Nn))), (5, .one (.ptr 0 0)), (6, .one (.ptr 3 0)), (7, .one (.row 5)), (8, .one (.row 6)), (30, .one (.ro 0 (.recs 2 L))), (31, .one (.int .i64 L.length)), (32, .one (.int .i64 i))],
    [.ro 0 (.recs 2 L), .ro 1 (.ints .u8 Nn)],
    [.cells none (pipeCells 2048 (slv 1 sf) (.row 2) h n), .rows (.recs 3 X), .rows (.recs 3 []), .cells none [.row 4, .int .u64 7640891576956012808, .int .u64 0, .int .i64 0, .int .i64 0], .rows (.ints .u8 []), .rows (.recs 2 S), .rows (.recs 2 [])]⟩
theorem ret7 (Nn : List Int) (L : List (List Sc)) (i : Nat) (sf : Option (Nat × Nat)) (X : List (List Sc)) (h n : Int) (S : List (List Sc)) (hi : i < L.length) (k : Int) (s : ByteArray) (hg : L[i]?.getD [] = [.int .i64 k, .str s]) (hs : 300 < s.size) :
    ∃ st1, evC T7 KK b7x0 (canon7 Nn L i sf X h n S) = some (.ret, st1) ∧ getT 4 st1.env = .one (.bool true) ∧ st1.rts = [.ro 0 (.recs 2 L), .ro 1 (.ints .u8 Nn)] := by
  have hii : (i : Int) < L.length := by omega
  have hsi : (300 : Int) < s.size := by omega
  have hgM : ∀ hh, L[i]'hh = [.int .i64 k, .str s] := fun hh => by rw [List.getElem?_eq_getElem hh] at hg; exact hg
  simp -implicitDefEqProofs [b7x0, canon7, upd, hi, hii, hg, hgM, hs, hsi, RC.len, RC.size, RC.elem, takeE, pipeCells]
theorem bad7 (Nn : List Int) (L : List (List Sc)) (i : Nat) (sf : Option (Nat × Nat)) (X : List (List Sc)) (h n : Int) (S : List (List Sc)) (hi : i < L.length) (k : Int) (s : ByteArray) (hg : L[i]?.getD [] = [.int .i64 k, .str s]) (hs : ¬ 300 < s.size) (hr : rgt k s.size ≠ 0) (i' : Int) (wi : IntKind.i64.wrap ((i : Int) + 1) = i') :
    ∃ st1, evC T7 KK b7x0 (canon7 Nn L i sf X h n S) = some (.norm, st1) ∧ St.head [1, 5, 6, 7, 8, 30, 31, 32] st1 = canon7 Nn L i' sf X h n S := by
  have hii : (i : Int) < L.length := by omega
  have hsi : ¬ (300 : Int) < s.size := by omega
  have e27 := f27g k s
  have e28 := f28 k s
  rw [if_neg hr] at e27
  have hgM : ∀ hh, L[i]'hh = [.int .i64 k, .str s] := fun hh => by rw [List.getElem?_eq_getElem hh] at hg; exact hg
  generalize rgt k s.size = e at *
  simp only [tupSI] at e27
  simp -implicitDefEqProofs [b7x0, canon7, upd, hi, hii, hg, hgM, hs, hsi, e27, e28, hr, wi, RC.len, RC.size, RC.elem, takeE, pipeCells]
theorem good7 (Nn : List Int) (L : List (List Sc)) (i : Nat) (sf : Option (Nat × Nat)) (X : List (List Sc)) (h n : Int) (S : List (List Sc)) (hi : i < L.length) (k : Int) (s : ByteArray) (hg : L[i]?.getD [] = [.int .i64 k, .str s]) (hs : ¬ 300 < s.size) (hr : rgt k s.size = 0) (i' : Int) (wi : IntKind.i64.wrap ((i : Int) + 1) = i')
    (hok : okv X sf) (hX : (cont X sf).length + s.size + 11 ≤ 2048) (hS : S.length ≤ 100) :
    ∃ sf' X' st1, evC T7 KK b7x0 (canon7 Nn L i sf X h n S) = some (.norm, st1) ∧
      St.head [1, 5, 6, 7, 8, 30, 31, 32] st1 = canon7 Nn L i' sf' X' ((frB k (toBytes s)).foldl sbyte (h, n)).1 ((frB k (toBytes s)).foldl sbyte (h, n)).2 (S ++ [[.int .i64 k, .str s]]) ∧ cont X' sf' = cont X sf ++ sendR (h, n) (frB k (toBytes s)) ∧ okv X' sf' := by
  have hii : (i : Int) < L.length := by omega
  have hsi : ¬ (300 : Int) < s.size := by omega
  have e27 := f27g k s
  have e28 := f28 k s
  rw [if_pos hr] at e27
  rw [hr] at e28
  have hk := rgt_zero hr
  have e29 := f29 k s hk.1 hk.2
  have hBf : isB (frB k (toBytes s)) := frB_isB (isB_toBytes s)
  have hlen : (frB k (toBytes s)).length = s.size + 11 := by rw [frB_length, size_toBytes]
  have hXl := cont_len X sf hok
  obtain ⟨sf', X', e30, hX', hok'⟩ := f30 (ofBytes (frB k (toBytes s))) 2048 h n sf none X [] (by decide) (by omega) (by simp [slen]) hok (by rw [size_ofBytes, hlen, show slen ([] : List (List Sc)) none = 0 from rfl]; omega)
  rw [toBytes_ofBytes hBf] at e30 hX'
  refine ⟨sf', X', ?_⟩
  have hgM : ∀ hh, L[i]'hh = [.int .i64 k, .str s] := fun hh => by rw [List.getElem?_eq_getElem hh] at hg; exact hg
  have hS1 : (S.length + 1) * 24 ≤ 140737488355328 := by omega
  generalize ((frB k (toBytes s)).foldl sbyte (h, n)).1 = hh at *
  generalize ((frB k (toBytes s)).foldl sbyte (h, n)).2 = nn at *
  generalize ofBytes (frB k (toBytes s)) = fb at *
  simp only [tupSI, pipeHp, pipeCells, slv_none] at e27 e30
  simp -implicitDefEqProofs [b7x0, canon7, upd, hi, hii, hg, hgM, hs, hsi, e27, e28, e29, e30, hX', hok', wi, RC.len, RC.size, RC.elem, RC.ofElems, RC.app, takeE, pipeCells, hS1, scsOf, SV.sc]
theorem end7 (Nn : List Int) (L : List (List Sc)) (sf : Option (Nat × Nat)) (X : List (List Sc)) (h n : Int) (S : List (List Sc)) :
    ∃ env, evC T7 KK b7x0 (canon7 Nn L L.length sf X h n S) = some (.exit 0, ⟨env, (canon7 Nn L L.length sf X h n S).rts, (canon7 Nn L L.length sf X h n S).hp⟩) ∧ getT 1 env = .one (.ro 1 (.ints .u8 Nn)) ∧ getT 5 env = .one (.ptr 0 0) ∧ getT 6 env = .one (.ptr 3 0) ∧ getT 7 env = .one (.row 5) ∧ getT 8 env = .one (.row 6) := by
  simp -implicitDefEqProofs [b7x0, canon7, upd]
theorem rgt_true {f : Fr} (h : rgt f.1 f.2.size = 0) : decide (rgt f.1 f.2.size = 0) = true := decide_eq_true h
/-- The first round: all that may be is sent, or something is too long. -/
theorem loop7 (Nn : List Int) (Ls : List Fr) (hL : Ls.length ≤ 5) : ∀ (j i K : Nat) (sf : Option (Nat × Nat)) (X : List (List Sc)) (h n : Int) (Sd : List Fr), i + j = Ls.length → j < K → okv X sf → (cont X sf).length ≤ 311 * i → Sd.length ≤ i →
    (∃ st1, loopH (evC T7 KK b7x0) [1, 5, 6, 7, 8, 30, 31, 32] K (canon7 Nn (Ls.map frE) i sf X h n (Sd.map frE)) = some (.ret, st1) ∧ getT 4 st1.env = .one (.bool true) ∧ st1.rts = [.ro 0 (.recs 2 (Ls.map frE)), .ro 1 (.ints .u8 Nn)]) ∨
    (∃ env sf' X', loopH (evC T7 KK b7x0) [1, 5, 6, 7, 8, 30, 31, 32] K (canon7 Nn (Ls.map frE) i sf X h n (Sd.map frE)) = some (.exit 0, ⟨env, (canon7 Nn (Ls.map frE) i sf X h n []).rts, (canon7 Nn (Ls.map frE) i sf' X' ((frs (goodF (Ls.drop i))).foldl sbyte (h, n)).1 ((frs (goodF (Ls.drop i))).foldl sbyte (h, n)).2 ((Sd ++ (Ls.drop i).filter fun f => decide (rgt f.1 f.2.size = 0)).map frE)).hp⟩) ∧
      cont X' sf' = cont X sf ++ sendR (h, n) (frs (goodF (Ls.drop i))) ∧ okv X' sf' ∧ (cont X' sf').length ≤ 311 * Ls.length ∧
      getT 1 env = .one (.ro 1 (.ints .u8 Nn)) ∧ getT 5 env = .one (.ptr 0 0) ∧ getT 6 env = .one (.ptr 3 0) ∧ getT 7 env = .one (.row 5) ∧ getT 8 env = .one (.row 6))
  | 0, i, K, sf, X, h, n, Sd, hi, hK, hok, hX, hS => by
    right
    have hd : Ls.drop i = [] := List.drop_eq_nil_of_le (by omega)
    have hm : (Ls.map frE).length = i := by rw [List.length_map]; omega
    obtain ⟨env, e, g⟩ := end7 Nn (Ls.map frE) sf X h n (Sd.map frE)
    rw [hm] at e
    refine ⟨env, sf, X, ?_, ?_, hok, by omega, g⟩
    · rw [loopH_exit e, hd]
      simp only [goodF, List.filter_nil, List.map_nil, frs, List.flatMap_nil, List.foldl_nil, List.append_nil]
      rfl
    · rw [hd]; simp [goodF, frs, sendR]
  | j + 1, i, K, sf, X, h, n, Sd, hi, hK, hok, hX, hS => by
    have hlt : i < Ls.length := by omega
    have hd : Ls.drop i = Ls[i] :: Ls.drop (i + 1) := List.drop_eq_getElem_cons hlt
    have hm : i < (Ls.map frE).length := by rw [List.length_map]; exact hlt
    have hg : (Ls.map frE)[i]?.getD [] = [.int .i64 Ls[i].1, .str Ls[i].2] := by rw [List.getElem?_map, List.getElem?_eq_getElem hlt]; rfl
    have wi : IntKind.i64.wrap ((i : Int) + 1) = ((i + 1 : Nat) : Int) := by rw [i64_in _ (by omega)]; omega
    by_cases hs : 300 < (Ls[i]).2.size
    · obtain ⟨st1, e1, e2⟩ := ret7 Nn (Ls.map frE) i sf X h n (Sd.map frE) hm _ _ hg hs
      exact .inl ⟨st1, loopH_ret e1, e2⟩
    · by_cases hr : rgt (Ls[i]).1 (Ls[i]).2.size = 0
      · obtain ⟨sf1, X1, st1, e1, e2, g1, g2⟩ := good7 Nn (Ls.map frE) i sf X h n (Sd.map frE) hm _ _ hg hs hr _ wi hok (by omega) (by rw [List.length_map]; omega)
        have hfl : (frB (Ls[i]).1 (toBytes (Ls[i]).2)).length = (Ls[i]).2.size + 11 := by rw [frB_length, size_toBytes]
        have hl1 : (cont X1 sf1).length ≤ 311 * (i + 1) := by rw [g1, List.length_append, sendR_length, hfl]; omega
        have eS : Sd.map frE ++ [[.int .i64 (Ls[i]).1, .str (Ls[i]).2]] = (Sd ++ [Ls[i]]).map frE := by rw [List.map_append]; rfl
        rw [eS] at e2
        have ih := loop7 Nn Ls hL j (i + 1) (K - 1) sf1 X1 ((frB (Ls[i]).1 (toBytes (Ls[i]).2)).foldl sbyte (h, n)).1 ((frB (Ls[i]).1 (toBytes (Ls[i]).2)).foldl sbyte (h, n)).2 (Sd ++ [Ls[i]]) (by omega) (by omega) g2 hl1 (by rw [List.length_append]; simp only [List.length_cons, List.length_nil]; omega)
        have eg : goodF (Ls.drop i) = ((Ls[i]).1, toBytes (Ls[i]).2) :: goodF (Ls.drop (i + 1)) := by
          rw [hd]; unfold goodF; rw [List.filter_cons, if_pos (rgt_true hr)]; rfl
        have ef : (Ls.drop i).filter (fun f => decide (rgt f.1 f.2.size = 0)) = Ls[i] :: (Ls.drop (i + 1)).filter (fun f => decide (rgt f.1 f.2.size = 0)) := by
          rw [hd, List.filter_cons, if_pos (rgt_true hr)]
        have efr : frs (goodF (Ls.drop i)) = frB (Ls[i]).1 (toBytes (Ls[i]).2) ++ frs (goodF (Ls.drop (i + 1))) := by rw [eg]; rfl
        have pe : ∀ p : Int × Int, (p.1, p.2) = p := fun _ => rfl
        rw [pe] at ih
        rw [loopH_norm e1 (by omega), e2]
        rcases ih with ⟨st2, q1, q2⟩ | ⟨env, sf', X', q1, q2, q3⟩
        · exact .inl ⟨st2, q1, q2⟩
        · refine .inr ⟨env, sf', X', ?_, ?_, q3⟩
          · rw [efr, List.foldl_append, ef]
            rw [List.append_assoc, List.singleton_append] at q1
            exact q1
          · rw [q2, g1, efr, sendT_rec, sendT_rec, sendT_rec, sendT_append, List.map_append, List.append_assoc]
      · obtain ⟨st1, e1, e2⟩ := bad7 Nn (Ls.map frE) i sf X h n (Sd.map frE) hm _ _ hg hs hr _ wi
        have ih := loop7 Nn Ls hL j (i + 1) (K - 1) sf X h n Sd (by omega) (by omega) hok (by omega) (by omega)
        have eg : goodF (Ls.drop i) = goodF (Ls.drop (i + 1)) := by
          rw [hd]; unfold goodF; rw [List.filter_cons, if_neg (by rw [decide_eq_true_eq]; exact hr)]
        have ef : (Ls.drop i).filter (fun f => decide (rgt f.1 f.2.size = 0)) = (Ls.drop (i + 1)).filter (fun f => decide (rgt f.1 f.2.size = 0)) := by
          rw [hd, List.filter_cons, if_neg (by rw [decide_eq_true_eq]; exact hr)]
        rw [loopH_norm e1 (by omega), e2, eg, ef]
        exact ih
end Go.X.Try
set_option maxRecDepth 100000
namespace Go.X
open Go.RowKit Go.ChangeShapes Go.ChangeAt Go.WideShapes Go.Deep
/-! ### an argument that is a slice, as what it reads -/
theorem list_of {α : Type} {p : Nat → α → Prop} : ∀ (n : Nat), (∀ i, i < n → ∃ a, p i a) → ∃ zs : List α, zs.length = n ∧ ∀ (i : Nat) (a : α), zs[i]? = some a → p i a
  | 0, _ => ⟨[], rfl, fun i a h => by simp at h⟩
  | n + 1, h => by
    obtain ⟨zs, hl, hz⟩ := list_of n (fun i hi => h i (by omega))
    obtain ⟨a, ha⟩ := h n (by omega)
    refine ⟨zs ++ [a], by simp [hl], fun i b hb => ?_⟩
    by_cases hi : i < n
    · rw [List.getElem?_append_left (by omega)] at hb
      exact hz i b hb
    · have hlt := (List.getElem?_eq_some_iff.1 hb).1
      simp only [List.length_append, List.length_cons, List.length_nil] at hlt
      have hin : i = n := by omega
      subst hin
      rw [← hl, List.getElem?_concat_length] at hb
      simp only [Option.some.injEq] at hb
      subst hb
      exact ha
theorem flat_at {α β : Type} {g : α → List β} {s : Nat} {u : β} : ∀ {zs : List α} {j : Nat}, (∀ a ∈ zs, (g a).length = s) → (zs.flatMap g)[j]? = some u → ∃ i r a, j = i * s + r ∧ r < s ∧ zs[i]? = some a ∧ (g a)[r]? = some u
  | [], j, _, h => by simp at h
  | a :: zs, j, hs, h => by
    have ha := hs a (by simp)
    rw [List.flatMap_cons] at h
    by_cases hj : j < s
    · rw [List.getElem?_append_left (by omega)] at h
      exact ⟨0, j, a, by simp, hj, rfl, h⟩
    · rw [List.getElem?_append_right (by omega), ha] at h
      obtain ⟨i, r, b, h1, h2, h3, h4⟩ := flat_at (zs := zs) (fun b hb => hs b (by simp [hb])) h
      exact ⟨i + 1, r, b, by rw [Nat.add_mul]; omega, h2, by simpa using h3, h4⟩
section
variable {H : Type} {enc : TypeId × Value → H} {P : Program} {W : World} {spare : Nat → Bool} {held : Bool}
theorem open_ro {α : Type} (enc' : α → List Sc) (mkc : List α → RC) (Q : α → Prop) {t e : TypeId} {v : Value} {d : DataW H} {ps : List MemPlace} {r : Reach} {b0 : Nat}
    (hsz : ∀ a, Q a → (enc' a).length = P.cellsOf e) (hv : ∀ zs, (mkc zs).vals = zs.flatMap fun a => (enc' a).map Sc.val) (hl : ∀ zs, (mkc zs).len = zs.length)
    (hw : ∀ zs, (∀ a ∈ zs, Q a) → (mkc zs).wf) (hel : ∀ (fuel : Nat) (cs : List Value) (x : DataW H × List MemPlace), DataW.trod enc P W 0 spare held fuel e cs = some x → ∃ a, cs = (enc' a).map Sc.val ∧ Q a)
    (ht : P.underlying t = some (.slice e)) (hpos : 0 < P.cellsOf e) (hval : Value.okWide P W r b0 t v) (h : DataW.Trod enc P W 0 spare held t v d ps) :
    ∃ (zs : List α) (a : Option Addr) (cap b : Nat), v = .slice a (mkc zs).len cap ∧ (mkc zs).len ≤ cap ∧ zs.length ≤ maxLen ∧ (∀ z ∈ zs, Q z) ∧ ∀ (τ : Nat → Nat) (u : Nat), τ u = b → (cx0 P W τ).reads u (mkc zs) a := by
  obtain ⟨a, len, cap, rfl⟩ := okWide_slice ht hval
  obtain ⟨fuel, hf⟩ := h
  rcases open_slice ht hf with ⟨hcs, hx⟩ | ⟨a, len, cap, m, n, D, Pl, hcs, _, hlc, hm, hmm, hx, hi⟩
  · simp [Value.cells] at hcs
    obtain ⟨rfl, rfl, rfl⟩ := hcs
    refine ⟨[], none, 0, 0, by rw [hl]; rfl, by rw [hl]; exact Nat.le_refl _, by simp, by simp, fun τ u _ => ⟨hw [] (by simp), fun h0 => ?_⟩⟩
    rw [hl] at h0
    simp at h0
  · simp [Value.cells] at hcs
    obtain ⟨rfl, rfl, rfl⟩ := hcs
    have hmle : len ≤ m := by rw [hmm]; split <;> omega
    obtain ⟨zs, hzl, hz⟩ := list_of (p := fun i z => W.cells? 0 (a.add (i * P.cellsOf e)) (P.cellsOf e) = some ((enc' z).map Sc.val) ∧ Q z) len (fun i hilt => by
      obtain ⟨cs', h1, h2⟩ := hi i (by omega)
      obtain ⟨z, rfl, hq⟩ := hel _ _ _ h2
      exact ⟨z, h1, hq⟩)
    have hQ : ∀ z ∈ zs, Q z := fun z hm => by
      obtain ⟨i, hi'⟩ := List.getElem?_of_mem hm
      exact (hz i z hi').2
    obtain ⟨b, o, spot⟩ := a
    have spotOf : 0 < len → spot = none := fun h0 => by
      have h1 := hz 0 _ (List.getElem?_eq_getElem (by omega))
      obtain ⟨_, hcl, hat⟩ := World.cells?_some h1.1
      have h2 := hat 0 hpos
      rw [List.getElem?_eq_getElem (by rw [hcl]; exact hpos)] at h2
      simpa [Addr.add] using World.cell?_spot h2
    refine ⟨zs, some ⟨b, o, spot⟩, cap, b, by rw [hl, hzl], by rw [hl]; omega, by omega, hQ, fun τ u hu => ⟨hw zs hQ, fun h0 => ?_⟩⟩
    rw [hl, hzl] at h0
    have hsp := spotOf h0
    subst hsp
    have hcell : ∀ j v, (mkc zs).vals[j]? = some v → W.cell? ⟨b, o + j, none⟩ = some v := fun j v hj => by
      rw [hv] at hj
      obtain ⟨i, q, z, rfl, hq, hzi, hqv⟩ := flat_at (s := P.cellsOf e) (fun z hzm => by rw [List.length_map]; exact hsz z (hQ z hzm)) hj
      obtain ⟨h1, _⟩ := hz i z hzi
      obtain ⟨_, _, hat⟩ := World.cells?_some h1
      have h2 := hat q hq
      rw [hqv] at h2
      rw [← h2, Go.WideShapes.add_plain, Go.WideShapes.add_plain, Nat.add_assoc]
    refine ⟨b, o, rfl, fun hown => ?_, hu, hcell⟩
    rcases hown with hS | hge
    · exact hS
    · have h1 := hz 0 _ (List.getElem?_eq_getElem (by omega))
      obtain ⟨_, hcl, hat⟩ := World.cells?_some h1.1
      have h2 := hat 0 hpos
      rw [List.getElem?_eq_getElem (by rw [hcl]; exact hpos)] at h2
      have h3 : b < W.heap.size := by simpa [Addr.add] using World.block_lt_of_cell? W _ h2
      simp only [cx0] at hge
      omega
def isU8 (x : Int) : Prop := 0 ≤ x ∧ x < 256
/-- Integers of a kind. -/
theorem open_ro_ints {k : IntKind} {t e : TypeId} {v : Value} {d : DataW H} {ps : List MemPlace} {r : Reach} {b0 : Nat} (ht : P.underlying t = some (.slice e)) (he : P.underlying e = some (.int k)) (hc : P.cellsOf e = 1)
    (hval : Value.okWide P W r b0 t v) (h : DataW.Trod enc P W 0 spare held t v d ps) :
    ∃ (zs : List Int) (a : Option Addr) (cap b : Nat), v = .slice a (RC.ints k zs).len cap ∧ (RC.ints k zs).len ≤ cap ∧ zs.length ≤ maxLen ∧ (∀ z ∈ zs, (Lit.int k z).wf = true) ∧ ∀ (τ : Nat → Nat) (u : Nat), τ u = b → (cx0 P W τ).reads u (.ints k zs) a := by
  refine open_ro (fun z => [.int k z]) (RC.ints k) (fun z => (Lit.int k z).wf = true) (fun a _ => by rw [hc]; rfl) (fun zs => ?_) (fun zs => rfl) (fun zs _ => trivial) (fun fuel cs x hx => ?_) ht (by omega) hval h
  · simp only [RC.vals, List.map_cons, List.map_nil, Sc.val]
    induction zs with
    | nil => rfl
    | cons z zs ih => simp [ih]
  · obtain ⟨n, rfl, _, hw⟩ := DataW.trod_int he hx
    exact ⟨n, rfl, hw⟩
theorem open_ro_strs {t e : TypeId} {v : Value} {d : DataW H} {ps : List MemPlace} {r : Reach} {b0 : Nat} (ht : P.underlying t = some (.slice e)) (he : P.underlying e = some .string) (hc : P.cellsOf e = 1)
    (hval : Value.okWide P W r b0 t v) (h : DataW.Trod enc P W 0 spare held t v d ps) :
    ∃ (zs : List ByteArray) (a : Option Addr) (cap b : Nat), v = .slice a (RC.strs zs).len cap ∧ (RC.strs zs).len ≤ cap ∧ zs.length ≤ maxLen ∧ (∀ z ∈ zs, z.size ≤ maxLen) ∧ ∀ (τ : Nat → Nat) (u : Nat), τ u = b → (cx0 P W τ).reads u (.strs zs) a := by
  refine open_ro (fun z => [.str z]) RC.strs (fun z => z.size ≤ maxLen) (fun a _ => by rw [hc]; rfl) (fun zs => ?_) (fun zs => rfl) (fun zs _ => trivial) (fun fuel cs x hx => ?_) ht (by omega) hval h
  · simp only [RC.vals, List.map_cons, List.map_nil, Sc.val]
    induction zs with
    | nil => rfl
    | cons z zs ih => simp [ih]
  · obtain ⟨n, rfl, _, hw⟩ := DataW.trod_string he hx
    exact ⟨n, rfl, hw⟩
theorem open_ro_bools {t e : TypeId} {v : Value} {d : DataW H} {ps : List MemPlace} {r : Reach} {b0 : Nat} (ht : P.underlying t = some (.slice e)) (he : P.underlying e = some .bool) (hc : P.cellsOf e = 1)
    (hval : Value.okWide P W r b0 t v) (h : DataW.Trod enc P W 0 spare held t v d ps) :
    ∃ (zs : List Bool) (a : Option Addr) (cap b : Nat), v = .slice a (RC.bools zs).len cap ∧ (RC.bools zs).len ≤ cap ∧ zs.length ≤ maxLen ∧ (∀ z ∈ zs, True) ∧ ∀ (τ : Nat → Nat) (u : Nat), τ u = b → (cx0 P W τ).reads u (.bools zs) a := by
  refine open_ro (fun z => [.bool z]) RC.bools (fun _ => True) (fun a _ => by rw [hc]; rfl) (fun zs => ?_) (fun zs => rfl) (fun zs _ => trivial) (fun fuel cs x hx => ?_) ht (by omega) hval h
  · simp only [RC.vals, List.map_cons, List.map_nil, Sc.val]
    induction zs with
    | nil => rfl
    | cons z zs ih => simp [ih]
  · obtain ⟨n, rfl, _⟩ := DataW.trod_bool he hx
    exact ⟨n, rfl, trivial⟩
/-- Structs whose cells are told by an opener of their own. -/
theorem open_ro_recs (n : Nat) (Q : List Sc → Prop) {t e : TypeId} {v : Value} {d : DataW H} {ps : List MemPlace} {r : Reach} {b0 : Nat} (hn : 0 < n) (hQ : ∀ l, Q l → l.length = n)
    (hel : ∀ (fuel : Nat) (cs : List Value) (x : DataW H × List MemPlace), DataW.trod enc P W 0 spare held fuel e cs = some x → ∃ a : List Sc, cs = a.map Sc.val ∧ Q a)
    (ht : P.underlying t = some (.slice e)) (hc : P.cellsOf e = n) (hval : Value.okWide P W r b0 t v) (h : DataW.Trod enc P W 0 spare held t v d ps) :
    ∃ (zs : List (List Sc)) (a : Option Addr) (cap b : Nat), v = .slice a (RC.recs n zs).len cap ∧ (RC.recs n zs).len ≤ cap ∧ zs.length ≤ maxLen ∧ (∀ z ∈ zs, Q z) ∧ ∀ (τ : Nat → Nat) (u : Nat), τ u = b → (cx0 P W τ).reads u (.recs n zs) a :=
  open_ro id (RC.recs n) Q (fun a ha => by rw [hc]; exact hQ a ha) (fun zs => rfl) (fun zs => rfl) (fun zs hz => ⟨hn, fun l hl => hQ l (hz l hl)⟩) hel ht (by omega) hval h
/-- What a field of a struct among the arguments is. -/
inductive FK where
  | int (k : IntKind)
  | str
  | bool
def FK.ok : FK → Sc → Prop
  | .int k, .int j x => j = k ∧ (Lit.int k x).wf = true
  | .str, .str s => s.size ≤ maxLen
  | .bool, .bool _ => True
  | _, _ => False
def FK.is (P : Program) (t : TypeId) : FK → Bool
  | .int k => match P.underlying t with
    | some (.int j) => decide (j = k)
    | _ => false
  | .str => match P.underlying t with
    | some .string => true
    | _ => false
  | .bool => match P.underlying t with
    | some .bool => true
    | _ => false
def okFields : List FK → List Sc → Prop
  | [], [] => True
  | k :: ks, c :: cs => k.ok c ∧ okFields ks cs
  | _, _ => False
theorem okFields_length : ∀ {ks : List FK} {l : List Sc}, okFields ks l → l.length = ks.length
  | [], [], _ => rfl
  | [], _ :: _, h => h.elim
  | _ :: _, [], h => h.elim
  | k :: ks, c :: cs, h => by simp [okFields_length h.2]
theorem okFields_of : ∀ {ks : List FK} {l : List Sc}, l.length = ks.length → (∀ (j : Nat) (k : FK) (c : Sc), ks[j]? = some k → l[j]? = some c → k.ok c) → okFields ks l
  | [], [], _, _ => trivial
  | [], _ :: _, h, _ => by simp at h
  | _ :: _, [], h, _ => by simp at h
  | k :: ks, c :: cs, h, hf => ⟨hf 0 k c rfl rfl, okFields_of (by simpa using h) fun j k' c' h1 h2 => hf (j + 1) k' c' (by simpa using h1) (by simpa using h2)⟩
theorem open_fk {fuel : Nat} {t : TypeId} {cs : List Value} {x : DataW H × List MemPlace} (k : FK) (hk : k.is P t = true) (h : DataW.trod enc P W 0 spare held fuel t cs = some x) : ∃ c : Sc, cs = [c.val] ∧ k.ok c := by
  cases k with
  | int k =>
    simp only [FK.is] at hk
    split at hk
    · rename_i j hu
      simp only [decide_eq_true_eq] at hk
      subst hk
      obtain ⟨n, rfl, _, hw⟩ := DataW.trod_int hu h
      exact ⟨.int _ n, rfl, rfl, hw⟩
    · cases hk
  | str =>
    simp only [FK.is] at hk
    split at hk
    · rename_i hu
      obtain ⟨n, rfl, _, hw⟩ := DataW.trod_string hu h
      exact ⟨.str n, rfl, hw⟩
    · cases hk
  | bool =>
    simp only [FK.is] at hk
    split at hk
    · rename_i hu
      obtain ⟨n, rfl, _⟩ := DataW.trod_bool hu h
      exact ⟨.bool n, rfl, trivial⟩
    · cases hk
def fieldsAre (P : Program) (fs : Array Field) (ks : List FK) : Bool := fs.size == ks.length && (fs.toList.zip ks).all fun p => p.2.is P p.1.type
theorem open_fields {e : TypeId} {fs : Array Field} {fuel : Nat} {cs : List Value} {x : DataW H × List MemPlace} (he : P.underlying e = some (.struct fs)) (hone : oneCellFields P fs = true) (hC : P.cellsOf e = fs.size) (ks : List FK) (hks : fieldsAre P fs ks = true)
    (h : DataW.trod enc P W 0 spare held fuel e cs = some x) : ∃ l : List Sc, cs = l.map Sc.val ∧ okFields ks l := by
  obtain ⟨ys, n', hn', hy, hlen, hyl, hf⟩ := DataW.trod_struct he h
  simp only [fieldsAre, Bool.and_eq_true, beq_iff_eq] at hks
  obtain ⟨hsz, hall⟩ := hks
  have hcl : cs.length = fs.size := by rw [hlen]; exact hC
  have each : ∀ j, j < fs.size → ∃ c : Sc, cs[j]? = some c.val ∧ ∀ k, ks[j]? = some k → k.ok c := fun j hj => by
    have hfj : fs[j]? = some fs[j] := Array.getElem?_eq_getElem hj
    obtain ⟨ho, hk⟩ := hone_of hone j fs[j] hfj
    have h1 := hf j fs[j] hfj
    rw [ho, hk] at h1
    have hone' : (cs.drop j).take 1 = [cs[j]'(by omega)] := by
      rw [List.drop_eq_getElem_cons (by omega)]
      rfl
    rw [hone'] at h1
    have hys : ys[j]? = some (ys[j]'(by omega)) := List.getElem?_eq_getElem (by omega)
    have hkj : ks[j]? = some (ks[j]'(by omega)) := List.getElem?_eq_getElem (by omega)
    have hmem : (fs[j], ks[j]'(by omega)) ∈ fs.toList.zip ks := by
      refine List.mem_of_getElem? (i := j) ?_
      rw [List.getElem?_zip_eq_some]
      exact ⟨by simp, hkj⟩
    obtain ⟨c, hc, hok⟩ := open_fk _ (List.all_eq_true.1 hall _ hmem) (h1.trans hys)
    simp only [List.cons.injEq, and_true] at hc
    refine ⟨c, by rw [List.getElem?_eq_getElem (by omega), hc], fun k hk' => ?_⟩
    rw [hkj] at hk'
    simp only [Option.some.injEq] at hk'
    rw [← hk']
    exact hok
  obtain ⟨l, hl, hall'⟩ := list_of (p := fun j c => cs[j]? = some (Sc.val c) ∧ ∀ k, ks[j]? = some k → k.ok c) fs.size each
  refine ⟨l, ?_, okFields_of (by omega) fun j k c h1 h2 => (hall' j c h2).2 k h1⟩
  refine List.ext_getElem? fun j => ?_
  by_cases hj : j < l.length
  · have := (hall' j _ (List.getElem?_eq_getElem hj)).1
    rw [this, List.getElem?_map, List.getElem?_eq_getElem hj]
    rfl
  · rw [List.getElem?_eq_none (by omega), List.getElem?_eq_none (by rw [List.length_map]; omega)]
/-- An array of integers, by value. -/
theorem open_arr {n : Nat} {k : IntKind} {t e : TypeId} {v : Value} {d : DataW H} {ps : List MemPlace} {r : Reach} {b0 : Nat} (ht : P.underlying t = some (.array n e)) (he : P.underlying e = some (.int k)) (hc : P.cellsOf e = 1) (hT : P.cellsOf t = n)
    (hval : Value.okWide P W r b0 t v) (h : DataW.Trod enc P W 0 spare held t v d ps) :
    ∃ zs : List Int, zs.length = n ∧ v = .agg (zs.map (Value.int k)).toArray ∧ ∀ z ∈ zs, (Lit.int k z).wf = true := by
  obtain ⟨cs, rfl, hsz⟩ : ∃ cs, v = .agg cs ∧ cs.size = P.cellsOf t := by
    simp only [Value.okWide, ht] at hval
    cases v <;> simp_all
  obtain ⟨fuel, hf⟩ := h
  obtain ⟨xs, m, _, _, _, hxl, hg⟩ := DataW.trod_array ht hf
  obtain ⟨l⟩ := cs
  simp only [List.size_toArray] at hsz
  rw [hT] at hsz
  obtain ⟨zs, hl, hz⟩ := list_of (p := fun i z => l[i]? = some (Value.int k z) ∧ (Lit.int k z).wf = true) n fun i hi => by
    have h1 := hg i hi
    rw [hc, Nat.mul_one] at h1
    have hli : i < l.length := by omega
    have h2 : ((Value.agg l.toArray).cells.toList.drop i).take 1 = [l[i]] := by
      simp only [Value.cells]
      rw [List.drop_eq_getElem_cons hli]
      rfl
    rw [h2, List.getElem?_eq_getElem (by omega : i < xs.length)] at h1
    obtain ⟨z, hz1, _, hz2⟩ := DataW.trod_int he h1
    simp only [List.cons.injEq, and_true] at hz1
    exact ⟨z, by rw [List.getElem?_eq_getElem hli, hz1], hz2⟩
  refine ⟨zs, hl, ?_, fun z hm => ?_⟩
  · congr 2
    refine List.ext_getElem? fun j => ?_
    by_cases hj : j < zs.length
    · rw [(hz j _ (List.getElem?_eq_getElem hj)).1, List.getElem?_map, List.getElem?_eq_getElem hj]
      rfl
    · rw [List.getElem?_eq_none (by omega), List.getElem?_eq_none (by rw [List.length_map]; omega)]
  · obtain ⟨j, hj⟩ := List.getElem?_of_mem hm
    exact (hz j z hj).2
/-- A struct of plain fields, by value. -/
theorem open_struct {fs : Array Field} {t : TypeId} {v : Value} {d : DataW H} {ps : List MemPlace} {r : Reach} {b0 : Nat} (ht : P.underlying t = some (.struct fs)) (hone : oneCellFields P fs = true) (hC : P.cellsOf t = fs.size) (ks : List FK) (hks : fieldsAre P fs ks = true)
    (hval : Value.okWide P W r b0 t v) (h : DataW.Trod enc P W 0 spare held t v d ps) : ∃ l : List Sc, v = .agg (l.map Sc.val).toArray ∧ okFields ks l := by
  obtain ⟨cs, rfl, hsz⟩ : ∃ cs, v = .agg cs ∧ cs.size = P.cellsOf t := by
    simp only [Value.okWide, ht] at hval
    cases v <;> simp_all
  obtain ⟨fuel, hf⟩ := h
  obtain ⟨l, hl, hok⟩ := open_fields ht hone hC ks hks hf
  refine ⟨l, ?_, hok⟩
  obtain ⟨cs⟩ := cs
  simp only [Value.cells] at hl
  rw [hl]
theorem vrl_scs {C : Cx} {n : Nat} {ρ : Nat → RV} : ∀ l : List Sc, VRL C n ρ (l.map Sc.sv) (l.map Sc.val)
  | [] => .nil
  | .int k x :: l => .cons _ _ _ _ (.int k x) (vrl_scs l)
  | .bool b :: l => .cons _ _ _ _ (.bool b) (vrl_scs l)
  | .str s :: l => .cons _ _ _ _ (.str s) (vrl_scs l)
/-- How long a string in a struct among the arguments is, as the form's own reach counts it. -/
theorem struct_string {fs : Array Field} {t : TypeId} {cs : List Value} {d : DataW H} {ps : List MemPlace} (ht : P.underlying t = some (.struct fs)) (hone : oneCellFields P fs = true)
    (h : DataW.Trod enc P W 0 spare held t (.agg cs.toArray) d ps) {j : Nat} {f : Field} {s : ByteArray} (hf : fs[j]? = some f) (hu : P.underlying f.type = some .string) (hs : cs[j]? = some (.string s)) : s.size ∈ d.weights P t := by
  obtain ⟨fuel, hx⟩ := h
  obtain ⟨xs, n', hn', hy, hlen, hyl, hfs⟩ := DataW.trod_struct ht hx
  simp only [Prod.mk.injEq] at hy
  obtain ⟨rfl, _⟩ := hy
  obtain ⟨ho, hk⟩ := hone_of hone j f hf
  have h1 := hfs j f hf
  have hj : j < cs.length := by
    rcases Nat.lt_or_ge j cs.length with h | h
    · exact h
    · rw [List.getElem?_eq_none h] at hs; cases hs
  have hone' : ((Value.agg cs.toArray).cells.toList.drop j).take 1 = [.string s] := by
    simp only [Value.cells]
    rw [List.drop_eq_getElem_cons hj]
    rw [List.getElem?_eq_getElem hj] at hs
    simp only [Option.some.injEq] at hs
    rw [hs]
    rfl
  rw [ho, hk, hone'] at h1
  have hjx : j < xs.length := by
    rw [hyl]
    rcases Nat.lt_or_ge j fs.size with h | h
    · exact h
    · rw [Array.getElem?_eq_none h] at hf; cases hf
  rw [List.getElem?_eq_getElem hjx] at h1
  obtain ⟨s', e1, e2, _⟩ := DataW.trod_string hu h1
  simp only [List.cons.injEq, Value.string.injEq, and_true] at e1
  subst e1
  simp only [DataW.weights, ht]
  refine DataW.weights_mem_each (t := f.type) (d := .lit (.string s.data.toList)) (j := j) ?_ ?_ _ ?_
  · rw [List.getElem?_map, Array.getElem?_toList, hf]; rfl
  · rw [List.getElem?_map, List.getElem?_eq_getElem hjx, e2]; rfl
  · simp only [DataW.weights, List.mem_singleton]
    exact (Array.length_toList).symm
theorem vrl_ints {C : Cx} {n : Nat} {ρ : Nat → RV} (k : IntKind) : ∀ zs : List Int, VRL C n ρ (zs.map (SV.int k)) (zs.map (Value.int k))
  | [] => .nil
  | z :: zs => .cons _ _ _ _ (.int k z) (vrl_ints k zs)
end
end Go.X
set_option maxRecDepth 100000
set_option linter.unusedSimpArgs false
set_option linter.unusedVariables false
namespace Go.X.Try
open Go.IntWalk
def canon7b (rts : List SV) (D : List Int) (i : Int) (sf sc : Option (Nat × Nat)) (X Y : List (List Sc)) (h n : Int) (c : Ct) (S G : List (List Sc)) : St :=
  ⟨[(5, .one (.ptr 0 0)), (6, .one (.ptr 3 0)), (7, .one (.row 5)), (8, .one (.row 6)), (79, .one (.row 7)), (80, .one (.int .i64 D.length)), (81, .one (.int .i64 i))], rts,
    [.cells none (pipeCells 2048 (slv 1 sf) (slv 2 sc) h n), .rows (.recs 3 X), .rows (.recs 3 Y), .cells none [.row 4, .int .u64 c.h, .int .u64 c.n, .int .i64 c.e, .int .i64 c.m], .rows (.ints .u8 c.B), .rows (.recs 2 S), .rows (.recs 2 G), .rows (.ints .u8 D)]⟩
theorem body7b (x0 x1 : RC) (D : List Int) (i : Nat) (sf sc : Option (Nat × Nat)) (X Y : List (List Sc)) (h n : Int) (c : Ct) (S G : List (List Sc)) (d : Int) (rs : List By) (v : Nat) (hi : i < D.length) (hd : D[i]?.getD 0 = d) (hd2 : 0 ≤ d ∧ d < 256) (i' : Int) (wi : IntKind.i64.wrap ((i : Int) + 1) = i')
    (hX : slen X sf ≤ 4000) (hY : slen Y sc ≤ 0) (okX : okv X sf) (okY : okv Y sc) (hcY : cont Y sc = []) (hv : v = if d < 0 then 0 else if d < slen X sf then d.toNat else slen X sf) (hrs : (cont X sf).take v = rs.map rec3)
    (hr : ∀ r ∈ rs, 0 ≤ r.1 ∧ r.1 < 256) (hB : isB c.B) (hcl : c.B.length ≤ 3000) (h2 : 0 ≤ c.m) (h3 : c.m < 2 ^ 60) (he : (tk c rs).1.e = 0) (hG : G.length + (tk c rs).2.length ≤ 100000) (hve : v ≤ 300) :
    ∃ sf' sc' X' Y' st1, evC T7 KK b7x1 (canon7b [.ro 0 x0, .ro 1 x1] D i sf sc X Y h n c S G) = some (.norm, st1) ∧
      St.head [5, 6, 7, 8, 79, 80, 81] st1 = canon7b [.ro 0 x0, .ro 1 x1] D i' sf' sc' X' Y' h n (tk c rs).1 S (G ++ (tk c rs).2.map frS) ∧ cont X' sf' = (cont X sf).drop v ∧ okv X' sf' ∧ cont Y' sc' = [] ∧ okv Y' sc' := by
  have hii : (i : Int) < D.length := by omega
  have hgM : ∀ hh, D[i]'hh = d := fun hh => by rw [List.getElem?_eq_getElem hh] at hd; exact hd
  have wd : IntKind.i64.wrap d = d := i64_in _ (by omega)
  obtain ⟨sf1, sc1, X1, Y1, e31, hX1, okX1, hY1, okY1⟩ := f31 2048 h n d sf sc X Y hX (by omega) okX okY v hv
  rw [hcY, List.nil_append, hrs] at hY1
  have hY1l : slen Y1 sc1 ≤ 4000 := by
    rw [← cont_len Y1 sc1 okY1, hY1, ← hrs, List.length_take]
    omega
  obtain ⟨sc2, Y2, e32, hY2, okY2⟩ := f32 c 2048 sf1 sc1 X1 Y1 h n rs hY1 okY1 hY1l hr hB hcl h2 h3
  rw [he] at e32
  refine ⟨sf1, sc2, X1, Y2, ?_⟩
  have hlen : ((tk c rs).2.map frS).length = (tk c rs).2.length := List.length_map _
  have hG1 : (G.length + (tk c rs).2.length) * 24 ≤ 140737488355328 := by omega
  have hce : (tk c rs).1.e = 0 := he
  generalize (tk c rs).1 = c' at *
  generalize (tk c rs).2.map frS = M at *
  generalize (tk c rs).2.length = q at *
  simp only [pipeHp, tkHp0, tkHp, pipeCells, hce] at e31 e32
  simp -implicitDefEqProofs [b7x1, canon7b, upd, hi, hii, hd, hgM, wd, e31, e32, hX1, okX1, hY2, okY2, hce, wi, RC.len, RC.size, RC.get, RC.app, pipeCells, hlen, hG1]
theorem end7b (rts : List SV) (D : List Int) (sf sc : Option (Nat × Nat)) (X Y : List (List Sc)) (h n : Int) (c : Ct) (S G : List (List Sc)) :
    ∃ env, evC T7 KK b7x1 (canon7b rts D D.length sf sc X Y h n c S G) = some (.exit 2, ⟨env, rts, (canon7b rts D D.length sf sc X Y h n c S G).hp⟩) ∧ getT 7 env = .one (.row 5) ∧ getT 8 env = .one (.row 6) := by
  simp -implicitDefEqProofs [b7x1, canon7b, upd]
theorem rec3_isB {l : List Int} {p : Int × Int} (h : isB l) {Tr rest : List By} (e : sendT p l = Tr ++ rest) : (∀ r ∈ Tr, 0 ≤ r.1 ∧ r.1 < 256) ∧ (∀ r ∈ rest, 0 ≤ r.1 ∧ r.1 < 256) :=
  ⟨fun r hr => sendT_isB l p h r (by rw [e]; exact List.mem_append_left _ hr), fun r hr => sendT_isB l p h r (by rw [e]; exact List.mem_append_right _ hr)⟩
theorem tk_inv (c : Ct) : ∀ (rs : List By), (∀ r ∈ rs, 0 ≤ r.1 ∧ r.1 < 256) → isB c.B → 0 ≤ c.m → isB (tk c rs).1.B ∧ (tk c rs).1.B.length ≤ c.B.length + rs.length ∧ 0 ≤ (tk c rs).1.m ∧ (tk c rs).1.m ≤ c.m + rs.length ∧ (tk c rs).2.length ≤ rs.length := by
  intro rs
  induction rs generalizing c with
  | nil => intro _ h1 h2; exact ⟨h1, by simp [tk], h2, by simp [tk], by simp [tk]⟩
  | cons r rs ih =>
    intro hr h1 h2
    obtain ⟨q1, q2, q3, q4⟩ := feed_ok c r.1 r.2.1 r.2.2 h1 (hr r (by simp)) h2
    have q5 := feed_one c r.1 r.2.1 r.2.2
    obtain ⟨p1, p2, p3, p4, p5⟩ := ih (feed c r.1 r.2.1 r.2.2).1 (fun x hx => hr x (by simp [hx])) q1 q3
    simp only [tk, List.length_append, List.length_cons]
    exact ⟨p1, by omega, p3, by omega, by omega⟩
/-- The second round: part by part, all is taken. -/
theorem loop7b (x0 x1 : RC) (D : List Int) (nn : Nat) (hD : D.length = nn + 8) (hnn : nn ≤ 60) (hD1 : ∀ x ∈ D, 0 ≤ x ∧ x < 256) (hD2 : ∀ i, nn ≤ i → i < D.length → D[i]? = some 255) (F : List Int) (hF : isB F) (hFl : F.length ≤ 2000) (p : Int × Int) (ht : (tk c0 (sendT p F)).1.e = 0)
    (h n : Int) (S : List (List Sc)) : ∀ (j i K : Nat) (sf sc : Option (Nat × Nat)) (X Y : List (List Sc)) (Td Tr : List By), i + j = D.length → j < K → sendT p F = Td ++ Tr → cont X sf = Tr.map rec3 → okv X sf → cont Y sc = [] → okv Y sc →
      (nn ≤ i → Tr.length = 0 ∨ Tr.length + 255 * (i - nn) ≤ 2040) →
    ∃ env sf' sc' X' Y', loopH (evC T7 KK b7x1) [5, 6, 7, 8, 79, 80, 81] K (canon7b [.ro 0 x0, .ro 1 x1] D i sf sc X Y h n (tk c0 Td).1 S ((tk c0 Td).2.map frS)) = some (.exit 2, ⟨env, [.ro 0 x0, .ro 1 x1], (canon7b [.ro 0 x0, .ro 1 x1] D D.length sf' sc' X' Y' h n (tk c0 (sendT p F)).1 S ((tk c0 (sendT p F)).2.map frS)).hp⟩) ∧ getT 7 env = .one (.row 5) ∧ getT 8 env = .one (.row 6)
  | 0, i, K, sf, sc, X, Y, Td, Tr, hi, hK, hT, hX, okX, hY, okY, hm => by
    obtain rfl : i = D.length := by omega
    have hTr : Tr = [] := List.eq_nil_of_length_eq_zero (by have := hm (by omega); omega)
    subst hTr
    rw [List.append_nil] at hT
    obtain ⟨env, e, g⟩ := end7b [.ro 0 x0, .ro 1 x1] D sf sc X Y h n (tk c0 Td).1 S ((tk c0 Td).2.map frS)
    rw [hT]
    exact ⟨env, sf, sc, X, Y, loopH_exit e, g⟩
  | j + 1, i, K, sf, sc, X, Y, Td, Tr, hi, hK, hT, hX, okX, hY, okY, hm => by
    have hlt : i < D.length := by omega
    have hd2 := hD1 D[i] (List.getElem_mem hlt)
    have hd : D[i]?.getD 0 = D[i] := by rw [List.getElem?_eq_getElem hlt]; rfl
    have hXl : slen X sf = Tr.length := by rw [← cont_len X sf okX, hX, List.length_map]
    have hYl : slen Y sc = 0 := by rw [← cont_len Y sc okY, hY]; rfl
    have hTl : Td.length + Tr.length = F.length := by rw [← List.length_append, ← hT, sendT_length]
    obtain ⟨v, hv⟩ : ∃ v, v = if D[i] < 0 then 0 else if D[i] < slen X sf then (D[i]).toNat else slen X sf := ⟨_, rfl⟩
    have hv2 : v ≤ Tr.length ∧ v ≤ 255 ∨ v = Tr.length ∧ (Tr.length : Int) ≤ D[i] := by
      by_cases h1 : D[i] < slen X sf
      · rw [if_neg (by omega), if_pos h1] at hv; left; omega
      · rw [if_neg (by omega), if_neg h1] at hv; right; omega
    have wi : IntKind.i64.wrap ((i : Int) + 1) = ((i + 1 : Nat) : Int) := by rw [i64_in _ (by omega)]; omega
    obtain ⟨b1, b2⟩ := rec3_isB hF hT
    obtain ⟨t1, t2, t3, t4, t5⟩ := tk_inv c0 Td b1 (by simp [c0, isB]) (by simp [c0])
    simp only [c0, List.length_nil] at t2 t4
    have hsp : sendT p F = (Td ++ Tr.take v) ++ Tr.drop v := by rw [List.append_assoc, List.take_append_drop]; exact hT
    have hte : (tk (tk c0 Td).1 (Tr.take v)).1.e = 0 := by
      rw [hsp] at ht
      have := tk_ok c0 _ _ ht
      rw [tk_append] at this
      exact this
    have b3 : ∀ r ∈ Tr.take v, 0 ≤ r.1 ∧ r.1 < 256 := fun r hr => b2 r (List.mem_of_mem_take hr)
    obtain ⟨u1, u2, u3, u4, u5⟩ := tk_inv (tk c0 Td).1 (Tr.take v) b3 t1 t3
    have hvl : (Tr.take v).length ≤ Tr.length := by rw [List.length_take]; omega
    obtain ⟨sf1, sc1, X1, Y1, st1, e1, e2, g1, g2, g3, g4⟩ := body7b x0 x1 D i sf sc X Y h n (tk c0 Td).1 S ((tk c0 Td).2.map frS) D[i] (Tr.take v) v hlt hd hd2 _ wi (by omega) (by omega) okX okY hY hv (by rw [hX, List.map_take]) b3 t1 (by simp only [c0]; omega) t3 (by simp only [c0]; omega) hte (by rw [List.length_map]; omega) (by omega)
    have ea : tk c0 (Td ++ Tr.take v) = ((tk (tk c0 Td).1 (Tr.take v)).1, (tk c0 Td).2 ++ (tk (tk c0 Td).1 (Tr.take v)).2) := tk_append c0 Td (Tr.take v)
    have ih := loop7b x0 x1 D nn hD hnn hD1 hD2 F hF hFl p ht h n S j (i + 1) (K - 1) sf1 sc1 X1 Y1 (Td ++ Tr.take v) (Tr.drop v) (by omega) (by omega) hsp (by rw [g1, hX, List.map_drop]) g2 g3 g4 (by
      intro hni
      rw [List.length_drop]
      by_cases hn1 : nn ≤ i
      · have h255 := hD2 i hn1 hlt
        rw [List.getElem?_eq_getElem hlt, Option.some.injEq] at h255
        rw [h255] at hv hv2
        rw [hXl] at hv
        have hm1 := hm hn1
        by_cases h1 : (255 : Int) < (Tr.length : Nat)
        · rw [if_neg (by decide), if_pos h1] at hv
          have : v = 255 := by rw [hv]; rfl
          right; omega
        · rw [if_neg (by decide), if_neg h1] at hv
          left; omega
      · right; omega)
    rw [ea] at ih
    simp only [List.map_append] at ih
    obtain ⟨env, sf', sc', X', Y', e, g⟩ := ih
    exact ⟨env, sf', sc', X', Y', by rw [loopH_norm e1 (by omega), e2]; exact e, g⟩
end Go.X.Try
set_option maxRecDepth 100000
set_option linter.unusedSimpArgs false
set_option linter.unusedVariables false
namespace Go.X.Try
open Go.IntWalk
theorem okFr : ∀ {l : List (List Sc)}, (∀ z ∈ l, okFields [.int .i64, .str] z) → ∃ Ls : List Fr, l = Ls.map frE
  | [], _ => ⟨[], rfl⟩
  | z :: l, h => by
    obtain ⟨Ls, e⟩ := okFr (l := l) (fun y hy => h y (by simp [hy]))
    have hz := h z (by simp)
    have hl := okFields_length hz
    match z, hl with
    | [x0, x1], _ =>
      simp only [okFields] at hz
      obtain ⟨h0, h1, _⟩ := hz
      cases x0 <;> simp only [FK.ok] at h0
      cases x1 <;> simp only [FK.ok] at h1
      obtain ⟨rfl, h0⟩ := h0
      rename_i k s _
      exact ⟨(k, s) :: Ls, by rw [e]; rfl⟩
theorem goodF_ok (L : List Fr) : ∀ f ∈ goodF L, okF f := by
  intro f hf
  unfold goodF at hf
  obtain ⟨g, hg, rfl⟩ := List.mem_map.1 hf
  have := rgt_zero (of_decide_eq_true (List.mem_filter.1 hg).2)
  exact ⟨this.1, by simp only; rw [size_toBytes]; exact this.2⟩
theorem goodF_frS (L : List Fr) : (goodF L).map frS = (L.filter fun f => decide (rgt f.1 f.2.size = 0)).map frE := by
  unfold goodF
  rw [List.map_map]
  refine List.map_congr_left fun f _ => ?_
  simp only [Function.comp, frS, frE, ofBytes_toBytes]
theorem frs_isB (L : List Fr) : isB (frs (goodF L)) := by
  intro x hx
  unfold frs at hx
  obtain ⟨f, hf, hx⟩ := List.mem_flatMap.1 hx
  unfold goodF at hf
  obtain ⟨g, _, rfl⟩ := List.mem_map.1 hf
  exact frB_isB (isB_toBytes g.2) x hx
theorem law7 (a0 : List (List Sc)) (a1 : List Int) (_ : a0.length ≤ maxLen) (w0 : ∀ z ∈ a0, okFields [.int .i64, .str] z) (_ : a1.length ≤ maxLen) (w1 : ∀ z ∈ a1, (Lit.int .u8 z).wf = true) :
    F7 [.one (.ro 0 (.recs 2 a0)), .one (.ro 1 (.ints .u8 a1))] [] = some (.one (.bool true), []) := by
  obtain ⟨Ls, rfl⟩ := okFr w0
  have hlen : (Ls.map frE).length = Ls.length := List.length_map _
  by_cases h5 : 5 < Ls.length
  · have h5i : (5 : Int) < Ls.length := by omega
    simp -implicitDefEqProofs [F7, c7, upd, h24, RC.len, hlen, h5, h5i]
  have h5i : ¬ (5 : Int) < Ls.length := by omega
  by_cases h6 : 60 < a1.length
  · have h6i : (60 : Int) < a1.length := by omega
    simp -implicitDefEqProofs [F7, c7, upd, h24, RC.len, hlen, h5, h5i, h6, h6i]
  have h6i : ¬ (60 : Int) < a1.length := by omega
  have e25 := f25' 2048
  simp only [show ¬ ((2048 : Int) < 1) by decide, if_false, show ¬ ((2048 : Int) > 2048) by decide] at e25
  have e26 := f26
  have hlp := loop7 a1 Ls (by omega) Ls.length 0 KK none [] 7640891576956012808 0 [] (by omega) (by rw [KK_eq]; omega) trivial (by simp [cont]) (by simp)
  rcases hlp with ⟨st1, e, g4, g5⟩ | ⟨env, sf, X, e, hX, okX, hXn, g1, g5, g6, g7, g8⟩
  · obtain ⟨env1, rts1, hp1⟩ := st1
    simp only at g4 g5
    subst g5
    simp only [canon7, slv_none, pipeCells, List.map_nil, Int.cast_ofNat_Int, hlen] at e
    simp only [pipeHp, cutHp, pipeCells, slv_none] at e25 e26
    simp -implicitDefEqProofs [F7, c7, upd, h24, RC.len, hlen, h5, h5i, h6, h6i, e25, e26, e, g4]
  · rw [List.drop_zero, List.nil_append] at e
    rw [cont_none, List.nil_append, List.drop_zero, sendT_rec] at hX
    have hok := goodF_ok Ls
    have hfr := goodF_frS Ls
    rw [← hfr] at e
    have hFB := frs_isB Ls
    have htk := tk_frames (goodF Ls) 7640891576956012808 0 0 hok
    have hc0 : (⟨[], 7640891576956012808, 0, 0, 0⟩ : Ct) = c0 := rfl
    rw [hc0] at htk
    have hXl : (frs (goodF Ls)).length ≤ 2000 := by
      have := congrArg List.length hX
      rw [List.length_map, sendT_length] at this
      omega
    have hGl : (goodF Ls).length ≤ 90000 := by
      unfold goodF
      rw [List.length_map]
      exact Nat.le_trans (List.length_filter_le _ _) (by omega)
    have e33 := f33 (goodF Ls) hGl
    have hw1 : ∀ x ∈ a1, 0 ≤ x ∧ x < 256 := fun x hx => by
      have := w1 x hx
      simp [Lit.wf, IntKind.min, IntKind.max, IntKind.signed, IntKind.bits] at this
      omega
    obtain ⟨D, hDd⟩ : ∃ D, D = a1 ++ [255, 255, 255, 255, 255, 255, 255, 255] := ⟨_, rfl⟩
    have hD : D.length = a1.length + 8 := by rw [hDd, List.length_append]; rfl
    have hD1 : ∀ x ∈ D, 0 ≤ x ∧ x < 256 := fun x hx => by
      rw [hDd] at hx
      rcases List.mem_append.1 hx with h | h
      · exact hw1 x h
      · simp only [List.mem_cons, List.not_mem_nil, or_false] at h
        omega
    have hD2 : ∀ i, a1.length ≤ i → i < D.length → D[i]? = some 255 := fun i h1 h2 => by
      rw [hDd, List.getElem?_append_right h1]
      have h3 : i - a1.length < 8 := by omega
      generalize i - a1.length = q at *
      match q, h3 with
      | 0, _ | 1, _ | 2, _ | 3, _ | 4, _ | 5, _ | 6, _ | 7, _ => rfl
    have hte : (tk c0 (sendT (7640891576956012808, 0) (frs (goodF Ls)))).1.e = 0 := by rw [htk]
    obtain ⟨env2, sf2, sc2, X2, Y2, e2, k7, k8⟩ := loop7b (.recs 2 (Ls.map frE)) (.ints .u8 a1) D a1.length hD (by omega) hD1 hD2 (frs (goodF Ls)) hFB hXl (7640891576956012808, 0) hte ((frs (goodF Ls)).foldl sbyte (7640891576956012808, 0)).1 ((frs (goodF Ls)).foldl sbyte (7640891576956012808, 0)).2 ((goodF Ls).map frS) D.length 0 KK sf none X [] [] (sendT (7640891576956012808, 0) (frs (goodF Ls))) (by omega) (by rw [KK_eq]; omega) rfl hX okX rfl trivial (fun h => by right; rw [sendT_length]; omega)
    have ht0 : tk c0 [] = (c0, []) := rfl
    rw [htk, ht0] at e2
    have hM : ((goodF Ls).map frS).length = (goodF Ls).length := List.length_map _
    generalize (goodF Ls).map frS = M at *
    generalize ((frs (goodF Ls)).foldl sbyte (7640891576956012808, 0)).1 = hh at *
    generalize ((frs (goodF Ls)).foldl sbyte (7640891576956012808, 0)).2 = nn at *
    have ha1 : a1.length ≤ 140737488355328 := by omega
    have ha2 : a1.length + 8 ≤ 140737488355328 := by omega
    simp only [canon7, canon7b, slv_none, pipeCells, List.map_nil, Int.cast_ofNat_Int, hlen, c0] at e e2
    rw [hD, show ((a1.length + 8 : Nat) : Int) = (a1.length : Int) + 8 by omega] at e2
    simp only [pipeHp, cutHp, pipeCells, slv_none] at e25 e26
    subst hDd
    simp -implicitDefEqProofs [F7, c7, upd, h24, RC.len, RC.size, RC.app, RC.ofElems, hlen, h5, h5i, h6, h6i, e25, e26, e, g1, g5, g6, g7, g8, ha1, ha2, e2, k7, k8, e33, pipeCells]
end Go.X.Try
set_option maxRecDepth 100000
set_option linter.unusedSimpArgs false
set_option linter.unusedVariables false
namespace Go.X.Try
open Go.IntWalk
/-- A frame's bytes that are not whole, with nothing wrong. -/
def InvF (B : List Int) : Prop := B = [] ∨ (kd (B.getD 0 0) = true ∧ (3 ≤ B.length → szF B ≤ 911 ∧ B.length < szF B))
theorem frst_step {B : List Int} (b : Int) (h : InvF B) :
    (ahd (B ++ [b]) ≠ 0 ∧ ∃ n, frst (B ++ [b]) = (none, n, ahd (B ++ [b]))) ∨
    (ahd (B ++ [b]) = 0 ∧ (B ++ [b]).length ≠ szF (B ++ [b]) ∧ frst (B ++ [b]) = (none, 0, 0) ∧ InvF (B ++ [b])) ∨
    (ahd (B ++ [b]) = 0 ∧ (B ++ [b]).length = szF (B ++ [b]) ∧ frst (B ++ [b]) = match whl (B ++ [b]) with
      | none => (none, szF (B ++ [b]), 4)
      | some f => (some f, szF (B ++ [b]), 0)) := by
  match B, h with
  | [], _ =>
    simp only [List.nil_append]
    cases hk : kd b with
    | false =>
      left
      have e : ahd [b] = 6 := if_neg (by rw [hk]; decide)
      rw [e]
      exact ⟨by decide, 1, by unfold frst; simp [hk]⟩
    | true =>
      right; left
      have e : ahd [b] = 0 := if_pos hk
      exact ⟨e, by simp [szF], by unfold frst; simp [hk], .inr ⟨hk, fun h => by simp at h⟩⟩
  | [x], h =>
    have hk : kd x = true := by
      rcases h with h | h
      · cases h
      · exact h.1
    right; left
    exact ⟨rfl, by simp [szF], by unfold frst; simp [hk], .inr ⟨hk, fun h => by simp at h⟩⟩
  | [x, y], h =>
    have hk : kd x = true := by
      rcases h with h | h
      · cases h
      · exact h.1
    simp only [List.cons_append, List.nil_append]
    by_cases h9 : 911 < szF [x, y, b]
    · left
      have e : ahd [x, y, b] = 5 := if_pos h9
      rw [e]
      exact ⟨by decide, 3, by unfold frst; simp [hk, h9]⟩
    · right; left
      have e : ahd [x, y, b] = 0 := if_neg h9
      have hge := szF_ge [x, y, b]
      refine ⟨e, by simp only [List.length_cons, List.length_nil]; omega, ?_, .inr ⟨hk, fun _ => ⟨by omega, by simp only [List.length_cons, List.length_nil]; omega⟩⟩⟩
      have h3 : ¬ szF [x, y, b] ≤ 3 := by omega
      unfold frst
      simp [hk, h9, h3]
  | x :: y :: z :: r, h =>
    obtain ⟨hk, h2⟩ : kd x = true ∧ (szF (x :: y :: z :: r) ≤ 911 ∧ (x :: y :: z :: r).length < szF (x :: y :: z :: r)) := by
      rcases h with h | h
      · cases h
      · exact ⟨h.1, h.2 (by simp)⟩
    have e : ahd (x :: y :: z :: r ++ [b]) = 0 := by cases r <;> rfl
    have es : szF (x :: y :: z :: r ++ [b]) = szF (x :: y :: z :: r) := rfl
    have el : (x :: y :: z :: r ++ [b]).length = (x :: y :: z :: r).length + 1 := by simp
    have hl3 : 3 ≤ (x :: y :: z :: r).length := by simp
    have hg : (x :: y :: z :: r ++ [b]).getD 0 0 = x := rfl
    have hne : x :: y :: z :: r ++ [b] ≠ [] := by simp
    by_cases hl : (x :: y :: z :: r ++ [b]).length = szF (x :: y :: z :: r ++ [b])
    · right; right
      refine ⟨e, hl, ?_⟩
      unfold frst
      rw [if_neg hne, hg, if_neg (by rw [hk]; decide), if_neg (by omega), if_neg (by omega), if_neg (by omega), List.take_of_length_le (by omega)]
      all_goals (cases whl (x :: y :: z :: r ++ [b]) <;> rfl)
    · right; left
      refine ⟨e, hl, ?_, .inr ⟨hk, fun _ => ⟨by omega, by omega⟩⟩⟩
      unfold frst
      rw [if_neg hne, hg, if_neg (by rw [hk]; decide), if_neg (by omega), if_neg (by omega), if_pos (by omega)]
def canon8 (x0 : RC) (i0 Ln : Int) (c : Ct) (al se re : List Int) (bad many : Int) (o : Bool) (s : ByteArray) (i : Int) : St :=
  ⟨[(3, .one (.ptr 0 0)), (4, .one (.str (ofBytes al))), (5, .one (.str (ofBytes se))), (6, .one (.str (ofBytes re))), (7, .one (.int .i64 bad)), (8, .one (.int .i64 many)), (10, .one (.ptr 2 0)), (27, .one (.ro 0 x0)), (28, .one (.int .i64 Ln)), (29, .one (.int .i64 i0)), (39, .one (.int .i64 s.size)), (40, .one (.int .i64 i))],
    [.ro 0 x0], [.cells none [.row 1, .int .u64 c.h, .int .u64 c.n, .int .i64 c.e, .int .i64 c.m], .rows (.ints .u8 c.B), .cells none [.bool o, .str s]]⟩
theorem add1 (a : List Int) (b : Int) (ha : a.length ≤ 100000) : (ofBytes a).size + (ofBytes [b]).size ≤ 9223372036854775807 := by rw [size_ofBytes, size_ofBytes]; simp only [List.length_cons, List.length_nil]; omega
theorem one_at {s : ByteArray} {i : Nat} {b : Int} (hb : (toBytes s)[i]? = some b) : s.extract i (i + 1) = ofBytes [b] := by
  have h1 := ofBytes_extract (toBytes s) i (i + 1)
  rw [ofBytes_toBytes] at h1
  rw [h1]
  obtain ⟨hlt, e⟩ := List.getElem?_eq_some_iff.1 hb
  rw [List.drop_eq_getElem_cons hlt, e, show i + 1 - i = 1 by omega]
  rfl
/-- The seal of a byte. -/
def selS (o : Bool) (se : List Int) : Int := if o = true then 0 else sumL se
def sent' (o : Bool) (se : List Int) (b : Int) : List Int := if o = true then se else se ++ [b]
theorem body8bad (x0 : RC) (i0 Ln : Int) (c : Ct) (al se re : List Int) (many : Int) (o : Bool) (s : ByteArray) (i : Nat) (b : Int) (hi : i < s.size) (hb : (toBytes s)[i]? = some b) (hse : se.length ≤ 5000) (hBs : isB (se ++ [b])) (hs : s.size ≤ 100)
    (he : c.e ≠ 0) (hm : c.m = many) (hB : isB c.B) (hcl : c.B.length ≤ 8000) (hm2 : 0 ≤ c.m ∧ c.m < 2 ^ 62) (i' : Int) (wi : IntKind.i64.wrap ((i : Int) + 1) = i') :
    ∃ st1, evC T8 KK b8x0 (canon8 x0 i0 Ln c al se re c.e many o s i) = some (.norm, st1) ∧ St.head [3, 4, 5, 6, 7, 8, 10, 27, 28, 29, 39, 40] st1 = canon8 x0 i0 Ln c al (sent' o se b) re c.e many o s i' := by
  subst hm
  have hii : (i : Int) < s.size := by omega
  have hb2 : (toBytes s)[i]?.getD 0 = b := by rw [hb]; rfl
  have hb3 := hBs b (by simp)
  have hx := one_at hb
  have a1 := add1 se b (by omega)
  have p1 := ofBytes_append se [b]
  have e18 := e18' (ofBytes (se ++ [b])) (by rw [size_ofBytes, List.length_append]; simp only [List.length_cons, List.length_nil]; omega)
  rw [toBytes_ofBytes hBs] at e18
  have e35 := fun x y => f35 c b x y hB hb3 hcl hm2
  have hfd : ∀ x y, feed c b x y = (c, none, c.e) := fun x y => by unfold feed; rw [if_neg he]
  have e36 := f36 c.B c.h c.n c.e c.m
  have e37 := f37 c.B c.h c.n c.e c.m
  simp only [hfd, fdA, tupFd, Ct.hp, cutHp, ofBytes_nil] at e35 e36 e37
  have wi2 : IntKind.i64.wrap ((i : Int) + 1) = ((i + 1 : Nat) : Int) := by rw [i64_in _ (by omega)]; omega
  have hi1 : i ≤ i + 1 := by omega
  have hi1i : (i : Int) ≤ ((i + 1 : Nat) : Int) := by omega
  have hi2 : i + 1 ≤ s.size := by omega
  have hi2i : ((i + 1 : Nat) : Int) ≤ s.size := by omega
  rw [wi2] at wi
  subst wi
  generalize hii1 : i + 1 = i1 at *
  cases o with
  | true => simp -implicitDefEqProofs [b8x0, canon8, sent', upd, hi, hii, hb2, hx, a1, p1, e18, e35, e36, e37, he, wi2, hi1, hi1i, hi2, hi2i, eqScs, eqSc, beqBA]
  | false => simp -implicitDefEqProofs [b8x0, canon8, sent', upd, hi, hii, hb2, hx, a1, p1, e18, e35, e36, e37, he, wi2, hi1, hi1i, hi2, hi2i, eqScs, eqSc, beqBA]
theorem body8A (x0 : RC) (i0 Ln : Int) (c c' : Ct) (al se re : List Int) (o : Bool) (s : ByteArray) (i : Nat) (b : Int) (hi : i < s.size) (hb : (toBytes s)[i]? = some b) (hse : se.length ≤ 5000) (hal : al.length ≤ 5000) (hre : re.length ≤ 5000) (hBs : isB (se ++ [b])) (hBa : isB (al ++ [b])) (hs : s.size ≤ 100)
    (he : c.e = 0) (hm2 : 0 ≤ c.m ∧ c.m < 2 ^ 62) (hm' : c'.m = c.m + 1) (i' : Int) (wi : IntKind.i64.wrap ((i : Int) + 1) = i')
    (k1 : Int) (s1 : List Int) (n1 : Nat) (e1 : Int) (h1 : e1 ≠ 0) (hc' : c'.e = e1) (r34 : F34 [.one (.str (ofBytes (re ++ [b])))] [] = some (tupFst k1 s1 n1 e1, [])) (r35 : F35 [.one (.ptr 0 0), .agg [.int .u8 b, .int .u64 (selS o (sent' o se b)), .bool (!o)]] (c.hp (some 0)) = some (tupFd 0 [] false e1, c'.hp (some 0))) :
    ∃ st1, evC T8 KK b8x0 (canon8 x0 i0 Ln c al se re 0 c.m o s i) = some (.norm, st1) ∧ St.head [3, 4, 5, 6, 7, 8, 10, 27, 28, 29, 39, 40] st1 = canon8 x0 i0 Ln c' (al ++ [b]) (sent' o se b) (re ++ [b]) e1 (c.m + 1) o s i' := by
  obtain ⟨B', h', n', e', m'⟩ := c'
  simp only at hm' hc'
  subst hm' hc'
  have hii : (i : Int) < s.size := by omega
  have hb2 : (toBytes s)[i]?.getD 0 = b := by rw [hb]; rfl
  have hx := one_at hb
  have a1 := add1 se b (by omega)
  have a2 := add1 al b (by omega)
  have a3 := add1 re b (by omega)
  have p1 := ofBytes_append se [b]
  have p2 := ofBytes_append al [b]
  have p3 := ofBytes_append re [b]
  have e18 := e18' (ofBytes (se ++ [b])) (by rw [size_ofBytes, List.length_append]; simp only [List.length_cons, List.length_nil]; omega)
  rw [toBytes_ofBytes hBs] at e18
  have e18b := e18' (ofBytes (al ++ [b])) (by rw [size_ofBytes, List.length_append]; simp only [List.length_cons, List.length_nil]; omega)
  rw [toBytes_ofBytes hBa] at e18b
  have e36 := f36 B' h' n' e' (c.m + 1)
  have e37 := f37 B' h' n' e' (c.m + 1)
  have wm : IntKind.i64.wrap (c.m + 1) = c.m + 1 := i64_in _ (by omega)
  have wi2 : IntKind.i64.wrap ((i : Int) + 1) = ((i + 1 : Nat) : Int) := by rw [i64_in _ (by omega)]; omega
  have hi1 : i ≤ i + 1 := by omega
  have hi1i : (i : Int) ≤ ((i + 1 : Nat) : Int) := by omega
  have hi2 : i + 1 ≤ s.size := by omega
  have hi2i : ((i + 1 : Nat) : Int) ≤ s.size := by omega
  rw [wi2] at wi
  subst wi
  generalize hii1 : i + 1 = i1 at *
  simp only [tupFst, tupFd, Ct.hp, cutHp, ofBytes_nil, selS, sent'] at r34 r35 e36 e37
  cases o with
  | true =>
    simp only [if_true, Bool.not_true] at r35
    simp -implicitDefEqProofs [b8x0, canon8, sent', upd, hi, hii, hb2, hx, a1, a2, a3, p1, p2, p3, e18, e18b, r34, r35, e36, e37, wm, wi2, hi1, hi1i, hi2, hi2i, eqScs, eqSc, beqBA, ofBytes_nil, h1]
  | false =>
    simp only [Bool.false_eq_true, if_false, Bool.not_false] at r35
    simp -implicitDefEqProofs [b8x0, canon8, sent', upd, hi, hii, hb2, hx, a1, a2, a3, p1, p2, p3, e18, e18b, r34, r35, e36, e37, wm, wi2, hi1, hi1i, hi2, hi2i, eqScs, eqSc, beqBA, ofBytes_nil, h1]
theorem body8B (x0 : RC) (i0 Ln : Int) (c c' : Ct) (al se re : List Int) (o : Bool) (s : ByteArray) (i : Nat) (b : Int) (hi : i < s.size) (hb : (toBytes s)[i]? = some b) (hse : se.length ≤ 5000) (hal : al.length ≤ 5000) (hre : re.length ≤ 5000) (hBs : isB (se ++ [b])) (hBa : isB (al ++ [b])) (hs : s.size ≤ 100)
    (he : c.e = 0) (hm2 : 0 ≤ c.m ∧ c.m < 2 ^ 62) (hm' : c'.m = c.m + 1) (i' : Int) (wi : IntKind.i64.wrap ((i : Int) + 1) = i')
    (k1 : Int) (s1 : List Int) (hc' : c'.e = 0) (r34 : F34 [.one (.str (ofBytes (re ++ [b])))] [] = some (tupFst k1 s1 0 0, [])) (r35 : F35 [.one (.ptr 0 0), .agg [.int .u8 b, .int .u64 (selS o (sent' o se b)), .bool (!o)]] (c.hp (some 0)) = some (tupFd 0 [] false 0, c'.hp (some 0))) :
    ∃ st1, evC T8 KK b8x0 (canon8 x0 i0 Ln c al se re 0 c.m o s i) = some (.norm, st1) ∧ St.head [3, 4, 5, 6, 7, 8, 10, 27, 28, 29, 39, 40] st1 = canon8 x0 i0 Ln c' (al ++ [b]) (sent' o se b) (re ++ [b]) 0 (c.m + 1) o s i' := by
  obtain ⟨B', h', n', e', m'⟩ := c'
  simp only at hm' hc'
  subst hm' hc'
  have hii : (i : Int) < s.size := by omega
  have hb2 : (toBytes s)[i]?.getD 0 = b := by rw [hb]; rfl
  have hx := one_at hb
  have a1 := add1 se b (by omega)
  have a2 := add1 al b (by omega)
  have a3 := add1 re b (by omega)
  have p1 := ofBytes_append se [b]
  have p2 := ofBytes_append al [b]
  have p3 := ofBytes_append re [b]
  have e18 := e18' (ofBytes (se ++ [b])) (by rw [size_ofBytes, List.length_append]; simp only [List.length_cons, List.length_nil]; omega)
  rw [toBytes_ofBytes hBs] at e18
  have e18b := e18' (ofBytes (al ++ [b])) (by rw [size_ofBytes, List.length_append]; simp only [List.length_cons, List.length_nil]; omega)
  rw [toBytes_ofBytes hBa] at e18b
  have e36 := f36 B' h' n' 0 (c.m + 1)
  have e37 := f37 B' h' n' 0 (c.m + 1)
  have wm : IntKind.i64.wrap (c.m + 1) = c.m + 1 := i64_in _ (by omega)
  have wi2 : IntKind.i64.wrap ((i : Int) + 1) = ((i + 1 : Nat) : Int) := by rw [i64_in _ (by omega)]; omega
  have hi1 : i ≤ i + 1 := by omega
  have hi1i : (i : Int) ≤ ((i + 1 : Nat) : Int) := by omega
  have hi2 : i + 1 ≤ s.size := by omega
  have hi2i : ((i + 1 : Nat) : Int) ≤ s.size := by omega
  rw [wi2] at wi
  subst wi
  generalize hii1 : i + 1 = i1 at *
  simp only [tupFst, tupFd, Ct.hp, cutHp, ofBytes_nil, selS, sent'] at r34 r35 e36 e37
  cases o with
  | true =>
    simp only [if_true, Bool.not_true] at r35
    simp -implicitDefEqProofs [b8x0, canon8, sent', upd, hi, hii, hb2, hx, a1, a2, a3, p1, p2, p3, e18, e18b, r34, r35, e36, e37, wm, wi2, hi1, hi1i, hi2, hi2i, eqScs, eqSc, beqBA, ofBytes_nil]
  | false =>
    simp only [Bool.false_eq_true, if_false, Bool.not_false] at r35
    simp -implicitDefEqProofs [b8x0, canon8, sent', upd, hi, hii, hb2, hx, a1, a2, a3, p1, p2, p3, e18, e18b, r34, r35, e36, e37, wm, wi2, hi1, hi1i, hi2, hi2i, eqScs, eqSc, beqBA, ofBytes_nil]
theorem body8C (x0 : RC) (i0 Ln : Int) (c c' : Ct) (al se re : List Int) (o : Bool) (s : ByteArray) (i : Nat) (b : Int) (hi : i < s.size) (hb : (toBytes s)[i]? = some b) (hse : se.length ≤ 5000) (hal : al.length ≤ 5000) (hre : re.length ≤ 5000) (hBs : isB (se ++ [b])) (hBa : isB (al ++ [b])) (hs : s.size ≤ 100)
    (he : c.e = 0) (hm2 : 0 ≤ c.m ∧ c.m < 2 ^ 62) (hm' : c'.m = c.m + 1) (i' : Int) (wi : IntKind.i64.wrap ((i : Int) + 1) = i')
    (k1 : Int) (s1 : List Int) (n1 : Nat) (h1 : 0 < n1) (ho : o = true ∨ sumL (se ++ [b]) ≠ sumL (al ++ [b])) (hc' : c'.e = 4) (r34 : F34 [.one (.str (ofBytes (re ++ [b])))] [] = some (tupFst k1 s1 n1 0, [])) (r35 : F35 [.one (.ptr 0 0), .agg [.int .u8 b, .int .u64 (selS o (sent' o se b)), .bool (!o)]] (c.hp (some 0)) = some (tupFd 0 [] false 4, c'.hp (some 0))) :
    ∃ st1, evC T8 KK b8x0 (canon8 x0 i0 Ln c al se re 0 c.m o s i) = some (.norm, st1) ∧ St.head [3, 4, 5, 6, 7, 8, 10, 27, 28, 29, 39, 40] st1 = canon8 x0 i0 Ln c' (al ++ [b]) (sent' o se b) (re ++ [b]) 4 (c.m + 1) o s i' := by
  obtain ⟨B', h', n', e', m'⟩ := c'
  simp only at hm' hc'
  subst hm' hc'
  have hii : (i : Int) < s.size := by omega
  have hb2 : (toBytes s)[i]?.getD 0 = b := by rw [hb]; rfl
  have hx := one_at hb
  have a1 := add1 se b (by omega)
  have a2 := add1 al b (by omega)
  have a3 := add1 re b (by omega)
  have p1 := ofBytes_append se [b]
  have p2 := ofBytes_append al [b]
  have p3 := ofBytes_append re [b]
  have e18 := e18' (ofBytes (se ++ [b])) (by rw [size_ofBytes, List.length_append]; simp only [List.length_cons, List.length_nil]; omega)
  rw [toBytes_ofBytes hBs] at e18
  have e18b := e18' (ofBytes (al ++ [b])) (by rw [size_ofBytes, List.length_append]; simp only [List.length_cons, List.length_nil]; omega)
  rw [toBytes_ofBytes hBa] at e18b
  have e36 := f36 B' h' n' 4 (c.m + 1)
  have e37 := f37 B' h' n' 4 (c.m + 1)
  have wm : IntKind.i64.wrap (c.m + 1) = c.m + 1 := i64_in _ (by omega)
  have wi2 : IntKind.i64.wrap ((i : Int) + 1) = ((i + 1 : Nat) : Int) := by rw [i64_in _ (by omega)]; omega
  have hi1 : i ≤ i + 1 := by omega
  have hi1i : (i : Int) ≤ ((i + 1 : Nat) : Int) := by omega
  have hi2 : i + 1 ≤ s.size := by omega
  have hi2i : ((i + 1 : Nat) : Int) ≤ s.size := by omega
  rw [wi2] at wi
  subst wi
  generalize hii1 : i + 1 = i1 at *
  simp only [tupFst, tupFd, Ct.hp, cutHp, ofBytes_nil, selS, sent'] at r34 r35 e36 e37
  have h1i : (0 : Int) < n1 := by omega
  cases o with
  | true =>
    simp only [if_true, Bool.not_true] at r35
    simp -implicitDefEqProofs [b8x0, canon8, sent', upd, hi, hii, hb2, hx, a1, a2, a3, p1, p2, p3, e18, e18b, r34, r35, e36, e37, wm, wi2, hi1, hi1i, hi2, hi2i, eqScs, eqSc, beqBA, ofBytes_nil, h1, h1i]
  | false =>
    have ho' : ¬ sumL (se ++ [b]) = sumL (al ++ [b]) := by
      rcases ho with h | h
      · cases h
      · exact h
    simp only [Bool.false_eq_true, if_false, Bool.not_false] at r35
    simp -implicitDefEqProofs [b8x0, canon8, sent', upd, hi, hii, hb2, hx, a1, a2, a3, p1, p2, p3, e18, e18b, r34, r35, e36, e37, wm, wi2, hi1, hi1i, hi2, hi2i, eqScs, eqSc, beqBA, ofBytes_nil, h1, h1i, ho']
theorem body8D (x0 : RC) (i0 Ln : Int) (c c' : Ct) (al se re : List Int) (o : Bool) (s : ByteArray) (i : Nat) (b : Int) (hi : i < s.size) (hb : (toBytes s)[i]? = some b) (hse : se.length ≤ 5000) (hal : al.length ≤ 5000) (hre : re.length ≤ 5000) (hBs : isB (se ++ [b])) (hBa : isB (al ++ [b])) (hs : s.size ≤ 100)
    (he : c.e = 0) (hm2 : 0 ≤ c.m ∧ c.m < 2 ^ 62) (hm' : c'.m = c.m + 1) (i' : Int) (wi : IntKind.i64.wrap ((i : Int) + 1) = i')
    (k1 : Int) (s1 : List Int) (n1 : Nat) (h1 : 0 < n1) (ho : o = false) (ho' : sumL (se ++ [b]) = sumL (al ++ [b])) (hc' : c'.e = 0) (r34 : F34 [.one (.str (ofBytes (re ++ [b])))] [] = some (tupFst k1 s1 n1 0, [])) (r35 : F35 [.one (.ptr 0 0), .agg [.int .u8 b, .int .u64 (selS o (sent' o se b)), .bool (!o)]] (c.hp (some 0)) = some (tupFd k1 s1 true 0, c'.hp (some 0))) :
    ∃ st1, evC T8 KK b8x0 (canon8 x0 i0 Ln c al se re 0 c.m o s i) = some (.norm, st1) ∧ St.head [3, 4, 5, 6, 7, 8, 10, 27, 28, 29, 39, 40] st1 = canon8 x0 i0 Ln c' (al ++ [b]) (sent' o se b) [] 0 (c.m + 1) o s i' := by
  obtain ⟨B', h', n', e', m'⟩ := c'
  simp only at hm' hc'
  subst hm' hc'
  have hii : (i : Int) < s.size := by omega
  have hb2 : (toBytes s)[i]?.getD 0 = b := by rw [hb]; rfl
  have hx := one_at hb
  have a1 := add1 se b (by omega)
  have a2 := add1 al b (by omega)
  have a3 := add1 re b (by omega)
  have p1 := ofBytes_append se [b]
  have p2 := ofBytes_append al [b]
  have p3 := ofBytes_append re [b]
  have e18 := e18' (ofBytes (se ++ [b])) (by rw [size_ofBytes, List.length_append]; simp only [List.length_cons, List.length_nil]; omega)
  rw [toBytes_ofBytes hBs] at e18
  have e18b := e18' (ofBytes (al ++ [b])) (by rw [size_ofBytes, List.length_append]; simp only [List.length_cons, List.length_nil]; omega)
  rw [toBytes_ofBytes hBa] at e18b
  have e36 := f36 B' h' n' 0 (c.m + 1)
  have e37 := f37 B' h' n' 0 (c.m + 1)
  have wm : IntKind.i64.wrap (c.m + 1) = c.m + 1 := i64_in _ (by omega)
  have wi2 : IntKind.i64.wrap ((i : Int) + 1) = ((i + 1 : Nat) : Int) := by rw [i64_in _ (by omega)]; omega
  have hi1 : i ≤ i + 1 := by omega
  have hi1i : (i : Int) ≤ ((i + 1 : Nat) : Int) := by omega
  have hi2 : i + 1 ≤ s.size := by omega
  have hi2i : ((i + 1 : Nat) : Int) ≤ s.size := by omega
  rw [wi2] at wi
  subst wi
  generalize hii1 : i + 1 = i1 at *
  subst ho
  simp only [tupFst, tupFd, Ct.hp, cutHp, ofBytes_nil, selS, sent'] at r34 r35 e36 e37
  have h1i : (0 : Int) < n1 := by omega
  simp only [Bool.false_eq_true, if_false, Bool.not_false] at r35
  rw [ho'] at r35 e18
  simp -implicitDefEqProofs [b8x0, canon8, sent', upd, hi, hii, hb2, hx, a1, a2, a3, p1, p2, p3, e18, e18b, r34, r35, e36, e37, wm, wi2, hi1, hi1i, hi2, hi2i, eqScs, eqSc, beqBA, ofBytes_nil, h1, h1i, ho']
end Go.X.Try
set_option maxRecDepth 100000
set_option linter.unusedSimpArgs false
set_option linter.unusedVariables false
namespace Go.X.Try
open Go.IntWalk
/-- Cutter and document, side by side, after so many bytes. -/
structure Side (N : Nat) (c : Ct) (al se re : List Int) : Prop where
  ba : isB al
  bs : isB se
  br : isB re
  bc : isB c.B
  la : al.length ≤ N
  ls : se.length ≤ N
  lr : re.length ≤ N
  lc : c.B.length ≤ N
  lm : 0 ≤ c.m ∧ c.m ≤ N
  eq : c.e = 0 → c.B = re ∧ (c.h, c.n) = al.foldl sbyte (7640891576956012808, 0) ∧ InvF re
theorem fold_sum {l : List Int} (h : l.length < 100000) : sfin (l.foldl sbyte (7640891576956012808, 0)).1 (l.foldl sbyte (7640891576956012808, 0)).2 = sumL l := by
  have e := fold_sb l 7640891576956012808 0 (by omega)
  have z : ((0 : Nat) : Int) = 0 := rfl
  rw [z, Nat.zero_add] at e
  rw [e]; rfl
theorem side_step {N : Nat} {c : Ct} {al se re : List Int} (x0 : RC) (i0 Ln : Int) (o : Bool) (s : ByteArray) (i : Nat) (b : Int) (hS : Side N c al se re) (hN : N ≤ 4000) (hi : i < s.size) (hb : (toBytes s)[i]? = some b) (hs : s.size ≤ 100) :
    ∃ c' al' se' re' st1, evC T8 KK b8x0 (canon8 x0 i0 Ln c al se re c.e c.m o s i) = some (.norm, st1) ∧
      St.head [3, 4, 5, 6, 7, 8, 10, 27, 28, 29, 39, 40] st1 = canon8 x0 i0 Ln c' al' se' re' c'.e c'.m o s ((i + 1 : Nat) : Int) ∧ Side (N + 1) c' al' se' re' := by
  have hbr := toBytes_range s i b hb
  have wi : IntKind.i64.wrap ((i : Int) + 1) = ((i + 1 : Nat) : Int) := by rw [i64_in _ (by omega)]; omega
  have hBs : isB (se ++ [b]) := isB_append hS.bs (isB_one hbr)
  have hBa : isB (al ++ [b]) := isB_append hS.ba (isB_one hbr)
  have hBr : isB (re ++ [b]) := isB_append hS.br (isB_one hbr)
  have hBc : isB (c.B ++ [b]) := isB_append hS.bc (isB_one hbr)
  obtain ⟨h1, h2, h3, h4, h5, h6, h7, h8, h9, h10⟩ := hS
  have l1 : ∀ l : List Int, (l ++ [b]).length = l.length + 1 := fun l => by simp
  have hse' : isB (sent' o se b) ∧ (sent' o se b).length ≤ N + 1 := by
    unfold sent'
    cases o
    · rw [if_neg (by decide)]; exact ⟨hBs, by rw [l1]; omega⟩
    · rw [if_pos rfl]; exact ⟨h2, by omega⟩
  by_cases he : c.e = 0
  · obtain ⟨q1, q2, q3⟩ := h10 he
    have hfold : sbyte (c.h, c.n) b = (al ++ [b]).foldl sbyte (7640891576956012808, 0) := by rw [q2, List.foldl_append]; rfl
    have hsum : sfin (sbyte (c.h, c.n) b).1 (sbyte (c.h, c.n) b).2 = sumL (al ++ [b]) := by rw [hfold]; exact fold_sum (by rw [l1]; omega)
    have r34 := f34 (re ++ [b]) hBr (by rw [l1]; omega)
    have r35 := f35 c b (selS o (sent' o se b)) (!o) h4 hbr (by omega) ⟨h9.1, by omega⟩
    have cond : ((!o) = true ∧ selS o (sent' o se b) = sfin (sbyte (c.h, c.n) b).1 (sbyte (c.h, c.n) b).2) ↔ (o = false ∧ sumL (se ++ [b]) = sumL (al ++ [b])) := by
      rw [hsum]
      cases o <;> simp [selS, sent']
    have done : ∀ c' : Ct, c' = (feed c b (selS o (sent' o se b)) (!o)).1 → ∀ re', isB re' → re'.length ≤ N + 1 → (c'.e = 0 → c'.B = re' ∧ (c'.h, c'.n) = (al ++ [b]).foldl sbyte (7640891576956012808, 0) ∧ InvF re') → Side (N + 1) c' (al ++ [b]) (sent' o se b) re' := fun c' hc' re' b1 b2 b3 => by
      obtain ⟨z1, z2, z3, z4⟩ := feed_ok c b (selS o (sent' o se b)) (!o) h4 hbr h9.1
      subst hc'
      exact ⟨hBa, hse'.1, b1, z1, by rw [l1]; omega, hse'.2, b2, by omega, ⟨z3, by omega⟩, b3⟩
    rw [he]
    rcases frst_step b q3 with ⟨g1, n, g2⟩ | ⟨g1, g2, g3, g4⟩ | ⟨g1, g2, g3⟩
    · have hf : feed c b (selS o (sent' o se b)) (!o) = (⟨re ++ [b], (sbyte (c.h, c.n) b).1, (sbyte (c.h, c.n) b).2, ahd (re ++ [b]), c.m + 1⟩, none, ahd (re ++ [b])) := by
        unfold feed
        rw [if_pos he, q1, if_neg (fun x => g1 x.1)]
      rw [g2] at r34
      rw [hf] at r35 done
      obtain ⟨st1, e1, e2⟩ := body8A x0 i0 Ln c _ al se re o s i b hi hb (by omega) (by omega) (by omega) hBs hBa hs he ⟨h9.1, by omega⟩ rfl _ wi 0 [] n _ g1 rfl r34 r35
      exact ⟨_, _, _, _, st1, e1, e2, done _ rfl _ hBr (by rw [l1]; omega) (fun x => absurd x g1)⟩
    · have hf : feed c b (selS o (sent' o se b)) (!o) = (⟨re ++ [b], (sbyte (c.h, c.n) b).1, (sbyte (c.h, c.n) b).2, 0, c.m + 1⟩, none, 0) := by
        unfold feed
        rw [if_pos he, q1, if_neg (fun x => g2 x.2), g1]
      rw [g3] at r34
      rw [hf] at r35 done
      obtain ⟨st1, e1, e2⟩ := body8B x0 i0 Ln c _ al se re o s i b hi hb (by omega) (by omega) (by omega) hBs hBa hs he ⟨h9.1, by omega⟩ rfl _ wi 0 [] rfl r34 r35
      exact ⟨_, _, _, _, st1, e1, e2, done _ rfl _ hBr (by rw [l1]; omega) (fun _ => ⟨rfl, hfold, g4⟩)⟩
    · cases hw : whl (re ++ [b]) with
      | none =>
        have hf : feed c b (selS o (sent' o se b)) (!o) = (⟨re ++ [b], (sbyte (c.h, c.n) b).1, (sbyte (c.h, c.n) b).2, 4, c.m + 1⟩, none, 4) := by
          unfold feed
          rw [if_pos he, q1, if_pos ⟨g1, g2⟩, hw]
        rw [g3, hw] at r34
        rw [hf] at r35 done
        obtain ⟨st1, e1, e2⟩ := body8A x0 i0 Ln c _ al se re o s i b hi hb (by omega) (by omega) (by omega) hBs hBa hs he ⟨h9.1, by omega⟩ rfl _ wi 0 [] _ 4 (by decide) rfl r34 r35
        exact ⟨_, _, _, _, st1, e1, e2, done _ rfl _ hBr (by rw [l1]; omega) (fun x => by cases x)⟩
      | some f =>
        have hge := szF_ge (re ++ [b])
        rw [g3, hw] at r34
        by_cases hcd : o = false ∧ sumL (se ++ [b]) = sumL (al ++ [b])
        · have hf : feed c b (selS o (sent' o se b)) (!o) = (⟨[], (sbyte (c.h, c.n) b).1, (sbyte (c.h, c.n) b).2, 0, c.m + 1⟩, some f, 0) := by
            unfold feed
            rw [if_pos he, q1, if_pos ⟨g1, g2⟩, hw]
            simp only
            rw [if_pos (cond.2 hcd)]
          rw [hf] at r35 done
          obtain ⟨st1, e1, e2⟩ := body8D x0 i0 Ln c _ al se re o s i b hi hb (by omega) (by omega) (by omega) hBs hBa hs he ⟨h9.1, by omega⟩ rfl _ wi f.1 f.2 _ (by omega) hcd.1 hcd.2 rfl r34 r35
          exact ⟨_, _, _, _, st1, e1, e2, done _ rfl [] (by simp [isB]) (by simp) (fun _ => ⟨rfl, hfold, .inl rfl⟩)⟩
        · have hf : feed c b (selS o (sent' o se b)) (!o) = (⟨re ++ [b], (sbyte (c.h, c.n) b).1, (sbyte (c.h, c.n) b).2, 4, c.m + 1⟩, none, 4) := by
            unfold feed
            rw [if_pos he, q1, if_pos ⟨g1, g2⟩, hw]
            simp only
            rw [if_neg (fun x => hcd (cond.1 x))]
          rw [hf] at r35 done
          have ho : o = true ∨ sumL (se ++ [b]) ≠ sumL (al ++ [b]) := by
            cases o
            · right; exact fun x => hcd ⟨rfl, x⟩
            · left; rfl
          obtain ⟨st1, e1, e2⟩ := body8C x0 i0 Ln c _ al se re o s i b hi hb (by omega) (by omega) (by omega) hBs hBa hs he ⟨h9.1, by omega⟩ rfl _ wi f.1 f.2 _ (by omega) ho rfl r34 r35
          exact ⟨_, _, _, _, st1, e1, e2, done _ rfl _ hBr (by rw [l1]; omega) (fun x => by cases x)⟩
  · obtain ⟨st1, e1, e2⟩ := body8bad x0 i0 Ln c al se re c.m o s i b hi hb (by omega) hBs hs he rfl h4 (by omega) ⟨h9.1, by omega⟩ _ wi
    exact ⟨c, al, _, re, st1, e1, e2, ⟨h1, hse'.1, h3, h4, by omega, hse'.2, by omega, by omega, ⟨h9.1, by omega⟩, fun x => absurd x he⟩⟩
end Go.X.Try
