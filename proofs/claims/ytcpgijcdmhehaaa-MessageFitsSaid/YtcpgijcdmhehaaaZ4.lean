import Derived.Deep.Slices
import Derived.Deep.Fields
import Derived.ChangeSame
import Derived.SizedLaws
import Derived.Test.YtcpgijcdmhehaaaZ3
set_option linter.unusedVariables false
set_option linter.unusedSimpArgs false
set_option maxRecDepth 100000
set_option linter.unusedSimpArgs false
namespace Go.X.Try
open Go.IntWalk
theorem i_some {most : Nat} {l r : List Int} {v : Nat} (hm : most < 2 ^ 63) (hB : isB l) (hl : l.length ≤ 140737488352000) (h : rdN most l = some (v, r)) : F81 [.one (.ptr 0 0), .one (.int .i64 most)] [.cells (some 0) [.str (ofBytes l), .bool false]] = some (.one (.int .i64 v), [.cells (some 0) [.str (ofBytes r), .bool false]]) := by
  have e := f81 l most (by omega) hB hl
  rw [iAns_some h] at e
  exact e
theorem i_none {most : Nat} {l : List Int} (hm : most < 2 ^ 63) (hB : isB l) (hl : l.length ≤ 140737488352000) (h : rdN most l = none) : F81 [.one (.ptr 0 0), .one (.int .i64 most)] [.cells (some 0) [.str (ofBytes l), .bool false]] = some (.one (.int .i64 0), [.cells (some 0) [.str (ofBytes []), .bool true]]) := by
  have e := f81 l most (by omega) hB hl
  rw [iAns_none h] at e
  exact e
theorem i_bad (l : List Int) (most : Int) : F81 [.one (.ptr 0 0), .one (.int .i64 most)] [.cells (some 0) [.str (ofBytes l), .bool true]] = some (.one (.int .i64 0), [.cells (some 0) [.str (ofBytes []), .bool true]]) := f81b l most
theorem t_bad (l : List Int) (most : Int) : F82 [.one (.ptr 0 0), .one (.int .i64 most)] [.cells (some 0) [.str (ofBytes l), .bool true]] = some (.one (.str (ofBytes [])), [.cells (some 0) [.str (ofBytes []), .bool true]]) := f82b l most
theorem x_bad (l : List Int) (n : Int) : F52 [.one (.ptr 0 0), .one (.int .i64 n)] [.cells (some 0) [.str (ofBytes l), .bool true]] = some (.one (.int .u64 0), [.cells (some 0) [.str (ofBytes []), .bool true]]) := f52b l n
theorem t_some {most : Nat} {l d : List Int} (hm : most < 2 ^ 63) (hB : isB l) (hl : l.length ≤ 140737488352000) (h : lst most l = some d) : F82 [.one (.ptr 0 0), .one (.int .i64 most)] [.cells (some 0) [.str (ofBytes l), .bool false]] = some (.one (.str (ofBytes d)), [.cells (some 0) [.str (ofBytes []), .bool false]]) := by
  have e := f82 l most (by omega) hB hl
  unfold lst at h
  obtain ⟨⟨n, r⟩, h1, h2⟩ := Option.bind_eq_some_iff.1 h
  simp only at h2
  split at h2
  · rename_i hn
    simp only [Option.some.injEq] at h2
    subst h2
    unfold tAns at e
    rw [iAns_some h1] at e
    simp only [Bool.false_eq_true, if_false] at e
    rw [rAns_nat, if_neg (by omega), List.take_of_length_le (by omega), List.drop_eq_nil_of_le (by omega)] at e
    exact e
  · cases h2
theorem t_none {most : Nat} {l : List Int} (hm : most < 2 ^ 63) (hB : isB l) (hl : l.length ≤ 140737488352000) (h : lst most l = none) : ∃ x r b, F82 [.one (.ptr 0 0), .one (.int .i64 most)] [.cells (some 0) [.str (ofBytes l), .bool false]] = some (.one (.str (ofBytes x)), [.cells (some 0) [.str (ofBytes r), .bool b]]) ∧ (!b && decide (r = [])) = false := by
  have e := f82 l most (by omega) hB hl
  unfold lst at h
  cases h1 : rdN most l with
  | none =>
    unfold tAns at e
    rw [iAns_none h1] at e
    exact ⟨_, _, _, e, rfl⟩
  | some p =>
    obtain ⟨n, r⟩ := p
    rw [h1] at h
    simp only [Option.bind_some] at h
    unfold tAns at e
    rw [iAns_some h1] at e
    simp only [Bool.false_eq_true, if_false] at e
    rw [rAns_nat] at e
    by_cases hr : r.length < n
    · rw [if_pos hr] at e
      exact ⟨_, _, _, e, rfl⟩
    · rw [if_neg hr] at e
      refine ⟨_, _, _, e, ?_⟩
      have hn : ¬ r.length = n := fun c => by rw [if_pos c] at h; cases h
      have : ¬ r.drop n = [] := fun c => by
        have := congrArg List.length c
        rw [List.length_drop, List.length_nil] at this
        omega
      simp [this]
theorem d55 (l : List Int) (b : Bool) : F55 [.one (.ptr 0 0)] [.cells (some 0) [.str (ofBytes l), .bool b]] = some (.one (.bool (!b && decide (l = []))), [.cells (some 0) [.str (ofBytes l), .bool b]]) := f55 l b
def mAg (m : Msg) : AV := .agg [.int .i64 m.kind, .int .i64 m.next, .int .i64 m.epoch, .int .i64 m.size, .int .u64 m.sum, .str (ofBytes m.data)]
/-- What 'get' answers. -/
def okGet (k : Int) (l : List Int) : Prop := match gD k l with
  | some m => F60 [.one (.int .i64 k), .one (.str (ofBytes l))] [] = some (.tup [mAg m, .one (.bool true)], [])
  | none => ∃ k' a b c d s, F60 [.one (.int .i64 k), .one (.str (ofBytes l))] [] = some (.tup [.agg [.int .i64 k', .int .i64 a, .int .i64 b, .int .i64 c, .int .u64 d, .str s], .one (.bool false)], [])
theorem f50' {l : List Int} (hB : isB l) : F50 [.one (.str (ofBytes l))] [] = some (.one (.ptr 0 0), [.cells none [.str (ofBytes l), .bool false]]) := by
  have e := f50 (ofBytes l)
  rw [toBytes_ofBytes hB] at e
  exact e
theorem get1 (k : Int) (hk : k = 1 ∨ k = 2) (l : List Int) (hB : isB l) (hl : l.length ≤ 140737488352000) : okGet k l := by
  have e50 := f50' hB
  unfold okGet gD
  rw [if_pos hk]
  cases h1 : rdN 400 l with
  | none =>
    have a1 := i_none (by decide) hB (by omega) h1
    simp only [Int.cast_ofNat_Int] at a1
    have a2 := i_bad [] 1073741824
    have a3 := d55 [] true
    simp only [Option.bind_none]
    rcases hk with rfl | rfl <;> simp -implicitDefEqProofs [F60, c60, upd, e50, a1, a2, a3, mAg]
  | some p =>
    obtain ⟨n, r⟩ := p
    have hr := rdN_ok hB (by decide) h1
    have a1 := i_some (by decide) hB (by omega) h1
    simp only [Int.cast_ofNat_Int] at a1
    simp only [Option.bind_some]
    cases h2 : rdN 1073741824 r with
    | none =>
      have a2 := i_none (by decide) hr.2.1 (by omega) h2
      simp only [Int.cast_ofNat_Int] at a2
      have a3 := d55 [] true
      simp only [Option.bind_none]
      rcases hk with rfl | rfl <;> simp -implicitDefEqProofs [F60, c60, upd, e50, a1, a2, a3, mAg]
    | some q =>
      obtain ⟨e, s⟩ := q
      have a2 := i_some (by decide) hr.2.1 (by omega) h2
      simp only [Int.cast_ofNat_Int] at a2
      have a3 := d55 s false
      simp only [Option.bind_some]
      by_cases hs : s = []
      · rw [if_pos hs]
        subst hs
        simp only [ofBytes_nil] at a2 a3
        rcases hk with rfl | rfl <;> simp -implicitDefEqProofs [F60, c60, upd, e50, a1, a2, a3, mAg, ofBytes_nil]
      · rw [if_neg hs]
        rcases hk with rfl | rfl <;> simp -implicitDefEqProofs [F60, c60, upd, e50, a1, a2, a3, mAg, hs]
theorem get3 (l : List Int) (hB : isB l) (hl : l.length ≤ 140737488352000) : okGet 3 l := by
  have e50 := f50' hB
  unfold okGet gD
  simp only [show ¬ ((3 : Int) = 1 ∨ (3 : Int) = 2) by decide, if_false, if_true]
  cases h1 : rdN 1073741824 l with
  | none =>
    have a1 := i_none (by decide) hB (by omega) h1
    simp only [Int.cast_ofNat_Int] at a1
    have a2 := t_bad [] 300
    have a3 := d55 [] true
    simp only [Option.bind_none]
    simp -implicitDefEqProofs [F60, c60, upd, e50, a1, a2, a3, mAg]
  | some p =>
    obtain ⟨n, r⟩ := p
    have hr := rdN_ok hB (by decide) h1
    have a1 := i_some (by decide) hB (by omega) h1
    simp only [Int.cast_ofNat_Int] at a1
    simp only [Option.bind_some]
    cases h2 : lst 300 r with
    | none =>
      obtain ⟨x, s, b, a2, hd⟩ := t_none (by decide) hr.2.1 (by omega) h2
      simp only [Int.cast_ofNat_Int] at a2
      have a3 := d55 s b
      rw [hd] at a3
      simp only [Option.bind_none]
      simp -implicitDefEqProofs [F60, c60, upd, e50, a1, a2, a3, mAg]
    | some d =>
      have a2 := t_some (by decide) hr.2.1 (by omega) h2
      simp only [Int.cast_ofNat_Int] at a2
      have a3 := d55 [] false
      simp only [Option.bind_some]
      simp -implicitDefEqProofs [F60, c60, upd, e50, a1, a2, a3, mAg]
theorem get4 (k : Int) (hk : k = 4 ∨ k = 5) (l : List Int) (hB : isB l) (hl : l.length ≤ 140737488352000) : okGet k l := by
  have e50 := f50' hB
  unfold okGet gD
  rw [if_neg (by omega), if_neg (by omega), if_pos hk]
  cases h1 : rdN 1073741824 l with
  | none =>
    have a1 := i_none (by decide) hB (by omega) h1
    simp only [Int.cast_ofNat_Int] at a1
    have a3 := d55 [] true
    simp only [Option.bind_none]
    rcases hk with rfl | rfl <;> simp -implicitDefEqProofs [F60, c60, upd, e50, a1, a3, mAg]
  | some p =>
    obtain ⟨n, r⟩ := p
    have a1 := i_some (by decide) hB (by omega) h1
    simp only [Int.cast_ofNat_Int] at a1
    have a3 := d55 r false
    simp only [Option.bind_some]
    by_cases hs : r = []
    · rw [if_pos hs]
      subst hs
      simp only [ofBytes_nil] at a1 a3
      rcases hk with rfl | rfl <;> simp -implicitDefEqProofs [F60, c60, upd, e50, a1, a3, mAg, ofBytes_nil]
    · rw [if_neg hs]
      rcases hk with rfl | rfl <;> simp -implicitDefEqProofs [F60, c60, upd, e50, a1, a3, mAg, hs]
theorem get6 (l : List Int) (hB : isB l) (hl : l.length ≤ 140737488352000) : okGet 6 l := by
  have e50 := f50' hB
  unfold okGet gD
  rw [if_neg (by decide), if_neg (by decide), if_neg (by decide), if_pos rfl]
  cases h1 : rdN 400 l with
  | none =>
    have a1 := i_none (by decide) hB (by omega) h1
    simp only [Int.cast_ofNat_Int] at a1
    have a2 := t_bad [] 600
    have a3 := d55 [] true
    simp only [Option.bind_none]
    simp -implicitDefEqProofs [F60, c60, upd, e50, a1, a2, a3, mAg]
  | some p =>
    obtain ⟨n, r⟩ := p
    have hr := rdN_ok hB (by decide) h1
    have a1 := i_some (by decide) hB (by omega) h1
    simp only [Int.cast_ofNat_Int] at a1
    simp only [Option.bind_some]
    cases h2 : lst 600 r with
    | none =>
      obtain ⟨x, s, b, a2, hd⟩ := t_none (by decide) hr.2.1 (by omega) h2
      simp only [Int.cast_ofNat_Int] at a2
      have a3 := d55 s b
      rw [hd] at a3
      simp only [Option.bind_none]
      simp -implicitDefEqProofs [F60, c60, upd, e50, a1, a2, a3, mAg]
    | some d =>
      have a2 := t_some (by decide) hr.2.1 (by omega) h2
      simp only [Int.cast_ofNat_Int] at a2
      have a3 := d55 [] false
      simp only [Option.bind_some]
      simp -implicitDefEqProofs [F60, c60, upd, e50, a1, a2, a3, mAg]
theorem get7 (l : List Int) (hB : isB l) (hl : l.length ≤ 140737488352000) : okGet 7 l := by
  have e50 := f50' hB
  unfold okGet gD
  rw [if_neg (by decide), if_neg (by decide), if_neg (by decide), if_neg (by decide), if_pos rfl]
  cases h1 : rdN 400 l with
  | none =>
    have a1 := i_none (by decide) hB (by omega) h1
    simp only [Int.cast_ofNat_Int] at a1
    have a3 := d55 [] true
    simp only [Option.bind_none]
    simp -implicitDefEqProofs [F60, c60, upd, e50, a1, a3, mAg]
  | some p =>
    obtain ⟨n, r⟩ := p
    have a1 := i_some (by decide) hB (by omega) h1
    simp only [Int.cast_ofNat_Int] at a1
    have a3 := d55 r false
    simp only [Option.bind_some]
    by_cases hs : r = []
    · rw [if_pos hs]
      subst hs
      simp only [ofBytes_nil] at a1 a3
      simp -implicitDefEqProofs [F60, c60, upd, e50, a1, a3, mAg, ofBytes_nil]
    · rw [if_neg hs]
      simp -implicitDefEqProofs [F60, c60, upd, e50, a1, a3, mAg, hs]
theorem get8 (l : List Int) (hB : isB l) (hl : l.length ≤ 140737488352000) : okGet 8 l := by
  have e50 := f50' hB
  have hz : sz 8 = 8 := by unfold sz; rfl
  unfold okGet gD
  rw [if_neg (by decide), if_neg (by decide), if_neg (by decide), if_neg (by decide), if_neg (by decide), if_pos rfl]
  cases h1 : rdN 400 l with
  | none =>
    have a1 := i_none (by decide) hB (by omega) h1
    simp only [Int.cast_ofNat_Int] at a1
    have a2 := i_bad [] 1048576
    have a4 := x_bad [] 8
    have a3 := d55 [] true
    simp only [Option.bind_none]
    simp -implicitDefEqProofs [F60, c60, upd, e50, a1, a2, a3, a4, mAg]
  | some p =>
    obtain ⟨n, r⟩ := p
    have hr := rdN_ok hB (by decide) h1
    have a1 := i_some (by decide) hB (by omega) h1
    simp only [Int.cast_ofNat_Int] at a1
    simp only [Option.bind_some]
    cases h2 : rdN 1048576 r with
    | none =>
      have a2 := i_none (by decide) hr.2.1 (by omega) h2
      simp only [Int.cast_ofNat_Int] at a2
      have a4 := x_bad [] 8
      have a3 := d55 [] true
      simp only [Option.bind_none]
      simp -implicitDefEqProofs [F60, c60, upd, e50, a1, a2, a3, a4, mAg]
    | some q =>
      obtain ⟨e, s⟩ := q
      have hs := rdN_ok hr.2.1 (by decide) h2
      have a2 := i_some (by decide) hr.2.1 (by omega) h2
      simp only [Int.cast_ofNat_Int] at a2
      have a4 := f52 s 8 hs.2.1 (by omega)
      rw [hz, rAns_nat] at a4
      simp only [Option.bind_some]
      by_cases h8 : s.length < 8
      · rw [if_pos h8] at a4
        have a3 := d55 [] true
        rw [if_neg (by omega)]
        simp only [rHp] at a4
        simp -implicitDefEqProofs [F60, c60, upd, e50, a1, a2, a3, a4, mAg]
      · rw [if_neg h8] at a4
        have a3 := d55 (s.drop 8) false
        simp only [rHp] at a4
        by_cases h9 : s.length = 8
        · rw [if_pos h9]
          have ht : s.take 8 = s := List.take_of_length_le (by omega)
          have hd : s.drop 8 = [] := List.drop_eq_nil_of_le (by omega)
          rw [ht, hd] at a4
          rw [hd] at a3
          simp only [ofBytes_nil] at a4 a3
          simp -implicitDefEqProofs [F60, c60, upd, e50, a1, a2, a3, a4, mAg, ofBytes_nil]
        · rw [if_neg h9]
          have hd : ¬ s.drop 8 = [] := fun c => by
            have := congrArg List.length c
            rw [List.length_drop, List.length_nil] at this
            omega
          have hd2 : decide (s.drop 8 = []) = false := decide_eq_false hd
          rw [hd2] at a3
          generalize s.drop 8 = w at *
          simp -implicitDefEqProofs [F60, c60, upd, e50, a1, a2, a3, a4, mAg]
theorem get9 (l : List Int) (hB : isB l) (hl : l.length ≤ 140737488352000) : okGet 9 l := by
  have e50 := f50' hB
  unfold okGet gD
  rw [if_neg (by decide), if_neg (by decide), if_neg (by decide), if_neg (by decide), if_neg (by decide), if_neg (by decide), if_pos rfl]
  cases h1 : rdN 1048576 l with
  | none =>
    have a1 := i_none (by decide) hB (by omega) h1
    simp only [Int.cast_ofNat_Int] at a1
    have a2 := t_bad [] 200
    have a3 := d55 [] true
    simp only [Option.bind_none]
    simp -implicitDefEqProofs [F60, c60, upd, e50, a1, a2, a3, mAg]
  | some p =>
    obtain ⟨n, r⟩ := p
    have hr := rdN_ok hB (by decide) h1
    have a1 := i_some (by decide) hB (by omega) h1
    simp only [Int.cast_ofNat_Int] at a1
    simp only [Option.bind_some]
    cases h2 : lst 200 r with
    | none =>
      obtain ⟨x, s, b, a2, hd⟩ := t_none (by decide) hr.2.1 (by omega) h2
      simp only [Int.cast_ofNat_Int] at a2
      have a3 := d55 s b
      rw [hd] at a3
      simp only [Option.bind_none]
      simp -implicitDefEqProofs [F60, c60, upd, e50, a1, a2, a3, mAg]
    | some d =>
      have a2 := t_some (by decide) hr.2.1 (by omega) h2
      simp only [Int.cast_ofNat_Int] at a2
      have a3 := d55 [] false
      simp only [Option.bind_some]
      simp -implicitDefEqProofs [F60, c60, upd, e50, a1, a2, a3, mAg]
theorem get10 (l : List Int) (hB : isB l) (hl : l.length ≤ 140737488352000) : okGet 10 l := by
  have e50 := f50' hB
  have a3 := d55 l false
  unfold okGet gD
  rw [if_neg (by decide), if_neg (by decide), if_neg (by decide), if_neg (by decide), if_neg (by decide), if_neg (by decide), if_neg (by decide), if_pos rfl]
  by_cases hs : l = []
  · rw [if_pos hs]
    subst hs
    simp only [ofBytes_nil] at e50 a3
    simp -implicitDefEqProofs [F60, c60, upd, e50, a3, mAg, ofBytes_nil]
  · rw [if_neg hs]
    simp -implicitDefEqProofs [F60, c60, upd, e50, a3, mAg, hs]
theorem getx (k : Int) (hk : k < 1 ∨ 10 < k) (l : List Int) (hB : isB l) (hl : l.length ≤ 140737488352000) : okGet k l := by
  have e50 := f50' hB
  unfold okGet gD
  rw [if_neg (by omega), if_neg (by omega), if_neg (by omega), if_neg (by omega), if_neg (by omega), if_neg (by omega), if_neg (by omega), if_neg (by omega)]
  have n1 : ¬ k = 1 := by omega
  have n2 : ¬ k = 2 := by omega
  have n3 : ¬ k = 3 := by omega
  have n4 : ¬ k = 4 := by omega
  have n5 : ¬ k = 5 := by omega
  have n6 : ¬ k = 6 := by omega
  have n7 : ¬ k = 7 := by omega
  have n8 : ¬ k = 8 := by omega
  have n9 : ¬ k = 9 := by omega
  have n10 : ¬ k = 10 := by omega
  simp -implicitDefEqProofs [F60, c60, upd, e50, mAg, n1, n2, n3, n4, n5, n6, n7, n8, n9, n10]
theorem f60 (k : Int) (l : List Int) (hB : isB l) (hl : l.length ≤ 140737488352000) : okGet k l := by
  by_cases h : k < 1 ∨ 10 < k
  · exact getx k h l hB hl
  · have : k = 1 ∨ k = 2 ∨ k = 3 ∨ k = 4 ∨ k = 5 ∨ k = 6 ∨ k = 7 ∨ k = 8 ∨ k = 9 ∨ k = 10 := by omega
    rcases this with rfl | rfl | rfl | rfl | rfl | rfl | rfl | rfl | rfl | rfl
    · exact get1 1 (.inl rfl) l hB hl
    · exact get1 2 (.inr rfl) l hB hl
    · exact get3 l hB hl
    · exact get4 4 (.inl rfl) l hB hl
    · exact get4 5 (.inr rfl) l hB hl
    · exact get6 l hB hl
    · exact get7 l hB hl
    · exact get8 l hB hl
    · exact get9 l hB hl
    · exact get10 l hB hl
end Go.X.Try
set_option maxRecDepth 100000
set_option linter.unusedSimpArgs false
namespace Go.X.Try
open Go.IntWalk
/-- What a message must not lack. -/
def lstM (m : Msg) : Bool := if m.kind = 3 ∨ m.kind = 4 ∨ m.kind = 5 then decide (1 ≤ m.epoch) else if m.kind = 9 then !decide (m.data = []) else true
instance (m : Msg) : Decidable (mR0 m) := by unfold mR0; infer_instance
theorem f61 (k : Int) (a c : Int) (b d : Nat) (t : List Int) : F61 [.agg [.int .i64 k, .int .i64 a, .int .i64 b, .int .i64 c, .int .u64 d, .str (ofBytes t)]] [] = some (.one (.bool (lstM ⟨k, a.toNat, b, c.toNat, d, t⟩)), []) := by
  unfold lstM
  simp only
  by_cases h3 : k = 3
  · subst h3
    simp -implicitDefEqProofs [F61, c61, upd]
    omega
  · by_cases h4 : k = 4
    · subst h4
      simp -implicitDefEqProofs [F61, c61, upd]
      omega
    · by_cases h5 : k = 5
      · subst h5
        simp -implicitDefEqProofs [F61, c61, upd]
        omega
      · by_cases h9 : k = 9
        · subst h9
          have e := emptyS t
          by_cases ht : t = []
          · subst ht
            simp -implicitDefEqProofs [F61, c61, upd, ofBytes_nil]
          · simp -implicitDefEqProofs [F61, c61, upd, e, ht]
        · simp -implicitDefEqProofs [F61, c61, upd, h3, h4, h5, h9]
theorem f63x (k a b c d : Int) (s : ByteArray) (wa : IntKind.u64.wrap a = a) (wb : IntKind.u64.wrap b = b) (wc : IntKind.u64.wrap c = c) (hk : k < 1 ∨ 10 < k) : F63 [.agg [.int .i64 k, .int .i64 a, .int .i64 b, .int .i64 c, .int .u64 d, .str s]] [] = some (.tup [.one (.str ⟨#[]⟩), .one (.bool false)], []) := by
  have n1 : ¬ k = 1 := by omega
  have n2 : ¬ k = 2 := by omega
  have n3 : ¬ k = 3 := by omega
  have n4 : ¬ k = 4 := by omega
  have n5 : ¬ k = 5 := by omega
  have n6 : ¬ k = 6 := by omega
  have n7 : ¬ k = 7 := by omega
  have n8 : ¬ k = 8 := by omega
  have n9 : ¬ k = 9 := by omega
  have n10 : ¬ k = 10 := by omega
  simp -implicitDefEqProofs [F63, c63, upd, wa, wb, wc, n1, n2, n3, n4, n5, n6, n7, n8, n9, n10]
def tupSB (s : ByteArray) (b : Bool) : AV := .tup [.one (.str s), .one (.bool b)]
theorem f63 (m : Msg) (hk : 1 ≤ m.kind ∧ m.kind ≤ 10) (h1 : m.next < 2 ^ 63) (h2 : m.epoch < 2 ^ 63) (h3 : m.size < 2 ^ 63) (h4 : m.sum < 2 ^ 64) (hB : isB m.data) (hl : m.data.length ≤ 140737488351232) : F63 [mAg m] [] = some (tupSB (ofBytes (mput m)) true, []) := by
  obtain ⟨k, a, b, c, d, t⟩ := m
  simp only at hk h1 h2 h3 h4 hB hl
  have wa : IntKind.u64.wrap (a : Int) = a := u64_in _ (by omega)
  have wb : IntKind.u64.wrap (b : Int) = b := u64_in _ (by omega)
  have wc : IntKind.u64.wrap (c : Int) = c := u64_in _ (by omega)
  have ga := grp_ten (v := a) (by omega)
  have gb := grp_ten (v := b) (by omega)
  have gc := grp_ten (v := c) (by omega)
  have hz : sz 8 = 8 := by unfold sz; rfl
  have e78 := fun (v : Nat) (bs : List Int) (hv : v < 2 ^ 64) (hl : bs.length ≤ 1000) => f78 v bs hv (by omega)
  have e48 := fun (bs : List Int) (hl : bs.length ≤ 1000) => f48 (ofBytes t) bs hl (by rw [size_ofBytes]; omega)
  rw [size_ofBytes, toBytes_ofBytes hB] at e48
  have e47 := fun (bs : List Int) (hl : bs.length ≤ 1000) => f47 d 8 bs h4 (by omega)
  rw [hz] at e47
  have e49 := f49
  simp only [wHp] at e78 e48 e47 e49
  have : k = 1 ∨ k = 2 ∨ k = 3 ∨ k = 4 ∨ k = 5 ∨ k = 6 ∨ k = 7 ∨ k = 8 ∨ k = 9 ∨ k = 10 := by omega
  rcases this with rfl | rfl | rfl | rfl | rfl | rfl | rfl | rfl | rfl | rfl
  · have q1 := e78 a [] (by omega) (by simp)
    rw [List.nil_append] at q1
    have q2 := e78 b (grp a) (by omega) (by omega)
    have q3 := e49 (grp a ++ grp b)
    simp -implicitDefEqProofs [F63, c63, upd, mAg, mput, tupSB, wa, wb, wc, q1, q2, q3]
  · have q1 := e78 a [] (by omega) (by simp)
    rw [List.nil_append] at q1
    have q2 := e78 b (grp a) (by omega) (by omega)
    have q3 := e49 (grp a ++ grp b)
    simp -implicitDefEqProofs [F63, c63, upd, mAg, mput, tupSB, wa, wb, wc, q1, q2, q3]
  · have q1 := e78 b [] (by omega) (by simp)
    rw [List.nil_append] at q1
    have q2 := e48 (grp b) (by omega)
    rw [List.append_assoc] at q2
    have q3 := e49 (grp b ++ (grp t.length ++ t))
    simp -implicitDefEqProofs [F63, c63, upd, mAg, mput, tupSB, wa, wb, wc, q1, q2, q3]
  · have q1 := e78 b [] (by omega) (by simp)
    rw [List.nil_append] at q1
    have q3 := e49 (grp b)
    simp -implicitDefEqProofs [F63, c63, upd, mAg, mput, tupSB, wa, wb, wc, q1, q3]
  · have q1 := e78 b [] (by omega) (by simp)
    rw [List.nil_append] at q1
    have q3 := e49 (grp b)
    simp -implicitDefEqProofs [F63, c63, upd, mAg, mput, tupSB, wa, wb, wc, q1, q3]
  · have q1 := e78 a [] (by omega) (by simp)
    rw [List.nil_append] at q1
    have q2 := e48 (grp a) (by omega)
    rw [List.append_assoc] at q2
    have q3 := e49 (grp a ++ (grp t.length ++ t))
    simp -implicitDefEqProofs [F63, c63, upd, mAg, mput, tupSB, wa, wb, wc, q1, q2, q3]
  · have q1 := e78 a [] (by omega) (by simp)
    rw [List.nil_append] at q1
    have q3 := e49 (grp a)
    simp -implicitDefEqProofs [F63, c63, upd, mAg, mput, tupSB, wa, wb, wc, q1, q3]
  · have q1 := e78 a [] (by omega) (by simp)
    rw [List.nil_append] at q1
    have q2 := e78 c (grp a) (by omega) (by omega)
    have q4 := e47 (grp a ++ grp c) (by rw [List.length_append]; omega)
    rw [List.append_assoc] at q4
    have q3 := e49 (grp a ++ (grp c ++ fixB d 8))
    simp -implicitDefEqProofs [F63, c63, upd, mAg, mput, tupSB, wa, wb, wc, q1, q2, q3, q4]
  · have q1 := e78 c [] (by omega) (by simp)
    rw [List.nil_append] at q1
    have q2 := e48 (grp c) (by omega)
    rw [List.append_assoc] at q2
    have q3 := e49 (grp c ++ (grp t.length ++ t))
    simp -implicitDefEqProofs [F63, c63, upd, mAg, mput, tupSB, wa, wb, wc, q1, q2, q3]
  · have q3 := e49 []
    simp -implicitDefEqProofs [F63, c63, upd, mAg, mput, tupSB, wa, wb, wc, q3]
theorem f62s (l r : List Int) (v : Nat) (hB : isB l) (hl : l.length ≤ 5000) (h : rdN 1073741824 l = some (v, r)) : F62 [.one (.str (ofBytes l))] [] = some (.tup [.one (.int .i64 v), .one (.str (ofBytes r))], []) := by
  obtain ⟨h1, h2⟩ := (rdN_iff hB (by decide)).1 h
  have e58 := f40_some l v r hB (by omega) h2 (by omega)
  have hk := grp_pos v
  have hlen : l.length = (grp v).length + r.length := by rw [h2, List.length_append]
  have n0 : ¬ ((grp v).length : Int) = 0 := by omega
  have n0' : ¬ (grp v).length = 0 := by omega
  have n0'' : ¬ grp v = [] := fun h => n0' (by rw [h]; rfl)
  have n1 : ¬ (1073741824 : Int) < v := by omega
  have n1' : ¬ 1073741824 < v := by omega
  have w2 : IntKind.i64.wrap (v : Int) = v := i64_in _ (by omega)
  have hc1 : (grp v).length ≤ l.length := by omega
  have hc2 : ((grp v).length : Int) ≤ (l.length : Int) := by omega
  have e3 := size_ofBytes l
  have ex := ofBytes_extract l (grp v).length l.length
  have hdr : (l.drop (grp v).length).take (l.length - (grp v).length) = r := by
    rw [h2, List.drop_left' rfl]
    exact List.take_of_length_le (by rw [List.length_append]; omega)
  rw [hdr] at ex
  simp -implicitDefEqProofs [F62, c62, upd, e58, tupF, n0, n0', n0'', n1, n1', w2, hc1, hc2, e3, ex]
theorem f62n (l : List Int) (hB : isB l) (hl : l.length ≤ 5000) (h : rdN 1073741824 l = none) : F62 [.one (.str (ofBytes l))] [] = some (.tup [.one (.int .i64 (-1)), .one (.str (ofBytes l))], []) := by
  cases hg : gdec 0 0 l with
  | none =>
    have e58 := f40_none l hB (by omega) (fun u r hu h => by rw [h, gdec_grp r u 0 0 (by omega) (by simpa using hu) (.inl rfl)] at hg; cases hg)
    simp -implicitDefEqProofs [F62, c62, upd, e58, tupF]
  | some p =>
    obtain ⟨v, r⟩ := p
    obtain ⟨a, h2, hu, _⟩ := gdec_inv l 0 0 v r hB (by omega) hg
    have hlt := gdec_lt l 0 0 v r hB (by omega) (by simp) hg
    simp only [Nat.mul_zero, Nat.pow_zero, Nat.mul_one, Nat.zero_add] at hu
    subst hu
    have e58 := f40_some l v r hB (by omega) h2 hlt
    have hk := grp_pos v
    have n0 : ¬ ((grp v).length : Int) = 0 := by omega
    have n0' : ¬ (grp v).length = 0 := by omega
    have n0'' : ¬ grp v = [] := fun h => n0' (by rw [h]; rfl)
    have n1 : (1073741824 : Int) < v := by
      unfold rdN at h
      rw [hg] at h
      simp only at h
      by_cases hv : v ≤ 1073741824
      · rw [if_pos hv] at h; cases h
      · omega
    have n1' : 1073741824 < v := by omega
    simp -implicitDefEqProofs [F62, c62, upd, e58, tupF, n0, n0', n0'', n1, n1']
end Go.X.Try
set_option maxRecDepth 100000
set_option linter.unusedSimpArgs false
namespace Go.X.Try
open Go.IntWalk
/-- May a message be? -/
def RI (k a b c : Int) (d : Nat) (t : List Int) : Bool := decide (0 ≤ a ∧ 0 ≤ b ∧ 0 ≤ c ∧ mR0 ⟨k, a.toNat, b.toNat, c.toNat, d, t⟩ ∧ lstM ⟨k, a.toNat, b.toNat, c.toNat, d, t⟩ = true)
def ag6 (k a b c : Int) (d : Nat) (t : List Int) : AV := .agg [.int .i64 k, .int .i64 a, .int .i64 b, .int .i64 c, .int .u64 d, .str (ofBytes t)]
theorem RI_range {k a b c : Int} {d : Nat} {t : List Int} (h : a < 0 ∨ 400 < a ∨ b < 0 ∨ 1073741824 < b ∨ c < 0 ∨ 1048576 < c) : RI k a b c d t = false := by
  refine decide_eq_false ?_
  rintro ⟨h1, h2, h3, h4, _⟩
  unfold mR0 at h4
  simp only at h4
  omega
theorem f42r (k a b c : Int) (d : Nat) (t : List Int) (h : a < 0 ∨ 400 < a ∨ b < 0 ∨ 1073741824 < b ∨ c < 0 ∨ 1048576 < c) : F42 [ag6 k a b c d t] [] = some (.one (.bool false), []) := by
  unfold ag6
  by_cases h1 : a < 0
  · simp -implicitDefEqProofs [F42, c42, upd, h1]
  · by_cases h2 : 400 < a
    · simp -implicitDefEqProofs [F42, c42, upd, h1, h2]
    · by_cases h3 : b < 0
      · simp -implicitDefEqProofs [F42, c42, upd, h1, h2, h3]
      · by_cases h4 : 1073741824 < b
        · simp -implicitDefEqProofs [F42, c42, upd, h1, h2, h3, h4]
        · by_cases h5 : c < 0
          · simp -implicitDefEqProofs [F42, c42, upd, h1, h2, h3, h4, h5]
          · have h6 : 1048576 < c := by omega
            simp -implicitDefEqProofs [F42, c42, upd, h1, h2, h3, h4, h5, h6]
theorem f42k1 (a b c : Int) (d : Nat) (t : List Int) (ha : 0 ≤ a ∧ a ≤ 400) (hb : 0 ≤ b ∧ b ≤ 1073741824) (hc : 0 ≤ c ∧ c ≤ 1048576) (hd : d < 2 ^ 64) : F42 [ag6 1 a b c d t] [] = some (.one (.bool (RI 1 a b c d t)), []) := by
  have x1 : ¬ a < 0 := by omega
  have x2 : ¬ 400 < a := by omega
  have x3 : ¬ b < 0 := by omega
  have x4 : ¬ 1073741824 < b := by omega
  have x5 : ¬ c < 0 := by omega
  have x6 : ¬ 1048576 < c := by omega
  have e0 := emptyS t
  have e3 := size_ofBytes t
  unfold ag6
  by_cases H_c : ¬ (c = 0)
  · have hR : RI 1 a b c d t = false := by
      refine decide_eq_false ?_
      rintro ⟨g1, g2, g3, g4, g5⟩
      unfold mR0 at g4
      simp only at g4
      omega
    rw [hR]
    simp -implicitDefEqProofs [F42, c42, upd, x1, x2, x3, x4, x5, x6, e0, e3, ofBytes_nil, H_c]
  replace H_c := Classical.not_not.1 H_c
  by_cases H_d : ¬ (d = 0)
  · have hR : RI 1 a b c d t = false := by
      refine decide_eq_false ?_
      rintro ⟨g1, g2, g3, g4, g5⟩
      unfold mR0 at g4
      simp only at g4
      omega
    rw [hR]
    have hdi : ¬ ((d : Nat) : Int) = 0 := by omega
    simp -implicitDefEqProofs [F42, c42, upd, x1, x2, x3, x4, x5, x6, e0, e3, ofBytes_nil, H_c, H_d, hdi]
  replace H_d := Classical.not_not.1 H_d
  by_cases H_t : ¬ (t = [])
  · have hR : RI 1 a b c d t = false := by
      refine decide_eq_false ?_
      rintro ⟨g1, g2, g3, g4, g5⟩
      simp [mR0, H_t] at g4
    rw [hR]
    simp -implicitDefEqProofs [F42, c42, upd, x1, x2, x3, x4, x5, x6, e0, e3, ofBytes_nil, H_c, H_d, H_t]
  replace H_t := Classical.not_not.1 H_t
  have hR : RI 1 a b c d t = true := decide_eq_true ⟨by omega, by omega, by omega, .inl ⟨.inl rfl, by dsimp only; omega, by dsimp only; omega, by dsimp only; omega, H_d, H_t⟩, by simp [lstM]⟩
  rw [hR]
  simp -implicitDefEqProofs [F42, c42, upd, x1, x2, x3, x4, x5, x6, e0, e3, ofBytes_nil, H_c, H_d, H_t]
theorem f42k2 (a b c : Int) (d : Nat) (t : List Int) (ha : 0 ≤ a ∧ a ≤ 400) (hb : 0 ≤ b ∧ b ≤ 1073741824) (hc : 0 ≤ c ∧ c ≤ 1048576) (hd : d < 2 ^ 64) : F42 [ag6 2 a b c d t] [] = some (.one (.bool (RI 2 a b c d t)), []) := by
  have x1 : ¬ a < 0 := by omega
  have x2 : ¬ 400 < a := by omega
  have x3 : ¬ b < 0 := by omega
  have x4 : ¬ 1073741824 < b := by omega
  have x5 : ¬ c < 0 := by omega
  have x6 : ¬ 1048576 < c := by omega
  have e0 := emptyS t
  have e3 := size_ofBytes t
  unfold ag6
  by_cases H_c : ¬ (c = 0)
  · have hR : RI 2 a b c d t = false := by
      refine decide_eq_false ?_
      rintro ⟨g1, g2, g3, g4, g5⟩
      unfold mR0 at g4
      simp only at g4
      omega
    rw [hR]
    simp -implicitDefEqProofs [F42, c42, upd, x1, x2, x3, x4, x5, x6, e0, e3, ofBytes_nil, H_c]
  replace H_c := Classical.not_not.1 H_c
  by_cases H_d : ¬ (d = 0)
  · have hR : RI 2 a b c d t = false := by
      refine decide_eq_false ?_
      rintro ⟨g1, g2, g3, g4, g5⟩
      unfold mR0 at g4
      simp only at g4
      omega
    rw [hR]
    have hdi : ¬ ((d : Nat) : Int) = 0 := by omega
    simp -implicitDefEqProofs [F42, c42, upd, x1, x2, x3, x4, x5, x6, e0, e3, ofBytes_nil, H_c, H_d, hdi]
  replace H_d := Classical.not_not.1 H_d
  by_cases H_t : ¬ (t = [])
  · have hR : RI 2 a b c d t = false := by
      refine decide_eq_false ?_
      rintro ⟨g1, g2, g3, g4, g5⟩
      simp [mR0, H_t] at g4
    rw [hR]
    simp -implicitDefEqProofs [F42, c42, upd, x1, x2, x3, x4, x5, x6, e0, e3, ofBytes_nil, H_c, H_d, H_t]
  replace H_t := Classical.not_not.1 H_t
  have hR : RI 2 a b c d t = true := decide_eq_true ⟨by omega, by omega, by omega, .inl ⟨.inr rfl, by dsimp only; omega, by dsimp only; omega, by dsimp only; omega, H_d, H_t⟩, by simp [lstM]⟩
  rw [hR]
  simp -implicitDefEqProofs [F42, c42, upd, x1, x2, x3, x4, x5, x6, e0, e3, ofBytes_nil, H_c, H_d, H_t]
theorem f42k3 (a b c : Int) (d : Nat) (t : List Int) (ha : 0 ≤ a ∧ a ≤ 400) (hb : 0 ≤ b ∧ b ≤ 1073741824) (hc : 0 ≤ c ∧ c ≤ 1048576) (hd : d < 2 ^ 64) : F42 [ag6 3 a b c d t] [] = some (.one (.bool (RI 3 a b c d t)), []) := by
  have x1 : ¬ a < 0 := by omega
  have x2 : ¬ 400 < a := by omega
  have x3 : ¬ b < 0 := by omega
  have x4 : ¬ 1073741824 < b := by omega
  have x5 : ¬ c < 0 := by omega
  have x6 : ¬ 1048576 < c := by omega
  have e0 := emptyS t
  have e3 := size_ofBytes t
  unfold ag6
  by_cases H_a : ¬ (a = 0)
  · have hR : RI 3 a b c d t = false := by
      refine decide_eq_false ?_
      rintro ⟨g1, g2, g3, g4, g5⟩
      unfold mR0 at g4
      simp only at g4
      omega
    rw [hR]
    simp -implicitDefEqProofs [F42, c42, upd, x1, x2, x3, x4, x5, x6, e0, e3, ofBytes_nil, H_a]
  replace H_a := Classical.not_not.1 H_a
  by_cases H_c : ¬ (c = 0)
  · have hR : RI 3 a b c d t = false := by
      refine decide_eq_false ?_
      rintro ⟨g1, g2, g3, g4, g5⟩
      unfold mR0 at g4
      simp only at g4
      omega
    rw [hR]
    simp -implicitDefEqProofs [F42, c42, upd, x1, x2, x3, x4, x5, x6, e0, e3, ofBytes_nil, H_a, H_c]
  replace H_c := Classical.not_not.1 H_c
  by_cases H_d : ¬ (d = 0)
  · have hR : RI 3 a b c d t = false := by
      refine decide_eq_false ?_
      rintro ⟨g1, g2, g3, g4, g5⟩
      unfold mR0 at g4
      simp only at g4
      omega
    rw [hR]
    have hdi : ¬ ((d : Nat) : Int) = 0 := by omega
    simp -implicitDefEqProofs [F42, c42, upd, x1, x2, x3, x4, x5, x6, e0, e3, ofBytes_nil, H_a, H_c, H_d, hdi]
  replace H_d := Classical.not_not.1 H_d
  by_cases H_nb : ¬ (¬ b = 0)
  · have hR : RI 3 a b c d t = false := by
      refine decide_eq_false ?_
      rintro ⟨g1, g2, g3, g4, g5⟩
      have hb0 : b = 0 := Classical.not_not.1 H_nb
      simp [lstM, hb0] at g5
    rw [hR]
    have H_nb' := Classical.not_not.1 H_nb
    simp -implicitDefEqProofs [F42, c42, upd, x1, x2, x3, x4, x5, x6, e0, e3, ofBytes_nil, H_a, H_c, H_d, H_nb']
  replace H_nb := Classical.not_not.1 H_nb
  by_cases H_l300 : ¬ (t.length ≤ 300)
  · have hR : RI 3 a b c d t = false := by
      refine decide_eq_false ?_
      rintro ⟨g1, g2, g3, g4, g5⟩
      unfold mR0 at g4
      simp only at g4
      omega
    rw [hR]
    have hli : ¬ ((t.length : Nat) : Int) ≤ 300 := by omega
    simp -implicitDefEqProofs [F42, c42, upd, x1, x2, x3, x4, x5, x6, e0, e3, ofBytes_nil, H_a, H_c, H_d, H_nb, H_l300, hli]
  replace H_l300 := Classical.not_not.1 H_l300
  have hR : RI 3 a b c d t = true := decide_eq_true ⟨by omega, by omega, by omega, .inr (.inl ⟨rfl, by dsimp only; omega, by dsimp only; omega, by dsimp only; omega, H_d, H_l300⟩), by simp only [lstM]; rw [if_pos (by decide)]; exact decide_eq_true (by omega)⟩
  rw [hR]
  have hli : ((t.length : Nat) : Int) ≤ 300 := by omega
  simp -implicitDefEqProofs [F42, c42, upd, x1, x2, x3, x4, x5, x6, e0, e3, ofBytes_nil, H_a, H_c, H_d, H_nb, H_l300, hli]
theorem f42k4 (a b c : Int) (d : Nat) (t : List Int) (ha : 0 ≤ a ∧ a ≤ 400) (hb : 0 ≤ b ∧ b ≤ 1073741824) (hc : 0 ≤ c ∧ c ≤ 1048576) (hd : d < 2 ^ 64) : F42 [ag6 4 a b c d t] [] = some (.one (.bool (RI 4 a b c d t)), []) := by
  have x1 : ¬ a < 0 := by omega
  have x2 : ¬ 400 < a := by omega
  have x3 : ¬ b < 0 := by omega
  have x4 : ¬ 1073741824 < b := by omega
  have x5 : ¬ c < 0 := by omega
  have x6 : ¬ 1048576 < c := by omega
  have e0 := emptyS t
  have e3 := size_ofBytes t
  unfold ag6
  by_cases H_a : ¬ (a = 0)
  · have hR : RI 4 a b c d t = false := by
      refine decide_eq_false ?_
      rintro ⟨g1, g2, g3, g4, g5⟩
      unfold mR0 at g4
      simp only at g4
      omega
    rw [hR]
    simp -implicitDefEqProofs [F42, c42, upd, x1, x2, x3, x4, x5, x6, e0, e3, ofBytes_nil, H_a]
  replace H_a := Classical.not_not.1 H_a
  by_cases H_c : ¬ (c = 0)
  · have hR : RI 4 a b c d t = false := by
      refine decide_eq_false ?_
      rintro ⟨g1, g2, g3, g4, g5⟩
      unfold mR0 at g4
      simp only at g4
      omega
    rw [hR]
    simp -implicitDefEqProofs [F42, c42, upd, x1, x2, x3, x4, x5, x6, e0, e3, ofBytes_nil, H_a, H_c]
  replace H_c := Classical.not_not.1 H_c
  by_cases H_d : ¬ (d = 0)
  · have hR : RI 4 a b c d t = false := by
      refine decide_eq_false ?_
      rintro ⟨g1, g2, g3, g4, g5⟩
      unfold mR0 at g4
      simp only at g4
      omega
    rw [hR]
    have hdi : ¬ ((d : Nat) : Int) = 0 := by omega
    simp -implicitDefEqProofs [F42, c42, upd, x1, x2, x3, x4, x5, x6, e0, e3, ofBytes_nil, H_a, H_c, H_d, hdi]
  replace H_d := Classical.not_not.1 H_d
  by_cases H_nb : ¬ (¬ b = 0)
  · have hR : RI 4 a b c d t = false := by
      refine decide_eq_false ?_
      rintro ⟨g1, g2, g3, g4, g5⟩
      have hb0 : b = 0 := Classical.not_not.1 H_nb
      simp [lstM, hb0] at g5
    rw [hR]
    have H_nb' := Classical.not_not.1 H_nb
    simp -implicitDefEqProofs [F42, c42, upd, x1, x2, x3, x4, x5, x6, e0, e3, ofBytes_nil, H_a, H_c, H_d, H_nb']
  replace H_nb := Classical.not_not.1 H_nb
  by_cases H_t : ¬ (t = [])
  · have hR : RI 4 a b c d t = false := by
      refine decide_eq_false ?_
      rintro ⟨g1, g2, g3, g4, g5⟩
      simp [mR0, H_t] at g4
    rw [hR]
    simp -implicitDefEqProofs [F42, c42, upd, x1, x2, x3, x4, x5, x6, e0, e3, ofBytes_nil, H_a, H_c, H_d, H_nb, H_t]
  replace H_t := Classical.not_not.1 H_t
  have hR : RI 4 a b c d t = true := decide_eq_true ⟨by omega, by omega, by omega, .inr (.inr (.inl ⟨.inl rfl, by dsimp only; omega, by dsimp only; omega, by dsimp only; omega, H_d, H_t⟩)), by simp only [lstM]; rw [if_pos (by decide)]; exact decide_eq_true (by omega)⟩
  rw [hR]
  simp -implicitDefEqProofs [F42, c42, upd, x1, x2, x3, x4, x5, x6, e0, e3, ofBytes_nil, H_a, H_c, H_d, H_nb, H_t]
theorem f42k5 (a b c : Int) (d : Nat) (t : List Int) (ha : 0 ≤ a ∧ a ≤ 400) (hb : 0 ≤ b ∧ b ≤ 1073741824) (hc : 0 ≤ c ∧ c ≤ 1048576) (hd : d < 2 ^ 64) : F42 [ag6 5 a b c d t] [] = some (.one (.bool (RI 5 a b c d t)), []) := by
  have x1 : ¬ a < 0 := by omega
  have x2 : ¬ 400 < a := by omega
  have x3 : ¬ b < 0 := by omega
  have x4 : ¬ 1073741824 < b := by omega
  have x5 : ¬ c < 0 := by omega
  have x6 : ¬ 1048576 < c := by omega
  have e0 := emptyS t
  have e3 := size_ofBytes t
  unfold ag6
  by_cases H_a : ¬ (a = 0)
  · have hR : RI 5 a b c d t = false := by
      refine decide_eq_false ?_
      rintro ⟨g1, g2, g3, g4, g5⟩
      unfold mR0 at g4
      simp only at g4
      omega
    rw [hR]
    simp -implicitDefEqProofs [F42, c42, upd, x1, x2, x3, x4, x5, x6, e0, e3, ofBytes_nil, H_a]
  replace H_a := Classical.not_not.1 H_a
  by_cases H_c : ¬ (c = 0)
  · have hR : RI 5 a b c d t = false := by
      refine decide_eq_false ?_
      rintro ⟨g1, g2, g3, g4, g5⟩
      unfold mR0 at g4
      simp only at g4
      omega
    rw [hR]
    simp -implicitDefEqProofs [F42, c42, upd, x1, x2, x3, x4, x5, x6, e0, e3, ofBytes_nil, H_a, H_c]
  replace H_c := Classical.not_not.1 H_c
  by_cases H_d : ¬ (d = 0)
  · have hR : RI 5 a b c d t = false := by
      refine decide_eq_false ?_
      rintro ⟨g1, g2, g3, g4, g5⟩
      unfold mR0 at g4
      simp only at g4
      omega
    rw [hR]
    have hdi : ¬ ((d : Nat) : Int) = 0 := by omega
    simp -implicitDefEqProofs [F42, c42, upd, x1, x2, x3, x4, x5, x6, e0, e3, ofBytes_nil, H_a, H_c, H_d, hdi]
  replace H_d := Classical.not_not.1 H_d
  by_cases H_nb : ¬ (¬ b = 0)
  · have hR : RI 5 a b c d t = false := by
      refine decide_eq_false ?_
      rintro ⟨g1, g2, g3, g4, g5⟩
      have hb0 : b = 0 := Classical.not_not.1 H_nb
      simp [lstM, hb0] at g5
    rw [hR]
    have H_nb' := Classical.not_not.1 H_nb
    simp -implicitDefEqProofs [F42, c42, upd, x1, x2, x3, x4, x5, x6, e0, e3, ofBytes_nil, H_a, H_c, H_d, H_nb']
  replace H_nb := Classical.not_not.1 H_nb
  by_cases H_t : ¬ (t = [])
  · have hR : RI 5 a b c d t = false := by
      refine decide_eq_false ?_
      rintro ⟨g1, g2, g3, g4, g5⟩
      simp [mR0, H_t] at g4
    rw [hR]
    simp -implicitDefEqProofs [F42, c42, upd, x1, x2, x3, x4, x5, x6, e0, e3, ofBytes_nil, H_a, H_c, H_d, H_nb, H_t]
  replace H_t := Classical.not_not.1 H_t
  have hR : RI 5 a b c d t = true := decide_eq_true ⟨by omega, by omega, by omega, .inr (.inr (.inl ⟨.inr rfl, by dsimp only; omega, by dsimp only; omega, by dsimp only; omega, H_d, H_t⟩)), by simp only [lstM]; rw [if_pos (by decide)]; exact decide_eq_true (by omega)⟩
  rw [hR]
  simp -implicitDefEqProofs [F42, c42, upd, x1, x2, x3, x4, x5, x6, e0, e3, ofBytes_nil, H_a, H_c, H_d, H_nb, H_t]
theorem f42k6 (a b c : Int) (d : Nat) (t : List Int) (ha : 0 ≤ a ∧ a ≤ 400) (hb : 0 ≤ b ∧ b ≤ 1073741824) (hc : 0 ≤ c ∧ c ≤ 1048576) (hd : d < 2 ^ 64) : F42 [ag6 6 a b c d t] [] = some (.one (.bool (RI 6 a b c d t)), []) := by
  have x1 : ¬ a < 0 := by omega
  have x2 : ¬ 400 < a := by omega
  have x3 : ¬ b < 0 := by omega
  have x4 : ¬ 1073741824 < b := by omega
  have x5 : ¬ c < 0 := by omega
  have x6 : ¬ 1048576 < c := by omega
  have e0 := emptyS t
  have e3 := size_ofBytes t
  unfold ag6
  by_cases H_b : ¬ (b = 0)
  · have hR : RI 6 a b c d t = false := by
      refine decide_eq_false ?_
      rintro ⟨g1, g2, g3, g4, g5⟩
      unfold mR0 at g4
      simp only at g4
      omega
    rw [hR]
    simp -implicitDefEqProofs [F42, c42, upd, x1, x2, x3, x4, x5, x6, e0, e3, ofBytes_nil, H_b]
  replace H_b := Classical.not_not.1 H_b
  by_cases H_c : ¬ (c = 0)
  · have hR : RI 6 a b c d t = false := by
      refine decide_eq_false ?_
      rintro ⟨g1, g2, g3, g4, g5⟩
      unfold mR0 at g4
      simp only at g4
      omega
    rw [hR]
    simp -implicitDefEqProofs [F42, c42, upd, x1, x2, x3, x4, x5, x6, e0, e3, ofBytes_nil, H_b, H_c]
  replace H_c := Classical.not_not.1 H_c
  by_cases H_d : ¬ (d = 0)
  · have hR : RI 6 a b c d t = false := by
      refine decide_eq_false ?_
      rintro ⟨g1, g2, g3, g4, g5⟩
      unfold mR0 at g4
      simp only at g4
      omega
    rw [hR]
    have hdi : ¬ ((d : Nat) : Int) = 0 := by omega
    simp -implicitDefEqProofs [F42, c42, upd, x1, x2, x3, x4, x5, x6, e0, e3, ofBytes_nil, H_b, H_c, H_d, hdi]
  replace H_d := Classical.not_not.1 H_d
  by_cases H_l600 : ¬ (t.length ≤ 600)
  · have hR : RI 6 a b c d t = false := by
      refine decide_eq_false ?_
      rintro ⟨g1, g2, g3, g4, g5⟩
      unfold mR0 at g4
      simp only at g4
      omega
    rw [hR]
    have hli : ¬ ((t.length : Nat) : Int) ≤ 600 := by omega
    simp -implicitDefEqProofs [F42, c42, upd, x1, x2, x3, x4, x5, x6, e0, e3, ofBytes_nil, H_b, H_c, H_d, H_l600, hli]
  replace H_l600 := Classical.not_not.1 H_l600
  have hR : RI 6 a b c d t = true := decide_eq_true ⟨by omega, by omega, by omega, .inr (.inr (.inr (.inl ⟨rfl, by dsimp only; omega, by dsimp only; omega, by dsimp only; omega, H_d, H_l600⟩))), by simp [lstM]⟩
  rw [hR]
  have hli : ((t.length : Nat) : Int) ≤ 600 := by omega
  simp -implicitDefEqProofs [F42, c42, upd, x1, x2, x3, x4, x5, x6, e0, e3, ofBytes_nil, H_b, H_c, H_d, H_l600, hli]
theorem f42k7 (a b c : Int) (d : Nat) (t : List Int) (ha : 0 ≤ a ∧ a ≤ 400) (hb : 0 ≤ b ∧ b ≤ 1073741824) (hc : 0 ≤ c ∧ c ≤ 1048576) (hd : d < 2 ^ 64) : F42 [ag6 7 a b c d t] [] = some (.one (.bool (RI 7 a b c d t)), []) := by
  have x1 : ¬ a < 0 := by omega
  have x2 : ¬ 400 < a := by omega
  have x3 : ¬ b < 0 := by omega
  have x4 : ¬ 1073741824 < b := by omega
  have x5 : ¬ c < 0 := by omega
  have x6 : ¬ 1048576 < c := by omega
  have e0 := emptyS t
  have e3 := size_ofBytes t
  unfold ag6
  by_cases H_b : ¬ (b = 0)
  · have hR : RI 7 a b c d t = false := by
      refine decide_eq_false ?_
      rintro ⟨g1, g2, g3, g4, g5⟩
      unfold mR0 at g4
      simp only at g4
      omega
    rw [hR]
    simp -implicitDefEqProofs [F42, c42, upd, x1, x2, x3, x4, x5, x6, e0, e3, ofBytes_nil, H_b]
  replace H_b := Classical.not_not.1 H_b
  by_cases H_c : ¬ (c = 0)
  · have hR : RI 7 a b c d t = false := by
      refine decide_eq_false ?_
      rintro ⟨g1, g2, g3, g4, g5⟩
      unfold mR0 at g4
      simp only at g4
      omega
    rw [hR]
    simp -implicitDefEqProofs [F42, c42, upd, x1, x2, x3, x4, x5, x6, e0, e3, ofBytes_nil, H_b, H_c]
  replace H_c := Classical.not_not.1 H_c
  by_cases H_d : ¬ (d = 0)
  · have hR : RI 7 a b c d t = false := by
      refine decide_eq_false ?_
      rintro ⟨g1, g2, g3, g4, g5⟩
      unfold mR0 at g4
      simp only at g4
      omega
    rw [hR]
    have hdi : ¬ ((d : Nat) : Int) = 0 := by omega
    simp -implicitDefEqProofs [F42, c42, upd, x1, x2, x3, x4, x5, x6, e0, e3, ofBytes_nil, H_b, H_c, H_d, hdi]
  replace H_d := Classical.not_not.1 H_d
  by_cases H_t : ¬ (t = [])
  · have hR : RI 7 a b c d t = false := by
      refine decide_eq_false ?_
      rintro ⟨g1, g2, g3, g4, g5⟩
      simp [mR0, H_t] at g4
    rw [hR]
    simp -implicitDefEqProofs [F42, c42, upd, x1, x2, x3, x4, x5, x6, e0, e3, ofBytes_nil, H_b, H_c, H_d, H_t]
  replace H_t := Classical.not_not.1 H_t
  have hR : RI 7 a b c d t = true := decide_eq_true ⟨by omega, by omega, by omega, .inr (.inr (.inr (.inr (.inl ⟨rfl, by dsimp only; omega, by dsimp only; omega, by dsimp only; omega, H_d, H_t⟩)))), by simp [lstM]⟩
  rw [hR]
  simp -implicitDefEqProofs [F42, c42, upd, x1, x2, x3, x4, x5, x6, e0, e3, ofBytes_nil, H_b, H_c, H_d, H_t]
theorem f42k8 (a b c : Int) (d : Nat) (t : List Int) (ha : 0 ≤ a ∧ a ≤ 400) (hb : 0 ≤ b ∧ b ≤ 1073741824) (hc : 0 ≤ c ∧ c ≤ 1048576) (hd : d < 2 ^ 64) : F42 [ag6 8 a b c d t] [] = some (.one (.bool (RI 8 a b c d t)), []) := by
  have x1 : ¬ a < 0 := by omega
  have x2 : ¬ 400 < a := by omega
  have x3 : ¬ b < 0 := by omega
  have x4 : ¬ 1073741824 < b := by omega
  have x5 : ¬ c < 0 := by omega
  have x6 : ¬ 1048576 < c := by omega
  have e0 := emptyS t
  have e3 := size_ofBytes t
  unfold ag6
  by_cases H_b : ¬ (b = 0)
  · have hR : RI 8 a b c d t = false := by
      refine decide_eq_false ?_
      rintro ⟨g1, g2, g3, g4, g5⟩
      unfold mR0 at g4
      simp only at g4
      omega
    rw [hR]
    simp -implicitDefEqProofs [F42, c42, upd, x1, x2, x3, x4, x5, x6, e0, e3, ofBytes_nil, H_b]
  replace H_b := Classical.not_not.1 H_b
  by_cases H_t : ¬ (t = [])
  · have hR : RI 8 a b c d t = false := by
      refine decide_eq_false ?_
      rintro ⟨g1, g2, g3, g4, g5⟩
      simp [mR0, H_t] at g4
    rw [hR]
    simp -implicitDefEqProofs [F42, c42, upd, x1, x2, x3, x4, x5, x6, e0, e3, ofBytes_nil, H_b, H_t]
  replace H_t := Classical.not_not.1 H_t
  have hR : RI 8 a b c d t = true := decide_eq_true ⟨by omega, by omega, by omega, .inr (.inr (.inr (.inr (.inr (.inl ⟨rfl, by dsimp only; omega, by dsimp only; omega, by dsimp only; omega, hd, H_t⟩))))), by simp [lstM]⟩
  rw [hR]
  simp -implicitDefEqProofs [F42, c42, upd, x1, x2, x3, x4, x5, x6, e0, e3, ofBytes_nil, H_b, H_t]
theorem f42k9 (a b c : Int) (d : Nat) (t : List Int) (ha : 0 ≤ a ∧ a ≤ 400) (hb : 0 ≤ b ∧ b ≤ 1073741824) (hc : 0 ≤ c ∧ c ≤ 1048576) (hd : d < 2 ^ 64) : F42 [ag6 9 a b c d t] [] = some (.one (.bool (RI 9 a b c d t)), []) := by
  have x1 : ¬ a < 0 := by omega
  have x2 : ¬ 400 < a := by omega
  have x3 : ¬ b < 0 := by omega
  have x4 : ¬ 1073741824 < b := by omega
  have x5 : ¬ c < 0 := by omega
  have x6 : ¬ 1048576 < c := by omega
  have e0 := emptyS t
  have e3 := size_ofBytes t
  unfold ag6
  by_cases H_a : ¬ (a = 0)
  · have hR : RI 9 a b c d t = false := by
      refine decide_eq_false ?_
      rintro ⟨g1, g2, g3, g4, g5⟩
      unfold mR0 at g4
      simp only at g4
      omega
    rw [hR]
    simp -implicitDefEqProofs [F42, c42, upd, x1, x2, x3, x4, x5, x6, e0, e3, ofBytes_nil, H_a]
  replace H_a := Classical.not_not.1 H_a
  by_cases H_b : ¬ (b = 0)
  · have hR : RI 9 a b c d t = false := by
      refine decide_eq_false ?_
      rintro ⟨g1, g2, g3, g4, g5⟩
      unfold mR0 at g4
      simp only at g4
      omega
    rw [hR]
    simp -implicitDefEqProofs [F42, c42, upd, x1, x2, x3, x4, x5, x6, e0, e3, ofBytes_nil, H_a, H_b]
  replace H_b := Classical.not_not.1 H_b
  by_cases H_d : ¬ (d = 0)
  · have hR : RI 9 a b c d t = false := by
      refine decide_eq_false ?_
      rintro ⟨g1, g2, g3, g4, g5⟩
      unfold mR0 at g4
      simp only at g4
      omega
    rw [hR]
    have hdi : ¬ ((d : Nat) : Int) = 0 := by omega
    simp -implicitDefEqProofs [F42, c42, upd, x1, x2, x3, x4, x5, x6, e0, e3, ofBytes_nil, H_a, H_b, H_d, hdi]
  replace H_d := Classical.not_not.1 H_d
  by_cases H_nt : ¬ (¬ t = [])
  · have hR : RI 9 a b c d t = false := by
      refine decide_eq_false ?_
      rintro ⟨g1, g2, g3, g4, g5⟩
      simp [lstM, Classical.not_not.1 H_nt] at g5
    rw [hR]
    have H_nt' := Classical.not_not.1 H_nt
    simp -implicitDefEqProofs [F42, c42, upd, x1, x2, x3, x4, x5, x6, e0, e3, ofBytes_nil, H_a, H_b, H_d, H_nt']
  replace H_nt := Classical.not_not.1 H_nt
  by_cases H_l200 : ¬ (t.length ≤ 200)
  · have hR : RI 9 a b c d t = false := by
      refine decide_eq_false ?_
      rintro ⟨g1, g2, g3, g4, g5⟩
      unfold mR0 at g4
      simp only at g4
      omega
    rw [hR]
    have hli : ¬ ((t.length : Nat) : Int) ≤ 200 := by omega
    simp -implicitDefEqProofs [F42, c42, upd, x1, x2, x3, x4, x5, x6, e0, e3, ofBytes_nil, H_a, H_b, H_d, H_nt, H_l200, hli]
  replace H_l200 := Classical.not_not.1 H_l200
  have hR : RI 9 a b c d t = true := decide_eq_true ⟨by omega, by omega, by omega, .inr (.inr (.inr (.inr (.inr (.inr (.inl ⟨rfl, by dsimp only; omega, by dsimp only; omega, by dsimp only; omega, H_d, H_l200⟩)))))), by simp [lstM, H_nt]⟩
  rw [hR]
  have hli : ((t.length : Nat) : Int) ≤ 200 := by omega
  simp -implicitDefEqProofs [F42, c42, upd, x1, x2, x3, x4, x5, x6, e0, e3, ofBytes_nil, H_a, H_b, H_d, H_nt, H_l200, hli]
theorem f42k10 (a b c : Int) (d : Nat) (t : List Int) (ha : 0 ≤ a ∧ a ≤ 400) (hb : 0 ≤ b ∧ b ≤ 1073741824) (hc : 0 ≤ c ∧ c ≤ 1048576) (hd : d < 2 ^ 64) : F42 [ag6 10 a b c d t] [] = some (.one (.bool (RI 10 a b c d t)), []) := by
  have x1 : ¬ a < 0 := by omega
  have x2 : ¬ 400 < a := by omega
  have x3 : ¬ b < 0 := by omega
  have x4 : ¬ 1073741824 < b := by omega
  have x5 : ¬ c < 0 := by omega
  have x6 : ¬ 1048576 < c := by omega
  have e0 := emptyS t
  have e3 := size_ofBytes t
  unfold ag6
  by_cases H_a : ¬ (a = 0)
  · have hR : RI 10 a b c d t = false := by
      refine decide_eq_false ?_
      rintro ⟨g1, g2, g3, g4, g5⟩
      unfold mR0 at g4
      simp only at g4
      omega
    rw [hR]
    simp -implicitDefEqProofs [F42, c42, upd, x1, x2, x3, x4, x5, x6, e0, e3, ofBytes_nil, H_a]
  replace H_a := Classical.not_not.1 H_a
  by_cases H_b : ¬ (b = 0)
  · have hR : RI 10 a b c d t = false := by
      refine decide_eq_false ?_
      rintro ⟨g1, g2, g3, g4, g5⟩
      unfold mR0 at g4
      simp only at g4
      omega
    rw [hR]
    simp -implicitDefEqProofs [F42, c42, upd, x1, x2, x3, x4, x5, x6, e0, e3, ofBytes_nil, H_a, H_b]
  replace H_b := Classical.not_not.1 H_b
  by_cases H_c : ¬ (c = 0)
  · have hR : RI 10 a b c d t = false := by
      refine decide_eq_false ?_
      rintro ⟨g1, g2, g3, g4, g5⟩
      unfold mR0 at g4
      simp only at g4
      omega
    rw [hR]
    simp -implicitDefEqProofs [F42, c42, upd, x1, x2, x3, x4, x5, x6, e0, e3, ofBytes_nil, H_a, H_b, H_c]
  replace H_c := Classical.not_not.1 H_c
  by_cases H_d : ¬ (d = 0)
  · have hR : RI 10 a b c d t = false := by
      refine decide_eq_false ?_
      rintro ⟨g1, g2, g3, g4, g5⟩
      unfold mR0 at g4
      simp only at g4
      omega
    rw [hR]
    have hdi : ¬ ((d : Nat) : Int) = 0 := by omega
    simp -implicitDefEqProofs [F42, c42, upd, x1, x2, x3, x4, x5, x6, e0, e3, ofBytes_nil, H_a, H_b, H_c, H_d, hdi]
  replace H_d := Classical.not_not.1 H_d
  by_cases H_t : ¬ (t = [])
  · have hR : RI 10 a b c d t = false := by
      refine decide_eq_false ?_
      rintro ⟨g1, g2, g3, g4, g5⟩
      simp [mR0, H_t] at g4
    rw [hR]
    simp -implicitDefEqProofs [F42, c42, upd, x1, x2, x3, x4, x5, x6, e0, e3, ofBytes_nil, H_a, H_b, H_c, H_d, H_t]
  replace H_t := Classical.not_not.1 H_t
  have hR : RI 10 a b c d t = true := decide_eq_true ⟨by omega, by omega, by omega, .inr (.inr (.inr (.inr (.inr (.inr (.inr (⟨rfl, by dsimp only; omega, by dsimp only; omega, by dsimp only; omega, H_d, H_t⟩))))))), by simp [lstM]⟩
  rw [hR]
  simp -implicitDefEqProofs [F42, c42, upd, x1, x2, x3, x4, x5, x6, e0, e3, ofBytes_nil, H_a, H_b, H_c, H_d, H_t]
theorem f42x (k a b c : Int) (d : Nat) (t : List Int) (hk : k < 1 ∨ 10 < k) (ha : 0 ≤ a ∧ a ≤ 400) (hb : 0 ≤ b ∧ b ≤ 1073741824) (hc : 0 ≤ c ∧ c ≤ 1048576) : F42 [ag6 k a b c d t] [] = some (.one (.bool (RI k a b c d t)), []) := by
  have x1 : ¬ a < 0 := by omega
  have x2 : ¬ 400 < a := by omega
  have x3 : ¬ b < 0 := by omega
  have x4 : ¬ 1073741824 < b := by omega
  have x5 : ¬ c < 0 := by omega
  have x6 : ¬ 1048576 < c := by omega
  have hR : RI k a b c d t = false := by
    refine decide_eq_false ?_
    rintro ⟨g1, g2, g3, g4, g5⟩
    unfold mR0 at g4
    simp only at g4
    omega
  have n1 : ¬ k = 1 := by omega
  have n2 : ¬ k = 2 := by omega
  have n3 : ¬ k = 3 := by omega
  have n4 : ¬ k = 4 := by omega
  have n5 : ¬ k = 5 := by omega
  have n6 : ¬ k = 6 := by omega
  have n7 : ¬ k = 7 := by omega
  have n8 : ¬ k = 8 := by omega
  have n9 : ¬ k = 9 := by omega
  have n10 : ¬ k = 10 := by omega
  unfold ag6
  rw [hR]
  simp -implicitDefEqProofs [F42, c42, upd, x1, x2, x3, x4, x5, x6, n1, n2, n3, n4, n5, n6, n7, n8, n9, n10]
theorem f42 (k a b c : Int) (d : Nat) (t : List Int) (hd : d < 2 ^ 64) : F42 [ag6 k a b c d t] [] = some (.one (.bool (RI k a b c d t)), []) := by
  by_cases h : a < 0 ∨ 400 < a ∨ b < 0 ∨ 1073741824 < b ∨ c < 0 ∨ 1048576 < c
  · rw [RI_range h]; exact f42r k a b c d t h
  · by_cases hk : k < 1 ∨ 10 < k
    · exact f42x k a b c d t hk (by omega) (by omega) (by omega)
    · have : k = 1 ∨ k = 2 ∨ k = 3 ∨ k = 4 ∨ k = 5 ∨ k = 6 ∨ k = 7 ∨ k = 8 ∨ k = 9 ∨ k = 10 := by omega
      rcases this with rfl | rfl | rfl | rfl | rfl | rfl | rfl | rfl | rfl | rfl
      · exact f42k1 a b c d t (by omega) (by omega) (by omega) hd
      · exact f42k2 a b c d t (by omega) (by omega) (by omega) hd
      · exact f42k3 a b c d t (by omega) (by omega) (by omega) hd
      · exact f42k4 a b c d t (by omega) (by omega) (by omega) hd
      · exact f42k5 a b c d t (by omega) (by omega) (by omega) hd
      · exact f42k6 a b c d t (by omega) (by omega) (by omega) hd
      · exact f42k7 a b c d t (by omega) (by omega) (by omega) hd
      · exact f42k8 a b c d t (by omega) (by omega) (by omega) hd
      · exact f42k9 a b c d t (by omega) (by omega) (by omega) hd
      · exact f42k10 a b c d t (by omega) (by omega) (by omega) hd
end Go.X.Try
set_option maxRecDepth 100000
set_option linter.unusedSimpArgs false
namespace Go.X.Try
open Go.IntWalk
def mD (k : Int) (l : List Int) : Option Msg := match gD k l with
  | some m => if lstM m = true then some m else none
  | none => none
theorem mD_iff {k : Int} {l : List Int} {m : Msg} (hB : isB l) : mD k l = some m ↔ m.kind = k ∧ mR0 m ∧ lstM m = true ∧ mput m = l := by
  unfold mD
  constructor
  · intro h
    cases hg : gD k l with
    | none => rw [hg] at h; cases h
    | some m' =>
      rw [hg] at h
      simp only at h
      by_cases hl : lstM m' = true
      · rw [if_pos hl] at h
        simp only [Option.some.injEq] at h
        subst h
        obtain ⟨h1, h2, h3⟩ := (gD_iff hB).1 hg
        exact ⟨h1, h2, hl, h3⟩
      · rw [if_neg hl] at h; cases h
  · rintro ⟨h1, h2, h3, h4⟩
    rw [(gD_iff hB).2 ⟨h1, h2, h4⟩]
    simp only
    rw [if_pos h3]
def zeroM : Msg := ⟨0, 0, 0, 0, 0, []⟩
/-- The number at the beginning, and what is behind it; below 0: there is none. -/
def num (l : List Int) : Int × List Int := match rdN 1073741824 l with
  | some (v, r) => (v, r)
  | none => (-1, l)
theorem f62 (l : List Int) (hB : isB l) (hl : l.length ≤ 5000) : F62 [.one (.str (ofBytes l))] [] = some (.tup [.one (.int .i64 (num l).1), .one (.str (ofBytes (num l).2))], []) := by
  unfold num
  cases h : rdN 1073741824 l with
  | none => exact f62n l hB hl h
  | some p => exact f62s l p.2 p.1 hB hl h
theorem num_ok {l : List Int} (hB : isB l) : isB (num l).2 ∧ (num l).2.length ≤ l.length := by
  unfold num
  cases h : rdN 1073741824 l with
  | none => exact ⟨hB, Nat.le_refl _⟩
  | some p => exact (rdN_ok hB (by decide) h).2
theorem num_pos {l : List Int} (hB : isB l) (h : 0 ≤ (num l).1) : l = grp (num l).1.toNat ++ (num l).2 ∧ (num l).1 ≤ 1073741824 := by
  unfold num at h ⊢
  cases hr : rdN 1073741824 l with
  | none => rw [hr] at h; simp at h
  | some p =>
    obtain ⟨h1, h2⟩ := (rdN_iff hB (by decide)).1 hr
    simp only [Int.toNat_natCast]
    exact ⟨h2, by omega⟩
theorem num_grp {v : Nat} {r : List Int} (hB : isB (grp v ++ r)) (h : v ≤ 1073741824) : num (grp v ++ r) = ((v : Int), r) := by
  unfold num
  rw [(rdN_iff hB (by decide)).2 ⟨h, rfl⟩]
theorem num_grp0 {v : Nat} (h : v ≤ 1073741824) : num (grp v) = ((v : Int), []) := by
  have := num_grp (v := v) (r := []) (by rw [List.append_nil]; exact grp_isB v) h
  rwa [List.append_nil] at this
theorem RI_msg (m : Msg) : RI m.kind m.next m.epoch m.size m.sum m.data = true ↔ mR0 m ∧ lstM m = true := by
  obtain ⟨k, a, b, c, d, t⟩ := m
  unfold RI
  simp only [Int.toNat_natCast, decide_eq_true_eq]
  constructor
  · rintro ⟨_, _, _, h1, h2⟩; exact ⟨h1, h2⟩
  · rintro ⟨h1, h2⟩; exact ⟨by omega, by omega, by omega, h1, h2⟩
theorem RI_nn {k a b c : Int} {d : Nat} {t : List Int} (h : RI k a b c d t = true) : 0 ≤ a ∧ 0 ≤ b ∧ 0 ≤ c ∧ RI k a.toNat b.toNat c.toNat d t = true := by
  have h0 := of_decide_eq_true h
  refine ⟨h0.1, h0.2.1, h0.2.2.1, ?_⟩
  rw [show ((a.toNat : Nat) : Int) = a by omega, show ((b.toNat : Nat) : Int) = b by omega, show ((c.toNat : Nat) : Int) = c by omega]
  exact h
def tupMB (m : AV) (b : Bool) : AV := .tup [m, .one (.bool b)]
def okRef (k : Int) (l : List Int) : Prop := F22 [.one (.int .i64 k), .one (.str (ofBytes l))] [] = some (match mD k l with
  | some m => tupMB (mAg m) true
  | none => tupMB (mAg zeroM) false, [])
theorem sub {a b : List Int} (h : isB (a ++ b)) : isB b := fun x hx => h x (List.mem_append.2 (.inr hx))
def zA : AV := .agg [.int .i64 0, .int .i64 0, .int .i64 0, .int .i64 0, .int .u64 0, .str ⟨#[]⟩]
theorem core12 (k : Int) (hk : k = 1 ∨ k = 2) (l r s : List Int) (a b : Int) (e1 : F62 [.one (.str (ofBytes l))] [] = some (.tup [.one (.int .i64 a), .one (.str (ofBytes r))], [])) (e2 : F62 [.one (.str (ofBytes r))] [] = some (.tup [.one (.int .i64 b), .one (.str (ofBytes s))], [])) :
    F22 [.one (.int .i64 k), .one (.str (ofBytes l))] [] = some (if s = [] ∧ RI k a b 0 0 [] = true then tupMB (ag6 k a b 0 0 []) true else tupMB zA false, []) := by
  have e42 := f42 k a b 0 0 [] (by decide)
  have e0 := emptyS s
  simp only [ag6, ofBytes_nil, Int.cast_ofNat_Int] at e42
  by_cases hs : s = []
  · subst hs
    simp only [ofBytes_nil] at e2
    cases hR : RI k a b 0 0 [] <;> rw [hR] at e42 <;> rcases hk with rfl | rfl <;> simp -implicitDefEqProofs [F22, c22, upd, e1, e2, e42, tupMB, zA, ag6, ofBytes_nil]
  · rw [if_neg (fun c => hs c.1)]
    rcases hk with rfl | rfl <;> simp -implicitDefEqProofs [F22, c22, upd, e1, e2, e0, hs, tupMB, zA]
theorem core45 (k : Int) (hk : k = 4 ∨ k = 5) (l s : List Int) (b : Int) (e2 : F62 [.one (.str (ofBytes l))] [] = some (.tup [.one (.int .i64 b), .one (.str (ofBytes s))], [])) :
    F22 [.one (.int .i64 k), .one (.str (ofBytes l))] [] = some (if s = [] ∧ RI k 0 b 0 0 [] = true then tupMB (ag6 k 0 b 0 0 []) true else tupMB zA false, []) := by
  have e42 := f42 k 0 b 0 0 [] (by decide)
  have e0 := emptyS s
  simp only [ag6, ofBytes_nil, Int.cast_ofNat_Int] at e42
  by_cases hs : s = []
  · subst hs
    simp only [ofBytes_nil] at e2
    cases hR : RI k 0 b 0 0 [] <;> rw [hR] at e42 <;> rcases hk with rfl | rfl <;> simp -implicitDefEqProofs [F22, c22, upd, e2, e42, tupMB, zA, ag6, ofBytes_nil]
  · rw [if_neg (fun c => hs c.1)]
    rcases hk with rfl | rfl <;> simp -implicitDefEqProofs [F22, c22, upd, e2, e0, hs, tupMB, zA]
theorem core7 (l s : List Int) (a : Int) (e1 : F62 [.one (.str (ofBytes l))] [] = some (.tup [.one (.int .i64 a), .one (.str (ofBytes s))], [])) :
    F22 [.one (.int .i64 7), .one (.str (ofBytes l))] [] = some (if s = [] ∧ RI 7 a 0 0 0 [] = true then tupMB (ag6 7 a 0 0 0 []) true else tupMB zA false, []) := by
  have e42 := f42 7 a 0 0 0 [] (by decide)
  have e0 := emptyS s
  simp only [ag6, ofBytes_nil, Int.cast_ofNat_Int] at e42
  by_cases hs : s = []
  · subst hs
    simp only [ofBytes_nil] at e1
    cases hR : RI 7 a 0 0 0 [] <;> rw [hR] at e42 <;> simp -implicitDefEqProofs [F22, c22, upd, e1, e42, tupMB, zA, ag6, ofBytes_nil]
  · rw [if_neg (fun c => hs c.1)]
    simp -implicitDefEqProofs [F22, c22, upd, e1, e0, hs, tupMB, zA]
theorem core10 (k : Int) (hk : k < 1 ∨ 10 ≤ k) (l : List Int) : F22 [.one (.int .i64 k), .one (.str (ofBytes l))] [] = some (if l = [] ∧ RI k 0 0 0 0 [] = true then tupMB (ag6 k 0 0 0 0 []) true else tupMB zA false, []) := by
  have e42 := f42 k 0 0 0 0 [] (by decide)
  have e0 := emptyS l
  simp only [ag6, ofBytes_nil, Int.cast_ofNat_Int] at e42
  have n0 : ¬ (1 ≤ k ∧ k ≤ 5) := by omega
  have n1 : ¬ k = 1 := by omega
  have n2 : ¬ k = 2 := by omega
  have n3 : ¬ k = 3 := by omega
  have n6 : ¬ k = 6 := by omega
  have n7 : ¬ k = 7 := by omega
  have n8 : ¬ k = 8 := by omega
  have n9 : ¬ k = 9 := by omega
  by_cases hlo : 1 ≤ k
  · have hhi : ¬ k ≤ 5 := by omega
    by_cases hs : l = []
    · subst hs
      cases hR : RI k 0 0 0 0 [] <;> rw [hR] at e42 <;> simp -implicitDefEqProofs [F22, c22, upd, n1, n2, n3, n6, n7, n8, n9, hlo, hhi, e42, tupMB, zA, ag6, ofBytes_nil]
    · rw [if_neg (fun c => hs c.1)]
      simp -implicitDefEqProofs [F22, c22, upd, n1, n2, n3, n6, n7, n8, n9, hlo, hhi, e0, hs, tupMB, zA]
  · by_cases hs : l = []
    · subst hs
      cases hR : RI k 0 0 0 0 [] <;> rw [hR] at e42 <;> simp -implicitDefEqProofs [F22, c22, upd, n1, n2, n3, n6, n7, n8, n9, hlo, e42, tupMB, zA, ag6, ofBytes_nil]
    · rw [if_neg (fun c => hs c.1)]
      simp -implicitDefEqProofs [F22, c22, upd, n1, n2, n3, n6, n7, n8, n9, hlo, e0, hs, tupMB, zA]
theorem core3 (l r s : List Int) (x n : Int) (e1 : F62 [.one (.str (ofBytes l))] [] = some (.tup [.one (.int .i64 x), .one (.str (ofBytes r))], [])) (e2 : F62 [.one (.str (ofBytes r))] [] = some (.tup [.one (.int .i64 n), .one (.str (ofBytes s))], [])) :
    F22 [.one (.int .i64 3), .one (.str (ofBytes l))] [] = some (if n = s.length ∧ RI 3 0 x 0 0 s = true then tupMB (ag6 3 0 x 0 0 s) true else tupMB zA false, []) := by
  have e42 := f42 3 0 x 0 0 s (by decide)
  have e3 := size_ofBytes s
  simp only [ag6, Int.cast_ofNat_Int] at e42
  by_cases hn : n < 0
  · rw [if_neg (fun c => by have := c.1; omega)]
    simp -implicitDefEqProofs [F22, c22, upd, e1, e2, hn, tupMB, zA]
  · by_cases hs : n = s.length
    · subst hs
      cases hR : RI 3 0 x 0 0 s <;> rw [hR] at e42 <;> simp -implicitDefEqProofs [F22, c22, upd, e1, e2, e3, hn, e42, tupMB, zA, ag6]
    · rw [if_neg (fun c => hs c.1)]
      simp -implicitDefEqProofs [F22, c22, upd, e1, e2, e3, hn, hs, tupMB, zA]
theorem core6 (l r s : List Int) (x n : Int) (e1 : F62 [.one (.str (ofBytes l))] [] = some (.tup [.one (.int .i64 x), .one (.str (ofBytes r))], [])) (e2 : F62 [.one (.str (ofBytes r))] [] = some (.tup [.one (.int .i64 n), .one (.str (ofBytes s))], [])) :
    F22 [.one (.int .i64 6), .one (.str (ofBytes l))] [] = some (if n = s.length ∧ RI 6 x 0 0 0 s = true then tupMB (ag6 6 x 0 0 0 s) true else tupMB zA false, []) := by
  have e42 := f42 6 x 0 0 0 s (by decide)
  have e3 := size_ofBytes s
  simp only [ag6, Int.cast_ofNat_Int] at e42
  by_cases hn : n < 0
  · rw [if_neg (fun c => by have := c.1; omega)]
    simp -implicitDefEqProofs [F22, c22, upd, e1, e2, hn, tupMB, zA]
  · by_cases hs : n = s.length
    · subst hs
      cases hR : RI 6 x 0 0 0 s <;> rw [hR] at e42 <;> simp -implicitDefEqProofs [F22, c22, upd, e1, e2, e3, hn, e42, tupMB, zA, ag6]
    · rw [if_neg (fun c => hs c.1)]
      simp -implicitDefEqProofs [F22, c22, upd, e1, e2, e3, hn, hs, tupMB, zA]
theorem core9 (l r s : List Int) (x n : Int) (e1 : F62 [.one (.str (ofBytes l))] [] = some (.tup [.one (.int .i64 x), .one (.str (ofBytes r))], [])) (e2 : F62 [.one (.str (ofBytes r))] [] = some (.tup [.one (.int .i64 n), .one (.str (ofBytes s))], [])) :
    F22 [.one (.int .i64 9), .one (.str (ofBytes l))] [] = some (if n = s.length ∧ RI 9 0 0 x 0 s = true then tupMB (ag6 9 0 0 x 0 s) true else tupMB zA false, []) := by
  have e42 := f42 9 0 0 x 0 s (by decide)
  have e3 := size_ofBytes s
  simp only [ag6, Int.cast_ofNat_Int] at e42
  by_cases hn : n < 0
  · rw [if_neg (fun c => by have := c.1; omega)]
    simp -implicitDefEqProofs [F22, c22, upd, e1, e2, hn, tupMB, zA]
  · by_cases hs : n = s.length
    · subst hs
      cases hR : RI 9 0 0 x 0 s <;> rw [hR] at e42 <;> simp -implicitDefEqProofs [F22, c22, upd, e1, e2, e3, hn, e42, tupMB, zA, ag6]
    · rw [if_neg (fun c => hs c.1)]
      simp -implicitDefEqProofs [F22, c22, upd, e1, e2, e3, hn, hs, tupMB, zA]
theorem core8 (l r s : List Int) (a c : Int) (hB : isB s) (e1 : F62 [.one (.str (ofBytes l))] [] = some (.tup [.one (.int .i64 a), .one (.str (ofBytes r))], [])) (e2 : F62 [.one (.str (ofBytes r))] [] = some (.tup [.one (.int .i64 c), .one (.str (ofBytes s))], [])) :
    F22 [.one (.int .i64 8), .one (.str (ofBytes l))] [] = some (if s.length = 8 ∧ RI 8 a 0 c (leB s) [] = true then tupMB (ag6 8 a 0 c (leB s) []) true else tupMB zA false, []) := by
  have e3 := size_ofBytes s
  by_cases h8 : s.length < 8
  · have h8i : (s.length : Int) < 8 := by omega
    rw [if_neg (fun c => by omega)]
    simp -implicitDefEqProofs [F22, c22, upd, e1, e2, e3, h8, h8i, tupMB, zA]
  · have h8i : ¬ (s.length : Int) < 8 := by omega
    have h8j : (8 : Int) ≤ s.length := by omega
    have h8k : 8 ≤ s.length := by omega
    have ex1 := ofBytes_extract s 0 8
    rw [List.drop_zero, show 8 - 0 = 8 from rfl] at ex1
    have ex2 := ofBytes_extract s 8 s.length
    rw [List.take_of_length_le (by rw [List.length_drop]; omega)] at ex2
    have e59 := f59 (s.take 8) (isB_take 8 hB) (by rw [List.length_take]; omega)
    have e0 := emptyS (s.drop 8)
    have hlt := leB_lt (isB_take 8 hB)
    have h64 : leB (s.take 8) < 2 ^ 64 := Nat.lt_of_lt_of_le hlt (Nat.pow_le_pow_right (by decide) (by rw [List.length_take]; omega))
    by_cases hs : s.length = 8
    · have ht : s.take 8 = s := List.take_of_length_le (by omega)
      have hd : s.drop 8 = [] := List.drop_eq_nil_of_le (by omega)
      rw [ht] at e59 h64 ex1
      rw [hd] at ex2
      have e42 := f42 8 a 0 c (leB s) [] h64
      simp only [ag6, ofBytes_nil, Int.cast_ofNat_Int] at e42 ex2
      cases hR : RI 8 a 0 c (leB s) [] <;> rw [hR] at e42 <;> simp -implicitDefEqProofs [F22, c22, upd, e1, e2, e3, h8, h8i, h8j, h8k, hs, ex1, ex2, e59, e42, tupMB, zA, ag6, ofBytes_nil]
    · have hd : ¬ s.drop 8 = [] := fun c => by
        have := congrArg List.length c
        rw [List.length_drop, List.length_nil] at this
        omega
      rw [if_neg (fun c => hs c.1)]
      have hd2 : decide (s.drop 8 = []) = false := decide_eq_false hd
      rw [hd2] at e0
      generalize s.drop 8 = w at *
      simp -implicitDefEqProofs [F22, c22, upd, e1, e2, e3, h8, h8i, h8j, h8k, ex1, ex2, e59, e0, hd, tupMB, zA]
end Go.X.Try
set_option maxRecDepth 100000
set_option linter.unusedSimpArgs false
namespace Go.X.Try
open Go.IntWalk
theorem okRef_of {k : Int} {l : List Int} {C : Prop} [Decidable C] {a b c : Int} {d : Nat} {t : List Int} (hB : isB l)
    (h : F22 [.one (.int .i64 k), .one (.str (ofBytes l))] [] = some (if C then tupMB (ag6 k a b c d t) true else tupMB zA false, []))
    (h1 : C → RI k a b c d t = true ∧ mput ⟨k, a.toNat, b.toNat, c.toNat, d, t⟩ = l) (h2 : ∀ m : Msg, m.kind = k → mR0 m → lstM m = true → mput m = l → C) : okRef k l := by
  unfold okRef
  rw [h]
  by_cases hc : C
  · rw [if_pos hc]
    obtain ⟨g1, g2⟩ := h1 hc
    obtain ⟨p1, p2, p3, p4⟩ := RI_nn g1
    obtain ⟨q1, q2⟩ := (RI_msg ⟨k, a.toNat, b.toNat, c.toNat, d, t⟩).1 p4
    rw [(mD_iff hB).2 ⟨rfl, q1, q2, g2⟩]
    simp only [mAg, ag6]
    rw [show ((a.toNat : Nat) : Int) = a by omega, show ((b.toNat : Nat) : Int) = b by omega, show ((c.toNat : Nat) : Int) = c by omega]
  · rw [if_neg hc]
    cases hm : mD k l with
    | some m =>
      obtain ⟨g1, g2, g3, g4⟩ := (mD_iff hB).1 hm
      exact absurd (h2 m g1 g2 g3 g4) hc
    | none => rfl
theorem RI_of {m : Msg} (h1 : mR0 m) (h2 : lstM m = true) : RI m.kind m.next m.epoch m.size m.sum m.data = true := (RI_msg m).2 ⟨h1, h2⟩
theorem toNat_ne {a : Int} (h : 0 ≤ a) : ((a.toNat : Nat) : Int) = a := by omega
theorem ref12 (k : Int) (hk : k = 1 ∨ k = 2) (l : List Int) (hB : isB l) (hl : l.length ≤ 5000) : okRef k l := by
  have e1 := f62 l hB hl
  obtain ⟨hB2, hl2⟩ := num_ok hB
  have e2 := f62 (num l).2 hB2 (by omega)
  refine okRef_of hB (core12 k hk l _ _ _ _ e1 e2) ?_ ?_
  · rintro ⟨hs, hR⟩
    refine ⟨hR, ?_⟩
    obtain ⟨p1, p2, _, _⟩ := RI_nn hR
    have g1 := (num_pos hB p1).1
    have g2 := (num_pos hB2 p2).1
    rw [hs, List.append_nil] at g2
    have e : mput ⟨k, (num l).1.toNat, (num (num l).2).1.toNat, (0 : Int).toNat, 0, []⟩ = grp (num l).1.toNat ++ grp (num (num l).2).1.toNat := if_pos hk
    rw [e, ← g2]
    exact g1.symm
  · rintro m rfl h1 h2 rfl
    obtain ⟨kind, next, epoch, size, sum, data⟩ := m
    simp only at hk
    have hR := RI_of h1 h2
    have h1' := h1
    unfold mR0 at h1'
    simp only at h1'
    have h3 : next ≤ 400 ∧ epoch ≤ 1073741824 ∧ size = 0 ∧ sum = 0 := by omega
    have h4 : data = [] := by
      rcases hk with rfl | rfl <;> simp at h1' <;> exact h1'.2.2.2.2
    obtain ⟨g1, g2, rfl, rfl⟩ := h3
    subst h4
    have e : mput ⟨kind, next, epoch, 0, 0, []⟩ = grp next ++ grp epoch := if_pos hk
    simp only [e] at hB hR ⊢
    rw [num_grp hB (by omega)]
    simp only
    rw [num_grp0 g2]
    exact ⟨rfl, hR⟩
theorem ref45 (k : Int) (hk : k = 4 ∨ k = 5) (l : List Int) (hB : isB l) (hl : l.length ≤ 5000) : okRef k l := by
  have e1 := f62 l hB hl
  have hk1 : ¬ (k = 1 ∨ k = 2) := by omega
  have hk3 : ¬ k = 3 := by omega
  refine okRef_of hB (core45 k hk l _ _ e1) ?_ ?_
  · rintro ⟨hs, hR⟩
    refine ⟨hR, ?_⟩
    obtain ⟨_, p2, _, _⟩ := RI_nn hR
    have g1 := (num_pos hB p2).1
    rw [hs, List.append_nil] at g1
    unfold mput
    simp only [if_neg hk1, if_neg hk3, if_pos hk]
    exact g1.symm
  · rintro m rfl h1 h2 rfl
    obtain ⟨kind, next, epoch, size, sum, data⟩ := m
    simp only at hk hk1 hk3
    have hR := RI_of h1 h2
    have h1' := h1
    unfold mR0 at h1'
    simp only at h1'
    have h3 : next = 0 ∧ epoch ≤ 1073741824 ∧ size = 0 ∧ sum = 0 := by omega
    have h4 : data = [] := by
      rcases hk with rfl | rfl <;> simp at h1' <;> exact h1'.2.2.2.2
    obtain ⟨rfl, g2, rfl, rfl⟩ := h3
    subst h4
    have e : mput ⟨kind, 0, epoch, 0, 0, []⟩ = grp epoch := by unfold mput; simp only [if_neg hk1, if_neg hk3, if_pos hk]
    simp only [e] at hB hR ⊢
    rw [num_grp0 g2]
    exact ⟨rfl, hR⟩
theorem ref7 (l : List Int) (hB : isB l) (hl : l.length ≤ 5000) : okRef 7 l := by
  have e1 := f62 l hB hl
  refine okRef_of hB (core7 l _ _ e1) ?_ ?_
  · rintro ⟨hs, hR⟩
    refine ⟨hR, ?_⟩
    obtain ⟨p1, _, _, _⟩ := RI_nn hR
    have g1 := (num_pos hB p1).1
    rw [hs, List.append_nil] at g1
    simp [mput]
    exact g1.symm
  · rintro ⟨kind, next, epoch, size, sum, data⟩ rfl h1 h2 rfl
    have hR := RI_of h1 h2
    have h1' := h1
    simp [mR0] at h1'
    obtain ⟨g2, rfl, rfl, rfl, rfl⟩ := h1'
    have e : mput ⟨7, next, 0, 0, 0, []⟩ = grp next := by simp [mput]
    simp only [e] at hB hR ⊢
    rw [num_grp0 (by omega)]
    exact ⟨rfl, hR⟩
theorem ref10 (k : Int) (hk : k < 1 ∨ 10 ≤ k) (l : List Int) (hB : isB l) : okRef k l := by
  refine okRef_of hB (core10 k hk l) ?_ ?_
  · rintro ⟨hs, hR⟩
    refine ⟨hR, ?_⟩
    subst hs
    unfold mput
    simp only
    rw [if_neg (by omega), if_neg (by omega), if_neg (by omega), if_neg (by omega), if_neg (by omega), if_neg (by omega), if_neg (by omega)]
  · rintro ⟨kind, next, epoch, size, sum, data⟩ rfl h1 h2 rfl
    have hR := RI_of h1 h2
    have h1' := h1
    unfold mR0 at h1'
    simp only at hk h1'
    have h3 : kind = 10 := by omega
    subst h3
    simp at h1'
    obtain ⟨rfl, rfl, rfl, rfl, rfl⟩ := h1'
    have e : mput ⟨10, 0, 0, 0, 0, []⟩ = [] := by simp [mput]
    simp only [e] at hR ⊢
    exact ⟨trivial, hR⟩
theorem ref3 (l : List Int) (hB : isB l) (hl : l.length ≤ 5000) : okRef 3 l := by
  have e1 := f62 l hB hl
  obtain ⟨hB2, hl2⟩ := num_ok hB
  have e2 := f62 (num l).2 hB2 (by omega)
  refine okRef_of hB (core3 l _ _ _ _ e1 e2) ?_ ?_
  · rintro ⟨hs, hR⟩
    refine ⟨hR, ?_⟩
    obtain ⟨_, p2, _, _⟩ := RI_nn hR
    have g1 := (num_pos hB p2).1
    have g2 := (num_pos hB2 (by omega)).1
    simp [mput]
    rw [hs, Int.toNat_natCast] at g2
    rw [← g2]; exact g1.symm
  · rintro ⟨kind, next, epoch, size, sum, data⟩ rfl h1 h2 rfl
    have hR := RI_of h1 h2
    have h1' := h1
    simp [mR0] at h1'
    obtain ⟨rfl, g2, rfl, rfl, g3⟩ := h1'
    have e : mput ⟨3, 0, epoch, 0, 0, data⟩ = grp epoch ++ (grp data.length ++ data) := by simp [mput]
    simp only [e] at hB hR ⊢
    rw [num_grp hB (by omega)]
    simp only
    rw [num_grp (sub hB) (by omega)]
    exact ⟨rfl, hR⟩
theorem ref6 (l : List Int) (hB : isB l) (hl : l.length ≤ 5000) : okRef 6 l := by
  have e1 := f62 l hB hl
  obtain ⟨hB2, hl2⟩ := num_ok hB
  have e2 := f62 (num l).2 hB2 (by omega)
  refine okRef_of hB (core6 l _ _ _ _ e1 e2) ?_ ?_
  · rintro ⟨hs, hR⟩
    refine ⟨hR, ?_⟩
    obtain ⟨p1, _, _, _⟩ := RI_nn hR
    have g1 := (num_pos hB p1).1
    have g2 := (num_pos hB2 (by omega)).1
    simp [mput]
    rw [hs, Int.toNat_natCast] at g2
    rw [← g2]; exact g1.symm
  · rintro ⟨kind, next, epoch, size, sum, data⟩ rfl h1 h2 rfl
    have hR := RI_of h1 h2
    have h1' := h1
    simp [mR0] at h1'
    obtain ⟨g2, rfl, rfl, rfl, g3⟩ := h1'
    have e : mput ⟨6, next, 0, 0, 0, data⟩ = grp next ++ (grp data.length ++ data) := by simp [mput]
    simp only [e] at hB hR ⊢
    rw [num_grp hB (by omega)]
    simp only
    rw [num_grp (sub hB) (by omega)]
    exact ⟨rfl, hR⟩
theorem ref9 (l : List Int) (hB : isB l) (hl : l.length ≤ 5000) : okRef 9 l := by
  have e1 := f62 l hB hl
  obtain ⟨hB2, hl2⟩ := num_ok hB
  have e2 := f62 (num l).2 hB2 (by omega)
  refine okRef_of hB (core9 l _ _ _ _ e1 e2) ?_ ?_
  · rintro ⟨hs, hR⟩
    refine ⟨hR, ?_⟩
    obtain ⟨_, _, p3, _⟩ := RI_nn hR
    have g1 := (num_pos hB p3).1
    have g2 := (num_pos hB2 (by omega)).1
    simp [mput]
    rw [hs, Int.toNat_natCast] at g2
    rw [← g2]; exact g1.symm
  · rintro ⟨kind, next, epoch, size, sum, data⟩ rfl h1 h2 rfl
    have hR := RI_of h1 h2
    have h1' := h1
    simp [mR0] at h1'
    obtain ⟨rfl, rfl, g2, rfl, g3⟩ := h1'
    have e : mput ⟨9, 0, 0, size, 0, data⟩ = grp size ++ (grp data.length ++ data) := by simp [mput]
    simp only [e] at hB hR ⊢
    rw [num_grp hB (by omega)]
    simp only
    rw [num_grp (sub hB) (by omega)]
    exact ⟨rfl, hR⟩
theorem ref8 (l : List Int) (hB : isB l) (hl : l.length ≤ 5000) : okRef 8 l := by
  have e1 := f62 l hB hl
  obtain ⟨hB2, hl2⟩ := num_ok hB
  have e2 := f62 (num l).2 hB2 (by omega)
  obtain ⟨hB3, hl3⟩ := num_ok hB2
  refine okRef_of hB (core8 l _ _ _ _ hB3 e1 e2) ?_ ?_
  · rintro ⟨hs, hR⟩
    refine ⟨hR, ?_⟩
    obtain ⟨p1, _, p3, _⟩ := RI_nn hR
    have g1 := (num_pos hB p1).1
    have g2 := (num_pos hB2 p3).1
    have g3 := fixB_leB hB3
    rw [hs] at g3
    simp [mput]
    rw [g3, ← g2]; exact g1.symm
  · rintro ⟨kind, next, epoch, size, sum, data⟩ rfl h1 h2 rfl
    have hR := RI_of h1 h2
    have h1' := h1
    simp [mR0] at h1'
    obtain ⟨g1, rfl, g2, g3, rfl⟩ := h1'
    have e : mput ⟨8, next, 0, size, sum, []⟩ = grp next ++ (grp size ++ fixB sum 8) := by simp [mput]
    simp only [e] at hB hR ⊢
    rw [num_grp hB (by omega)]
    simp only
    rw [num_grp (sub hB) (by omega)]
    simp only
    rw [fixB_length, leB_fixB, Nat.mod_eq_of_lt (by omega)]
    exact ⟨rfl, hR⟩
theorem f22 (k : Int) (l : List Int) (hB : isB l) (hl : l.length ≤ 5000) : okRef k l := by
  by_cases h : k < 1 ∨ 10 ≤ k
  · exact ref10 k h l hB
  · have : k = 1 ∨ k = 2 ∨ k = 3 ∨ k = 4 ∨ k = 5 ∨ k = 6 ∨ k = 7 ∨ k = 8 ∨ k = 9 := by omega
    rcases this with rfl | rfl | rfl | rfl | rfl | rfl | rfl | rfl | rfl
    · exact ref12 1 (.inl rfl) l hB hl
    · exact ref12 2 (.inr rfl) l hB hl
    · exact ref3 l hB hl
    · exact ref45 4 (.inl rfl) l hB hl
    · exact ref45 5 (.inr rfl) l hB hl
    · exact ref6 l hB hl
    · exact ref7 l hB hl
    · exact ref8 l hB hl
    · exact ref9 l hB hl
end Go.X.Try
set_option maxRecDepth 100000
set_option linter.unusedSimpArgs false
namespace Go.X.Try
open Go.IntWalk
theorem f61m (m : Msg) : F61 [mAg m] [] = some (.one (.bool (lstM m)), []) := by
  have e := f61 m.kind m.next m.size m.epoch m.sum m.data
  simp only [Int.toNat_natCast] at e
  exact e
def tupMI (m : AV) (e : Int) : AV := .tup [m, .one (.int .i64 e)]
def decA (k : Int) (l : List Int) : AV := match mD k l with
  | some m => tupMI (mAg m) 0
  | none => tupMI zA 3
theorem f21 (k : Int) (l : List Int) (hB : isB l) (hl : l.length ≤ 140737488352000) : F21 [.agg [.int .i64 k, .str (ofBytes l)]] [] = some (decA k l, []) := by
  have e60 := f60 k l hB hl
  unfold okGet at e60
  unfold decA mD
  cases hg : gD k l with
  | none =>
    rw [hg] at e60
    obtain ⟨k', a, b, c, d, s, e60⟩ := e60
    simp -implicitDefEqProofs [F21, c21, upd, e60, tupMI, zA]
  | some m =>
    rw [hg] at e60
    have e61 := f61m m
    simp only [mAg] at e60 e61
    cases hm : lstM m <;> rw [hm] at e61 <;> simp -implicitDefEqProofs [F21, c21, upd, e60, e61, tupMI, zA, mAg, hm]
theorem beqBA (a b : ByteArray) : (a == b) = decide (a = b) := by
  obtain ⟨a⟩ := a
  obtain ⟨b⟩ := b
  have : ((⟨a⟩ : ByteArray) == ⟨b⟩) = (a == b) := rfl
  rw [this]
  by_cases h : a = b
  · subst h; simp
  · have h2 : ¬ (⟨a⟩ : ByteArray) = ⟨b⟩ := fun c => h (by injection c)
    simp [h, h2]
theorem dneq {x : List Int} {y : List Int} (hx : isB x) (hy : isB y) (h : x ≠ y) : ¬ ofBytes x = ofBytes y := by
  intro e
  have := congrArg toBytes e
  rw [toBytes_ofBytes hx, toBytes_ofBytes hy] at this
  exact h this
/-- Is a message one that may be? -/
def RM (m : Msg) : Bool := decide (mR0 m ∧ lstM m = true)
theorem f44m (m : Msg) (h1 : m.next < 2 ^ 63) (h2 : m.epoch < 2 ^ 63) (h3 : m.size < 2 ^ 63) (h4 : m.sum < 2 ^ 64) (hB : isB m.data) (hl : m.data.length ≤ 140737488351232) : F44 [mAg m] [] = some (.one (.bool (RM m)), []) := by
  have e61 := f61m m
  have n1 : ¬ (m.next : Int) < 0 := by omega
  have n2 : ¬ (m.epoch : Int) < 0 := by omega
  have n3 : ¬ (m.size : Int) < 0 := by omega
  cases hm : lstM m with
  | false =>
    have hR : RM m = false := decide_eq_false (fun h => by rw [hm] at h; cases h.2)
    rw [hm] at e61
    rw [hR]
    simp only [mAg] at e61 ⊢
    simp -implicitDefEqProofs [F44, c44, upd, n1, n2, n3, e61]
  | true =>
    rw [hm] at e61
    by_cases hk : m.kind < 1 ∨ 10 < m.kind
    · have e63 := f63x m.kind m.next m.epoch m.size m.sum (ofBytes m.data) (u64_in _ (by omega)) (u64_in _ (by omega)) (u64_in _ (by omega)) hk
      have hR : RM m = false := decide_eq_false (fun h => by have := h.1; unfold mR0 at this; omega)
      rw [hR]
      simp only [mAg] at e61 ⊢
      simp -implicitDefEqProofs [F44, c44, upd, n1, n2, n3, e61, e63]
    · have e63 := f63 m (by omega) h1 h2 h3 h4 hB hl
      have hBp : isB (mput m) := by
        have hg := fun v => grp_isB v
        have ap : ∀ {a b : List Int}, isB a → isB b → isB (a ++ b) := fun ha hb x hx => (List.mem_append.1 hx).elim (ha x) (hb x)
        unfold mput
        split
        · exact ap (hg _) (hg _)
        · split
          · exact ap (hg _) (ap (hg _) hB)
          · split
            · exact hg _
            · split
              · exact ap (hg _) (ap (hg _) hB)
              · split
                · exact hg _
                · split
                  · exact ap (hg _) (ap (hg _) (fixB_isB _ _))
                  · split
                    · exact ap (hg _) (ap (hg _) hB)
                    · intro x hx; cases hx
      have hlp : (mput m).length ≤ 140737488352000 := by
        have g1 := grp_ten (v := m.next) (by omega)
        have g2 := grp_ten (v := m.epoch) (by omega)
        have g3 := grp_ten (v := m.size) (by omega)
        have g4 := grp_ten (v := m.data.length) (by omega)
        have g5 := fixB_length 8 m.sum
        unfold mput
        repeat' split
        all_goals try simp only [List.length_append, List.length_nil, g5]
        all_goals omega
      have e60 := f60 m.kind (mput m) hBp hlp
      unfold okGet at e60
      cases hg : gD m.kind (mput m) with
      | none =>
        rw [hg] at e60
        obtain ⟨k', a, b, c, d, s, e60⟩ := e60
        have hR : RM m = false := decide_eq_false (fun h => by
          have := (gD_iff hBp).2 ⟨rfl, h.1, rfl⟩
          rw [hg] at this
          cases this)
        rw [hR]
        simp only [mAg, tupSB] at e61 e63 ⊢
        simp -implicitDefEqProofs [F44, c44, upd, n1, n2, n3, e61, e63, e60]
      | some m' =>
        rw [hg] at e60
        obtain ⟨q1, q2, q3⟩ := (gD_iff hBp).1 hg
        by_cases hmm : m' = m
        · subst hmm
          have hR : RM m' = true := decide_eq_true ⟨q2, hm⟩
          rw [hR]
          simp only [mAg, tupSB] at e60 e61 e63 ⊢
          simp -implicitDefEqProofs [F44, c44, upd, n1, n2, n3, e61, e63, e60, eqScs, eqSc, beqBA]
        · have hR : RM m = false := decide_eq_false (fun h => by
            have := (gD_iff hBp).2 ⟨rfl, h.1, rfl⟩
            rw [hg] at this
            exact hmm (Option.some.inj this))
          rw [hR]
          have hne : ¬ (m'.next = m.next ∧ m'.epoch = m.epoch ∧ m'.size = m.size ∧ m'.sum = m.sum ∧ m'.data = m.data) := fun ⟨a1, a2, a3, a4, a5⟩ => hmm (by
            obtain ⟨x1, x2, x3, x4, x5, x6⟩ := m
            obtain ⟨y1, y2, y3, y4, y5, y6⟩ := m'
            simp only at q1 a1 a2 a3 a4 a5
            subst q1 a1 a2 a3 a4 a5
            rfl)
          have hB' : isB m'.data := by
            have : isB (mput m') := by rw [q3]; exact hBp
            intro x hx
            unfold mput at this
            unfold mR0 at q2
            rcases q2 with ⟨_, _, _, _, _, h⟩ | ⟨hk, _⟩ | ⟨_, _, _, _, _, h⟩ | ⟨hk, _⟩ | ⟨_, _, _, _, _, h⟩ | ⟨_, _, _, _, _, h⟩ | ⟨hk, _⟩ | ⟨_, _, _, _, _, h⟩
            · rw [h] at hx; cases hx
            · rw [if_neg (by omega), if_pos hk] at this; exact this x (by simp [hx])
            · rw [h] at hx; cases hx
            · rw [if_neg (by omega), if_neg (by omega), if_neg (by omega), if_pos hk] at this; exact this x (by simp [hx])
            · rw [h] at hx; cases hx
            · rw [h] at hx; cases hx
            · rw [if_neg (by omega), if_neg (by omega), if_neg (by omega), if_neg (by omega), if_neg (by omega), if_neg (by omega), if_pos hk] at this; exact this x (by simp [hx])
            · rw [h] at hx; cases hx
          simp only [mAg, tupSB, q1] at e60 e61 e63 ⊢
          by_cases a1 : m'.next = m.next
          · by_cases a2 : m'.epoch = m.epoch
            · by_cases a3 : m'.size = m.size
              · by_cases a4 : m'.sum = m.sum
                · have a5 := dneq hB' hB (fun h => hne ⟨a1, a2, a3, a4, h⟩)
                  simp -implicitDefEqProofs [F44, c44, upd, n1, n2, n3, e61, e63, e60, eqScs, eqSc, a1, a2, a3, a4, a5, beqBA]
                · simp -implicitDefEqProofs [F44, c44, upd, n1, n2, n3, e61, e63, e60, eqScs, eqSc, a1, a2, a3, a4]
                  intro h; omega
              · simp -implicitDefEqProofs [F44, c44, upd, n1, n2, n3, e61, e63, e60, eqScs, eqSc, a1, a2, a3]
                intro h; omega
            · simp -implicitDefEqProofs [F44, c44, upd, n1, n2, n3, e61, e63, e60, eqScs, eqSc, a1, a2]
              intro h; omega
          · simp -implicitDefEqProofs [F44, c44, upd, n1, n2, n3, e61, e63, e60, eqScs, eqSc, a1]
            intro h; omega
end Go.X.Try
set_option maxRecDepth 100000
set_option linter.unusedSimpArgs false
namespace Go.X.Try
open Go.IntWalk
theorem RI_eq_RM (k : Int) (a b c d : Nat) (t : List Int) : RI k a b c d t = RM ⟨k, a, b, c, d, t⟩ := by
  unfold RI RM
  rw [decide_eq_decide]
  simp only [Int.toNat_natCast]
  constructor
  · rintro ⟨_, _, _, h1, h2⟩; exact ⟨h1, h2⟩
  · rintro ⟨h1, h2⟩; exact ⟨by omega, by omega, by omega, h1, h2⟩
theorem RI_neg {k a b c : Int} {d : Nat} {t : List Int} (h : a < 0 ∨ b < 0 ∨ c < 0) : RI k a b c d t = false := decide_eq_false (fun ⟨h1, h2, h3, _⟩ => by omega)
theorem f44 (k a b c : Int) (d : Nat) (t : List Int) (ha : a < 2 ^ 63) (hb : b < 2 ^ 63) (hc : c < 2 ^ 63) (hd : d < 2 ^ 64) (hB : isB t) (hl : t.length ≤ 140737488351232) : F44 [ag6 k a b c d t] [] = some (.one (.bool (RI k a b c d t)), []) := by
  by_cases h1 : a < 0
  · rw [RI_neg (.inl h1)]
    simp -implicitDefEqProofs [F44, c44, upd, ag6, h1]
  · by_cases h2 : b < 0
    · rw [RI_neg (.inr (.inl h2))]
      simp -implicitDefEqProofs [F44, c44, upd, ag6, h1, h2]
    · by_cases h3 : c < 0
      · rw [RI_neg (.inr (.inr h3))]
        simp -implicitDefEqProofs [F44, c44, upd, ag6, h1, h2, h3]
      · obtain ⟨a', rfl⟩ : ∃ n : Nat, a = n := ⟨a.toNat, by omega⟩
        obtain ⟨b', rfl⟩ : ∃ n : Nat, b = n := ⟨b.toNat, by omega⟩
        obtain ⟨c', rfl⟩ : ∃ n : Nat, c = n := ⟨c.toNat, by omega⟩
        rw [RI_eq_RM]
        exact f44m ⟨k, a', b', c', d, t⟩ (by simp only; omega) (by simp only; omega) (by simp only; omega) hd hB hl
def tupFI (k : Int) (s : ByteArray) (e : Int) : AV := .tup [.agg [.int .i64 k, .str s], .one (.int .i64 e)]
theorem f23 (k a b c : Int) (d : Nat) (t : List Int) (ha : a < 2 ^ 63) (hb : b < 2 ^ 63) (hc : c < 2 ^ 63) (hd : d < 2 ^ 64) (hB : isB t) (hl : t.length ≤ 140737488351232) :
    F23 [ag6 k a b c d t] [] = some (if RI k a b c d t = true then tupFI k (ofBytes (mput ⟨k, a.toNat, b.toNat, c.toNat, d, t⟩)) 0 else tupFI 0 ⟨#[]⟩ 3, []) := by
  have e44 := f44 k a b c d t ha hb hc hd hB hl
  cases hR : RI k a b c d t with
  | false =>
    rw [hR] at e44
    simp only [ag6] at e44 ⊢
    simp -implicitDefEqProofs [F23, c23, upd, e44, tupFI]
  | true =>
    obtain ⟨p1, p2, p3, _⟩ := RI_nn hR
    have hk : 1 ≤ k ∧ k ≤ 10 := by
      have := (of_decide_eq_true hR).2.2.2.1
      unfold mR0 at this
      simp only at this
      omega
    have e63 := f63 ⟨k, a.toNat, b.toNat, c.toNat, d, t⟩ hk (by simp only; omega) (by simp only; omega) (by simp only; omega) hd hB hl
    simp only [mAg] at e63
    rw [show ((a.toNat : Nat) : Int) = a by omega, show ((b.toNat : Nat) : Int) = b by omega, show ((c.toNat : Nat) : Int) = c by omega] at e63
    rw [hR] at e44
    simp only [ag6, tupSB] at e44 e63 ⊢
    simp -implicitDefEqProofs [F23, c23, upd, e44, e63, tupFI]
theorem f23m {m : Msg} (h : RM m = true) (hB : isB m.data) : F23 [mAg m] [] = some (tupFI m.kind (ofBytes (mput m)) 0, []) := by
  obtain ⟨k, a, b, c, d, t⟩ := m
  have h1 := (of_decide_eq_true h).1
  have hd : d < 2 ^ 64 ∧ t.length ≤ 600 ∧ a ≤ 400 ∧ b ≤ 1073741824 ∧ c ≤ 1048576 := by
    unfold mR0 at h1
    simp only at h1
    rcases h1 with ⟨_, h1, h2, h3, h4, h5⟩ | ⟨_, h1, h2, h3, h4, h5⟩ | ⟨_, h1, h2, h3, h4, h5⟩ | ⟨_, h1, h2, h3, h4, h5⟩ | ⟨_, h1, h2, h3, h4, h5⟩ | ⟨_, h1, h2, h3, h4, h5⟩ | ⟨_, h1, h2, h3, h4, h5⟩ | ⟨_, h1, h2, h3, h4, h5⟩
    all_goals first
      | (subst h5; simp only [List.length_nil]; omega)
      | omega
  have e := f23 k a b c d t (by omega) (by omega) (by omega) hd.1 hB (by omega)
  rw [RI_eq_RM, if_pos h] at e
  simp only [Int.toNat_natCast] at e
  exact e
theorem f76 (v : Nat) (hv : v < 2 ^ 63) : F76 [.one (.int .i64 v)] [] = some (.one (.str (ofBytes (grp v))), []) := by
  have e := f80 v (by omega)
  have w : IntKind.u64.wrap (v : Int) = v := u64_in _ (by omega)
  simp -implicitDefEqProofs [F76, c76, upd, e, w]
/-- A frame's bytes. -/
def frA (k : Int) (l : List Int) : List Int := fixB k.toNat 1 ++ fixB l.length 2 ++ l
def frB (k : Int) (l : List Int) : List Int := frA k l ++ fixB (sumL (frA k l)).toNat 8
theorem frA_length (k : Int) (l : List Int) : (frA k l).length = l.length + 3 := by
  unfold frA; rw [List.length_append, List.length_append, fixB_length, fixB_length]; omega
theorem frB_length (k : Int) (l : List Int) : (frB k l).length = l.length + 11 := by
  unfold frB; rw [List.length_append, frA_length, fixB_length]
theorem frA_isB {k : Int} {l : List Int} (h : isB l) : isB (frA k l) := isB_append (isB_append (fixB_isB _ _) (fixB_isB _ _)) h
theorem frB_isB {k : Int} {l : List Int} (h : isB l) : isB (frB k l) := isB_append (frA_isB h) (fixB_isB _ _)
theorem f65 (k : Int) : F65 [.one (.int .i64 k)] [] = some (.one (.bool (decide (1 ≤ k ∧ k ≤ 10))), []) := by
  by_cases h1 : 1 ≤ k
  · by_cases h2 : k ≤ 10 <;> simp -implicitDefEqProofs [F65, c65, upd, h1, h2]
  · simp -implicitDefEqProofs [F65, c65, upd, h1]
theorem f27k (k : Int) (s : ByteArray) (h : ¬ (1 ≤ k ∧ k ≤ 10)) : F27 [.agg [.int .i64 k, .str s]] [] = some (tupSI ⟨#[]⟩ 6, []) := by
  have e65 := f65 k
  rw [decide_eq_false h] at e65
  simp -implicitDefEqProofs [F27, c27, upd, e65, tupSI]
theorem f27l (k : Int) (s : ByteArray) (h : 1 ≤ k ∧ k ≤ 10) (hs : 900 < s.size) : F27 [.agg [.int .i64 k, .str s]] [] = some (tupSI ⟨#[]⟩ 5, []) := by
  have e65 := f65 k
  rw [decide_eq_true h] at e65
  have hsi : (900 : Int) < s.size := by omega
  simp -implicitDefEqProofs [F27, c27, upd, e65, hs, hsi, tupSI]
theorem f27 (k : Int) (s : ByteArray) (h : 1 ≤ k ∧ k ≤ 10) (hs : s.size ≤ 900) : F27 [.agg [.int .i64 k, .str s]] [] = some (tupSI (ofBytes (frB k (toBytes s))) 0, []) := by
  have e65 := f65 k
  rw [decide_eq_true h] at e65
  have hsi : ¬ (900 : Int) < s.size := by omega
  have hsn : ¬ 900 < s.size := by omega
  have hlen := size_toBytes s
  obtain ⟨k', rfl⟩ : ∃ n : Nat, k = n := ⟨k.toNat, by omega⟩
  have wk : IntKind.u64.wrap (k' : Int) = k' := u64_in _ (by omega)
  have wl : IntKind.u64.wrap (s.size : Int) = s.size := u64_in _ (by omega)
  have z1 : sz 1 = 1 := by unfold sz; rfl
  have z2 : sz 2 = 2 := by unfold sz; rfl
  have z8 : sz 8 = 8 := by unfold sz; rfl
  have q1 := f47 k' 1 [] (by omega) (by simp)
  rw [z1, List.nil_append] at q1
  have q2 := f47 s.size 2 (fixB k' 1) (by omega) (by rw [fixB_length]; decide)
  rw [z2] at q2
  have q3 := f46 s (fixB k' 1 ++ fixB s.size 2) (by rw [List.length_append, fixB_length, fixB_length]; omega)
  have hA : fixB k' 1 ++ fixB s.size 2 ++ toBytes s = frA k' (toBytes s) := by unfold frA; rw [Int.toNat_natCast, hlen]
  rw [hA] at q3
  have hAl := frA_length k' (toBytes s)
  have q4 := f49 (frA k' (toBytes s))
  have q5 := f40 (ofBytes (frA k' (toBytes s))) (by rw [size_ofBytes]; omega)
  rw [toBytes_ofBytes (frA_isB (isB_toBytes s))] at q5
  have hr := sumL_range (frA k' (toBytes s))
  have q6 := f47 (sumL (frA k' (toBytes s))).toNat 8 (frA k' (toBytes s)) (by omega) (by omega)
  rw [z8, show (((sumL (frA k' (toBytes s))).toNat : Nat) : Int) = sumL (frA k' (toBytes s)) by omega] at q6
  have hBB : frA k' (toBytes s) ++ fixB (sumL (frA k' (toBytes s))).toNat 8 = frB k' (toBytes s) := rfl
  rw [hBB] at q6
  have q7 := f49 (frB k' (toBytes s))
  generalize frB (k' : Int) (toBytes s) = bb at *
  generalize frA (k' : Int) (toBytes s) = aa at *
  generalize sumL aa = m at *
  simp only [wHp] at q1 q2 q3 q4 q6 q7
  simp -implicitDefEqProofs [F27, c27, upd, e65, hsi, hsn, wk, wl, q1, q2, q3, q4, q5, q6, q7, tupSI]
theorem f29 (k : Int) (s : ByteArray) (h : 1 ≤ k ∧ k ≤ 10) (hs : s.size ≤ 900) : F29 [.agg [.int .i64 k, .str s]] [] = some (.one (.str (ofBytes (frB k (toBytes s)))), []) := by
  have hlen := size_toBytes s
  obtain ⟨k', rfl⟩ : ∃ n : Nat, k = n := ⟨k.toNat, by omega⟩
  have wk : IntKind.u8.wrap (k' : Int) = k' := u8_in _ (by omega)
  have wl : IntKind.u64.wrap (s.size : Int) = s.size := u64_in _ (by omega)
  have z2 : sz 2 = 2 := by unfold sz; rfl
  have z8 : sz 8 = 8 := by unfold sz; rfl
  have q2 := f56 s.size 2 (by omega)
  rw [z2] at q2
  have hk1 : fixB k' 1 = [(k' : Int)] := by
    unfold fixB fixB
    rw [Nat.mod_eq_of_lt (by omega)]
  have a1 := ofBytes_append [(k' : Int)] (fixB s.size 2)
  have a2 := ofBytes_append ([(k' : Int)] ++ fixB s.size 2) (toBytes s)
  rw [ofBytes_toBytes] at a2
  have hA : [(k' : Int)] ++ fixB s.size 2 ++ toBytes s = frA k' (toBytes s) := by unfold frA; rw [Int.toNat_natCast, hlen, hk1]
  rw [hA] at a2
  have hAl := frA_length k' (toBytes s)
  have m1 : (ofBytes [(k' : Int)]).size + (ofBytes (fixB s.size 2)).size ≤ 9223372036854775807 := by rw [size_ofBytes, size_ofBytes, fixB_length]; simp only [List.length_cons, List.length_nil]; omega
  have m2 : (ofBytes ([(k' : Int)] ++ fixB s.size 2)).size + s.size ≤ 9223372036854775807 := by rw [size_ofBytes, List.length_append, fixB_length]; simp only [List.length_cons, List.length_nil]; omega
  have q5 := e18' (ofBytes (frA k' (toBytes s))) (by rw [size_ofBytes]; omega)
  rw [toBytes_ofBytes (frA_isB (isB_toBytes s))] at q5
  have hr := sumL_range (frA k' (toBytes s))
  have q6 := f56 (sumL (frA k' (toBytes s))).toNat 8 (by omega)
  rw [z8, show (((sumL (frA k' (toBytes s))).toNat : Nat) : Int) = sumL (frA k' (toBytes s)) by omega] at q6
  have a3 := ofBytes_append (frA k' (toBytes s)) (fixB (sumL (frA k' (toBytes s))).toNat 8)
  have hBB : frA k' (toBytes s) ++ fixB (sumL (frA k' (toBytes s))).toNat 8 = frB k' (toBytes s) := rfl
  rw [hBB] at a3
  have m3 : (ofBytes (frA k' (toBytes s))).size + (ofBytes (fixB (sumL (frA k' (toBytes s))).toNat 8)).size ≤ 9223372036854775807 := by rw [size_ofBytes, size_ofBytes, fixB_length]; omega
  generalize frB (k' : Int) (toBytes s) = bb at *
  generalize hx : [(k' : Int)] ++ fixB s.size 2 = xx at *
  generalize fixB s.size 2 = f2 at *
  generalize frA (k' : Int) (toBytes s) = aa at *
  generalize fixB (sumL aa).toNat 8 = f8 at *
  generalize sumL aa = m at *
  simp -implicitDefEqProofs [F29, c29, upd, wk, wl, q2, q5, q6, a1, a2, a3, m1, m2, m3, RC.ofElems]
end Go.X.Try
set_option maxRecDepth 100000
set_option linter.unusedSimpArgs false
namespace Go.X.Try
open Go.IntWalk
/-! ### a message's body, as the document says it -/
theorem add2 (a b : List Int) (ha : a.length ≤ 100000) (hb : b.length ≤ 100000) : (ofBytes a).size + (ofBytes b).size ≤ 9223372036854775807 := by rw [size_ofBytes, size_ofBytes]; omega
theorem f45 (m : Msg) (h : RM m = true) (hB : isB m.data) : F45 [mAg m] [] = some (.one (.str (ofBytes (mput m))), []) := by
  have h1 := (of_decide_eq_true h).1
  obtain ⟨k, a, b, c, d, t⟩ := m
  unfold mR0 at h1
  simp only at h1 hB
  rcases h1 with ⟨hk, h1, h2, rfl, rfl, rfl⟩ | ⟨rfl, rfl, h2, rfl, rfl, h5⟩ | ⟨hk, rfl, h2, rfl, rfl, rfl⟩ | ⟨rfl, h1, rfl, rfl, rfl, h5⟩ | ⟨rfl, h1, rfl, rfl, rfl, rfl⟩ | ⟨rfl, h1, rfl, h3, h4, rfl⟩ | ⟨rfl, rfl, rfl, h3, rfl, h5⟩ | ⟨rfl, rfl, rfl, rfl, rfl, rfl⟩
  · have e1 := f76 a (by omega)
    have e2 := f76 b (by omega)
    have l1 := grp_ten (v := a) (by omega)
    have l2 := grp_ten (v := b) (by omega)
    have p := ofBytes_append (grp a) (grp b)
    have q := add2 (grp a) (grp b) (by omega) (by omega)
    rcases hk with rfl | rfl <;> simp -implicitDefEqProofs [F45, c45, upd, mAg, mput, e1, e2, p, q]
  · have e1 := f76 b (by omega)
    have l1 := grp_ten (v := b) (by omega)
    have l2 := grp_ten (v := t.length) (by omega)
    have e2 := f57 (ofBytes t) (by rw [size_ofBytes]; omega)
    rw [size_ofBytes, toBytes_ofBytes hB] at e2
    have p := ofBytes_append (grp b) (grp t.length ++ t)
    have q := add2 (grp b) (grp t.length ++ t) (by omega) (by rw [List.length_append]; omega)
    simp -implicitDefEqProofs [F45, c45, upd, mAg, mput, e1, e2, p, q]
  · have e1 := f76 b (by omega)
    rcases hk with rfl | rfl <;> simp -implicitDefEqProofs [F45, c45, upd, mAg, mput, e1]
  · have e1 := f76 a (by omega)
    have l1 := grp_ten (v := a) (by omega)
    have l2 := grp_ten (v := t.length) (by omega)
    have e2 := f57 (ofBytes t) (by rw [size_ofBytes]; omega)
    rw [size_ofBytes, toBytes_ofBytes hB] at e2
    have p := ofBytes_append (grp a) (grp t.length ++ t)
    have q := add2 (grp a) (grp t.length ++ t) (by omega) (by rw [List.length_append]; omega)
    simp -implicitDefEqProofs [F45, c45, upd, mAg, mput, e1, e2, p, q]
  · have e1 := f76 a (by omega)
    simp -implicitDefEqProofs [F45, c45, upd, mAg, mput, e1]
  · have e1 := f76 a (by omega)
    have e2 := f76 c (by omega)
    have z8 : sz 8 = 8 := by unfold sz; rfl
    have e3 := f56 d 8 (by omega)
    rw [z8] at e3
    have l1 := grp_ten (v := a) (by omega)
    have l2 := grp_ten (v := c) (by omega)
    have p := ofBytes_append (grp a) (grp c)
    have q := add2 (grp a) (grp c) (by omega) (by omega)
    have p2 := ofBytes_append (grp a ++ grp c) (fixB d 8)
    rw [List.append_assoc (grp a)] at p2
    have q2 := add2 (grp a ++ grp c) (fixB d 8) (by rw [List.length_append]; omega) (by rw [fixB_length]; omega)
    have hmp : ∀ x, mput ⟨8, a, 0, c, d, x⟩ = grp a ++ (grp c ++ fixB d 8) := fun x => by simp [mput]
    generalize fixB d 8 = fx at *
    generalize hgg : grp a ++ grp c = gg at *
    simp -implicitDefEqProofs [F45, c45, upd, mAg, hmp, e1, e2, e3, p, q, p2, q2]
  · have e1 := f76 c (by omega)
    have l1 := grp_ten (v := c) (by omega)
    have l2 := grp_ten (v := t.length) (by omega)
    have e2 := f57 (ofBytes t) (by rw [size_ofBytes]; omega)
    rw [size_ofBytes, toBytes_ofBytes hB] at e2
    have p := ofBytes_append (grp c) (grp t.length ++ t)
    have q := add2 (grp c) (grp t.length ++ t) (by omega) (by rw [List.length_append]; omega)
    simp -implicitDefEqProofs [F45, c45, upd, mAg, mput, e1, e2, p, q]
  · simp -implicitDefEqProofs [F45, c45, upd, mAg, mput, ofBytes_nil]
theorem mput_length {m : Msg} (h : RM m = true) : (mput m).length ≤ 900 ∧ 1 ≤ m.kind ∧ m.kind ≤ 10 ∧ m.sum < 2 ^ 64 ∧ m.data.length ≤ 600 := by
  have h1 := (of_decide_eq_true h).1
  obtain ⟨k, a, b, c, d, t⟩ := m
  unfold mR0 at h1
  simp only at h1
  have f8 := fixB_length 8 d
  rcases h1 with ⟨hk, h1, h2, rfl, rfl, rfl⟩ | ⟨rfl, rfl, h2, rfl, rfl, h5⟩ | ⟨hk, rfl, h2, rfl, rfl, rfl⟩ | ⟨rfl, h1, rfl, rfl, rfl, h5⟩ | ⟨rfl, h1, rfl, rfl, rfl, rfl⟩ | ⟨rfl, h1, rfl, h3, h4, rfl⟩ | ⟨rfl, rfl, rfl, h3, rfl, h5⟩ | ⟨rfl, rfl, rfl, rfl, rfl, rfl⟩
  · have l1 := grp_ten (v := a) (by omega)
    have l2 := grp_ten (v := b) (by omega)
    rcases hk with rfl | rfl <;> simp [mput] <;> omega
  · have l1 := grp_ten (v := b) (by omega)
    have l2 := grp_ten (v := t.length) (by omega)
    simp [mput]; omega
  · have l1 := grp_ten (v := b) (by omega)
    rcases hk with rfl | rfl <;> simp [mput] <;> omega
  · have l1 := grp_ten (v := a) (by omega)
    have l2 := grp_ten (v := t.length) (by omega)
    simp [mput]; omega
  · have l1 := grp_ten (v := a) (by omega)
    simp [mput]; omega
  · have l1 := grp_ten (v := a) (by omega)
    have l2 := grp_ten (v := c) (by omega)
    simp [mput]; omega
  · have l1 := grp_ten (v := c) (by omega)
    have l2 := grp_ten (v := t.length) (by omega)
    simp [mput]; omega
  · simp [mput]
theorem mput_isB {m : Msg} (hB : isB m.data) : isB (mput m) := by
  have hg := fun v => grp_isB v
  unfold mput
  split
  · exact isB_append (hg _) (hg _)
  · split
    · exact isB_append (hg _) (isB_append (hg _) hB)
    · split
      · exact hg _
      · split
        · exact isB_append (hg _) (isB_append (hg _) hB)
        · split
          · exact hg _
          · split
            · exact isB_append (hg _) (isB_append (hg _) (fixB_isB _ _))
            · split
              · exact isB_append (hg _) (isB_append (hg _) hB)
              · intro x hx; cases hx
theorem f43 (k a b c : Int) (d : Nat) (t : List Int) (ha : a < 2 ^ 63) (hb : b < 2 ^ 63) (hc : c < 2 ^ 63) (hd : d < 2 ^ 64) (hB : isB t) (hl : t.length ≤ 140737488351232) :
    F43 [ag6 k a b c d t] [] = some (if RI k a b c d t = true then tupSI (ofBytes (frB k (mput ⟨k, a.toNat, b.toNat, c.toNat, d, t⟩))) 0 else tupSI ⟨#[]⟩ 3, []) := by
  have e23 := f23 k a b c d t ha hb hc hd hB hl
  cases hR : RI k a b c d t with
  | false =>
    rw [hR, if_neg (by decide)] at e23
    rw [if_neg (by decide)]
    simp only [ag6, tupFI] at e23 ⊢
    simp -implicitDefEqProofs [F43, c43, upd, e23, tupSI]
  | true =>
    rw [hR, if_pos rfl] at e23
    rw [if_pos rfl]
    have hM : RM ⟨k, a.toNat, b.toNat, c.toNat, d, t⟩ = true := (RI_eq_RM _ _ _ _ _ _).symm.trans (RI_nn hR).2.2.2
    obtain ⟨p1, p2, p3, _, _⟩ := mput_length hM
    have hBm := mput_isB (m := ⟨k, a.toNat, b.toNat, c.toNat, d, t⟩) hB
    have e27 := f27 k (ofBytes (mput ⟨k, a.toNat, b.toNat, c.toNat, d, t⟩)) ⟨p2, p3⟩ (by rw [size_ofBytes]; exact p1)
    rw [toBytes_ofBytes hBm] at e27
    generalize mput ⟨k, a.toNat, b.toNat, c.toNat, d, t⟩ = mp at *
    simp only [ag6, tupFI, tupSI] at e23 e27 ⊢
    simp -implicitDefEqProofs [F43, c43, upd, e23, e27]
theorem h20 : F20 [] [] = some (.one (.bool true), []) := by
  have hR : RM ⟨4, 0, 3, 0, 0, []⟩ = true := decide_eq_true ⟨.inr (.inr (.inl ⟨.inl rfl, rfl, by decide, rfl, rfl, rfl⟩)), by simp [lstM]⟩
  have hp : mput ⟨4, 0, 3, 0, 0, []⟩ = [3] := by simp [mput, grp_lt]
  have e23 := f23m (m := ⟨4, 0, 3, 0, 0, []⟩) hR (by simp [isB])
  have e21 := f21 4 [3] (by simp [isB]) (by decide)
  have hm : mD 4 [3] = some ⟨4, 0, 3, 0, 0, []⟩ := (mD_iff (by simp [isB])).2 ⟨rfl, (of_decide_eq_true hR).1, (of_decide_eq_true hR).2, hp⟩
  unfold decA at e21
  rw [hm] at e21
  rw [hp] at e23
  have ob : (ofBytes [3]) = ⟨#[3]⟩ := rfl
  simp only [mAg, tupFI, tupMI, ob, ofBytes_nil, Int.cast_ofNat_Int] at e21 e23
  simp -implicitDefEqProofs [F20, c20, upd, e21, e23, eqScs, eqSc, beqBA]
theorem law6 (k : Int) (s : ByteArray) (_ : (Lit.int .i64 k).wf = true) (_ : s.size ≤ maxLen) : F6 [.one (.int .i64 k), .one (.str s)] [] = some (.one (.bool true), []) := by
  by_cases h8 : 800 < s.size
  · have h8i : (800 : Int) < s.size := by omega
    simp -implicitDefEqProofs [F6, c6, upd, h20, h8, h8i]
  · have h8i : ¬ (800 : Int) < s.size := by omega
    have hB := isB_toBytes s
    have hlen := size_toBytes s
    have e21 := f21 k (toBytes s) hB (by omega)
    have e22 := f22 k (toBytes s) hB (by omega)
    unfold decA at e21
    unfold okRef at e22
    rw [ofBytes_toBytes] at e21 e22
    cases hm : mD k (toBytes s) with
    | none =>
      rw [hm] at e21 e22
      have e23 := f23 0 0 0 0 0 [] (by decide) (by decide) (by decide) (by decide) (by simp [isB]) (by decide)
      have hR : RI 0 0 0 0 0 [] = false := decide_eq_false (fun ⟨_, _, _, h, _⟩ => by unfold mR0 at h; simp at h)
      rw [hR, if_neg (by decide)] at e23
      simp only [tupMI, tupMB, zA, zeroM, mAg, ag6, tupFI, ofBytes_nil, Int.cast_ofNat_Int] at e21 e22 e23
      simp -implicitDefEqProofs [F6, c6, upd, h20, h8, h8i, e21, e22, e23, eqScs, eqSc, beqBA]
    | some m =>
      rw [hm] at e21 e22
      obtain ⟨q1, q2, q3, q4⟩ := (mD_iff hB).1 hm
      have hBm : isB m.data := by
        have hh := q4
        unfold mput at hh
        have q2' := q2
        unfold mR0 at q2'
        have tail : ∀ {x y z : List Int}, x ++ (y ++ z) = toBytes s → isB z := fun e => by
          rw [← e] at hB
          exact sub (sub hB)
        have nil : m.data = [] → isB m.data := fun e => by rw [e]; simp [isB]
        rcases q2' with ⟨_, _, _, _, _, h⟩ | ⟨hk, _⟩ | ⟨_, _, _, _, _, h⟩ | ⟨hk, _⟩ | ⟨_, _, _, _, _, h⟩ | ⟨_, _, _, _, _, h⟩ | ⟨hk, _⟩ | ⟨_, _, _, _, _, h⟩
        · exact nil h
        · rw [if_neg (by omega), if_pos hk] at hh; exact tail hh
        · exact nil h
        · rw [if_neg (by omega), if_neg (by omega), if_neg (by omega), if_pos hk] at hh; exact tail hh
        · exact nil h
        · exact nil h
        · rw [if_neg (by omega), if_neg (by omega), if_neg (by omega), if_neg (by omega), if_neg (by omega), if_neg (by omega), if_pos hk] at hh; exact tail hh
        · exact nil h
      have e23 := f23m (m := m) (decide_eq_true ⟨q2, q3⟩) hBm
      rw [q4, ofBytes_toBytes, q1] at e23
      simp only [mAg, q1] at e21 e22 e23
      simp only [tupMI, tupMB, tupFI] at e21 e22 e23
      simp -implicitDefEqProofs [F6, c6, upd, h20, h8, h8i, e21, e22, e23, eqScs, eqSc, beqBA]
end Go.X.Try
set_option maxRecDepth 100000
namespace Go.X
open Go.RowKit Go.ChangeShapes Go.ChangeAt Go.WideShapes Go.Deep
/-! ### an argument that is a slice, as what it reads -/
theorem list_of {α : Type} {p : Nat → α → Prop} : ∀ (n : Nat), (∀ i, i < n → ∃ a, p i a) → ∃ zs : List α, zs.length = n ∧ ∀ (i : Nat) (a : α), zs[i]? = some a → p i a
  | 0, _ => ⟨[], rfl, fun i a h => by simp at h⟩
  | n + 1, h => by
    obtain ⟨zs, hl, hz⟩ := list_of n (fun i hi => h i (by omega))
    obtain ⟨a, ha⟩ := h n (by omega)
    refine ⟨zs ++ [a], by simp [hl], fun i b hb => ?_⟩
    by_cases hi : i < n
    · rw [List.getElem?_append_left (by omega)] at hb
      exact hz i b hb
    · have hlt := (List.getElem?_eq_some_iff.1 hb).1
      simp only [List.length_append, List.length_cons, List.length_nil] at hlt
      have hin : i = n := by omega
      subst hin
      rw [← hl, List.getElem?_concat_length] at hb
      simp only [Option.some.injEq] at hb
      subst hb
      exact ha
theorem flat_at {α β : Type} {g : α → List β} {s : Nat} {u : β} : ∀ {zs : List α} {j : Nat}, (∀ a ∈ zs, (g a).length = s) → (zs.flatMap g)[j]? = some u → ∃ i r a, j = i * s + r ∧ r < s ∧ zs[i]? = some a ∧ (g a)[r]? = some u
  | [], j, _, h => by simp at h
  | a :: zs, j, hs, h => by
    have ha := hs a (by simp)
    rw [List.flatMap_cons] at h
    by_cases hj : j < s
    · rw [List.getElem?_append_left (by omega)] at h
      exact ⟨0, j, a, by simp, hj, rfl, h⟩
    · rw [List.getElem?_append_right (by omega), ha] at h
      obtain ⟨i, r, b, h1, h2, h3, h4⟩ := flat_at (zs := zs) (fun b hb => hs b (by simp [hb])) h
      exact ⟨i + 1, r, b, by rw [Nat.add_mul]; omega, h2, by simpa using h3, h4⟩
section
variable {H : Type} {enc : TypeId × Value → H} {P : Program} {W : World} {spare : Nat → Bool} {held : Bool}
theorem open_ro {α : Type} (enc' : α → List Sc) (mkc : List α → RC) (Q : α → Prop) {t e : TypeId} {v : Value} {d : DataW H} {ps : List MemPlace} {r : Reach} {b0 : Nat}
    (hsz : ∀ a, Q a → (enc' a).length = P.cellsOf e) (hv : ∀ zs, (mkc zs).vals = zs.flatMap fun a => (enc' a).map Sc.val) (hl : ∀ zs, (mkc zs).len = zs.length)
    (hw : ∀ zs, (∀ a ∈ zs, Q a) → (mkc zs).wf) (hel : ∀ (fuel : Nat) (cs : List Value) (x : DataW H × List MemPlace), DataW.trod enc P W 0 spare held fuel e cs = some x → ∃ a, cs = (enc' a).map Sc.val ∧ Q a)
    (ht : P.underlying t = some (.slice e)) (hpos : 0 < P.cellsOf e) (hval : Value.okWide P W r b0 t v) (h : DataW.Trod enc P W 0 spare held t v d ps) :
    ∃ (zs : List α) (a : Option Addr) (cap b : Nat), v = .slice a (mkc zs).len cap ∧ (mkc zs).len ≤ cap ∧ zs.length ≤ maxLen ∧ (∀ z ∈ zs, Q z) ∧ ∀ (τ : Nat → Nat) (u : Nat), τ u = b → (cx0 P W τ).reads u (mkc zs) a := by
  obtain ⟨a, len, cap, rfl⟩ := okWide_slice ht hval
  obtain ⟨fuel, hf⟩ := h
  rcases open_slice ht hf with ⟨hcs, hx⟩ | ⟨a, len, cap, m, n, D, Pl, hcs, _, hlc, hm, hmm, hx, hi⟩
  · simp [Value.cells] at hcs
    obtain ⟨rfl, rfl, rfl⟩ := hcs
    refine ⟨[], none, 0, 0, by rw [hl]; rfl, by rw [hl]; exact Nat.le_refl _, by simp, by simp, fun τ u _ => ⟨hw [] (by simp), fun h0 => ?_⟩⟩
    rw [hl] at h0
    simp at h0
  · simp [Value.cells] at hcs
    obtain ⟨rfl, rfl, rfl⟩ := hcs
    have hmle : len ≤ m := by rw [hmm]; split <;> omega
    obtain ⟨zs, hzl, hz⟩ := list_of (p := fun i z => W.cells? 0 (a.add (i * P.cellsOf e)) (P.cellsOf e) = some ((enc' z).map Sc.val) ∧ Q z) len (fun i hilt => by
      obtain ⟨cs', h1, h2⟩ := hi i (by omega)
      obtain ⟨z, rfl, hq⟩ := hel _ _ _ h2
      exact ⟨z, h1, hq⟩)
    have hQ : ∀ z ∈ zs, Q z := fun z hm => by
      obtain ⟨i, hi'⟩ := List.getElem?_of_mem hm
      exact (hz i z hi').2
    obtain ⟨b, o, spot⟩ := a
    have spotOf : 0 < len → spot = none := fun h0 => by
      have h1 := hz 0 _ (List.getElem?_eq_getElem (by omega))
      obtain ⟨_, hcl, hat⟩ := World.cells?_some h1.1
      have h2 := hat 0 hpos
      rw [List.getElem?_eq_getElem (by rw [hcl]; exact hpos)] at h2
      simpa [Addr.add] using World.cell?_spot h2
    refine ⟨zs, some ⟨b, o, spot⟩, cap, b, by rw [hl, hzl], by rw [hl]; omega, by omega, hQ, fun τ u hu => ⟨hw zs hQ, fun h0 => ?_⟩⟩
    rw [hl, hzl] at h0
    have hsp := spotOf h0
    subst hsp
    have hcell : ∀ j v, (mkc zs).vals[j]? = some v → W.cell? ⟨b, o + j, none⟩ = some v := fun j v hj => by
      rw [hv] at hj
      obtain ⟨i, q, z, rfl, hq, hzi, hqv⟩ := flat_at (s := P.cellsOf e) (fun z hzm => by rw [List.length_map]; exact hsz z (hQ z hzm)) hj
      obtain ⟨h1, _⟩ := hz i z hzi
      obtain ⟨_, _, hat⟩ := World.cells?_some h1
      have h2 := hat q hq
      rw [hqv] at h2
      rw [← h2, Go.WideShapes.add_plain, Go.WideShapes.add_plain, Nat.add_assoc]
    refine ⟨b, o, rfl, fun hown => ?_, hu, hcell⟩
    rcases hown with hS | hge
    · exact hS
    · have h1 := hz 0 _ (List.getElem?_eq_getElem (by omega))
      obtain ⟨_, hcl, hat⟩ := World.cells?_some h1.1
      have h2 := hat 0 hpos
      rw [List.getElem?_eq_getElem (by rw [hcl]; exact hpos)] at h2
      have h3 : b < W.heap.size := by simpa [Addr.add] using World.block_lt_of_cell? W _ h2
      simp only [cx0] at hge
      omega
def isU8 (x : Int) : Prop := 0 ≤ x ∧ x < 256
/-- Integers of a kind. -/
theorem open_ro_ints {k : IntKind} {t e : TypeId} {v : Value} {d : DataW H} {ps : List MemPlace} {r : Reach} {b0 : Nat} (ht : P.underlying t = some (.slice e)) (he : P.underlying e = some (.int k)) (hc : P.cellsOf e = 1)
    (hval : Value.okWide P W r b0 t v) (h : DataW.Trod enc P W 0 spare held t v d ps) :
    ∃ (zs : List Int) (a : Option Addr) (cap b : Nat), v = .slice a (RC.ints k zs).len cap ∧ (RC.ints k zs).len ≤ cap ∧ zs.length ≤ maxLen ∧ (∀ z ∈ zs, (Lit.int k z).wf = true) ∧ ∀ (τ : Nat → Nat) (u : Nat), τ u = b → (cx0 P W τ).reads u (.ints k zs) a := by
  refine open_ro (fun z => [.int k z]) (RC.ints k) (fun z => (Lit.int k z).wf = true) (fun a _ => by rw [hc]; rfl) (fun zs => ?_) (fun zs => rfl) (fun zs _ => trivial) (fun fuel cs x hx => ?_) ht (by omega) hval h
  · simp only [RC.vals, List.map_cons, List.map_nil, Sc.val]
    induction zs with
    | nil => rfl
    | cons z zs ih => simp [ih]
  · obtain ⟨n, rfl, _, hw⟩ := DataW.trod_int he hx
    exact ⟨n, rfl, hw⟩
theorem open_ro_strs {t e : TypeId} {v : Value} {d : DataW H} {ps : List MemPlace} {r : Reach} {b0 : Nat} (ht : P.underlying t = some (.slice e)) (he : P.underlying e = some .string) (hc : P.cellsOf e = 1)
    (hval : Value.okWide P W r b0 t v) (h : DataW.Trod enc P W 0 spare held t v d ps) :
    ∃ (zs : List ByteArray) (a : Option Addr) (cap b : Nat), v = .slice a (RC.strs zs).len cap ∧ (RC.strs zs).len ≤ cap ∧ zs.length ≤ maxLen ∧ (∀ z ∈ zs, z.size ≤ maxLen) ∧ ∀ (τ : Nat → Nat) (u : Nat), τ u = b → (cx0 P W τ).reads u (.strs zs) a := by
  refine open_ro (fun z => [.str z]) RC.strs (fun z => z.size ≤ maxLen) (fun a _ => by rw [hc]; rfl) (fun zs => ?_) (fun zs => rfl) (fun zs _ => trivial) (fun fuel cs x hx => ?_) ht (by omega) hval h
  · simp only [RC.vals, List.map_cons, List.map_nil, Sc.val]
    induction zs with
    | nil => rfl
    | cons z zs ih => simp [ih]
  · obtain ⟨n, rfl, _, hw⟩ := DataW.trod_string he hx
    exact ⟨n, rfl, hw⟩
theorem open_ro_bools {t e : TypeId} {v : Value} {d : DataW H} {ps : List MemPlace} {r : Reach} {b0 : Nat} (ht : P.underlying t = some (.slice e)) (he : P.underlying e = some .bool) (hc : P.cellsOf e = 1)
    (hval : Value.okWide P W r b0 t v) (h : DataW.Trod enc P W 0 spare held t v d ps) :
    ∃ (zs : List Bool) (a : Option Addr) (cap b : Nat), v = .slice a (RC.bools zs).len cap ∧ (RC.bools zs).len ≤ cap ∧ zs.length ≤ maxLen ∧ (∀ z ∈ zs, True) ∧ ∀ (τ : Nat → Nat) (u : Nat), τ u = b → (cx0 P W τ).reads u (.bools zs) a := by
  refine open_ro (fun z => [.bool z]) RC.bools (fun _ => True) (fun a _ => by rw [hc]; rfl) (fun zs => ?_) (fun zs => rfl) (fun zs _ => trivial) (fun fuel cs x hx => ?_) ht (by omega) hval h
  · simp only [RC.vals, List.map_cons, List.map_nil, Sc.val]
    induction zs with
    | nil => rfl
    | cons z zs ih => simp [ih]
  · obtain ⟨n, rfl, _⟩ := DataW.trod_bool he hx
    exact ⟨n, rfl, trivial⟩
/-- Structs whose cells are told by an opener of their own. -/
theorem open_ro_recs (n : Nat) (Q : List Sc → Prop) {t e : TypeId} {v : Value} {d : DataW H} {ps : List MemPlace} {r : Reach} {b0 : Nat} (hn : 0 < n) (hQ : ∀ l, Q l → l.length = n)
    (hel : ∀ (fuel : Nat) (cs : List Value) (x : DataW H × List MemPlace), DataW.trod enc P W 0 spare held fuel e cs = some x → ∃ a : List Sc, cs = a.map Sc.val ∧ Q a)
    (ht : P.underlying t = some (.slice e)) (hc : P.cellsOf e = n) (hval : Value.okWide P W r b0 t v) (h : DataW.Trod enc P W 0 spare held t v d ps) :
    ∃ (zs : List (List Sc)) (a : Option Addr) (cap b : Nat), v = .slice a (RC.recs n zs).len cap ∧ (RC.recs n zs).len ≤ cap ∧ zs.length ≤ maxLen ∧ (∀ z ∈ zs, Q z) ∧ ∀ (τ : Nat → Nat) (u : Nat), τ u = b → (cx0 P W τ).reads u (.recs n zs) a :=
  open_ro id (RC.recs n) Q (fun a ha => by rw [hc]; exact hQ a ha) (fun zs => rfl) (fun zs => rfl) (fun zs hz => ⟨hn, fun l hl => hQ l (hz l hl)⟩) hel ht (by omega) hval h
/-- What a field of a struct among the arguments is. -/
inductive FK where
  | int (k : IntKind)
  | str
  | bool
def FK.ok : FK → Sc → Prop
  | .int k, .int j x => j = k ∧ (Lit.int k x).wf = true
  | .str, .str s => s.size ≤ maxLen
  | .bool, .bool _ => True
  | _, _ => False
def FK.is (P : Program) (t : TypeId) : FK → Bool
  | .int k => match P.underlying t with
    | some (.int j) => decide (j = k)
    | _ => false
  | .str => match P.underlying t with
    | some .string => true
    | _ => false
  | .bool => match P.underlying t with
    | some .bool => true
    | _ => false
def okFields : List FK → List Sc → Prop
  | [], [] => True
  | k :: ks, c :: cs => k.ok c ∧ okFields ks cs
  | _, _ => False
theorem okFields_length : ∀ {ks : List FK} {l : List Sc}, okFields ks l → l.length = ks.length
  | [], [], _ => rfl
  | [], _ :: _, h => h.elim
  | _ :: _, [], h => h.elim
  | k :: ks, c :: cs, h => by simp [okFields_length h.2]
theorem okFields_of : ∀ {ks : List FK} {l : List Sc}, l.length = ks.length → (∀ (j : Nat) (k : FK) (c : Sc), ks[j]? = some k → l[j]? = some c → k.ok c) → okFields ks l
  | [], [], _, _ => trivial
  | [], _ :: _, h, _ => by simp at h
  | _ :: _, [], h, _ => by simp at h
  | k :: ks, c :: cs, h, hf => ⟨hf 0 k c rfl rfl, okFields_of (by simpa using h) fun j k' c' h1 h2 => hf (j + 1) k' c' (by simpa using h1) (by simpa using h2)⟩
theorem open_fk {fuel : Nat} {t : TypeId} {cs : List Value} {x : DataW H × List MemPlace} (k : FK) (hk : k.is P t = true) (h : DataW.trod enc P W 0 spare held fuel t cs = some x) : ∃ c : Sc, cs = [c.val] ∧ k.ok c := by
  cases k with
  | int k =>
    simp only [FK.is] at hk
    split at hk
    · rename_i j hu
      simp only [decide_eq_true_eq] at hk
      subst hk
      obtain ⟨n, rfl, _, hw⟩ := DataW.trod_int hu h
      exact ⟨.int _ n, rfl, rfl, hw⟩
    · cases hk
  | str =>
    simp only [FK.is] at hk
    split at hk
    · rename_i hu
      obtain ⟨n, rfl, _, hw⟩ := DataW.trod_string hu h
      exact ⟨.str n, rfl, hw⟩
    · cases hk
  | bool =>
    simp only [FK.is] at hk
    split at hk
    · rename_i hu
      obtain ⟨n, rfl, _⟩ := DataW.trod_bool hu h
      exact ⟨.bool n, rfl, trivial⟩
    · cases hk
def fieldsAre (P : Program) (fs : Array Field) (ks : List FK) : Bool := fs.size == ks.length && (fs.toList.zip ks).all fun p => p.2.is P p.1.type
theorem open_fields {e : TypeId} {fs : Array Field} {fuel : Nat} {cs : List Value} {x : DataW H × List MemPlace} (he : P.underlying e = some (.struct fs)) (hone : oneCellFields P fs = true) (hC : P.cellsOf e = fs.size) (ks : List FK) (hks : fieldsAre P fs ks = true)
    (h : DataW.trod enc P W 0 spare held fuel e cs = some x) : ∃ l : List Sc, cs = l.map Sc.val ∧ okFields ks l := by
  obtain ⟨ys, n', hn', hy, hlen, hyl, hf⟩ := DataW.trod_struct he h
  simp only [fieldsAre, Bool.and_eq_true, beq_iff_eq] at hks
  obtain ⟨hsz, hall⟩ := hks
  have hcl : cs.length = fs.size := by rw [hlen]; exact hC
  have each : ∀ j, j < fs.size → ∃ c : Sc, cs[j]? = some c.val ∧ ∀ k, ks[j]? = some k → k.ok c := fun j hj => by
    have hfj : fs[j]? = some fs[j] := Array.getElem?_eq_getElem hj
    obtain ⟨ho, hk⟩ := hone_of hone j fs[j] hfj
    have h1 := hf j fs[j] hfj
    rw [ho, hk] at h1
    have hone' : (cs.drop j).take 1 = [cs[j]'(by omega)] := by
      rw [List.drop_eq_getElem_cons (by omega)]
      rfl
    rw [hone'] at h1
    have hys : ys[j]? = some (ys[j]'(by omega)) := List.getElem?_eq_getElem (by omega)
    have hkj : ks[j]? = some (ks[j]'(by omega)) := List.getElem?_eq_getElem (by omega)
    have hmem : (fs[j], ks[j]'(by omega)) ∈ fs.toList.zip ks := by
      refine List.mem_of_getElem? (i := j) ?_
      rw [List.getElem?_zip_eq_some]
      exact ⟨by simp, hkj⟩
    obtain ⟨c, hc, hok⟩ := open_fk _ (List.all_eq_true.1 hall _ hmem) (h1.trans hys)
    simp only [List.cons.injEq, and_true] at hc
    refine ⟨c, by rw [List.getElem?_eq_getElem (by omega), hc], fun k hk' => ?_⟩
    rw [hkj] at hk'
    simp only [Option.some.injEq] at hk'
    rw [← hk']
    exact hok
  obtain ⟨l, hl, hall'⟩ := list_of (p := fun j c => cs[j]? = some (Sc.val c) ∧ ∀ k, ks[j]? = some k → k.ok c) fs.size each
  refine ⟨l, ?_, okFields_of (by omega) fun j k c h1 h2 => (hall' j c h2).2 k h1⟩
  refine List.ext_getElem? fun j => ?_
  by_cases hj : j < l.length
  · have := (hall' j _ (List.getElem?_eq_getElem hj)).1
    rw [this, List.getElem?_map, List.getElem?_eq_getElem hj]
    rfl
  · rw [List.getElem?_eq_none (by omega), List.getElem?_eq_none (by rw [List.length_map]; omega)]
/-- An array of integers, by value. -/
theorem open_arr {n : Nat} {k : IntKind} {t e : TypeId} {v : Value} {d : DataW H} {ps : List MemPlace} {r : Reach} {b0 : Nat} (ht : P.underlying t = some (.array n e)) (he : P.underlying e = some (.int k)) (hc : P.cellsOf e = 1) (hT : P.cellsOf t = n)
    (hval : Value.okWide P W r b0 t v) (h : DataW.Trod enc P W 0 spare held t v d ps) :
    ∃ zs : List Int, zs.length = n ∧ v = .agg (zs.map (Value.int k)).toArray ∧ ∀ z ∈ zs, (Lit.int k z).wf = true := by
  obtain ⟨cs, rfl, hsz⟩ : ∃ cs, v = .agg cs ∧ cs.size = P.cellsOf t := by
    simp only [Value.okWide, ht] at hval
    cases v <;> simp_all
  obtain ⟨fuel, hf⟩ := h
  obtain ⟨xs, m, _, _, _, hxl, hg⟩ := DataW.trod_array ht hf
  obtain ⟨l⟩ := cs
  simp only [List.size_toArray] at hsz
  rw [hT] at hsz
  obtain ⟨zs, hl, hz⟩ := list_of (p := fun i z => l[i]? = some (Value.int k z) ∧ (Lit.int k z).wf = true) n fun i hi => by
    have h1 := hg i hi
    rw [hc, Nat.mul_one] at h1
    have hli : i < l.length := by omega
    have h2 : ((Value.agg l.toArray).cells.toList.drop i).take 1 = [l[i]] := by
      simp only [Value.cells]
      rw [List.drop_eq_getElem_cons hli]
      rfl
    rw [h2, List.getElem?_eq_getElem (by omega : i < xs.length)] at h1
    obtain ⟨z, hz1, _, hz2⟩ := DataW.trod_int he h1
    simp only [List.cons.injEq, and_true] at hz1
    exact ⟨z, by rw [List.getElem?_eq_getElem hli, hz1], hz2⟩
  refine ⟨zs, hl, ?_, fun z hm => ?_⟩
  · congr 2
    refine List.ext_getElem? fun j => ?_
    by_cases hj : j < zs.length
    · rw [(hz j _ (List.getElem?_eq_getElem hj)).1, List.getElem?_map, List.getElem?_eq_getElem hj]
      rfl
    · rw [List.getElem?_eq_none (by omega), List.getElem?_eq_none (by rw [List.length_map]; omega)]
  · obtain ⟨j, hj⟩ := List.getElem?_of_mem hm
    exact (hz j z hj).2
/-- A struct of plain fields, by value. -/
theorem open_struct {fs : Array Field} {t : TypeId} {v : Value} {d : DataW H} {ps : List MemPlace} {r : Reach} {b0 : Nat} (ht : P.underlying t = some (.struct fs)) (hone : oneCellFields P fs = true) (hC : P.cellsOf t = fs.size) (ks : List FK) (hks : fieldsAre P fs ks = true)
    (hval : Value.okWide P W r b0 t v) (h : DataW.Trod enc P W 0 spare held t v d ps) : ∃ l : List Sc, v = .agg (l.map Sc.val).toArray ∧ okFields ks l := by
  obtain ⟨cs, rfl, hsz⟩ : ∃ cs, v = .agg cs ∧ cs.size = P.cellsOf t := by
    simp only [Value.okWide, ht] at hval
    cases v <;> simp_all
  obtain ⟨fuel, hf⟩ := h
  obtain ⟨l, hl, hok⟩ := open_fields ht hone hC ks hks hf
  refine ⟨l, ?_, hok⟩
  obtain ⟨cs⟩ := cs
  simp only [Value.cells] at hl
  rw [hl]
theorem vrl_scs {C : Cx} {n : Nat} {ρ : Nat → RV} : ∀ l : List Sc, VRL C n ρ (l.map Sc.sv) (l.map Sc.val)
  | [] => .nil
  | .int k x :: l => .cons _ _ _ _ (.int k x) (vrl_scs l)
  | .bool b :: l => .cons _ _ _ _ (.bool b) (vrl_scs l)
  | .str s :: l => .cons _ _ _ _ (.str s) (vrl_scs l)
/-- How long a string in a struct among the arguments is, as the form's own reach counts it. -/
theorem struct_string {fs : Array Field} {t : TypeId} {cs : List Value} {d : DataW H} {ps : List MemPlace} (ht : P.underlying t = some (.struct fs)) (hone : oneCellFields P fs = true)
    (h : DataW.Trod enc P W 0 spare held t (.agg cs.toArray) d ps) {j : Nat} {f : Field} {s : ByteArray} (hf : fs[j]? = some f) (hu : P.underlying f.type = some .string) (hs : cs[j]? = some (.string s)) : s.size ∈ d.weights P t := by
  obtain ⟨fuel, hx⟩ := h
  obtain ⟨xs, n', hn', hy, hlen, hyl, hfs⟩ := DataW.trod_struct ht hx
  simp only [Prod.mk.injEq] at hy
  obtain ⟨rfl, _⟩ := hy
  obtain ⟨ho, hk⟩ := hone_of hone j f hf
  have h1 := hfs j f hf
  have hj : j < cs.length := by
    rcases Nat.lt_or_ge j cs.length with h | h
    · exact h
    · rw [List.getElem?_eq_none h] at hs; cases hs
  have hone' : ((Value.agg cs.toArray).cells.toList.drop j).take 1 = [.string s] := by
    simp only [Value.cells]
    rw [List.drop_eq_getElem_cons hj]
    rw [List.getElem?_eq_getElem hj] at hs
    simp only [Option.some.injEq] at hs
    rw [hs]
    rfl
  rw [ho, hk, hone'] at h1
  have hjx : j < xs.length := by
    rw [hyl]
    rcases Nat.lt_or_ge j fs.size with h | h
    · exact h
    · rw [Array.getElem?_eq_none h] at hf; cases hf
  rw [List.getElem?_eq_getElem hjx] at h1
  obtain ⟨s', e1, e2, _⟩ := DataW.trod_string hu h1
  simp only [List.cons.injEq, Value.string.injEq, and_true] at e1
  subst e1
  simp only [DataW.weights, ht]
  refine DataW.weights_mem_each (t := f.type) (d := .lit (.string s.data.toList)) (j := j) ?_ ?_ _ ?_
  · rw [List.getElem?_map, Array.getElem?_toList, hf]; rfl
  · rw [List.getElem?_map, List.getElem?_eq_getElem hjx, e2]; rfl
  · simp only [DataW.weights, List.mem_singleton]
    exact (Array.length_toList).symm
theorem vrl_ints {C : Cx} {n : Nat} {ρ : Nat → RV} (k : IntKind) : ∀ zs : List Int, VRL C n ρ (zs.map (SV.int k)) (zs.map (Value.int k))
  | [] => .nil
  | z :: zs => .cons _ _ _ _ (.int k z) (vrl_ints k zs)
end
end Go.X
set_option maxRecDepth 100000
set_option linter.unusedSimpArgs false
namespace Go.X.Try
open Go.IntWalk
theorem okMsg {l : List Sc} (h : okFields [.int .i64, .int .i64, .int .i64, .int .i64, .int .u64, .str] l) :
    ∃ (k a b c : Int) (d : Nat) (s : ByteArray), l = [.int .i64 k, .int .i64 a, .int .i64 b, .int .i64 c, .int .u64 d, .str s] ∧ a < 2 ^ 63 ∧ b < 2 ^ 63 ∧ c < 2 ^ 63 ∧ d < 2 ^ 64 := by
  have hl := okFields_length h
  match l, hl with
  | [x0, x1, x2, x3, x4, x5], _ =>
    simp only [okFields] at h
    obtain ⟨h0, h1, h2, h3, h4, h5, _⟩ := h
    cases x0 <;> simp only [FK.ok] at h0
    cases x1 <;> simp only [FK.ok] at h1
    cases x2 <;> simp only [FK.ok] at h2
    cases x3 <;> simp only [FK.ok] at h3
    cases x4 <;> simp only [FK.ok] at h4
    cases x5 <;> simp only [FK.ok] at h5
    obtain ⟨rfl, h0⟩ := h0
    obtain ⟨rfl, h1⟩ := h1
    obtain ⟨rfl, h2⟩ := h2
    obtain ⟨rfl, h3⟩ := h3
    obtain ⟨rfl, h4⟩ := h4
    simp [Lit.wf, IntKind.min, IntKind.max, IntKind.signed, IntKind.bits] at h0 h1 h2 h3 h4
    rename_i k a b c d s _
    refine ⟨k, a, b, c, d.toNat, s, ?_, by omega, by omega, by omega, by omega⟩
    rw [show ((d.toNat : Nat) : Int) = d by omega]
theorem law11 (l : List Sc) (h : okFields [.int .i64, .int .i64, .int .i64, .int .i64, .int .u64, .str] l) : F11 [.agg (l.map Sc.sv)] [] = some (.one (.bool true), []) := by
  obtain ⟨k, a, b, c, d, s, rfl, ha, hb, hc, hd⟩ := okMsg h
  simp only [List.map_cons, List.map_nil, Sc.sv]
  by_cases h8 : 800 < s.size
  · have h8i : (800 : Int) < s.size := by omega
    simp -implicitDefEqProofs [F11, c11, upd, h20, h8, h8i]
  · have h8i : ¬ (800 : Int) < s.size := by omega
    have hB := isB_toBytes s
    have hlen := size_toBytes s
    have e42 := f42 k a b c d (toBytes s) hd
    have e23 := f23 k a b c d (toBytes s) ha hb hc hd hB (by omega)
    have e43 := f43 k a b c d (toBytes s) ha hb hc hd hB (by omega)
    have e44 := f44 k a b c d (toBytes s) ha hb hc hd hB (by omega)
    simp only [ag6, ofBytes_toBytes] at e42 e23 e43 e44
    cases hR : RI k a b c d (toBytes s) with
    | false =>
      rw [hR] at e42 e44 e23 e43
      rw [if_neg (by decide)] at e23 e43
      simp only [tupFI, tupSI] at e23 e43
      simp -implicitDefEqProofs [F11, c11, upd, h20, h8, h8i, e42, e23, e43, e44, eqScs, eqSc, beqBA]
    | true =>
      obtain ⟨p1, p2, p3, p4⟩ := RI_nn hR
      obtain ⟨a', rfl⟩ : ∃ n : Nat, a = n := ⟨a.toNat, by omega⟩
      obtain ⟨b', rfl⟩ : ∃ n : Nat, b = n := ⟨b.toNat, by omega⟩
      obtain ⟨c', rfl⟩ : ∃ n : Nat, c = n := ⟨c.toNat, by omega⟩
      have hM : RM ⟨k, a', b', c', d, toBytes s⟩ = true := (RI_eq_RM _ _ _ _ _ _).symm.trans hR
      have e45 := f45 _ hM hB
      rw [hR] at e42 e44 e23 e43
      rw [if_pos rfl] at e23 e43
      simp only [Int.toNat_natCast] at e23 e43
      obtain ⟨g1, g2, g3, _, _⟩ := mput_length hM
      have hBm := mput_isB (m := ⟨k, a', b', c', d, toBytes s⟩) hB
      have e29 := f29 k (ofBytes (mput ⟨k, a', b', c', d, toBytes s⟩)) ⟨g2, g3⟩ (by rw [size_ofBytes]; exact g1)
      rw [toBytes_ofBytes hBm] at e29
      have e21 := f21 k (mput ⟨k, a', b', c', d, toBytes s⟩) hBm (by omega)
      have hdec := of_decide_eq_true hM
      unfold decA at e21
      rw [(mD_iff hBm).2 ⟨rfl, hdec.1, hdec.2, rfl⟩] at e21
      simp only [mAg, ofBytes_toBytes] at e21 e45
      generalize mput ⟨k, a', b', c', d, toBytes s⟩ = mp at *
      simp only [tupFI, tupSI, tupMI] at e23 e43 e21
      simp -implicitDefEqProofs [F11, c11, upd, h20, h8, h8i, e42, e23, e43, e44, e45, e29, e21, eqScs, eqSc, beqBA]
theorem law12 (l : List Sc) (h : okFields [.int .i64, .int .i64, .int .i64, .int .i64, .int .u64, .str] l) (hs : ∀ s, l[5]? = some (.str s) → s.size ≤ 140737488351232) : F12 [.agg (l.map Sc.sv)] [] = some (.one (.bool true), []) := by
  obtain ⟨k, a, b, c, d, s, rfl, ha, hb, hc, hd⟩ := okMsg h
  have hs := hs s rfl
  simp only [List.map_cons, List.map_nil, Sc.sv]
  have hB := isB_toBytes s
  have hlen := size_toBytes s
  have e43 := f43 k a b c d (toBytes s) ha hb hc hd hB (by omega)
  simp only [ag6, ofBytes_toBytes] at e43
  cases hR : RI k a b c d (toBytes s) with
  | false =>
    rw [hR] at e43
    rw [if_neg (by decide)] at e43
    simp only [tupSI] at e43
    simp -implicitDefEqProofs [F12, c12, upd, h20, e43]
  | true =>
    rw [hR, if_pos rfl] at e43
    have hM : RM ⟨k, a.toNat, b.toNat, c.toNat, d, toBytes s⟩ = true := (RI_eq_RM _ _ _ _ _ _).symm.trans (RI_nn hR).2.2.2
    obtain ⟨g1, _, _, _, _⟩ := mput_length hM
    have hl := frB_length k (mput ⟨k, a.toNat, b.toNat, c.toNat, d, toBytes s⟩)
    have hz := size_ofBytes (frB k (mput ⟨k, a.toNat, b.toNat, c.toNat, d, toBytes s⟩))
    generalize frB k (mput ⟨k, a.toNat, b.toNat, c.toNat, d, toBytes s⟩) = fb at *
    have n1 : 11 ≤ fb.length := by omega
    have n1i : (11 : Int) ≤ fb.length := by omega
    have n2 : fb.length ≤ 1000 := by omega
    have n2i : (fb.length : Int) ≤ 1000 := by omega
    simp only [tupSI] at e43
    simp -implicitDefEqProofs [F12, c12, upd, h20, e43, hz, n1, n1i, n2, n2i]
end Go.X.Try
