import Derived.Test.YtejcknhmobnbeaaCf
set_option maxRecDepth 100000
set_option linter.unusedSimpArgs false
namespace Go.X.Try
open Go.IntWalk
abbrev T41x : Nat → Callee := upd none0 39 F39
def F41x : Callee := evF T41x 0 c41
theorem s41x : Sound Go.Proofs.Try.prog 41 F41x := fn_ok (upd_ok (none0_ok _) s39) mixed (by kernel_rfl)
abbrev T9x : Nat → Callee := (upd (upd (upd (upd (upd (upd (upd (upd (upd (upd (upd (upd (upd (upd none0 17 F17) 20 F20) 21 F21) 22 F22) 23 F23) 38 F38) 39 F39) 41 F41x) 42 F42) 43 F43) 44 F44) 45 F45) 46 F46) 47 F47)
def F9x : Callee := evF T9x KK c9
theorem s9x : Sound Go.Proofs.Try.prog 9 F9x := fn_ok (upd_ok (upd_ok (upd_ok (upd_ok (upd_ok (upd_ok (upd_ok (upd_ok (upd_ok (upd_ok (upd_ok (upd_ok (upd_ok (upd_ok (none0_ok _) s17) s20) s21) s22) s23) s38) s39) s41x) s42) s43) s44) s45) s46) s47) mixed (by kernel_rfl)
/-- Behind a round: what the text's cell holds. -/
def keep (l r : List Int) (bad : Bool) : List Int := if bad = true then l else r
theorem f38 (l : List Int) (n : Int) (h0 : 0 ≤ n) : F38 [.one (.int .i64 n), .one (.ptr 0 0), .one (.ptr 1 0)] [.cells (some 0) [.bool false], .cells (some 1) [.str (ofBytes l)]]
    = some (.one (.str (ofBytes (rAns l n).1)), [.cells (some 0) [.bool (rAns l n).2.2], .cells (some 1) [.str (ofBytes (keep l (rAns l n).2.1 (rAns l n).2.2))]]) := by
  have e3 := size_ofBytes l
  obtain ⟨m, rfl⟩ : ∃ m : Nat, n = m := ⟨n.toNat, by omega⟩
  unfold rAns keep
  by_cases h : l.length < m
  · have hi : (l.length : Int) < m := by omega
    rw [if_pos hi]
    simp -implicitDefEqProofs [F38, c38, upd, e3, h, hi, ofBytes_nil]
  · have hi : ¬ (l.length : Int) < m := by omega
    have h2 : m ≤ l.length := by omega
    have hi2 : (m : Int) ≤ l.length := by omega
    have ex1 := ofBytes_extract l 0 m
    have ex2 := ofBytes_extract l m l.length
    rw [List.drop_zero, Nat.sub_zero] at ex1
    rw [show List.take (l.length - m) (List.drop m l) = List.drop m l from List.take_of_length_le (by rw [List.length_drop]; omega)] at ex2
    rw [if_neg hi]
    simp -implicitDefEqProofs [F38, c38, upd, e3, h, hi, h2, hi2, ex1, ex2]
theorem f38b (l : List Int) (n : Int) : F38 [.one (.int .i64 n), .one (.ptr 0 0), .one (.ptr 1 0)] [.cells (some 0) [.bool true], .cells (some 1) [.str (ofBytes l)]]
    = some (.one (.str (ofBytes [])), [.cells (some 0) [.bool true], .cells (some 1) [.str (ofBytes l)]]) := by
  simp -implicitDefEqProofs [F38, c38, upd, ofBytes_nil]
theorem f39 (l : List Int) (hB : isB l) (hl : l.length ≤ 80000) : F39 [.one (.ptr 0 0), .one (.ptr 1 0)] [.cells (some 0) [.str (ofBytes l)], .cells (some 1) [.bool false]]
    = some (.one (.int .u64 (gAns l).1), [.cells (some 0) [.str (ofBytes (keep l (gAns l).2.1 (gAns l).2.2))], .cells (some 1) [.bool (gAns l).2.2]]) := by
  have e3 := size_ofBytes l
  have hok := gAns_ok l hB
  by_cases hg : (gAns l).2.2 = true
  · have e40 := f40_none l hB hl (fun u r hu h => by rw [h, gAns_grp u r hu] at hg; cases hg)
    have h1 : (gAns l).1 = 0 := by
      unfold gAns at hg ⊢
      cases h : gdec 0 0 l with
      | none => rfl
      | some p => rw [h] at hg; cases hg
    simp only [keep, hg, if_true, h1]
    simp -implicitDefEqProofs [F39, c39, upd, e40, tupF]
  · have hg' : (gAns l).2.2 = false := by simpa using hg
    obtain ⟨u, r, hgl⟩ : ∃ u r, gAns l = (u, r, false) := ⟨(gAns l).1, (gAns l).2.1, by rw [← hg']⟩
    have hl2 : l = grp u ++ r := by
      unfold gAns at hgl
      cases h : gdec 0 0 l with
      | none => rw [h] at hgl; cases hgl
      | some p =>
        obtain ⟨v, rest⟩ := p
        rw [h] at hgl
        simp only [Prod.mk.injEq, and_true] at hgl
        obtain ⟨rfl, rfl⟩ := hgl
        obtain ⟨a, ha, hu, _⟩ := gdec_inv l 0 0 v rest hB (by omega) h
        simp at hu
        subst hu
        exact ha
    rw [hgl] at hok ⊢
    have e40 := f40_some l u r hB hl hl2 hok.1
    have hp := grp_pos u
    have hlen : l.length = (grp u).length + r.length := by rw [hl2, List.length_append]
    have n0 : ¬ ((grp u).length : Int) = 0 := by omega
    have n0' : ¬ (grp u).length = 0 := by omega
    have n0'' : ¬ grp u = [] := fun h => by rw [h] at hp; simp at hp
    have h2 : (grp u).length ≤ l.length := by omega
    have hi2 : ((grp u).length : Int) ≤ l.length := by omega
    have ex2 := ofBytes_extract l (grp u).length l.length
    have hdrop : List.take (l.length - (grp u).length) (List.drop (grp u).length l) = r := by
      rw [hl2, List.drop_left' rfl]
      exact List.take_of_length_le (by rw [List.length_append]; omega)
    rw [hdrop] at ex2
    simp only [keep]
    simp -implicitDefEqProofs [F39, c39, upd, e40, e3, tupF, n0, n0', n0'', h2, hi2, ex2]
theorem f39b : F39 [.one (.ptr 0 0), .one (.ptr 1 0)] [.cells (some 0) [.str (ofBytes [])], .cells (some 1) [.bool true]]
    = some (.one (.int .u64 0), [.cells (some 0) [.str (ofBytes [])], .cells (some 1) [.bool true]]) := by
  have e40 := f40_none [] (by simp [isB]) (by simp) (fun u r hu h => by have := grp_pos u; have h2 := congrArg List.length h; simp at h2; omega)
  simp -implicitDefEqProofs [F39, c39, upd, e40, tupF]
theorem f41 (l : List Int) (most : Int) (hm : most ≤ 9223372036854775807) (hB : isB l) (hl : l.length ≤ 80000) : F41x [.one (.int .i64 most), .one (.ptr 0 0), .one (.ptr 2 0)] [.cells (some 0) [.fn 39 [.ptr 1 0, .ptr 2 0]], .cells (some 1) [.str (ofBytes l)], .cells (some 2) [.bool false]]
    = some (.one (.int .i64 (iAns l most).1), [.cells (some 0) [.fn 39 [.ptr 1 0, .ptr 2 0]], .cells (some 1) [.str (ofBytes (keep l (gAns l).2.1 (gAns l).2.2))], .cells (some 2) [.bool (iAns l most).2.2]]) := by
  have e39 := f39 l hB hl
  have hlt := (gAns_ok l hB).1
  unfold iAns
  generalize hq : gAns l = q at *
  obtain ⟨v', r, bad⟩ := q
  simp only at e39 hlt ⊢
  cases bad with
  | true => simp -implicitDefEqProofs [F41x, c41, upd, e39]
  | false =>
    by_cases h0 : most < 0
    · simp -implicitDefEqProofs [F41x, c41, upd, e39, h0]
    · have w : IntKind.u64.wrap most = most := u64_in _ (by omega)
      by_cases h1 : most < (v' : Int)
      · simp -implicitDefEqProofs [F41x, c41, upd, e39, h0, w, h1]
      · have w2 : IntKind.i64.wrap (v' : Int) = v' := i64_in _ (by omega)
        simp -implicitDefEqProofs [F41x, c41, upd, e39, h0, w, w2, h1]
theorem f41b (most : Int) : F41x [.one (.int .i64 most), .one (.ptr 0 0), .one (.ptr 2 0)] [.cells (some 0) [.fn 39 [.ptr 1 0, .ptr 2 0]], .cells (some 1) [.str (ofBytes [])], .cells (some 2) [.bool true]]
    = some (.one (.int .i64 0), [.cells (some 0) [.fn 39 [.ptr 1 0, .ptr 2 0]], .cells (some 1) [.str (ofBytes [])], .cells (some 2) [.bool true]]) := by
  have e39 := f39b
  simp -implicitDefEqProofs [F41x, c41, upd, e39]
end Go.X.Try
