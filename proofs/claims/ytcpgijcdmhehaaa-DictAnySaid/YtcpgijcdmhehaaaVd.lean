import Derived.Test.YtcpgijcdmhehaaaVc
set_option maxRecDepth 100000
set_option linter.unusedSimpArgs false
namespace Go.X.Try
open Go.IntWalk
theorem f19 (l : List Int) (hB : isB l) (hl : l.length ≤ 5000) : F19 [.one (.str (ofBytes l))] [] = some (tupSI (ofBytes (dictD l).1) (dictD l).2, []) := by
  have e3 := size_ofBytes l
  by_cases h10 : l.length < 10
  · have h10i : (l.length : Int) < 10 := by omega
    unfold dictD
    rw [if_pos (.inl h10)]
    simp -implicitDefEqProofs [F19, c19, upd, e3, h10, h10i, tupSI, ofBytes_nil]
  · have h10i : ¬ (l.length : Int) < 10 := by omega
    have h2 : (2 : Int) ≤ l.length := by omega
    have h2' : 2 ≤ l.length := by omega
    have h10' : 10 ≤ l.length := by omega
    have h10j : (10 : Int) ≤ l.length := by omega
    have ex0 := ofBytes_extract l 0 2
    rw [List.drop_zero, show 2 - 0 = 2 from rfl] at ex0
    have ex1 := ofBytes_extract l 10 l.length
    rw [List.take_of_length_le (by rw [List.length_drop]; omega)] at ex1
    have ex2 := ofBytes_extract l 2 10
    rw [show 10 - 2 = 8 from rfl] at ex2
    have q := eqS2 (isB_take 2 hB)
    by_cases hp : l.take 2 = [80, 68]
    · have q' := q.2 hp
      have hif : ∀ (x y : List Int × Int), (if l.length < 10 ∨ ¬ l.take 2 = [80, 68] then x else y) = y := fun x y => if_neg (by rintro (h | h); omega; exact h hp)
      unfold dictD
      rw [hif]
      clear hif hp q
      have hB10 := isB_drop 10 hB
      have hinv := fun u r => gdec_inv (l.drop 10) 0 0 u r hB10 (by omega)
      have hgl := fun u r => gdec_lt (l.drop 10) 0 0 u r hB10 (by omega) (by simp)
      cases hg : gdec 0 0 (l.drop 10) with
      | none =>
        have e58 := f40_none (l.drop 10) hB10 (by rw [List.length_drop]; omega) (fun u r hu h => by rw [h, gdec_grp r u 0 0 (by omega) (by simpa using hu) (.inl rfl)] at hg; cases hg)
        simp -implicitDefEqProofs [F19, c19, upd, e3, h10, h10i, h2, h2', h10', h10j, ex0, ex1, q', e58, tupF, tupSI, ofBytes_nil]
      | some p =>
        obtain ⟨n, r⟩ := p
        obtain ⟨a, ha, hu, _⟩ := hinv n r hg
        have hlt := hgl n r hg
        simp only [Nat.mul_zero, Nat.pow_zero, Nat.mul_one, Nat.zero_add] at hu
        subst hu
        have e58 := f40_some (l.drop 10) n r hB10 (by rw [List.length_drop]; omega) ha hlt
        have hk := grp_pos n
        have hlen : l.length = 10 + (grp n).length + r.length := by
          have := congrArg List.length ha
          rw [List.length_drop, List.length_append] at this
          omega
        have n0 : ¬ ((grp n).length : Int) = 0 := by omega
        have n0' : ¬ (grp n).length = 0 := by omega
        have n0'' : ¬ grp n = [] := fun h => n0' (by rw [h]; rfl)
        simp only
        by_cases hbig : 256 < n
        · have hbi : (256 : Int) < n := by omega
          rw [if_pos hbig]
          simp -implicitDefEqProofs [F19, c19, upd, e3, h10, h10i, h2, h2', h10', h10j, ex0, ex1, q', e58, tupF, tupSI, ofBytes_nil, n0, n0', n0'', hbig, hbi]
        · have hbi : ¬ (256 : Int) < n := by omega
          rw [if_neg hbig]
          obtain ⟨k, hkd⟩ : ∃ k, k = 10 + (grp n).length := ⟨_, rfl⟩
          have w : IntKind.i64.wrap ((10 : Int) + (grp n).length) = (k : Int) := by rw [i64_in _ (by omega)]; omega
          have w2 : IntKind.i64.wrap (n : Int) = n := i64_in _ (by omega)
          have hc1 : k ≤ l.length := by omega
          have hc2 : (k : Int) ≤ (l.length : Int) := by omega
          have ex3 := ofBytes_extract l k l.length
          have hdr : (l.drop k).take (l.length - k) = r := by
            rw [hkd, List.take_of_length_le (by rw [List.length_drop]; omega), ← List.drop_drop, ha, List.drop_left' rfl]
          rw [hdr] at ex3
          have e3r := size_ofBytes r
          have hBr : isB r := by
            rw [ha] at hB10
            exact fun x hx => hB10 x (List.mem_append.2 (.inr hx))
          by_cases hrn : r.length = n
          · have hri : (r.length : Int) = n := by omega
            have e59 := f59 ((l.drop 2).take 8) (isB_take 8 (isB_drop 2 hB)) (by rw [List.length_take]; omega)
            have e18 := e18' (ofBytes r) (by rw [size_ofBytes]; omega)
            rw [toBytes_ofBytes hBr] at e18
            rw [if_neg (fun c => c hrn)]
            by_cases hs : (leB ((l.drop 2).take 8) : Int) = sumL r
            · rw [if_neg (fun c => c hs)]
              rw [hs] at e59
              simp -implicitDefEqProofs [F19, c19, upd, e3, h10, h10i, h2, h2', h10', h10j, ex0, ex1, ex2, ex3, q', e58, tupF, tupSI, ofBytes_nil, n0, n0', n0'', hbig, hbi, w, w2, hc1, hc2, e3r, hrn, hri, e59, e18]
            · rw [if_pos hs]
              simp -implicitDefEqProofs [F19, c19, upd, e3, h10, h10i, h2, h2', h10', h10j, ex0, ex1, ex2, ex3, q', e58, tupF, tupSI, ofBytes_nil, n0, n0', n0'', hbig, hbi, w, w2, hc1, hc2, e3r, hrn, hri, e59, e18, hs]
          · have hri : ¬ (r.length : Int) = n := by omega
            rw [if_pos hrn]
            simp -implicitDefEqProofs [F19, c19, upd, e3, h10, h10i, h2, h2', h10', h10j, ex0, ex1, ex2, ex3, q', e58, tupF, tupSI, ofBytes_nil, n0, n0', n0'', hbig, hbi, w, w2, hc1, hc2, e3r, hrn, hri]
    · have q' : ¬ (ofBytes (l.take 2)).toList = [80, 68] := fun h => hp (q.1 h)
      unfold dictD
      rw [if_pos (.inr hp)]
      clear hp q
      simp -implicitDefEqProofs [F19, c19, upd, e3, h10, h10i, h2, h2', ex0, q', tupSI, ofBytes_nil]
end Go.X.Try
