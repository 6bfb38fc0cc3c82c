import Derived.Test.YtcpgijcdmhehaaaVd
set_option maxRecDepth 100000
set_option linter.unusedSimpArgs false
namespace Go.X.Try
open Go.IntWalk
theorem h13 : F13 [] [] = some (.one (.bool true), []) := by
  have eb : toBytes ⟨#[97, 98, 99]⟩ = [97, 98, 99] := rfl
  have e14 := f14 ⟨#[97, 98, 99]⟩ (by decide)
  rw [eb] at e14
  have hl := dictB_length [97, 98, 99]
  have hg : grp ([97, 98, 99] : List Int).length = [3] := by rw [grp_lt (by decide)]; rfl
  rw [hg] at hl
  simp only [List.length_cons, List.length_nil] at hl
  have e15 := f15 (dictB [97, 98, 99]) (dictB_isB (by intro x hx; simp at hx; omega)) (by omega)
  rw [dict_back (by decide)] at e15
  have eo : ofBytes [97, 98, 99] = ⟨#[97, 98, 99]⟩ := rfl
  have e3 := size_ofBytes (dictB [97, 98, 99])
  rw [hl] at e3
  simp only [eo, tupSI] at e14 e15
  generalize dictB [97, 98, 99] = d at *
  simp -implicitDefEqProofs [F13, c13, upd, e14, e15, e3]
theorem law3 (s : ByteArray) (_ : s.size ≤ maxLen) : F3 [.one (.str s)] [] = some (.one (.bool true), []) := by
  by_cases h4 : 400 < s.size
  · have h4i : (400 : Int) < s.size := by omega
    simp -implicitDefEqProofs [F3, c3, upd, h13, h4, h4i]
  · have h4i : ¬ (400 : Int) < s.size := by omega
    by_cases h2 : 256 < s.size
    · have h2i : (256 : Int) < s.size := by omega
      have e14 := f14l s h2
      simp only [tupSI] at e14
      simp -implicitDefEqProofs [F3, c3, upd, h13, h4, h4i, h2, h2i, e14]
    · have h2i : ¬ (256 : Int) < s.size := by omega
      have hlen := size_toBytes s
      have h10 := grp_ten (v := (toBytes s).length) (by omega)
      have hdl := dictB_length (toBytes s)
      have e14 := f14 s (by omega)
      have e15 := f15 (dictB (toBytes s)) (dictB_isB (isB_toBytes s)) (by omega)
      rw [dict_back (by omega)] at e15
      have e16 := f16 s (by omega)
      have e17 := f17 s (by omega)
      have e18 := e18' s (by omega)
      have eb := ofBytes_toBytes s
      simp only [tupSI, eb] at e14 e15
      generalize dictB (toBytes s) = d at *
      generalize sumL (toBytes s) = m at *
      simp -implicitDefEqProofs [F3, c3, upd, h13, h4, h4i, h2, h2i, e14, e15, e16, e17, e18]
theorem law4 (s : ByteArray) (_ : s.size ≤ maxLen) : F4 [.one (.str s)] [] = some (.one (.bool true), []) := by
  by_cases h4 : 400 < s.size
  · have h4i : (400 : Int) < s.size := by omega
    simp -implicitDefEqProofs [F4, c4, upd, h13, h4, h4i]
  · have h4i : ¬ (400 : Int) < s.size := by omega
    have hlen := size_toBytes s
    have hB := isB_toBytes s
    have eb := ofBytes_toBytes s
    have e15 := f15 (toBytes s) hB (by omega)
    have e19 := f19 (toBytes s) hB (by omega)
    rw [eb] at e15 e19
    have hany := fun r => dict_any (l := toBytes s) (r := r) hB
    generalize hd : dictD (toBytes s) = d at *
    obtain ⟨t, e⟩ := d
    by_cases he : e = 0
    · subst he
      obtain ⟨h1, h2, h3⟩ := hany t rfl
      have e14 := f14 (ofBytes t) (by rw [size_ofBytes]; omega)
      rw [toBytes_ofBytes h3, h1, eb] at e14
      simp only [tupSI] at e14 e15 e19
      simp -implicitDefEqProofs [F4, c4, upd, h13, h4, h4i, e14, e15, e19]
    · have ht : t = [] := by
        unfold dictD at hd
        split at hd
        · simp at hd; exact hd.1
        · split at hd
          · simp at hd; exact hd.1
          · split at hd
            · simp at hd; exact hd.1
            · split at hd
              · simp at hd; exact hd.1
              · split at hd
                · simp at hd; exact hd.1
                · simp at hd; exact absurd hd.2.symm he
      subst ht
      have e14 := f14 (ofBytes []) (by decide)
      simp only [tupSI] at e14 e15 e19
      simp -implicitDefEqProofs [F4, c4, upd, h13, h4, h4i, e14, e15, e19, he]
end Go.X.Try
