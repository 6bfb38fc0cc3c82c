import Derived.Test.YthcbhmgjkecppaaKi
set_option maxRecDepth 100000
set_option linter.unusedSimpArgs false
set_option linter.unusedVariables false
namespace Go.X.Try
open Go.IntWalk
theorem e5 (l : List Int) (hB : ∀ z ∈ l, 0 ≤ z ∧ z ≤ 255) : F5 [.one (.ro 0 (.ints .u8 l))] [] = some (.one (.bool true), []) := by
  by_cases hl : l.length ≤ 400
  · have n1 : ¬ (400 : Int) < l.length := by omega
    have e24 := f24 0 l hl hB
    have e26 := f26 0 l hl hB
    have hs := sum_ofK l
    have hlen : (ofK l).length ≤ 256 := by rw [ofK_len]; exact mxK_le l hB _ (Nat.le_refl _)
    have hm := ofK_mem l
    generalize ofK l = C at *
    have e25 := f25 0 1 C (by omega)
    have e27 := f27 0 C (by omega)
    have e28 := f28 0 C (by omega)
    by_cases h0 : 0 < l.length
    · have hC : 0 < C.length := by
        cases C with
        | nil => simp [sumK] at hs; omega
        | cons x C => simp
      obtain ⟨log, e30, h5, h9, h2⟩ := f30 0 C hlen (fun z hz => by have := hm z hz; omega) (by omega)
      obtain ⟨Y, e29⟩ := f29 0 C log hC hlen ⟨by omega, by omega⟩ (fun z hz => by have := hm z hz; omega) ⟨h5, h9⟩ h2
      have n2 : (0 : Int) < l.length := by omega
      simp -implicitDefEqProofs [F5, c5, upd, h14, n1, n2, h0, hl, e24, e26, e25, e27, e28, e30, e29, RC.len]
    · have e30 := f30z 0 C hlen (fun z hz => by have := hm z hz; omega) (by omega)
      have e29 := f29z 0 C 0 hlen (fun z hz => by have := hm z hz; omega) (by omega)
      have n2 : ¬ (0 : Int) < l.length := by omega
      have n3 : l.length = 0 := by omega
      simp -implicitDefEqProofs [F5, c5, upd, h14, n1, n2, n3, h0, hl, e24, e26, e25, e27, e28, e30, e29, RC.len]
  · have n1 : (400 : Int) < l.length := by omega
    simp -implicitDefEqProofs [F5, c5, upd, h14, n1, hl, RC.len]
theorem law5 (l : List Int) (_ : l.length ≤ maxLen) (hw : ∀ z ∈ l, (Lit.int .u8 z).wf = true) : F5 [.one (.ro 0 (.ints .u8 l))] [] = some (.one (.bool true), []) :=
  e5 l fun z hz => by
    have := hw z hz
    simp [Lit.wf, IntKind.min, IntKind.max, IntKind.signed, IntKind.bits] at this
    omega
end Go.X.Try
