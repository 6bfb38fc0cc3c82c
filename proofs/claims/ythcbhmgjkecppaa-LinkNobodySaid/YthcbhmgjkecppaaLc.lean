import Derived.Test.YthcbhmgjkecppaaLb
set_option maxRecDepth 100000
set_option linter.unusedSimpArgs false
namespace Go.X.Try
open Go.IntWalk
theorem duo0 (most : Int) (h1 : 1 ≤ most) (h2 : most ≤ 2048) (B : Nat) : Duo (PS.zero ⟨most, none, none, [], [], 0, 0⟩) (RS.zero ⟨most, ⟨#[]⟩, 0, none, []⟩) B := ⟨trivial, trivial, trivial, Rel.clear (by show 0 ≤ most; omega), Nat.zero_le _, rfl, h1, h2⟩
theorem h31 : F31 [] [] = some (.one (.bool true), []) := by
  have v := duo0 9 (by omega) (by omega) 0
  obtain ⟨ok, P', R', e39, _, v', hm, hok, hnx⟩ := v.send (by omega) ⟨#[97]⟩
  have hok2 : ok = true := by rw [hok]; rfl
  subst hok2
  have e54 := f54 9 9 rfl
  have e32 := f32d 0 1 (PS.zero ⟨9, none, none, [], [], 0, 0⟩) (PS.zero ⟨9, none, none, [], [], 0, 0⟩) rfl
  have e32b := f32u 1 (PS.zero ⟨9, none, none, [], [], 0, 0⟩) (PS.zero ⟨9, none, none, [], [], 0, 0⟩)
  have e34 := f34 true 1 (PS.zero ⟨9, none, none, [], [], 0, 0⟩) (PS.zero ⟨9, none, none, [], [], 0, 0⟩)
  have e35 := f35 true 1 (PS.zero ⟨9, none, none, [], [], 0, 0⟩) (PS.zero ⟨9, none, none, [], [], 0, 0⟩)
  have e36 := f36 true 1 (PS.zero ⟨9, none, none, [], [], 0, 0⟩) (PS.zero ⟨9, none, none, [], [], 0, 0⟩)
  have hroom : P'.nx + P'.ny = 1 := by rw [hnx]; rfl
  have e38 := f38u 1 P' (PS.zero ⟨9, none, none, [], [], 0, 0⟩) false (by omega) (by omega) (by decide) (by decide) (by
    have h0 : (PS.zero ⟨9, none, none, [], [], 0, 0⟩).nx = 0 := rfl
    have h1 : (PS.zero ⟨9, none, none, [], [], 0, 0⟩).ny = 0 := rfl
    rw [h0, h1]
    have : ((P'.nx : Int) + P'.ny + (0 : Nat) + (0 : Nat)) ≠ 0 := by omega
    exact (beq_eq_false_iff_ne.2 this).symm)
  simp only [linkHp, PS.obs, PS.zero, tg_true, tg_false, List.cons_append, List.nil_append, Nat.reduceAdd, if_true] at e54 e32 e32b e34 e35 e36 e39 e38
  simp -implicitDefEqProofs [F31, c31, upd, e54, e32, e32b, e34, e35, e36, e39, e38]
theorem law6 (s : ByteArray) (n : Int) (_ : s.size ≤ maxLen) (_ : (Lit.int .i64 n).wf = true) : F6 [.one (.str s), .one (.int .i64 n)] [] = some (.one (.bool true), []) := by
  simp -implicitDefEqProofs [F6, c6, upd, h31, f32n, f33n, f34n, f35n, f36n, f37n, f38n, n39, n40]
end Go.X.Try
