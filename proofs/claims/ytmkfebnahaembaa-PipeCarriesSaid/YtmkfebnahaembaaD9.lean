import Derived.Test.YtmkfebnahaembaaD8
set_option maxRecDepth 100000
set_option linter.unusedSimpArgs false
namespace Go.X.Try
open Go.IntWalk
theorem f19' (m : Int) : F19 [.one (.int .i64 m)] [] = some (.one (.ptr 0 0), pipeHp none (if (if m < 1 then 1 else m) > 2048 then 2048 else (if m < 1 then 1 else m)) none none [] [] 7640891576956012808 0) := f19 m
theorem cont_none (X : List (List Sc)) : cont X none = X := rfl
theorem h18 : F18 [] [] = some (.one (.bool true), []) := by
  have e19 : F19 [.one (.int .i64 9)] [] = some (.one (.ptr 0 0), pipeHp none 9 none none [] [] 7640891576956012808 0) := f19' 9
  obtain ⟨sf, X, e20, hX, okX⟩ := f20 ⟨#[97, 98]⟩ 9 7640891576956012808 0 none none [] [] (by omega) (by simp [slen]) (by simp [slen]) trivial (by simp [slen]; decide)
  have hb : toBytes ⟨#[97, 98]⟩ = [97, 98] := rfl
  rw [hb] at e20 hX
  simp only [cont_none, sendR, List.nil_append] at hX
  have hlx := cont_len X sf okX
  rw [hX] at hlx
  simp only [List.length_cons, List.length_nil] at hlx
  generalize ea : (List.foldl sbyte (7640891576956012808, 0) [97, 98]).1 = a at e20
  generalize eb : (List.foldl sbyte (7640891576956012808, 0) [97, 98]).2 = b at e20
  obtain ⟨sf2, sc2, X2, Y2, e21, hX2, okX2, hY2, okY2⟩ := f21 9 a b 1 sf none X [] (by omega) (by simp [slen]) okX trivial 1 (by rw [← hlx]; rfl)
  rw [hX] at hX2 hY2
  have hlx2 := cont_len X2 sf2 okX2
  have hly2 := cont_len Y2 sc2 okY2
  rw [hX2] at hlx2
  rw [hY2] at hly2
  simp only [cont_none, List.nil_append, List.take_succ_cons, List.take_zero, List.drop_succ_cons, List.drop_zero, List.length_cons, List.length_nil] at hX2 hY2 hlx2 hly2
  obtain ⟨sc3, Y3, e22, hY3, okY3⟩ := f22 9 a b sf2 sc2 X2 Y2 okY2 (by omega) [] _ _ _ hY2
  have e46 := f46 9 a b sf2 sc3 X2 Y3
  rw [← hlx2] at e46
  have e23 := e23 ⟨#[97]⟩ (by decide)
  have hb1 : toBytes ⟨#[97]⟩ = [97] := rfl
  rw [hb1] at e23
  simp only [List.foldl_cons, List.foldl_nil] at e23
  have w1 : IntKind.u64.wrap (0 + 1) = 1 := by rw [IntKind.wrap_u64]; rfl
  dsimp only at e22
  have sz : (({ data := #[97] } : ByteArray).size : Int) = 1 := rfl
  rw [sz] at e23
  rw [w1] at e22
  have i1 : ((1 : Nat) : Int) = 1 := rfl
  have i2 : ((0 + 1 : Nat) : Int) = 1 := rfl
  rw [i1] at e21
  rw [i2] at e46
  simp only [pipeHp, pipeCells] at e19 e20 e21 e22 e46
  generalize sfin (sstep 7640891576956012808 97) 1 = q at *
  clear hY2 hX2 hX hY3
  simp -implicitDefEqProofs [F18, c18, upd, e19, e20, e21, e22, e46, e23]
end Go.X.Try
