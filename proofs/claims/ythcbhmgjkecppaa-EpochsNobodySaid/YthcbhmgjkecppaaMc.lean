import Derived.Test.YthcbhmgjkecppaaMb
set_option maxRecDepth 100000
set_option linter.unusedSimpArgs false
namespace Go.X.Try
open Go.IntWalk
theorem h17 : F17 [] [] = some (.one (.bool true), []) := by
  have e18 := f18
  have a1 := f19 0 1 [] ⟨#[120]⟩ (by decide) (by decide) rfl
  have a2 := f19 1 2 [[.int .i64 1, .str ⟨#[120]⟩, .int .i64 0]] ⟨#[121]⟩ (by decide) (by decide) rfl
  have a3 := f21c 1 2 1 0 ⟨#[120]⟩ [[.int .i64 2, .str ⟨#[121]⟩, .int .i64 0]] (by decide) rfl
  have a4 := f23 none 2 [[.int .i64 1, .str ⟨#[120]⟩, .int .i64 0], [.int .i64 2, .str ⟨#[121]⟩, .int .i64 0]]
  have a5 := f20c 1 2 1 0 1 ⟨#[120]⟩ [[.int .i64 2, .str ⟨#[121]⟩, .int .i64 0]] (by decide) rfl rfl
  have a6 := f44c 1 2 1 1 ⟨#[120]⟩ [[.int .i64 2, .str ⟨#[121]⟩, .int .i64 0]] (by decide) rfl
  have b : ((⟨#[120]⟩ : ByteArray).toList == (⟨#[120]⟩ : ByteArray).toList) = true := by rw [beqS]; simp
  simp only [stHp, slv, List.nil_append, List.cons_append] at e18 a1 a2 a3 a4 a5 a6
  simp -implicitDefEqProofs [F17, c17, upd, e18, a1, a2, a3, a4, a5, a6, b]
theorem law8 (e : Int) (t : ByteArray) (_ : (Lit.int .i64 e).wf = true) (_ : t.size ≤ maxLen) : F8 [.one (.int .i64 e), .one (.str t)] [] = some (.one (.bool true), []) := by
  have e18 := f18
  have e21 := f21e e 0
  have e22 := f22e 0
  have b : ((⟨#[]⟩ : ByteArray).toList == (⟨#[]⟩ : ByteArray).toList) = true := by rw [beqS]; simp
  simp only [stHp, slv, List.nil_append, List.cons_append] at e18 e21 e22
  simp -implicitDefEqProofs [F8, c8, upd, h17, f19n, f20n, f21n, f22n, f23n, f43n, f44n, e18, e21, e22, b, RC.len]
end Go.X.Try
