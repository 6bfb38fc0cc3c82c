import Derived.Test.YtcpgijcdmhehaaaD2
set_option maxRecDepth 100000
set_option linter.unusedSimpArgs false
namespace Go.X.Try
open Go.IntWalk
def pipeCells (most : Int) (f c : SV) (h n : Int) : List SV := [.int .i64 most, f, c, .int .u64 h, .int .u64 n]
theorem f25 (m : Int) : F25 [.one (.int .i64 m)] [] = some (.one (.ptr 0 0), [.cells none (pipeCells (if (if m < 1 then 1 else m) > 2048 then 2048 else (if m < 1 then 1 else m)) (.row 1) (.row 2) 7640891576956012808 0), .rows (.recs 3 []), .rows (.recs 3 [])]) := by
  by_cases h1 : m < 1
  · simp -implicitDefEqProofs [F25, c25, F64, c64, upd, h1, pipeCells]
  · by_cases h2 : 2048 < m
    · simp -implicitDefEqProofs [F25, c25, F64, c64, upd, h1, h2, pipeCells]
    · simp -implicitDefEqProofs [F25, c25, F64, c64, upd, h1, h2, pipeCells]
theorem shr29 (x : Int) : shrI .u64 x 29 = x / 536870912 := by rw [shrI_eq]; rfl
theorem shr32 (x : Int) : shrI .u64 x 32 = x / 4294967296 := by rw [shrI_eq]; rfl
theorem f67 (h n b : Int) (hb : 0 ≤ b) (hb' : b < 256) : F67 [.agg [.int .u64 h, .int .u64 n], .one (.int .u8 b)] [] = some (.agg [.int .u64 (sstep h b), .int .u64 (IntKind.u64.wrap (n + 1))], []) := by
  have w : IntKind.u64.wrap b = b := u64_in b (by omega)
  simp -implicitDefEqProofs [F67, c67, w, shr29, sstep, sx]
theorem f68 (h n : Int) : F68 [.agg [.int .u64 h, .int .u64 n]] [] = some (.one (.int .u64 (sfin h n)), []) := by
  simp -implicitDefEqProofs [F68, c68, shr32, sfin, sy]
end Go.X.Try
