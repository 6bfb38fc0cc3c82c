import Derived.Test.YthcbhmgjkecppaaD8
set_option maxRecDepth 100000
set_option linter.unusedSimpArgs false
namespace Go.X.Try
open Go.IntWalk
theorem f93' (m : Int) : F93 [.one (.int .i64 m)] [] = some (.one (.ptr 0 0), pipeHp none (if (if m < 1 then 1 else m) > 2048 then 2048 else (if m < 1 then 1 else m)) none none [] [] 7640891576956012808 0) := f93 m
theorem cont_none (X : List (List Sc)) : cont X none = X := rfl
end Go.X.Try
