import Derived.Test.YtmkfebnahaembaaD9
namespace Go.X.Try
theorem law9 (s : ByteArray) (n : Int) (_ : s.size ≤ maxLen) (_ : (Lit.int .i64 n).wf = true) : F9 [.one (.str s), .one (.int .i64 n)] [] = some (.one (.bool true), []) := e9 s n h18
end Go.X.Try
