import Derived.Test.YtnbmmdkcmgdpdaaChecked
import Derived.Test.YtnbmmdkcmgdpdaaZ2
set_option linter.unusedVariables false
set_option linter.unusedSimpArgs false
set_option linter.unusedSectionVars false
set_option maxRecDepth 100000
namespace Go.X.Try
theorem mixed : Go.Proofs.Try.prog.follows .mixedOrders = true := by kernel_rfl
def F26 : Callee := Go.Proofs.cmp26
theorem s26 : Sound Go.Proofs.Try.prog 26 F26 := Go.Proofs.w26
def c25 : AF := ⟨[(5, none)],
  (.seq (.ops [⟨(some 5), none, (.mv (.const (.one (.int .i64 0))))⟩]) (.seq (.ops [⟨(some 6), none, (.load none (.tmp 2))⟩, ⟨(some 7), none, (.nilCheck (.tmp 6))⟩, ⟨(some 8), none, (.fadr 0 (.tmp 7))⟩, ⟨(some 9), none, (.load none (.tmp 8))⟩, ⟨(some 10), none, (.mv (.tmp 0))⟩, ⟨(some 11), none, (.cutS (.tmp 9) (some (.tmp 10)) none)⟩, ⟨(some 12), none, (.mv (.tmp 1))⟩, ⟨(some 13), none, (.call 26 [(.tmp 11), (.tmp 12)])⟩, ⟨(some 5), none, (.mv (.tmp 13))⟩]) .ret))⟩
abbrev T25 : Nat → Callee := (upd none0 26 F26)
def F25 : Callee := evF T25 0 c25
theorem s25 : Sound Go.Proofs.Try.prog 25 F25 := fn_ok (upd_ok (none0_ok _) s26) mixed (by kernel_rfl)
def c32 : AF := ⟨[(5, none)],
  (.seq (.ops [⟨(some 5), none, (.mv (.const (.one (.int .i64 0))))⟩]) (.seq (.seq (.ops [⟨(some 6), none, (.mv (.tmp 0))⟩, ⟨(some 7), none, (.load none (.tmp 1))⟩, ⟨(some 8), none, (.bin .add (.tmp 6) (.tmp 7))⟩, ⟨(some 9), none, (.load none (.tmp 2))⟩, ⟨(some 10), none, (.lenS (.tmp 9))⟩, ⟨(some 11), none, (.bin .lss (.tmp 8) (.tmp 10))⟩]) (.cond (.tmp 11) (.seq (.ops [⟨(some 12), none, (.load none (.tmp 3))⟩, ⟨(some 13), none, (.mv (.tmp 0))⟩, ⟨(some 14), none, (.load none (.tmp 1))⟩, ⟨(some 15), none, (.bin .add (.tmp 13) (.tmp 14))⟩, ⟨(some 16), none, (.iadrR 1 (.tmp 12) (.tmp 15))⟩, ⟨(some 17), none, (.load none (.tmp 16))⟩, ⟨(some 5), none, (.mv (.tmp 17))⟩]) .ret) .skip)) (.seq (.ops [⟨(some 5), none, (.mv (.const (.one (.int .i64 (-1)))))⟩]) .ret)))⟩
abbrev T32 : Nat → Callee := none0
def F32 : Callee := evF T32 0 c32
theorem s32 : Sound Go.Proofs.Try.prog 32 F32 := fn_ok (none0_ok _) mixed (by kernel_rfl)
def b34x0 : AC := (.seq (.ops [⟨(some 9), none, (.bin .lss (.tmp 8) (.tmp 7))⟩]) (.seq (.cond (.tmp 9) .skip (.exit 0)) (.seq (.block 1 (.seq (.ops [⟨(some 10), none, (.iadrR 1 (.tmp 6) (.tmp 8))⟩, ⟨(some 11), none, (.load none (.tmp 10))⟩, ⟨(some 5), none, (.mv (.tmp 11))⟩]) (.seq (.ops [⟨(some 12), none, (.mv (.tmp 5))⟩, ⟨(some 13), none, (.mv (.tmp 3))⟩, ⟨(some 14), none, (.bin .neq (.tmp 12) (.tmp 13))⟩]) (.cond (.tmp 14) (.seq (.ops [⟨(some 15), none, (.mv (.tmp 5))⟩, ⟨(some 2), none, (.mv (.tmp 15))⟩]) .ret) .skip)))) (.ops [⟨(some 16), none, (.bin .add (.tmp 8) (.const (.one (.int .i64 1))))⟩, ⟨(some 8), none, (.mv (.tmp 16))⟩]))))
def c34 : AF := ⟨[(2, none)],
  (.seq (.ops [⟨(some 2), none, (.mv (.const (.one (.int .i64 0))))⟩]) (.seq (.ops [⟨(some 3), none, (.mv (.const (.one (.int .i64 0))))⟩]) (.seq (.seq (.ops [⟨(some 6), none, (.mv (.tmp 0))⟩, ⟨(some 7), none, (.len (.tmp 6))⟩, ⟨(some 8), none, (.mv (.const (.one (.int .i64 0))))⟩]) (.block 0 (.loop [3, 6, 7, 8] b34x0))) (.seq (.ops [⟨(some 17), none, (.mv (.tmp 3))⟩, ⟨(some 2), none, (.mv (.tmp 17))⟩]) .ret))))⟩
abbrev T34 : Nat → Callee := none0
def F34 : Callee := evF T34 KK c34
theorem s34 : Sound Go.Proofs.Try.prog 34 F34 := fn_ok (none0_ok _) mixed (by kernel_rfl)
def c41 : AF := ⟨[(2, none)],
  (.seq (.ops [⟨(some 2), none, (.mv (.const (.one (.bool false))))⟩]) (.seq (.ops [⟨(some 3), none, (.mv (.tmp 0))⟩, ⟨(some 4), none, (.mv (.tmp 0))⟩, ⟨(some 5), none, (.bin .neq (.tmp 3) (.tmp 4))⟩, ⟨(some 2), none, (.mv (.tmp 5))⟩]) .ret))⟩
abbrev T41 : Nat → Callee := none0
def F41 : Callee := evF T41 0 c41
theorem s41 : Sound Go.Proofs.Try.prog 41 F41 := fn_ok (none0_ok _) mixed (by kernel_rfl)
def c35 : AF := ⟨[(4, none)],
  (.seq (.ops [⟨(some 4), none, (.mv (.const (.one (.int .i64 0))))⟩]) (.seq (.ops [⟨(some 7), none, (.mv (.tmp 0))⟩, ⟨(some 8), none, (.call 41 [(.tmp 7)])⟩, ⟨(some 5), none, (.mv (.tmp 8))⟩]) (.seq (.ops [⟨(some 9), none, (.mv (.tmp 1))⟩, ⟨(some 10), none, (.call 41 [(.tmp 9)])⟩, ⟨(some 6), none, (.mv (.tmp 10))⟩]) (.seq (.seq (.ops [⟨(some 11), none, (.mv (.tmp 5))⟩]) (.cond (.tmp 11) (.seq (.seq (.ops [⟨(some 12), none, (.mv (.tmp 6))⟩]) (.cond (.tmp 12) (.seq (.ops [⟨(some 4), none, (.mv (.const (.one (.int .i64 0))))⟩]) .ret) .skip)) (.seq (.ops [⟨(some 4), none, (.mv (.const (.one (.int .i64 (-1)))))⟩]) .ret)) .skip)) (.seq (.seq (.ops [⟨(some 13), none, (.mv (.tmp 6))⟩]) (.cond (.tmp 13) (.seq (.ops [⟨(some 4), none, (.mv (.const (.one (.int .i64 1))))⟩]) .ret) .skip)) (.seq (.seq (.ops [⟨(some 14), none, (.mv (.tmp 0))⟩, ⟨(some 15), none, (.mv (.tmp 1))⟩, ⟨(some 16), none, (.bin .lss (.tmp 14) (.tmp 15))⟩]) (.cond (.tmp 16) (.seq (.ops [⟨(some 4), none, (.mv (.const (.one (.int .i64 (-1)))))⟩]) .ret) .skip)) (.seq (.seq (.ops [⟨(some 17), none, (.mv (.tmp 0))⟩, ⟨(some 18), none, (.mv (.tmp 1))⟩, ⟨(some 19), none, (.bin .gtr (.tmp 17) (.tmp 18))⟩]) (.cond (.tmp 19) (.seq (.ops [⟨(some 4), none, (.mv (.const (.one (.int .i64 1))))⟩]) .ret) .skip)) (.seq (.ops [⟨(some 4), none, (.mv (.const (.one (.int .i64 0))))⟩]) .ret))))))))⟩
abbrev T35 : Nat → Callee := (upd none0 41 F41)
def F35 : Callee := evF T35 0 c35
theorem s35 : Sound Go.Proofs.Try.prog 35 F35 := fn_ok (upd_ok (none0_ok _) s41) mixed (by kernel_rfl)
def c33 : AF := ⟨[(6, none)],
  (.seq (.ops [⟨(some 6), none, (.mv (.const (.one (.int .i64 0))))⟩]) (.seq (.opsD [(⟨(some 7), none, (.load none (.tmp 2))⟩, false), (⟨(some 8), none, (.mv (.tmp 0))⟩, false), (⟨(some 9), none, (.iadrR 1 (.tmp 7) (.tmp 8))⟩, false), (⟨(some 10), none, (.load none (.tmp 9))⟩, false), (⟨(some 11), none, (.load none (.tmp 2))⟩, false), (⟨(some 12), none, (.mv (.tmp 1))⟩, false), (⟨(some 13), none, (.iadrR 1 (.tmp 11) (.tmp 12))⟩, false), (⟨(some 14), none, (.load none (.tmp 13))⟩, false), (⟨(some 15), none, (.call 35 [(.tmp 10), (.tmp 14)])⟩, true), (⟨(some 16), none, (.load none (.tmp 3))⟩, false), (⟨(some 17), none, (.mv (.tmp 0))⟩, false), (⟨(some 18), none, (.callv (.tmp 16) [(.tmp 17)])⟩, true), (⟨(some 19), none, (.load none (.tmp 3))⟩, false), (⟨(some 20), none, (.mv (.tmp 1))⟩, false), (⟨(some 21), none, (.callv (.tmp 19) [(.tmp 20)])⟩, true), (⟨(some 22), none, (.call 35 [(.tmp 18), (.tmp 21)])⟩, true), (⟨(some 23), none, (.bslice (.ints .i64 []) [(.int .i64 0)] 2 [(0, (.tmp 15)), (1, (.tmp 22))])⟩, true), (⟨(some 24), none, (.call 34 [(.tmp 23)])⟩, true), (⟨(some 6), none, (.mv (.tmp 24))⟩, false)] [(9, [0]), (12, [1, 0])]) .ret))⟩
abbrev T33 : Nat → Callee := (upd (upd (upd (upd none0 25 F25) 32 F32) 34 F34) 35 F35)
def F33 : Callee := evF T33 0 c33
theorem s33 : Sound Go.Proofs.Try.prog 33 F33 := fn_ok (upd_ok (upd_ok (upd_ok (upd_ok (none0_ok _) s25) s32) s34) s35) mixed (by kernel_rfl)
def F36 : Callee := Go.Proofs.F36'
theorem s36 : Sound Go.Proofs.Try.prog 36 F36 := Go.Proofs.w36'
def b22x0 : AC := (.seq (.ops [⟨(some 21), none, (.bin .lss (.tmp 20) (.tmp 19))⟩]) (.seq (.cond (.tmp 21) .skip (.exit 0)) (.seq (.block 1 (.seq (.ops [⟨(some 22), none, (.mv (.tmp 20))⟩, ⟨(some 5), none, (.mv (.tmp 22))⟩]) (.opsD [(⟨(some 23), none, (.mv (.tmp 3))⟩, false), (⟨(some 24), none, (.mv (.tmp 5))⟩, false), (⟨(some 25), none, (.load none (.tmp 4))⟩, false), (⟨(some 26), none, (.mv (.tmp 5))⟩, false), (⟨(some 27), none, (.mv (.tmp 5))⟩, false), (⟨(some 28), none, (.load none (.tmp 1))⟩, false), (⟨(some 29), none, (.mv (.tmp 5))⟩, false), (⟨(some 30), none, (.idxS (.tmp 28) (.tmp 29))⟩, false), (⟨(some 31), none, (.conv .i64 (.tmp 30))⟩, false), (⟨(some 32), none, (.iadrR 1 (.tmp 23) (.tmp 24))⟩, false), (⟨none, none, (.store 1 (.tmp 32) (.tmp 27))⟩, true), (⟨(some 33), none, (.iadrR 1 (.tmp 25) (.tmp 26))⟩, false), (⟨none, none, (.store 1 (.tmp 33) (.tmp 31))⟩, true)] [(2, [1]), (5, [1])]))) (.ops [⟨(some 34), none, (.bin .add (.tmp 20) (.const (.one (.int .i64 1))))⟩, ⟨(some 20), none, (.mv (.tmp 34))⟩]))))
def b22x1 : AC := (.seq (.seq (.ops [⟨(some 45), none, (.mv (.tmp 11))⟩, ⟨(some 46), none, (.mv (.tmp 3))⟩, ⟨(some 47), none, (.len (.tmp 46))⟩, ⟨(some 48), none, (.bin .lss (.tmp 45) (.tmp 47))⟩]) (.cond (.tmp 48) .skip (.exit 4))) (.seq (.block 5 (.seq (.seq (.opsD [(⟨(some 51), none, (.mv (.tmp 8))⟩, false), (⟨(some 52), none, (.mv (.tmp 3))⟩, false), (⟨(some 53), none, (.mv (.tmp 11))⟩, false), (⟨(some 54), none, (.bin .sub (.tmp 53) (.const (.one (.int .i64 1))))⟩, false), (⟨(some 55), none, (.iadrR 1 (.tmp 52) (.tmp 54))⟩, false), (⟨(some 56), none, (.load none (.tmp 55))⟩, false), (⟨(some 57), none, (.mv (.tmp 3))⟩, false), (⟨(some 58), none, (.mv (.tmp 11))⟩, false), (⟨(some 59), none, (.iadrR 1 (.tmp 57) (.tmp 58))⟩, false), (⟨(some 60), none, (.load none (.tmp 59))⟩, false), (⟨(some 61), none, (.callv (.tmp 51) [(.tmp 56), (.tmp 60)])⟩, true), (⟨(some 62), none, (.bin .lss (.tmp 61) (.const (.one (.int .i64 0))))⟩, false)] []) (.cond (.tmp 62) (.ops [⟨(some 63), none, (.mv (.tmp 10))⟩, ⟨(some 64), none, (.bin .add (.tmp 63) (.const (.one (.int .i64 1))))⟩, ⟨(some 10), none, (.mv (.tmp 64))⟩]) .skip)) (.ops [⟨(some 65), none, (.mv (.tmp 9))⟩, ⟨(some 66), none, (.mv (.tmp 3))⟩, ⟨(some 67), none, (.mv (.tmp 11))⟩, ⟨(some 68), none, (.iadrR 1 (.tmp 66) (.tmp 67))⟩, ⟨(some 69), none, (.load none (.tmp 68))⟩, ⟨(some 70), none, (.mv (.tmp 10))⟩, ⟨(some 71), none, (.iadrR 1 (.tmp 65) (.tmp 69))⟩, ⟨none, none, (.store 1 (.tmp 71) (.tmp 70))⟩]))) (.ops [⟨(some 49), none, (.mv (.tmp 11))⟩, ⟨(some 50), none, (.bin .add (.tmp 49) (.const (.one (.int .i64 1))))⟩, ⟨(some 11), none, (.mv (.tmp 50))⟩])))
def b22x2 : AC := (.seq (.block 3 (.seq (.ops [⟨(some 37), none, (.mkfn 32 [(.tmp 6), (.tmp 1), (.tmp 4)])⟩, ⟨(some 7), none, (.alloc [(.sv .nilf)])⟩, ⟨none, none, (.store 1 (.tmp 7) (.tmp 37))⟩]) (.seq (.ops [⟨(some 38), none, (.mkfn 33 [(.tmp 4), (.tmp 7)])⟩, ⟨(some 8), none, (.mv (.tmp 38))⟩]) (.seq (.ops [⟨(some 39), none, (.mv (.tmp 3))⟩, ⟨(some 40), none, (.mv (.tmp 8))⟩, ⟨(some 41), none, (.calli 36 [(.tmp 39), (.tmp 40)])⟩]) (.seq (.ops [⟨(some 42), none, (.load none (.tmp 1))⟩, ⟨(some 43), none, (.lenS (.tmp 42))⟩, ⟨(some 44), none, (.mks (.ints .i64 []) [(.int .i64 0)] 8 (.tmp 43) (.tmp 43))⟩, ⟨(some 9), none, (.mv (.tmp 44))⟩]) (.seq (.ops [⟨(some 10), none, (.mv (.const (.one (.int .i64 0))))⟩]) (.seq (.seq (.ops [⟨(some 11), none, (.mv (.const (.one (.int .i64 1))))⟩]) (.block 4 (.loop [1, 3, 4, 6, 8, 9, 10, 11] b22x1))) (.seq (.ops [⟨(some 72), none, (.mv (.tmp 9))⟩, ⟨none, none, (.store 1 (.tmp 4) (.tmp 72))⟩]) (.seq (.ops [⟨(some 73), none, (.mv (.tmp 10))⟩, ⟨(some 74), none, (.load none (.tmp 1))⟩, ⟨(some 75), none, (.lenS (.tmp 74))⟩, ⟨(some 76), none, (.bin .sub (.tmp 75) (.const (.one (.int .i64 1))))⟩, ⟨(some 77), none, (.bin .geq (.tmp 73) (.tmp 76))⟩]) (.cond (.tmp 77) (.seq (.ops [⟨(some 78), none, (.mv (.tmp 3))⟩, ⟨(some 2), none, (.mv (.tmp 78))⟩]) .ret) .skip)))))))))) (.seq (.seq (.ops [⟨(some 79), none, (.load none (.tmp 6))⟩]) (.ops [⟨(some 6), none, (.alloc [(.sv (.int .i64 0))])⟩, ⟨none, none, (.store 1 (.tmp 6) (.tmp 79))⟩])) (.ops [⟨(some 35), none, (.load none (.tmp 6))⟩, ⟨(some 36), none, (.bin .mul (.tmp 35) (.const (.one (.int .i64 2))))⟩, ⟨none, none, (.store 1 (.tmp 6) (.tmp 36))⟩])))
def c22 : AF := ⟨[(2, none)],
  (.seq (.ops [⟨(some 1), none, (.box (.tmp 0))⟩, ⟨(some 2), none, (.newNil (.ints .i64 []))⟩]) (.seq (.opsF [(⟨(some 12), none, (.load none (.tmp 1))⟩, (false, none)), (⟨(some 13), none, (.lenS (.tmp 12))⟩, (false, none)), (⟨(some 14), none, (.mks (.ints .i64 []) [(.int .i64 0)] 8 (.tmp 13) (.tmp 13))⟩, (false, (some 0))), (⟨(some 15), none, (.load none (.tmp 1))⟩, (false, none)), (⟨(some 16), none, (.lenS (.tmp 15))⟩, (false, none)), (⟨(some 17), none, (.mks (.ints .i64 []) [(.int .i64 0)] 8 (.tmp 16) (.tmp 16))⟩, (false, (some 1))), (⟨(some 4), none, (.alloc [(.sv (.nils (.ints .i64 [])))])⟩, (false, (some 2))), (⟨(some 3), none, (.mv (.tmp 14))⟩, (false, none)), (⟨none, none, (.store 1 (.tmp 4) (.tmp 17))⟩, (true, none))] [] [(2, [0]), (5, [0]), (6, [0])]) (.seq (.seq (.ops [⟨(some 18), none, (.load none (.tmp 1))⟩, ⟨(some 19), none, (.lenS (.tmp 18))⟩, ⟨(some 20), none, (.mv (.const (.one (.int .i64 0))))⟩]) (.block 0 (.loop [1, 3, 4, 19, 20] b22x0))) (.seq (.ops [⟨(some 6), none, (.alloc [(.sv (.int .i64 0))])⟩, ⟨none, none, (.store 1 (.tmp 6) (.const (.one (.int .i64 1))))⟩]) (.block 2 (.loop [1, 3, 4, 6] b22x2))))))⟩
abbrev T22 : Nat → Callee := (upd (upd (upd (upd none0 25 F25) 32 F32) 33 F33) 36 F36)
def F22 : Callee := evF T22 KK c22
theorem s22 : Sound Go.Proofs.Try.prog 22 F22 := fn_ok (upd_ok (upd_ok (upd_ok (upd_ok (none0_ok _) s25) s32) s33) s36) mixed (by kernel_rfl)
def b23x0 : AC := (.seq (.seq (.opsD [(⟨(some 26), none, (.mv (.tmp 1))⟩, false), (⟨(some 27), none, (.mv (.tmp 2))⟩, false), (⟨(some 28), none, (.max [(.tmp 26), (.tmp 27)])⟩, false), (⟨(some 29), none, (.mv (.tmp 0))⟩, false), (⟨(some 30), none, (.lenS (.tmp 29))⟩, false), (⟨(some 31), none, (.mv (.tmp 7))⟩, false), (⟨(some 32), none, (.bin .sub (.tmp 30) (.tmp 31))⟩, false), (⟨(some 33), none, (.bin .lss (.tmp 28) (.tmp 32))⟩, false), (⟨(some 34), none, (.mv (.tmp 33))⟩, false), (⟨(some 35), (some (34, true)), (.mv (.tmp 0))⟩, false), (⟨(some 36), (some (34, true)), (.mv (.tmp 1))⟩, false), (⟨(some 37), (some (34, true)), (.mv (.tmp 7))⟩, false), (⟨(some 38), (some (34, true)), (.bin .add (.tmp 36) (.tmp 37))⟩, false), (⟨(some 39), (some (34, true)), (.idxS (.tmp 35) (.tmp 38))⟩, false), (⟨(some 40), (some (34, true)), (.mv (.tmp 0))⟩, false), (⟨(some 41), (some (34, true)), (.mv (.tmp 2))⟩, false), (⟨(some 42), (some (34, true)), (.mv (.tmp 7))⟩, false), (⟨(some 43), (some (34, true)), (.bin .add (.tmp 41) (.tmp 42))⟩, false), (⟨(some 44), (some (34, true)), (.idxS (.tmp 40) (.tmp 43))⟩, false), (⟨(some 45), (some (34, true)), (.bin .eql (.tmp 39) (.tmp 44))⟩, false), (⟨(some 46), none, (.pick (.tmp 34) (.tmp 45) (.const (.one (.bool false))))⟩, false)] []) (.cond (.tmp 46) .skip (.exit 0))) (.block 1 (.ops [⟨(some 47), none, (.mv (.tmp 7))⟩, ⟨(some 48), none, (.bin .add (.tmp 47) (.const (.one (.int .i64 1))))⟩, ⟨(some 7), none, (.mv (.tmp 48))⟩])))
def c23 : AF := ⟨[(6, none)],
  (.seq (.ops [⟨(some 6), none, (.mv (.const (.one (.int .i64 0))))⟩]) (.seq (.seq (.ops [⟨(some 8), none, (.mv (.tmp 1))⟩, ⟨(some 9), none, (.bin .lss (.tmp 8) (.const (.one (.int .i64 0))))⟩, ⟨(some 10), none, (.mv (.tmp 9))⟩, ⟨(some 11), (some (10, false)), (.mv (.tmp 2))⟩, ⟨(some 12), (some (10, false)), (.bin .lss (.tmp 11) (.const (.one (.int .i64 0))))⟩, ⟨(some 13), none, (.pick (.tmp 10) (.const (.one (.bool true))) (.tmp 12))⟩, ⟨(some 14), none, (.mv (.tmp 13))⟩, ⟨(some 15), (some (14, false)), (.mv (.tmp 1))⟩, ⟨(some 16), (some (14, false)), (.mv (.tmp 0))⟩, ⟨(some 17), (some (14, false)), (.lenS (.tmp 16))⟩, ⟨(some 18), (some (14, false)), (.bin .gtr (.tmp 15) (.tmp 17))⟩, ⟨(some 19), none, (.pick (.tmp 14) (.const (.one (.bool true))) (.tmp 18))⟩, ⟨(some 20), none, (.mv (.tmp 19))⟩, ⟨(some 21), (some (20, false)), (.mv (.tmp 2))⟩, ⟨(some 22), (some (20, false)), (.mv (.tmp 0))⟩, ⟨(some 23), (some (20, false)), (.lenS (.tmp 22))⟩, ⟨(some 24), (some (20, false)), (.bin .gtr (.tmp 21) (.tmp 23))⟩, ⟨(some 25), none, (.pick (.tmp 20) (.const (.one (.bool true))) (.tmp 24))⟩]) (.cond (.tmp 25) (.seq (.ops [⟨(some 6), none, (.mv (.const (.one (.int .i64 0))))⟩]) .ret) .skip)) (.seq (.ops [⟨(some 7), none, (.mv (.const (.one (.int .i64 0))))⟩]) (.seq (.block 0 (.loop [0, 1, 2, 7] b23x0)) (.seq (.ops [⟨(some 49), none, (.mv (.tmp 7))⟩, ⟨(some 6), none, (.mv (.tmp 49))⟩]) .ret)))))⟩
abbrev T23 : Nat → Callee := none0
def F23 : Callee := evF T23 KK c23
theorem s23 : Sound Go.Proofs.Try.prog 23 F23 := fn_ok (none0_ok _) mixed (by kernel_rfl)
def b7x0 : AC := (.seq (.seq (.ops [⟨(some 18), none, (.mv (.tmp 4))⟩, ⟨(some 19), none, (.mv (.tmp 3))⟩, ⟨(some 20), none, (.nilCheck (.tmp 19))⟩, ⟨(some 21), none, (.fadr 1 (.tmp 20))⟩, ⟨(some 22), none, (.load none (.tmp 21))⟩, ⟨(some 23), none, (.len (.tmp 22))⟩, ⟨(some 24), none, (.bin .lss (.tmp 18) (.tmp 23))⟩]) (.cond (.tmp 24) .skip (.exit 0))) (.seq (.block 1 (.opsD [(⟨(some 27), none, (.mv (.tmp 3))⟩, false), (⟨(some 28), none, (.nilCheck (.tmp 27))⟩, false), (⟨(some 29), none, (.fadr 2 (.tmp 28))⟩, false), (⟨(some 30), none, (.load none (.tmp 29))⟩, false), (⟨(some 31), none, (.mv (.tmp 4))⟩, false), (⟨(some 32), none, (.mv (.tmp 0))⟩, false), (⟨(some 33), none, (.mv (.tmp 3))⟩, false), (⟨(some 34), none, (.nilCheck (.tmp 33))⟩, false), (⟨(some 35), none, (.fadr 1 (.tmp 34))⟩, false), (⟨(some 36), none, (.load none (.tmp 35))⟩, false), (⟨(some 37), none, (.mv (.tmp 4))⟩, false), (⟨(some 38), none, (.bin .sub (.tmp 37) (.const (.one (.int .i64 1))))⟩, false), (⟨(some 39), none, (.iadrR 1 (.tmp 36) (.tmp 38))⟩, false), (⟨(some 40), none, (.load none (.tmp 39))⟩, false), (⟨(some 41), none, (.mv (.tmp 3))⟩, false), (⟨(some 42), none, (.nilCheck (.tmp 41))⟩, false), (⟨(some 43), none, (.fadr 1 (.tmp 42))⟩, false), (⟨(some 44), none, (.load none (.tmp 43))⟩, false), (⟨(some 45), none, (.mv (.tmp 4))⟩, false), (⟨(some 46), none, (.iadrR 1 (.tmp 44) (.tmp 45))⟩, false), (⟨(some 47), none, (.load none (.tmp 46))⟩, false), (⟨(some 48), none, (.call 23 [(.tmp 32), (.tmp 40), (.tmp 47)])⟩, true), (⟨(some 49), none, (.iadrR 1 (.tmp 30) (.tmp 31))⟩, false), (⟨none, none, (.store 1 (.tmp 49) (.tmp 48))⟩, true)] [(3, [1])])) (.ops [⟨(some 25), none, (.mv (.tmp 4))⟩, ⟨(some 26), none, (.bin .add (.tmp 25) (.const (.one (.int .i64 1))))⟩, ⟨(some 4), none, (.mv (.tmp 26))⟩])))
def c7 : AF := ⟨[(2, none)],
  (.seq (.ops [⟨(some 2), none, (.mv (.const (.one .nilp)))⟩]) (.seq (.ops [⟨(some 5), none, (.mv (.tmp 0))⟩, ⟨(some 6), none, (.mv (.tmp 0))⟩, ⟨(some 7), none, (.lenS (.tmp 6))⟩, ⟨(some 8), none, (.min [(.tmp 7), (.const (.one (.int .i64 1000)))])⟩, ⟨(some 9), none, (.cutS (.tmp 5) none (some (.tmp 8)))⟩, ⟨(some 0), none, (.mv (.tmp 9))⟩]) (.seq (.opsF [(⟨(some 10), none, (.mv (.tmp 0))⟩, (false, none)), (⟨(some 11), none, (.mv (.tmp 0))⟩, (false, none)), (⟨(some 12), none, (.call 22 [(.tmp 11)])⟩, (true, none)), (⟨(some 13), none, (.mv (.tmp 0))⟩, (false, none)), (⟨(some 14), none, (.lenS (.tmp 13))⟩, (false, none)), (⟨(some 15), none, (.mks (.ints .i64 []) [(.int .i64 0)] 8 (.tmp 14) (.tmp 14))⟩, (false, (some 0))), (⟨(some 16), none, (.build [(.sv (.str ⟨#[]⟩)), (.sv (.nils (.ints .i64 []))), (.sv (.nils (.ints .i64 [])))] [((0, 1), (.tmp 10)), ((1, 1), (.tmp 12)), ((2, 1), (.tmp 15))])⟩, (false, none)), (⟨(some 17), none, (.box (.tmp 16))⟩, (true, none)), (⟨(some 3), none, (.mv (.tmp 17))⟩, (false, none))] [] [(5, [1, 0])]) (.seq (.seq (.ops [⟨(some 4), none, (.mv (.const (.one (.int .i64 1))))⟩]) (.block 0 (.loop [0, 3, 4] b7x0))) (.seq (.ops [⟨(some 50), none, (.mv (.tmp 3))⟩, ⟨(some 2), none, (.mv (.tmp 50))⟩]) .ret)))))⟩
abbrev T7 : Nat → Callee := (upd (upd none0 22 F22) 23 F23)
def F7 : Callee := evF T7 KK c7
theorem s7 : Sound Go.Proofs.Try.prog 7 F7 := fn_ok (upd_ok (upd_ok (none0_ok _) s22) s23) mixed (by kernel_rfl)
def c9 : AF := ⟨[(2, none)],
  (.seq (.ops [⟨(some 2), none, (.mv (.const (.one (.int .i64 0))))⟩]) (.seq (.seq (.ops [⟨(some 3), none, (.mv (.tmp 0))⟩, ⟨(some 4), none, (.eqNil false (.tmp 3))⟩]) (.cond (.tmp 4) (.seq (.ops [⟨(some 2), none, (.mv (.const (.one (.int .i64 0))))⟩]) .ret) .skip)) (.seq (.ops [⟨(some 5), none, (.mv (.tmp 0))⟩, ⟨(some 6), none, (.nilCheck (.tmp 5))⟩, ⟨(some 7), none, (.fadr 1 (.tmp 6))⟩, ⟨(some 8), none, (.load none (.tmp 7))⟩, ⟨(some 9), none, (.len (.tmp 8))⟩, ⟨(some 2), none, (.mv (.tmp 9))⟩]) .ret)))⟩
abbrev T9 : Nat → Callee := none0
def F9 : Callee := evF T9 0 c9
theorem s9 : Sound Go.Proofs.Try.prog 9 F9 := fn_ok (none0_ok _) mixed (by kernel_rfl)
def c10 : AF := ⟨[(4, none), (5, none)],
  (.seq (.ops [⟨(some 4), none, (.mv (.const (.one (.int .i64 0))))⟩, ⟨(some 5), none, (.mv (.const (.one (.bool false))))⟩]) (.seq (.seq (.ops [⟨(some 6), none, (.mv (.tmp 1))⟩, ⟨(some 7), none, (.bin .lss (.tmp 6) (.const (.one (.int .i64 0))))⟩, ⟨(some 8), none, (.mv (.tmp 7))⟩, ⟨(some 9), (some (8, false)), (.mv (.tmp 1))⟩, ⟨(some 10), (some (8, false)), (.mv (.tmp 0))⟩, ⟨(some 11), (some (8, false)), (.call 9 [(.tmp 10)])⟩, ⟨(some 12), (some (8, false)), (.bin .geq (.tmp 9) (.tmp 11))⟩, ⟨(some 13), none, (.pick (.tmp 8) (.const (.one (.bool true))) (.tmp 12))⟩]) (.cond (.tmp 13) (.seq (.ops [⟨(some 4), none, (.mv (.const (.one (.int .i64 0))))⟩, ⟨(some 5), none, (.mv (.const (.one (.bool false))))⟩]) .ret) .skip)) (.seq (.ops [⟨(some 14), none, (.mv (.tmp 0))⟩, ⟨(some 15), none, (.nilCheck (.tmp 14))⟩, ⟨(some 16), none, (.fadr 1 (.tmp 15))⟩, ⟨(some 17), none, (.load none (.tmp 16))⟩, ⟨(some 18), none, (.mv (.tmp 1))⟩, ⟨(some 19), none, (.iadrR 1 (.tmp 17) (.tmp 18))⟩, ⟨(some 20), none, (.load none (.tmp 19))⟩, ⟨(some 4), none, (.mv (.tmp 20))⟩, ⟨(some 5), none, (.mv (.const (.one (.bool true))))⟩]) .ret)))⟩
abbrev T10 : Nat → Callee := (upd none0 9 F9)
def F10 : Callee := evF T10 0 c10
theorem s10 : Sound Go.Proofs.Try.prog 10 F10 := fn_ok (upd_ok (none0_ok _) s9) mixed (by kernel_rfl)
def c12 : AF := ⟨[(4, none)],
  (.seq (.ops [⟨(some 4), none, (.mv (.const (.one (.int .i64 0))))⟩]) (.seq (.seq (.ops [⟨(some 5), none, (.mv (.tmp 1))⟩, ⟨(some 6), none, (.bin .lss (.tmp 5) (.const (.one (.int .i64 0))))⟩, ⟨(some 7), none, (.mv (.tmp 6))⟩, ⟨(some 8), (some (7, false)), (.mv (.tmp 1))⟩, ⟨(some 9), (some (7, false)), (.mv (.tmp 0))⟩, ⟨(some 10), (some (7, false)), (.call 9 [(.tmp 9)])⟩, ⟨(some 11), (some (7, false)), (.bin .geq (.tmp 8) (.tmp 10))⟩, ⟨(some 12), none, (.pick (.tmp 7) (.const (.one (.bool true))) (.tmp 11))⟩]) (.cond (.tmp 12) (.seq (.ops [⟨(some 4), none, (.mv (.const (.one (.int .i64 0))))⟩]) .ret) .skip)) (.seq (.ops [⟨(some 13), none, (.mv (.tmp 0))⟩, ⟨(some 14), none, (.nilCheck (.tmp 13))⟩, ⟨(some 15), none, (.fadr 2 (.tmp 14))⟩, ⟨(some 16), none, (.load none (.tmp 15))⟩, ⟨(some 17), none, (.mv (.tmp 1))⟩, ⟨(some 18), none, (.iadrR 1 (.tmp 16) (.tmp 17))⟩, ⟨(some 19), none, (.load none (.tmp 18))⟩, ⟨(some 4), none, (.mv (.tmp 19))⟩]) .ret)))⟩
abbrev T12 : Nat → Callee := (upd none0 9 F9)
def F12 : Callee := evF T12 0 c12
theorem s12 : Sound Go.Proofs.Try.prog 12 F12 := fn_ok (upd_ok (none0_ok _) s9) mixed (by kernel_rfl)
def b24x0 : AC := (.seq (.seq (.ops [⟨(some 15), none, (.mv (.tmp 9))⟩, ⟨(some 16), none, (.mv (.tmp 10))⟩, ⟨(some 17), none, (.bin .lss (.tmp 15) (.tmp 16))⟩]) (.cond (.tmp 17) .skip (.exit 0))) (.block 1 (.seq (.ops [⟨(some 18), none, (.mv (.tmp 9))⟩, ⟨(some 19), none, (.mv (.tmp 10))⟩, ⟨(some 20), none, (.bin .add (.tmp 18) (.tmp 19))⟩, ⟨(some 21), none, (.conv .u64 (.tmp 20))⟩, ⟨(some 22), none, (.bin .shr (.tmp 21) (.const (.one (.int .u64 1))))⟩, ⟨(some 23), none, (.conv .i64 (.tmp 22))⟩, ⟨(some 11), none, (.mv (.tmp 23))⟩]) (.seq (.ops [⟨(some 24), none, (.mv (.tmp 2))⟩, ⟨(some 25), none, (.mv (.tmp 0))⟩, ⟨(some 26), none, (.mv (.tmp 11))⟩, ⟨(some 27), none, (.iadrR 1 (.tmp 25) (.tmp 26))⟩, ⟨(some 28), none, (.load none (.tmp 27))⟩, ⟨(some 29), none, (.mv (.tmp 1))⟩, ⟨(some 30), none, (.callv (.tmp 24) [(.tmp 28), (.tmp 29)])⟩, ⟨(some 31), none, (.bin .lss (.tmp 30) (.const (.one (.int .i64 0))))⟩]) (.cond (.tmp 31) (.ops [⟨(some 32), none, (.mv (.tmp 11))⟩, ⟨(some 33), none, (.bin .add (.tmp 32) (.const (.one (.int .i64 1))))⟩, ⟨(some 9), none, (.mv (.tmp 33))⟩]) (.ops [⟨(some 34), none, (.mv (.tmp 11))⟩, ⟨(some 10), none, (.mv (.tmp 34))⟩]))))))
def c24 : AF := ⟨[(6, none), (7, none)],
  (.seq (.ops [⟨(some 6), none, (.mv (.const (.one (.int .i64 0))))⟩, ⟨(some 7), none, (.mv (.const (.one (.bool false))))⟩]) (.seq (.ops [⟨(some 12), none, (.mv (.tmp 0))⟩, ⟨(some 13), none, (.len (.tmp 12))⟩, ⟨(some 8), none, (.mv (.tmp 13))⟩]) (.seq (.ops [⟨(some 14), none, (.mv (.tmp 8))⟩, ⟨(some 9), none, (.mv (.const (.one (.int .i64 0))))⟩, ⟨(some 10), none, (.mv (.tmp 14))⟩]) (.seq (.block 0 (.loop [0, 1, 2, 8, 9, 10] b24x0)) (.seq (.ops [⟨(some 35), none, (.mv (.tmp 9))⟩, ⟨(some 36), none, (.mv (.tmp 9))⟩, ⟨(some 37), none, (.mv (.tmp 8))⟩, ⟨(some 38), none, (.bin .lss (.tmp 36) (.tmp 37))⟩, ⟨(some 39), none, (.mv (.tmp 38))⟩, ⟨(some 40), (some (39, true)), (.mv (.tmp 2))⟩, ⟨(some 41), (some (39, true)), (.mv (.tmp 0))⟩, ⟨(some 42), (some (39, true)), (.mv (.tmp 9))⟩, ⟨(some 43), (some (39, true)), (.iadrR 1 (.tmp 41) (.tmp 42))⟩, ⟨(some 44), (some (39, true)), (.load none (.tmp 43))⟩, ⟨(some 45), (some (39, true)), (.mv (.tmp 1))⟩, ⟨(some 46), (some (39, true)), (.callv (.tmp 40) [(.tmp 44), (.tmp 45)])⟩, ⟨(some 47), (some (39, true)), (.bin .eql (.tmp 46) (.const (.one (.int .i64 0))))⟩, ⟨(some 48), none, (.pick (.tmp 39) (.tmp 47) (.const (.one (.bool false))))⟩, ⟨(some 6), none, (.mv (.tmp 35))⟩, ⟨(some 7), none, (.mv (.tmp 48))⟩]) .ret)))))⟩
abbrev T24 : Nat → Callee := (upd (upd none0 25 F25) 32 F32)
def F24 : Callee := evF T24 KK c24
theorem s24 : Sound Go.Proofs.Try.prog 24 F24 := fn_ok (upd_ok (upd_ok (none0_ok _) s25) s32) mixed (by kernel_rfl)
def c38 : AF := ⟨[(4, none)],
  (.seq (.ops [⟨(some 4), none, (.mv (.const (.one (.bool false))))⟩]) (.seq (.ops [⟨(some 5), none, (.mv (.tmp 0))⟩, ⟨(some 6), none, (.lenS (.tmp 5))⟩, ⟨(some 7), none, (.mv (.tmp 1))⟩, ⟨(some 8), none, (.lenS (.tmp 7))⟩, ⟨(some 9), none, (.bin .geq (.tmp 6) (.tmp 8))⟩, ⟨(some 10), none, (.mv (.tmp 9))⟩, ⟨(some 11), (some (10, true)), (.mv (.tmp 0))⟩, ⟨(some 12), (some (10, true)), (.mv (.tmp 1))⟩, ⟨(some 13), (some (10, true)), (.lenS (.tmp 12))⟩, ⟨(some 14), (some (10, true)), (.cutS (.tmp 11) none (some (.tmp 13)))⟩, ⟨(some 15), (some (10, true)), (.mv (.tmp 1))⟩, ⟨(some 16), (some (10, true)), (.bin .eql (.tmp 14) (.tmp 15))⟩, ⟨(some 17), none, (.pick (.tmp 10) (.tmp 16) (.const (.one (.bool false))))⟩, ⟨(some 4), none, (.mv (.tmp 17))⟩]) .ret))⟩
abbrev T38 : Nat → Callee := none0
def F38 : Callee := evF T38 0 c38
theorem s38 : Sound Go.Proofs.Try.prog 38 F38 := fn_ok (none0_ok _) mixed (by kernel_rfl)
def c27 : AF := ⟨[(4, none)],
  (.seq (.ops [⟨(some 4), none, (.mv (.const (.one (.bool false))))⟩]) (.seq (.ops [⟨(some 5), none, (.mv (.tmp 0))⟩, ⟨(some 6), none, (.mv (.tmp 1))⟩, ⟨(some 7), none, (.call 38 [(.tmp 5), (.tmp 6)])⟩, ⟨(some 4), none, (.mv (.tmp 7))⟩]) .ret))⟩
abbrev T27 : Nat → Callee := (upd none0 38 F38)
def F27 : Callee := evF T27 0 c27
theorem s27 : Sound Go.Proofs.Try.prog 27 F27 := fn_ok (upd_ok (none0_ok _) s38) mixed (by kernel_rfl)
def b14x0 : AC := (.seq (.seq (.opsD [(⟨(some 22), none, (.mv (.tmp 8))⟩, false), (⟨(some 23), none, (.load none (.tmp 2))⟩, false), (⟨(some 24), none, (.nilCheck (.tmp 23))⟩, false), (⟨(some 25), none, (.fadr 1 (.tmp 24))⟩, false), (⟨(some 26), none, (.load none (.tmp 25))⟩, false), (⟨(some 27), none, (.len (.tmp 26))⟩, false), (⟨(some 28), none, (.bin .lss (.tmp 22) (.tmp 27))⟩, false), (⟨(some 29), none, (.mv (.tmp 28))⟩, false), (⟨(some 30), (some (29, true)), (.load none (.tmp 2))⟩, false), (⟨(some 31), (some (29, true)), (.nilCheck (.tmp 30))⟩, false), (⟨(some 32), (some (29, true)), (.fadr 0 (.tmp 31))⟩, false), (⟨(some 33), (some (29, true)), (.load none (.tmp 32))⟩, false), (⟨(some 34), (some (29, true)), (.load none (.tmp 2))⟩, false), (⟨(some 35), (some (29, true)), (.nilCheck (.tmp 34))⟩, false), (⟨(some 36), (some (29, true)), (.fadr 1 (.tmp 35))⟩, false), (⟨(some 37), (some (29, true)), (.load none (.tmp 36))⟩, false), (⟨(some 38), (some (29, true)), (.mv (.tmp 8))⟩, false), (⟨(some 39), (some (29, true)), (.iadrR 1 (.tmp 37) (.tmp 38))⟩, false), (⟨(some 40), (some (29, true)), (.load none (.tmp 39))⟩, false), (⟨(some 41), (some (29, true)), (.cutS (.tmp 33) (some (.tmp 40)) none)⟩, false), (⟨(some 42), (some (29, true)), (.mv (.tmp 1))⟩, false), (⟨(some 43), (some (29, true)), (.call 27 [(.tmp 41), (.tmp 42)])⟩, true), (⟨(some 44), none, (.pick (.tmp 29) (.tmp 43) (.const (.one (.bool false))))⟩, false)] []) (.cond (.tmp 44) .skip (.exit 0))) (.block 1 (.ops [⟨(some 45), none, (.mv (.tmp 8))⟩, ⟨(some 46), none, (.bin .add (.tmp 45) (.const (.one (.int .i64 1))))⟩, ⟨(some 8), none, (.mv (.tmp 46))⟩])))
def c14 : AF := ⟨[(4, none), (5, none)],
  (.seq (.ops [⟨(some 2), none, (.box (.tmp 0))⟩, ⟨(some 4), none, (.mv (.const (.one (.int .i64 0))))⟩, ⟨(some 5), none, (.mv (.const (.one (.int .i64 0))))⟩]) (.seq (.seq (.ops [⟨(some 9), none, (.load none (.tmp 2))⟩, ⟨(some 10), none, (.eqNil false (.tmp 9))⟩]) (.cond (.tmp 10) (.seq (.ops [⟨(some 4), none, (.mv (.const (.one (.int .i64 0))))⟩, ⟨(some 5), none, (.mv (.const (.one (.int .i64 0))))⟩]) .ret) .skip)) (.seq (.ops [⟨(some 12), none, (.load none (.tmp 2))⟩, ⟨(some 13), none, (.nilCheck (.tmp 12))⟩, ⟨(some 14), none, (.fadr 1 (.tmp 13))⟩, ⟨(some 15), none, (.load none (.tmp 14))⟩, ⟨(some 16), none, (.mv (.tmp 1))⟩, ⟨(some 17), none, (.mkfn 25 [(.tmp 2)])⟩, ⟨(some 18), none, (.call 24 [(.tmp 15), (.tmp 16), (.tmp 17)])⟩, ⟨(some 11), none, (.mv (.tmp 18))⟩, ⟨(some 19), none, (.extract 0 (.tmp 11))⟩, ⟨(some 20), none, (.extract 1 (.tmp 11))⟩, ⟨(some 6), none, (.mv (.tmp 19))⟩, ⟨(some 7), none, (.mv (.tmp 20))⟩]) (.seq (.ops [⟨(some 21), none, (.mv (.tmp 6))⟩, ⟨(some 8), none, (.mv (.tmp 21))⟩]) (.seq (.block 0 (.loop [1, 2, 6, 8] b14x0)) (.seq (.ops [⟨(some 47), none, (.mv (.tmp 6))⟩, ⟨(some 48), none, (.mv (.tmp 8))⟩, ⟨(some 4), none, (.mv (.tmp 47))⟩, ⟨(some 5), none, (.mv (.tmp 48))⟩]) .ret))))))⟩
abbrev T14 : Nat → Callee := (upd (upd (upd none0 24 F24) 25 F25) 27 F27)
def F14 : Callee := evF T14 KK c14
theorem s14 : Sound Go.Proofs.Try.prog 14 F14 := fn_ok (upd_ok (upd_ok (upd_ok (none0_ok _) s24) s25) s27) mixed (by kernel_rfl)
def F28 : Callee := Go.Proofs.cl28
theorem s28 : Sound Go.Proofs.Try.prog 28 F28 := Go.Proofs.w28
def F29 : Callee := Go.Proofs.srt29
theorem s29 : Sound Go.Proofs.Try.prog 29 F29 := Go.Proofs.w29
def c16 : AF := ⟨[(4, none)],
  (.seq (.ops [⟨(some 4), none, (.newNil (.ints .i64 []))⟩]) (.seq (.ops [⟨(some 9), none, (.mv (.tmp 0))⟩, ⟨(some 10), none, (.mv (.tmp 1))⟩, ⟨(some 11), none, (.call 14 [(.tmp 9), (.tmp 10)])⟩, ⟨(some 8), none, (.mv (.tmp 11))⟩, ⟨(some 12), none, (.extract 0 (.tmp 8))⟩, ⟨(some 13), none, (.extract 1 (.tmp 8))⟩, ⟨(some 5), none, (.mv (.tmp 12))⟩, ⟨(some 6), none, (.mv (.tmp 13))⟩]) (.seq (.seq (.ops [⟨(some 14), none, (.mv (.tmp 0))⟩, ⟨(some 15), none, (.eqNil false (.tmp 14))⟩, ⟨(some 16), none, (.mv (.tmp 15))⟩, ⟨(some 17), (some (16, false)), (.mv (.tmp 5))⟩, ⟨(some 18), (some (16, false)), (.mv (.tmp 6))⟩, ⟨(some 19), (some (16, false)), (.bin .eql (.tmp 17) (.tmp 18))⟩, ⟨(some 20), none, (.pick (.tmp 16) (.const (.one (.bool true))) (.tmp 19))⟩]) (.cond (.tmp 20) (.seq (.ops [⟨(some 4), none, (.newNil (.ints .i64 []))⟩]) .ret) .skip)) (.seq (.ops [⟨(some 21), none, (.mv (.tmp 0))⟩, ⟨(some 22), none, (.nilCheck (.tmp 21))⟩, ⟨(some 23), none, (.fadr 1 (.tmp 22))⟩, ⟨(some 24), none, (.load none (.tmp 23))⟩, ⟨(some 25), none, (.mv (.tmp 5))⟩, ⟨(some 26), none, (.mv (.tmp 6))⟩, ⟨(some 27), none, (.cutR 1 (.tmp 24) (some (.tmp 25)) (some (.tmp 26)))⟩, ⟨(some 28), none, (.call 28 [(.tmp 27)])⟩, ⟨(some 7), none, (.mv (.tmp 28))⟩]) (.seq (.ops [⟨(some 29), none, (.mv (.tmp 7))⟩, ⟨(some 30), none, (.calli 29 [(.tmp 29)])⟩]) (.seq (.ops [⟨(some 31), none, (.mv (.tmp 7))⟩, ⟨(some 4), none, (.mv (.tmp 31))⟩]) .ret))))))⟩
abbrev T16 : Nat → Callee := (upd (upd (upd none0 14 F14) 28 F28) 29 F29)
def F16 : Callee := evF T16 0 c16
theorem s16 : Sound Go.Proofs.Try.prog 16 F16 := fn_ok (upd_ok (upd_ok (upd_ok (none0_ok _) s14) s28) s29) mixed (by kernel_rfl)
def b30x0 : AC := (.seq (.seq (.ops [⟨(some 12), none, (.mv (.tmp 4))⟩, ⟨(some 13), none, (.mv (.tmp 0))⟩, ⟨(some 14), none, (.len (.tmp 13))⟩, ⟨(some 15), none, (.bin .lss (.tmp 12) (.tmp 14))⟩]) (.cond (.tmp 15) .skip (.exit 0))) (.seq (.block 1 (.ops [⟨(some 18), none, (.mv (.tmp 3))⟩, ⟨(some 19), none, (.mv (.tmp 0))⟩, ⟨(some 20), none, (.mv (.tmp 4))⟩, ⟨(some 21), none, (.iadrR 1 (.tmp 19) (.tmp 20))⟩, ⟨(some 22), none, (.load none (.tmp 21))⟩, ⟨(some 23), none, (.max [(.tmp 18), (.tmp 22)])⟩, ⟨(some 3), none, (.mv (.tmp 23))⟩])) (.ops [⟨(some 16), none, (.mv (.tmp 4))⟩, ⟨(some 17), none, (.bin .add (.tmp 16) (.const (.one (.int .i64 1))))⟩, ⟨(some 4), none, (.mv (.tmp 17))⟩])))
def c30 : AF := ⟨[(2, none)],
  (.seq (.ops [⟨(some 2), none, (.mv (.const (.one (.int .i64 0))))⟩]) (.seq (.seq (.ops [⟨(some 5), none, (.mv (.tmp 0))⟩, ⟨(some 6), none, (.len (.tmp 5))⟩, ⟨(some 7), none, (.bin .lss (.tmp 6) (.const (.one (.int .i64 1))))⟩]) (.cond (.tmp 7) (.ops [⟨(some 8), none, .bad⟩, ⟨none, none, .bad⟩]) .skip)) (.seq (.ops [⟨(some 9), none, (.mv (.tmp 0))⟩, ⟨(some 10), none, (.iadrR 1 (.tmp 9) (.const (.one (.int .i64 0))))⟩, ⟨(some 11), none, (.load none (.tmp 10))⟩, ⟨(some 3), none, (.mv (.tmp 11))⟩]) (.seq (.seq (.ops [⟨(some 4), none, (.mv (.const (.one (.int .i64 1))))⟩]) (.block 0 (.loop [0, 3, 4] b30x0))) (.seq (.ops [⟨(some 24), none, (.mv (.tmp 3))⟩, ⟨(some 2), none, (.mv (.tmp 24))⟩]) .ret)))))⟩
abbrev T30 : Nat → Callee := none0
def F30 : Callee := evF T30 KK c30
theorem s30 : Sound Go.Proofs.Try.prog 30 F30 := fn_ok (none0_ok _) mixed (by kernel_rfl)
def b31x0 : AC := (.seq (.ops [⟨(some 9), none, (.bin .lss (.tmp 8) (.tmp 7))⟩]) (.seq (.cond (.tmp 9) .skip (.exit 0)) (.seq (.block 1 (.seq (.ops [⟨(some 10), none, (.mv (.tmp 8))⟩, ⟨(some 5), none, (.mv (.tmp 10))⟩]) (.seq (.ops [⟨(some 11), none, (.mv (.tmp 1))⟩, ⟨(some 12), none, (.mv (.tmp 0))⟩, ⟨(some 13), none, (.mv (.tmp 5))⟩, ⟨(some 14), none, (.iadrR 1 (.tmp 12) (.tmp 13))⟩, ⟨(some 15), none, (.load none (.tmp 14))⟩, ⟨(some 16), none, (.bin .eql (.tmp 11) (.tmp 15))⟩]) (.cond (.tmp 16) (.seq (.ops [⟨(some 17), none, (.mv (.tmp 5))⟩, ⟨(some 4), none, (.mv (.tmp 17))⟩]) .ret) .skip)))) (.ops [⟨(some 18), none, (.bin .add (.tmp 8) (.const (.one (.int .i64 1))))⟩, ⟨(some 8), none, (.mv (.tmp 18))⟩]))))
def c31 : AF := ⟨[(4, none)],
  (.seq (.ops [⟨(some 4), none, (.mv (.const (.one (.int .i64 0))))⟩]) (.seq (.seq (.ops [⟨(some 6), none, (.mv (.tmp 0))⟩, ⟨(some 7), none, (.len (.tmp 6))⟩, ⟨(some 8), none, (.mv (.const (.one (.int .i64 0))))⟩]) (.block 0 (.loop [0, 1, 7, 8] b31x0))) (.seq (.ops [⟨(some 4), none, (.mv (.const (.one (.int .i64 (-1)))))⟩]) .ret)))⟩
abbrev T31 : Nat → Callee := none0
def F31 : Callee := evF T31 KK c31
theorem s31 : Sound Go.Proofs.Try.prog 31 F31 := fn_ok (none0_ok _) mixed (by kernel_rfl)
def c18 : AF := ⟨[(2, none), (3, none)],
  (.seq (.ops [⟨(some 2), none, (.mv (.const (.one (.int .i64 0))))⟩, ⟨(some 3), none, (.mv (.const (.one (.int .i64 0))))⟩]) (.seq (.seq (.ops [⟨(some 6), none, (.mv (.tmp 0))⟩, ⟨(some 7), none, (.call 9 [(.tmp 6)])⟩, ⟨(some 8), none, (.bin .eql (.tmp 7) (.const (.one (.int .i64 0))))⟩]) (.cond (.tmp 8) (.seq (.ops [⟨(some 2), none, (.mv (.const (.one (.int .i64 0))))⟩, ⟨(some 3), none, (.mv (.const (.one (.int .i64 0))))⟩]) .ret) .skip)) (.seq (.ops [⟨(some 9), none, (.mv (.tmp 0))⟩, ⟨(some 10), none, (.nilCheck (.tmp 9))⟩, ⟨(some 11), none, (.fadr 2 (.tmp 10))⟩, ⟨(some 12), none, (.load none (.tmp 11))⟩, ⟨(some 13), none, (.call 30 [(.tmp 12)])⟩, ⟨(some 4), none, (.mv (.tmp 13))⟩]) (.seq (.seq (.ops [⟨(some 14), none, (.mv (.tmp 4))⟩, ⟨(some 15), none, (.bin .eql (.tmp 14) (.const (.one (.int .i64 0))))⟩]) (.cond (.tmp 15) (.seq (.ops [⟨(some 2), none, (.mv (.const (.one (.int .i64 0))))⟩, ⟨(some 3), none, (.mv (.const (.one (.int .i64 0))))⟩]) .ret) .skip)) (.seq (.opsD [(⟨(some 16), none, (.mv (.tmp 0))⟩, false), (⟨(some 17), none, (.nilCheck (.tmp 16))⟩, false), (⟨(some 18), none, (.fadr 1 (.tmp 17))⟩, false), (⟨(some 19), none, (.load none (.tmp 18))⟩, false), (⟨(some 20), none, (.mv (.tmp 0))⟩, false), (⟨(some 21), none, (.nilCheck (.tmp 20))⟩, false), (⟨(some 22), none, (.fadr 2 (.tmp 21))⟩, false), (⟨(some 23), none, (.load none (.tmp 22))⟩, false), (⟨(some 24), none, (.mv (.tmp 4))⟩, false), (⟨(some 25), none, (.call 31 [(.tmp 23), (.tmp 24)])⟩, true), (⟨(some 26), none, (.iadrR 1 (.tmp 19) (.tmp 25))⟩, false), (⟨(some 27), none, (.load none (.tmp 26))⟩, false), (⟨(some 5), none, (.mv (.tmp 27))⟩, false)] [(3, [1])]) (.seq (.ops [⟨(some 28), none, (.mv (.tmp 0))⟩, ⟨(some 29), none, (.mv (.tmp 0))⟩, ⟨(some 30), none, (.nilCheck (.tmp 29))⟩, ⟨(some 31), none, (.fadr 0 (.tmp 30))⟩, ⟨(some 32), none, (.load none (.tmp 31))⟩, ⟨(some 33), none, (.mv (.tmp 5))⟩, ⟨(some 34), none, (.mv (.tmp 5))⟩, ⟨(some 35), none, (.mv (.tmp 4))⟩, ⟨(some 36), none, (.bin .add (.tmp 34) (.tmp 35))⟩, ⟨(some 37), none, (.cutS (.tmp 32) (some (.tmp 33)) (some (.tmp 36)))⟩, ⟨(some 38), none, (.call 16 [(.tmp 28), (.tmp 37)])⟩, ⟨(some 39), none, (.iadrR 1 (.tmp 38) (.const (.one (.int .i64 0))))⟩, ⟨(some 40), none, (.load none (.tmp 39))⟩, ⟨(some 41), none, (.mv (.tmp 4))⟩, ⟨(some 2), none, (.mv (.tmp 40))⟩, ⟨(some 3), none, (.mv (.tmp 41))⟩]) .ret))))))⟩
abbrev T18 : Nat → Callee := (upd (upd (upd (upd none0 9 F9) 16 F16) 30 F30) 31 F31)
def F18 : Callee := evF T18 0 c18
theorem s18 : Sound Go.Proofs.Try.prog 18 F18 := fn_ok (upd_ok (upd_ok (upd_ok (upd_ok (none0_ok _) s9) s16) s30) s31) mixed (by kernel_rfl)
def c6 : AF := ⟨[(0, none)],
  (.seq (.ops [⟨(some 0), none, (.mv (.const (.one (.bool false))))⟩]) (.seq (.ops [⟨(some 8), none, (.call 7 [(.const (.one (.str ⟨#[97, 98, 97, 98]⟩)))])⟩, ⟨(some 1), none, (.mv (.tmp 8))⟩]) (.seq (.ops [⟨(some 10), none, (.mv (.tmp 1))⟩, ⟨(some 11), none, (.call 10 [(.tmp 10), (.const (.one (.int .i64 0)))])⟩, ⟨(some 9), none, (.mv (.tmp 11))⟩, ⟨(some 12), none, (.extract 0 (.tmp 9))⟩, ⟨(some 13), none, (.extract 1 (.tmp 9))⟩, ⟨(some 2), none, (.mv (.tmp 12))⟩, ⟨(some 3), none, (.mv (.tmp 13))⟩]) (.seq (.ops [⟨(some 15), none, (.mv (.tmp 1))⟩, ⟨(some 16), none, (.call 10 [(.tmp 15), (.const (.one (.int .i64 1)))])⟩, ⟨(some 14), none, (.mv (.tmp 16))⟩, ⟨(some 17), none, (.extract 0 (.tmp 14))⟩, ⟨(some 18), none, (.extract 1 (.tmp 14))⟩, ⟨(some 4), none, (.mv (.tmp 17))⟩, ⟨(some 5), none, (.mv (.tmp 18))⟩]) (.seq (.ops [⟨(some 20), none, (.mv (.tmp 1))⟩, ⟨(some 21), none, (.call 18 [(.tmp 20)])⟩, ⟨(some 19), none, (.mv (.tmp 21))⟩, ⟨(some 22), none, (.extract 0 (.tmp 19))⟩, ⟨(some 23), none, (.extract 1 (.tmp 19))⟩, ⟨(some 6), none, (.mv (.tmp 22))⟩, ⟨(some 7), none, (.mv (.tmp 23))⟩]) (.seq (.ops [⟨(some 24), none, (.mv (.tmp 3))⟩, ⟨(some 25), none, (.mv (.tmp 24))⟩, ⟨(some 26), (some (25, true)), (.mv (.tmp 5))⟩, ⟨(some 27), none, (.pick (.tmp 25) (.tmp 26) (.const (.one (.bool false))))⟩, ⟨(some 28), none, (.mv (.tmp 27))⟩, ⟨(some 29), (some (28, true)), (.mv (.tmp 2))⟩, ⟨(some 30), (some (28, true)), (.bin .eql (.tmp 29) (.const (.one (.int .i64 2))))⟩, ⟨(some 31), none, (.pick (.tmp 28) (.tmp 30) (.const (.one (.bool false))))⟩, ⟨(some 32), none, (.mv (.tmp 31))⟩, ⟨(some 33), (some (32, true)), (.mv (.tmp 4))⟩, ⟨(some 34), (some (32, true)), (.bin .eql (.tmp 33) (.const (.one (.int .i64 0))))⟩, ⟨(some 35), none, (.pick (.tmp 32) (.tmp 34) (.const (.one (.bool false))))⟩, ⟨(some 36), none, (.mv (.tmp 35))⟩, ⟨(some 37), (some (36, true)), (.mv (.tmp 1))⟩, ⟨(some 38), (some (36, true)), (.call 12 [(.tmp 37), (.const (.one (.int .i64 1)))])⟩, ⟨(some 39), (some (36, true)), (.bin .eql (.tmp 38) (.const (.one (.int .i64 2))))⟩, ⟨(some 40), none, (.pick (.tmp 36) (.tmp 39) (.const (.one (.bool false))))⟩, ⟨(some 41), none, (.mv (.tmp 40))⟩, ⟨(some 42), (some (41, true)), (.mv (.tmp 6))⟩, ⟨(some 43), (some (41, true)), (.bin .eql (.tmp 42) (.const (.one (.int .i64 0))))⟩, ⟨(some 44), none, (.pick (.tmp 41) (.tmp 43) (.const (.one (.bool false))))⟩, ⟨(some 45), none, (.mv (.tmp 44))⟩, ⟨(some 46), (some (45, true)), (.mv (.tmp 7))⟩, ⟨(some 47), (some (45, true)), (.bin .eql (.tmp 46) (.const (.one (.int .i64 2))))⟩, ⟨(some 48), none, (.pick (.tmp 45) (.tmp 47) (.const (.one (.bool false))))⟩, ⟨(some 0), none, (.mv (.tmp 48))⟩]) .ret))))))⟩
abbrev T6 : Nat → Callee := (upd (upd (upd (upd none0 7 F7) 10 F10) 12 F12) 18 F18)
def F6 : Callee := evF T6 0 c6
theorem s6 : Sound Go.Proofs.Try.prog 6 F6 := fn_ok (upd_ok (upd_ok (upd_ok (upd_ok (none0_ok _) s7) s10) s12) s18) mixed (by kernel_rfl)
def b8x0 : AC := (.seq (.seq (.opsD [(⟨(some 20), none, (.mv (.tmp 5))⟩, false), (⟨(some 21), none, (.bin .gtr (.tmp 20) (.const (.one (.int .i64 0))))⟩, false), (⟨(some 22), none, (.mv (.tmp 21))⟩, false), (⟨(some 23), (some (22, true)), (.mv (.tmp 0))⟩, false), (⟨(some 24), (some (22, true)), (.mv (.tmp 3))⟩, false), (⟨(some 25), (some (22, true)), (.mv (.tmp 5))⟩, false), (⟨(some 26), (some (22, true)), (.iadrR 1 (.tmp 24) (.tmp 25))⟩, false), (⟨(some 27), (some (22, true)), (.load none (.tmp 26))⟩, false), (⟨(some 28), (some (22, true)), (.cutS (.tmp 23) (some (.tmp 27)) none)⟩, false), (⟨(some 29), (some (22, true)), (.mv (.tmp 0))⟩, false), (⟨(some 30), (some (22, true)), (.mv (.tmp 3))⟩, false), (⟨(some 31), (some (22, true)), (.mv (.tmp 5))⟩, false), (⟨(some 32), (some (22, true)), (.bin .sub (.tmp 31) (.const (.one (.int .i64 1))))⟩, false), (⟨(some 33), (some (22, true)), (.iadrR 1 (.tmp 30) (.tmp 32))⟩, false), (⟨(some 34), (some (22, true)), (.load none (.tmp 33))⟩, false), (⟨(some 35), (some (22, true)), (.cutS (.tmp 29) (some (.tmp 34)) none)⟩, false), (⟨(some 36), (some (22, true)), (.bin .lss (.tmp 28) (.tmp 35))⟩, false), (⟨(some 37), none, (.pick (.tmp 22) (.tmp 36) (.const (.one (.bool false))))⟩, false)] []) (.cond (.tmp 37) .skip (.exit 2))) (.seq (.block 3 (.seq (.ops [⟨(some 40), none, (.mv (.tmp 3))⟩, ⟨(some 41), none, (.mv (.tmp 5))⟩, ⟨(some 42), none, (.iadrR 1 (.tmp 40) (.tmp 41))⟩, ⟨(some 43), none, (.load none (.tmp 42))⟩, ⟨(some 6), none, (.mv (.tmp 43))⟩]) (.seq (.ops [⟨(some 44), none, (.mv (.tmp 3))⟩, ⟨(some 45), none, (.mv (.tmp 5))⟩, ⟨(some 46), none, (.mv (.tmp 3))⟩, ⟨(some 47), none, (.mv (.tmp 5))⟩, ⟨(some 48), none, (.bin .sub (.tmp 47) (.const (.one (.int .i64 1))))⟩, ⟨(some 49), none, (.iadrR 1 (.tmp 46) (.tmp 48))⟩, ⟨(some 50), none, (.load none (.tmp 49))⟩, ⟨(some 51), none, (.iadrR 1 (.tmp 44) (.tmp 45))⟩, ⟨none, none, (.store 1 (.tmp 51) (.tmp 50))⟩]) (.ops [⟨(some 52), none, (.mv (.tmp 3))⟩, ⟨(some 53), none, (.mv (.tmp 5))⟩, ⟨(some 54), none, (.bin .sub (.tmp 53) (.const (.one (.int .i64 1))))⟩, ⟨(some 55), none, (.mv (.tmp 6))⟩, ⟨(some 56), none, (.iadrR 1 (.tmp 52) (.tmp 54))⟩, ⟨none, none, (.store 1 (.tmp 56) (.tmp 55))⟩])))) (.ops [⟨(some 38), none, (.mv (.tmp 5))⟩, ⟨(some 39), none, (.bin .sub (.tmp 38) (.const (.one (.int .i64 1))))⟩, ⟨(some 5), none, (.mv (.tmp 39))⟩])))
def b8x1 : AC := (.seq (.seq (.ops [⟨(some 7), none, (.mv (.tmp 4))⟩, ⟨(some 8), none, (.mv (.tmp 0))⟩, ⟨(some 9), none, (.lenS (.tmp 8))⟩, ⟨(some 10), none, (.bin .lss (.tmp 7) (.tmp 9))⟩]) (.cond (.tmp 10) .skip (.exit 0))) (.seq (.block 1 (.seq (.ops [⟨(some 13), none, (.mv (.tmp 3))⟩, ⟨(some 14), none, (.mv (.tmp 4))⟩, ⟨(some 15), none, (.bslice (.ints .i64 []) [(.int .i64 0)] 1 [(0, (.tmp 14))])⟩, ⟨(some 16), none, (.append (.ints .i64 []) 8 (.tmp 13) (.tmp 15))⟩, ⟨(some 3), none, (.mv (.tmp 16))⟩]) (.seq (.ops [⟨(some 17), none, (.mv (.tmp 3))⟩, ⟨(some 18), none, (.len (.tmp 17))⟩, ⟨(some 19), none, (.bin .sub (.tmp 18) (.const (.one (.int .i64 1))))⟩, ⟨(some 5), none, (.mv (.tmp 19))⟩]) (.block 2 (.loop [0, 3, 4, 5] b8x0))))) (.ops [⟨(some 11), none, (.mv (.tmp 4))⟩, ⟨(some 12), none, (.bin .add (.tmp 11) (.const (.one (.int .i64 1))))⟩, ⟨(some 4), none, (.mv (.tmp 12))⟩])))
def c8 : AF := ⟨[(2, none)],
  (.seq (.ops [⟨(some 2), none, (.newNil (.ints .i64 []))⟩]) (.seq (.ops [⟨(some 3), none, (.newNil (.ints .i64 []))⟩]) (.seq (.seq (.ops [⟨(some 4), none, (.mv (.const (.one (.int .i64 0))))⟩]) (.block 0 (.loop [0, 3, 4] b8x1))) (.seq (.ops [⟨(some 57), none, (.mv (.tmp 3))⟩, ⟨(some 2), none, (.mv (.tmp 57))⟩]) .ret))))⟩
abbrev T8 : Nat → Callee := none0
def F8 : Callee := evF T8 KK c8
theorem s8 : Sound Go.Proofs.Try.prog 8 F8 := fn_ok (none0_ok _) mixed (by kernel_rfl)
def b11x0 : AC := (.seq (.seq (.opsD [(⟨(some 26), none, (.mv (.tmp 1))⟩, false), (⟨(some 27), none, (.mv (.tmp 7))⟩, false), (⟨(some 28), none, (.bin .add (.tmp 26) (.tmp 27))⟩, false), (⟨(some 29), none, (.mv (.tmp 0))⟩, false), (⟨(some 30), none, (.lenS (.tmp 29))⟩, false), (⟨(some 31), none, (.bin .lss (.tmp 28) (.tmp 30))⟩, false), (⟨(some 32), none, (.mv (.tmp 31))⟩, false), (⟨(some 33), (some (32, true)), (.mv (.tmp 2))⟩, false), (⟨(some 34), (some (32, true)), (.mv (.tmp 7))⟩, false), (⟨(some 35), (some (32, true)), (.bin .add (.tmp 33) (.tmp 34))⟩, false), (⟨(some 36), (some (32, true)), (.mv (.tmp 0))⟩, false), (⟨(some 37), (some (32, true)), (.lenS (.tmp 36))⟩, false), (⟨(some 38), (some (32, true)), (.bin .lss (.tmp 35) (.tmp 37))⟩, false), (⟨(some 39), none, (.pick (.tmp 32) (.tmp 38) (.const (.one (.bool false))))⟩, false), (⟨(some 40), none, (.mv (.tmp 39))⟩, false), (⟨(some 41), (some (40, true)), (.mv (.tmp 0))⟩, false), (⟨(some 42), (some (40, true)), (.mv (.tmp 1))⟩, false), (⟨(some 43), (some (40, true)), (.mv (.tmp 7))⟩, false), (⟨(some 44), (some (40, true)), (.bin .add (.tmp 42) (.tmp 43))⟩, false), (⟨(some 45), (some (40, true)), (.idxS (.tmp 41) (.tmp 44))⟩, false), (⟨(some 46), (some (40, true)), (.mv (.tmp 0))⟩, false), (⟨(some 47), (some (40, true)), (.mv (.tmp 2))⟩, false), (⟨(some 48), (some (40, true)), (.mv (.tmp 7))⟩, false), (⟨(some 49), (some (40, true)), (.bin .add (.tmp 47) (.tmp 48))⟩, false), (⟨(some 50), (some (40, true)), (.idxS (.tmp 46) (.tmp 49))⟩, false), (⟨(some 51), (some (40, true)), (.bin .eql (.tmp 45) (.tmp 50))⟩, false), (⟨(some 52), none, (.pick (.tmp 40) (.tmp 51) (.const (.one (.bool false))))⟩, false)] []) (.cond (.tmp 52) .skip (.exit 0))) (.block 1 (.ops [⟨(some 53), none, (.mv (.tmp 7))⟩, ⟨(some 54), none, (.bin .add (.tmp 53) (.const (.one (.int .i64 1))))⟩, ⟨(some 7), none, (.mv (.tmp 54))⟩])))
def c11 : AF := ⟨[(6, none)],
  (.seq (.ops [⟨(some 6), none, (.mv (.const (.one (.int .i64 0))))⟩]) (.seq (.seq (.ops [⟨(some 8), none, (.mv (.tmp 1))⟩, ⟨(some 9), none, (.bin .lss (.tmp 8) (.const (.one (.int .i64 0))))⟩, ⟨(some 10), none, (.mv (.tmp 9))⟩, ⟨(some 11), (some (10, false)), (.mv (.tmp 2))⟩, ⟨(some 12), (some (10, false)), (.bin .lss (.tmp 11) (.const (.one (.int .i64 0))))⟩, ⟨(some 13), none, (.pick (.tmp 10) (.const (.one (.bool true))) (.tmp 12))⟩, ⟨(some 14), none, (.mv (.tmp 13))⟩, ⟨(some 15), (some (14, false)), (.mv (.tmp 1))⟩, ⟨(some 16), (some (14, false)), (.mv (.tmp 0))⟩, ⟨(some 17), (some (14, false)), (.lenS (.tmp 16))⟩, ⟨(some 18), (some (14, false)), (.bin .gtr (.tmp 15) (.tmp 17))⟩, ⟨(some 19), none, (.pick (.tmp 14) (.const (.one (.bool true))) (.tmp 18))⟩, ⟨(some 20), none, (.mv (.tmp 19))⟩, ⟨(some 21), (some (20, false)), (.mv (.tmp 2))⟩, ⟨(some 22), (some (20, false)), (.mv (.tmp 0))⟩, ⟨(some 23), (some (20, false)), (.lenS (.tmp 22))⟩, ⟨(some 24), (some (20, false)), (.bin .gtr (.tmp 21) (.tmp 23))⟩, ⟨(some 25), none, (.pick (.tmp 20) (.const (.one (.bool true))) (.tmp 24))⟩]) (.cond (.tmp 25) (.seq (.ops [⟨(some 6), none, (.mv (.const (.one (.int .i64 0))))⟩]) .ret) .skip)) (.seq (.ops [⟨(some 7), none, (.mv (.const (.one (.int .i64 0))))⟩]) (.seq (.block 0 (.loop [0, 1, 2, 7] b11x0)) (.seq (.ops [⟨(some 55), none, (.mv (.tmp 7))⟩, ⟨(some 6), none, (.mv (.tmp 55))⟩]) .ret)))))⟩
abbrev T11 : Nat → Callee := none0
def F11 : Callee := evF T11 KK c11
theorem s11 : Sound Go.Proofs.Try.prog 11 F11 := fn_ok (none0_ok _) mixed (by kernel_rfl)
def b3x0 : AC := (.seq (.ops [⟨(some 31), none, (.bin .lss (.tmp 30) (.tmp 29))⟩]) (.seq (.cond (.tmp 31) .skip (.exit 0)) (.seq (.block 1 (.seq (.ops [⟨(some 32), none, (.mv (.tmp 30))⟩, ⟨(some 33), none, (.iadrR 1 (.tmp 28) (.tmp 30))⟩, ⟨(some 34), none, (.load none (.tmp 33))⟩, ⟨(some 7), none, (.mv (.tmp 32))⟩, ⟨(some 8), none, (.mv (.tmp 34))⟩]) (.seq (.ops [⟨(some 36), none, (.mv (.tmp 5))⟩, ⟨(some 37), none, (.mv (.tmp 7))⟩, ⟨(some 38), none, (.call 10 [(.tmp 36), (.tmp 37)])⟩, ⟨(some 35), none, (.mv (.tmp 38))⟩, ⟨(some 39), none, (.extract 0 (.tmp 35))⟩, ⟨(some 40), none, (.extract 1 (.tmp 35))⟩, ⟨(some 9), none, (.mv (.tmp 39))⟩, ⟨(some 10), none, (.mv (.tmp 40))⟩]) (.seq (.ops [⟨(some 11), none, (.mv (.const (.one (.int .i64 0))))⟩]) (.seq (.seq (.ops [⟨(some 41), none, (.mv (.tmp 7))⟩, ⟨(some 42), none, (.bin .gtr (.tmp 41) (.const (.one (.int .i64 0))))⟩]) (.cond (.tmp 42) (.ops [⟨(some 43), none, (.mv (.tmp 0))⟩, ⟨(some 44), none, (.mv (.tmp 6))⟩, ⟨(some 45), none, (.mv (.tmp 7))⟩, ⟨(some 46), none, (.bin .sub (.tmp 45) (.const (.one (.int .i64 1))))⟩, ⟨(some 47), none, (.iadrR 1 (.tmp 44) (.tmp 46))⟩, ⟨(some 48), none, (.load none (.tmp 47))⟩, ⟨(some 49), none, (.mv (.tmp 8))⟩, ⟨(some 50), none, (.call 11 [(.tmp 43), (.tmp 48), (.tmp 49)])⟩, ⟨(some 11), none, (.mv (.tmp 50))⟩]) .skip)) (.seq (.ops [⟨(some 51), none, (.mv (.tmp 10))⟩, ⟨(some 52), none, (.un .not (.tmp 51))⟩, ⟨(some 53), none, (.mv (.tmp 52))⟩, ⟨(some 54), (some (53, false)), (.mv (.tmp 9))⟩, ⟨(some 55), (some (53, false)), (.mv (.tmp 8))⟩, ⟨(some 56), (some (53, false)), (.bin .neq (.tmp 54) (.tmp 55))⟩, ⟨(some 57), none, (.pick (.tmp 53) (.const (.one (.bool true))) (.tmp 56))⟩, ⟨(some 58), none, (.mv (.tmp 57))⟩, ⟨(some 59), (some (58, false)), (.mv (.tmp 5))⟩, ⟨(some 60), (some (58, false)), (.mv (.tmp 7))⟩, ⟨(some 61), (some (58, false)), (.call 12 [(.tmp 59), (.tmp 60)])⟩, ⟨(some 62), (some (58, false)), (.mv (.tmp 11))⟩, ⟨(some 63), (some (58, false)), (.bin .neq (.tmp 61) (.tmp 62))⟩, ⟨(some 64), none, (.pick (.tmp 58) (.const (.one (.bool true))) (.tmp 63))⟩]) (.cond (.tmp 64) (.seq (.ops [⟨(some 4), none, (.mv (.const (.one (.bool false))))⟩]) .ret) .skip))))))) (.ops [⟨(some 65), none, (.bin .add (.tmp 30) (.const (.one (.int .i64 1))))⟩, ⟨(some 30), none, (.mv (.tmp 65))⟩]))))
def c3 : AF := ⟨[(4, none)],
  (.seq (.ops [⟨(some 4), none, (.mv (.const (.one (.bool false))))⟩]) (.seq (.seq (.ops [⟨(some 14), none, (.call 6 [])⟩, ⟨(some 15), none, (.un .not (.tmp 14))⟩]) (.cond (.tmp 15) (.seq (.ops [⟨(some 4), none, (.mv (.const (.one (.bool false))))⟩]) .ret) .skip)) (.seq (.seq (.ops [⟨(some 16), none, (.mv (.tmp 0))⟩, ⟨(some 17), none, (.lenS (.tmp 16))⟩, ⟨(some 18), none, (.bin .gtr (.tmp 17) (.const (.one (.int .i64 150))))⟩]) (.cond (.tmp 18) (.seq (.ops [⟨(some 4), none, (.mv (.const (.one (.bool true))))⟩]) .ret) .skip)) (.seq (.ops [⟨(some 19), none, (.mv (.tmp 0))⟩, ⟨(some 20), none, (.call 7 [(.tmp 19)])⟩, ⟨(some 5), none, (.mv (.tmp 20))⟩]) (.seq (.ops [⟨(some 21), none, (.mv (.tmp 0))⟩, ⟨(some 22), none, (.call 8 [(.tmp 21)])⟩, ⟨(some 6), none, (.mv (.tmp 22))⟩]) (.seq (.seq (.ops [⟨(some 23), none, (.mv (.tmp 5))⟩, ⟨(some 24), none, (.call 9 [(.tmp 23)])⟩, ⟨(some 25), none, (.mv (.tmp 6))⟩, ⟨(some 26), none, (.len (.tmp 25))⟩, ⟨(some 27), none, (.bin .neq (.tmp 24) (.tmp 26))⟩]) (.cond (.tmp 27) (.seq (.ops [⟨(some 4), none, (.mv (.const (.one (.bool false))))⟩]) .ret) .skip)) (.seq (.seq (.ops [⟨(some 28), none, (.mv (.tmp 6))⟩, ⟨(some 29), none, (.len (.tmp 28))⟩, ⟨(some 30), none, (.mv (.const (.one (.int .i64 0))))⟩]) (.block 0 (.loop [0, 1, 5, 6, 28, 29, 30] b3x0))) (.seq (.ops [⟨(some 67), none, (.mv (.tmp 5))⟩, ⟨(some 68), none, (.mv (.tmp 1))⟩, ⟨(some 69), none, (.call 10 [(.tmp 67), (.tmp 68)])⟩, ⟨(some 66), none, (.mv (.tmp 69))⟩, ⟨(some 70), none, (.extract 0 (.tmp 66))⟩, ⟨(some 71), none, (.extract 1 (.tmp 66))⟩, ⟨(some 12), none, (.mv (.tmp 70))⟩, ⟨(some 13), none, (.mv (.tmp 71))⟩]) (.seq (.ops [⟨(some 72), none, (.mv (.tmp 13))⟩, ⟨(some 73), none, (.mv (.tmp 1))⟩, ⟨(some 74), none, (.bin .geq (.tmp 73) (.const (.one (.int .i64 0))))⟩, ⟨(some 75), none, (.mv (.tmp 74))⟩, ⟨(some 76), (some (75, true)), (.mv (.tmp 1))⟩, ⟨(some 77), (some (75, true)), (.mv (.tmp 6))⟩, ⟨(some 78), (some (75, true)), (.len (.tmp 77))⟩, ⟨(some 79), (some (75, true)), (.bin .lss (.tmp 76) (.tmp 78))⟩, ⟨(some 80), none, (.pick (.tmp 75) (.tmp 79) (.const (.one (.bool false))))⟩, ⟨(some 81), none, (.eqB false (.tmp 72) (.tmp 80))⟩, ⟨(some 82), none, (.mv (.tmp 81))⟩, ⟨(some 83), (some (82, true)), (.mv (.tmp 13))⟩, ⟨(some 84), (some (82, true)), (.mv (.tmp 83))⟩, ⟨(some 85), (some (84, false)), (.mv (.tmp 12))⟩, ⟨(some 86), (some (84, false)), (.bin .eql (.tmp 85) (.const (.one (.int .i64 0))))⟩, ⟨(some 87), (some (84, false)), (.mv (.tmp 86))⟩, ⟨(some 88), (some (87, true)), (.mv (.tmp 5))⟩, ⟨(some 89), (some (87, true)), (.mv (.tmp 1))⟩, ⟨(some 90), (some (87, true)), (.call 12 [(.tmp 88), (.tmp 89)])⟩, ⟨(some 91), (some (87, true)), (.bin .eql (.tmp 90) (.const (.one (.int .i64 0))))⟩, ⟨(some 92), (some (84, false)), (.pick (.tmp 87) (.tmp 91) (.const (.one (.bool false))))⟩, ⟨(some 93), (some (82, true)), (.pick (.tmp 84) (.const (.one (.bool true))) (.tmp 92))⟩, ⟨(some 94), none, (.pick (.tmp 82) (.tmp 93) (.const (.one (.bool false))))⟩, ⟨(some 4), none, (.mv (.tmp 94))⟩]) .ret)))))))))⟩
abbrev T3 : Nat → Callee := (upd (upd (upd (upd (upd (upd (upd none0 6 F6) 7 F7) 8 F8) 9 F9) 10 F10) 11 F11) 12 F12)
def F3 : Callee := evF T3 KK c3
theorem s3 : Sound Go.Proofs.Try.prog 3 F3 := fn_ok (upd_ok (upd_ok (upd_ok (upd_ok (upd_ok (upd_ok (upd_ok (none0_ok _) s6) s7) s8) s9) s10) s11) s12) mixed (by kernel_rfl)
def b13x0 : AC := (.seq (.seq (.ops [⟨(some 7), none, (.mv (.tmp 6))⟩, ⟨(some 8), none, (.mv (.tmp 0))⟩, ⟨(some 9), none, (.lenS (.tmp 8))⟩, ⟨(some 10), none, (.bin .lss (.tmp 7) (.tmp 9))⟩, ⟨(some 11), none, (.mv (.tmp 10))⟩, ⟨(some 12), (some (11, true)), (.mv (.tmp 6))⟩, ⟨(some 13), (some (11, true)), (.mv (.tmp 1))⟩, ⟨(some 14), (some (11, true)), (.lenS (.tmp 13))⟩, ⟨(some 15), (some (11, true)), (.bin .add (.tmp 12) (.tmp 14))⟩, ⟨(some 16), (some (11, true)), (.mv (.tmp 0))⟩, ⟨(some 17), (some (11, true)), (.lenS (.tmp 16))⟩, ⟨(some 18), (some (11, true)), (.bin .leq (.tmp 15) (.tmp 17))⟩, ⟨(some 19), none, (.pick (.tmp 11) (.tmp 18) (.const (.one (.bool false))))⟩]) (.cond (.tmp 19) .skip (.exit 0))) (.seq (.block 1 (.seq (.ops [⟨(some 22), none, (.mv (.tmp 0))⟩, ⟨(some 23), none, (.mv (.tmp 6))⟩, ⟨(some 24), none, (.mv (.tmp 6))⟩, ⟨(some 25), none, (.mv (.tmp 1))⟩, ⟨(some 26), none, (.lenS (.tmp 25))⟩, ⟨(some 27), none, (.bin .add (.tmp 24) (.tmp 26))⟩, ⟨(some 28), none, (.cutS (.tmp 22) (some (.tmp 23)) (some (.tmp 27)))⟩, ⟨(some 29), none, (.mv (.tmp 1))⟩, ⟨(some 30), none, (.bin .eql (.tmp 28) (.tmp 29))⟩]) (.cond (.tmp 30) (.ops [⟨(some 31), none, (.mv (.tmp 5))⟩, ⟨(some 32), none, (.mv (.tmp 6))⟩, ⟨(some 33), none, (.bslice (.ints .i64 []) [(.int .i64 0)] 1 [(0, (.tmp 32))])⟩, ⟨(some 34), none, (.append (.ints .i64 []) 8 (.tmp 31) (.tmp 33))⟩, ⟨(some 5), none, (.mv (.tmp 34))⟩]) .skip))) (.ops [⟨(some 20), none, (.mv (.tmp 6))⟩, ⟨(some 21), none, (.bin .add (.tmp 20) (.const (.one (.int .i64 1))))⟩, ⟨(some 6), none, (.mv (.tmp 21))⟩])))
def c13 : AF := ⟨[(4, none)],
  (.seq (.ops [⟨(some 4), none, (.newNil (.ints .i64 []))⟩]) (.seq (.ops [⟨(some 5), none, (.newNil (.ints .i64 []))⟩]) (.seq (.seq (.ops [⟨(some 6), none, (.mv (.const (.one (.int .i64 0))))⟩]) (.block 0 (.loop [0, 1, 5, 6] b13x0))) (.seq (.ops [⟨(some 35), none, (.mv (.tmp 5))⟩, ⟨(some 4), none, (.mv (.tmp 35))⟩]) .ret))))⟩
abbrev T13 : Nat → Callee := none0
def F13 : Callee := evF T13 KK c13
theorem s13 : Sound Go.Proofs.Try.prog 13 F13 := fn_ok (none0_ok _) mixed (by kernel_rfl)
def b15x0 : AC := (.seq (.ops [⟨(some 14), none, (.bin .lss (.tmp 13) (.tmp 12))⟩]) (.seq (.cond (.tmp 14) .skip (.exit 0)) (.seq (.block 1 (.seq (.ops [⟨(some 15), none, (.mv (.tmp 13))⟩, ⟨(some 5), none, (.mv (.tmp 15))⟩]) (.seq (.opsD [(⟨(some 16), none, (.mv (.tmp 0))⟩, false), (⟨(some 17), none, (.mv (.tmp 5))⟩, false), (⟨(some 18), none, (.iadrR 1 (.tmp 16) (.tmp 17))⟩, false), (⟨(some 19), none, (.load none (.tmp 18))⟩, false), (⟨(some 20), none, (.mv (.tmp 1))⟩, false), (⟨(some 21), none, (.mv (.tmp 5))⟩, false), (⟨(some 22), none, (.iadrR 1 (.tmp 20) (.tmp 21))⟩, false), (⟨(some 23), none, (.load none (.tmp 22))⟩, false), (⟨(some 24), none, (.bin .neq (.tmp 19) (.tmp 23))⟩, false)] []) (.cond (.tmp 24) (.seq (.ops [⟨(some 4), none, (.mv (.const (.one (.bool false))))⟩]) .ret) .skip)))) (.ops [⟨(some 25), none, (.bin .add (.tmp 13) (.const (.one (.int .i64 1))))⟩, ⟨(some 13), none, (.mv (.tmp 25))⟩]))))
def c15 : AF := ⟨[(4, none)],
  (.seq (.ops [⟨(some 4), none, (.mv (.const (.one (.bool false))))⟩]) (.seq (.seq (.ops [⟨(some 6), none, (.mv (.tmp 0))⟩, ⟨(some 7), none, (.len (.tmp 6))⟩, ⟨(some 8), none, (.mv (.tmp 1))⟩, ⟨(some 9), none, (.len (.tmp 8))⟩, ⟨(some 10), none, (.bin .neq (.tmp 7) (.tmp 9))⟩]) (.cond (.tmp 10) (.seq (.ops [⟨(some 4), none, (.mv (.const (.one (.bool false))))⟩]) .ret) .skip)) (.seq (.seq (.ops [⟨(some 11), none, (.mv (.tmp 0))⟩, ⟨(some 12), none, (.len (.tmp 11))⟩, ⟨(some 13), none, (.mv (.const (.one (.int .i64 0))))⟩]) (.block 0 (.loop [0, 1, 12, 13] b15x0))) (.seq (.ops [⟨(some 4), none, (.mv (.const (.one (.bool true))))⟩]) .ret))))⟩
abbrev T15 : Nat → Callee := none0
def F15 : Callee := evF T15 KK c15
theorem s15 : Sound Go.Proofs.Try.prog 15 F15 := fn_ok (none0_ok _) mixed (by kernel_rfl)
def b17x0 : AC := (.seq (.seq (.ops [⟨(some 7), none, (.mv (.tmp 6))⟩, ⟨(some 8), none, (.mv (.tmp 0))⟩, ⟨(some 9), none, (.lenS (.tmp 8))⟩, ⟨(some 10), none, (.bin .lss (.tmp 7) (.tmp 9))⟩]) (.cond (.tmp 10) .skip (.exit 0))) (.seq (.block 1 (.seq (.ops [⟨(some 13), none, (.mv (.tmp 0))⟩, ⟨(some 14), none, (.mv (.tmp 6))⟩, ⟨(some 15), none, (.cutS (.tmp 13) (some (.tmp 14)) none)⟩, ⟨(some 16), none, (.mv (.tmp 1))⟩, ⟨(some 17), none, (.bin .lss (.tmp 15) (.tmp 16))⟩]) (.cond (.tmp 17) (.ops [⟨(some 18), none, (.mv (.tmp 5))⟩, ⟨(some 19), none, (.bin .add (.tmp 18) (.const (.one (.int .i64 1))))⟩, ⟨(some 5), none, (.mv (.tmp 19))⟩]) .skip))) (.ops [⟨(some 11), none, (.mv (.tmp 6))⟩, ⟨(some 12), none, (.bin .add (.tmp 11) (.const (.one (.int .i64 1))))⟩, ⟨(some 6), none, (.mv (.tmp 12))⟩])))
def c17 : AF := ⟨[(4, none)],
  (.seq (.ops [⟨(some 4), none, (.mv (.const (.one (.int .i64 0))))⟩]) (.seq (.ops [⟨(some 5), none, (.mv (.const (.one (.int .i64 0))))⟩]) (.seq (.seq (.ops [⟨(some 6), none, (.mv (.const (.one (.int .i64 0))))⟩]) (.block 0 (.loop [0, 1, 5, 6] b17x0))) (.seq (.ops [⟨(some 20), none, (.mv (.tmp 5))⟩, ⟨(some 4), none, (.mv (.tmp 20))⟩]) .ret))))⟩
abbrev T17 : Nat → Callee := none0
def F17 : Callee := evF T17 KK c17
theorem s17 : Sound Go.Proofs.Try.prog 17 F17 := fn_ok (none0_ok _) mixed (by kernel_rfl)
def c4 : AF := ⟨[(4, none)],
  (.seq (.ops [⟨(some 4), none, (.mv (.const (.one (.bool false))))⟩]) (.seq (.seq (.ops [⟨(some 9), none, (.call 6 [])⟩, ⟨(some 10), none, (.un .not (.tmp 9))⟩]) (.cond (.tmp 10) (.seq (.ops [⟨(some 4), none, (.mv (.const (.one (.bool false))))⟩]) .ret) .skip)) (.seq (.seq (.ops [⟨(some 11), none, (.mv (.tmp 0))⟩, ⟨(some 12), none, (.lenS (.tmp 11))⟩, ⟨(some 13), none, (.bin .gtr (.tmp 12) (.const (.one (.int .i64 150))))⟩, ⟨(some 14), none, (.mv (.tmp 13))⟩, ⟨(some 15), (some (14, false)), (.mv (.tmp 1))⟩, ⟨(some 16), (some (14, false)), (.lenS (.tmp 15))⟩, ⟨(some 17), (some (14, false)), (.bin .gtr (.tmp 16) (.const (.one (.int .i64 60))))⟩, ⟨(some 18), none, (.pick (.tmp 14) (.const (.one (.bool true))) (.tmp 17))⟩]) (.cond (.tmp 18) (.seq (.ops [⟨(some 4), none, (.mv (.const (.one (.bool true))))⟩]) .ret) .skip)) (.seq (.ops [⟨(some 19), none, (.mv (.tmp 0))⟩, ⟨(some 20), none, (.call 7 [(.tmp 19)])⟩, ⟨(some 5), none, (.mv (.tmp 20))⟩]) (.seq (.ops [⟨(some 21), none, (.mv (.tmp 0))⟩, ⟨(some 22), none, (.mv (.tmp 1))⟩, ⟨(some 23), none, (.call 13 [(.tmp 21), (.tmp 22)])⟩, ⟨(some 6), none, (.mv (.tmp 23))⟩]) (.seq (.ops [⟨(some 25), none, (.mv (.tmp 5))⟩, ⟨(some 26), none, (.mv (.tmp 1))⟩, ⟨(some 27), none, (.call 14 [(.tmp 25), (.tmp 26)])⟩, ⟨(some 24), none, (.mv (.tmp 27))⟩, ⟨(some 28), none, (.extract 0 (.tmp 24))⟩, ⟨(some 29), none, (.extract 1 (.tmp 24))⟩, ⟨(some 7), none, (.mv (.tmp 28))⟩, ⟨(some 8), none, (.mv (.tmp 29))⟩]) (.seq (.ops [⟨(some 30), none, (.mv (.tmp 5))⟩, ⟨(some 31), none, (.mv (.tmp 1))⟩, ⟨(some 32), none, (.call 16 [(.tmp 30), (.tmp 31)])⟩, ⟨(some 33), none, (.mv (.tmp 6))⟩, ⟨(some 34), none, (.call 15 [(.tmp 32), (.tmp 33)])⟩, ⟨(some 35), none, (.mv (.tmp 34))⟩, ⟨(some 36), (some (35, true)), (.mv (.tmp 7))⟩, ⟨(some 37), (some (35, true)), (.mv (.tmp 0))⟩, ⟨(some 38), (some (35, true)), (.mv (.tmp 1))⟩, ⟨(some 39), (some (35, true)), (.call 17 [(.tmp 37), (.tmp 38)])⟩, ⟨(some 40), (some (35, true)), (.bin .eql (.tmp 36) (.tmp 39))⟩, ⟨(some 41), none, (.pick (.tmp 35) (.tmp 40) (.const (.one (.bool false))))⟩, ⟨(some 42), none, (.mv (.tmp 41))⟩, ⟨(some 43), (some (42, true)), (.mv (.tmp 8))⟩, ⟨(some 44), (some (42, true)), (.mv (.tmp 7))⟩, ⟨(some 45), (some (42, true)), (.bin .sub (.tmp 43) (.tmp 44))⟩, ⟨(some 46), (some (42, true)), (.mv (.tmp 6))⟩, ⟨(some 47), (some (42, true)), (.len (.tmp 46))⟩, ⟨(some 48), (some (42, true)), (.bin .eql (.tmp 45) (.tmp 47))⟩, ⟨(some 49), none, (.pick (.tmp 42) (.tmp 48) (.const (.one (.bool false))))⟩, ⟨(some 4), none, (.mv (.tmp 49))⟩]) .ret)))))))⟩
abbrev T4 : Nat → Callee := (upd (upd (upd (upd (upd (upd (upd none0 6 F6) 7 F7) 13 F13) 14 F14) 15 F15) 16 F16) 17 F17)
def F4 : Callee := evF T4 0 c4
theorem s4 : Sound Go.Proofs.Try.prog 4 F4 := fn_ok (upd_ok (upd_ok (upd_ok (upd_ok (upd_ok (upd_ok (upd_ok (none0_ok _) s6) s7) s13) s14) s15) s16) s17) mixed (by kernel_rfl)
def b19x0 : AC := (.seq (.seq (.opsD [(⟨(some 19), none, (.mv (.tmp 5))⟩, false), (⟨(some 20), none, (.mv (.tmp 7))⟩, false), (⟨(some 21), none, (.bin .add (.tmp 19) (.tmp 20))⟩, false), (⟨(some 22), none, (.mv (.tmp 0))⟩, false), (⟨(some 23), none, (.lenS (.tmp 22))⟩, false), (⟨(some 24), none, (.bin .lss (.tmp 21) (.tmp 23))⟩, false), (⟨(some 25), none, (.mv (.tmp 24))⟩, false), (⟨(some 26), (some (25, true)), (.mv (.tmp 0))⟩, false), (⟨(some 27), (some (25, true)), (.mv (.tmp 5))⟩, false), (⟨(some 28), (some (25, true)), (.mv (.tmp 7))⟩, false), (⟨(some 29), (some (25, true)), (.bin .add (.tmp 27) (.tmp 28))⟩, false), (⟨(some 30), (some (25, true)), (.idxS (.tmp 26) (.tmp 29))⟩, false), (⟨(some 31), (some (25, true)), (.mv (.tmp 0))⟩, false), (⟨(some 32), (some (25, true)), (.mv (.tmp 6))⟩, false), (⟨(some 33), (some (25, true)), (.mv (.tmp 7))⟩, false), (⟨(some 34), (some (25, true)), (.bin .add (.tmp 32) (.tmp 33))⟩, false), (⟨(some 35), (some (25, true)), (.idxS (.tmp 31) (.tmp 34))⟩, false), (⟨(some 36), (some (25, true)), (.bin .eql (.tmp 30) (.tmp 35))⟩, false), (⟨(some 37), none, (.pick (.tmp 25) (.tmp 36) (.const (.one (.bool false))))⟩, false)] []) (.cond (.tmp 37) .skip (.exit 4))) (.block 5 (.ops [⟨(some 38), none, (.mv (.tmp 7))⟩, ⟨(some 39), none, (.bin .add (.tmp 38) (.const (.one (.int .i64 1))))⟩, ⟨(some 7), none, (.mv (.tmp 39))⟩])))
def b19x1 : AC := (.seq (.seq (.ops [⟨(some 14), none, (.mv (.tmp 6))⟩, ⟨(some 15), none, (.mv (.tmp 5))⟩, ⟨(some 16), none, (.bin .lss (.tmp 14) (.tmp 15))⟩]) (.cond (.tmp 16) .skip (.exit 2))) (.seq (.block 3 (.seq (.ops [⟨(some 7), none, (.mv (.const (.one (.int .i64 0))))⟩]) (.seq (.block 4 (.loop [0, 4, 5, 6, 7] b19x0)) (.seq (.ops [⟨(some 40), none, (.mv (.tmp 7))⟩, ⟨(some 41), none, (.mv (.tmp 4))⟩, ⟨(some 42), none, (.lenS (.tmp 41))⟩, ⟨(some 43), none, (.bin .gtr (.tmp 40) (.tmp 42))⟩, ⟨(some 44), none, (.mv (.tmp 43))⟩, ⟨(some 45), (some (44, false)), (.mv (.tmp 7))⟩, ⟨(some 46), (some (44, false)), (.mv (.tmp 4))⟩, ⟨(some 47), (some (44, false)), (.lenS (.tmp 46))⟩, ⟨(some 48), (some (44, false)), (.bin .eql (.tmp 45) (.tmp 47))⟩, ⟨(some 49), (some (44, false)), (.mv (.tmp 48))⟩, ⟨(some 50), (some (49, true)), (.mv (.tmp 7))⟩, ⟨(some 51), (some (49, true)), (.bin .gtr (.tmp 50) (.const (.one (.int .i64 0))))⟩, ⟨(some 52), (some (44, false)), (.pick (.tmp 49) (.tmp 51) (.const (.one (.bool false))))⟩, ⟨(some 53), (some (44, false)), (.mv (.tmp 52))⟩, ⟨(some 54), (some (53, true)), (.mv (.tmp 0))⟩, ⟨(some 55), (some (53, true)), (.mv (.tmp 5))⟩, ⟨(some 56), (some (53, true)), (.mv (.tmp 5))⟩, ⟨(some 57), (some (53, true)), (.mv (.tmp 7))⟩, ⟨(some 58), (some (53, true)), (.bin .add (.tmp 56) (.tmp 57))⟩, ⟨(some 59), (some (53, true)), (.cutS (.tmp 54) (some (.tmp 55)) (some (.tmp 58)))⟩, ⟨(some 60), (some (53, true)), (.mv (.tmp 4))⟩, ⟨(some 61), (some (53, true)), (.bin .lss (.tmp 59) (.tmp 60))⟩, ⟨(some 62), (some (44, false)), (.pick (.tmp 53) (.tmp 61) (.const (.one (.bool false))))⟩, ⟨(some 63), none, (.pick (.tmp 44) (.const (.one (.bool true))) (.tmp 62))⟩]) (.cond (.tmp 63) (.ops [⟨(some 64), none, (.mv (.tmp 0))⟩, ⟨(some 65), none, (.mv (.tmp 5))⟩, ⟨(some 66), none, (.mv (.tmp 5))⟩, ⟨(some 67), none, (.mv (.tmp 7))⟩, ⟨(some 68), none, (.bin .add (.tmp 66) (.tmp 67))⟩, ⟨(some 69), none, (.cutS (.tmp 64) (some (.tmp 65)) (some (.tmp 68)))⟩, ⟨(some 4), none, (.mv (.tmp 69))⟩]) .skip))))) (.ops [⟨(some 17), none, (.mv (.tmp 6))⟩, ⟨(some 18), none, (.bin .add (.tmp 17) (.const (.one (.int .i64 1))))⟩, ⟨(some 6), none, (.mv (.tmp 18))⟩])))
def b19x2 : AC := (.seq (.seq (.ops [⟨(some 8), none, (.mv (.tmp 5))⟩, ⟨(some 9), none, (.mv (.tmp 0))⟩, ⟨(some 10), none, (.lenS (.tmp 9))⟩, ⟨(some 11), none, (.bin .lss (.tmp 8) (.tmp 10))⟩]) (.cond (.tmp 11) .skip (.exit 0))) (.seq (.block 1 (.seq (.ops [⟨(some 6), none, (.mv (.const (.one (.int .i64 0))))⟩]) (.block 2 (.loop [0, 4, 5, 6] b19x1)))) (.ops [⟨(some 12), none, (.mv (.tmp 5))⟩, ⟨(some 13), none, (.bin .add (.tmp 12) (.const (.one (.int .i64 1))))⟩, ⟨(some 5), none, (.mv (.tmp 13))⟩])))
def c19 : AF := ⟨[(2, none), (3, none)],
  (.seq (.ops [⟨(some 2), none, (.mv (.const (.one (.int .i64 0))))⟩, ⟨(some 3), none, (.mv (.const (.one (.int .i64 0))))⟩]) (.seq (.ops [⟨(some 4), none, (.mv (.const (.one (.str ⟨#[]⟩))))⟩]) (.seq (.seq (.ops [⟨(some 5), none, (.mv (.const (.one (.int .i64 0))))⟩]) (.block 0 (.loop [0, 4, 5] b19x2))) (.seq (.seq (.ops [⟨(some 70), none, (.mv (.tmp 4))⟩, ⟨(some 71), none, (.bin .eql (.tmp 70) (.const (.one (.str ⟨#[]⟩))))⟩]) (.cond (.tmp 71) (.seq (.ops [⟨(some 2), none, (.mv (.const (.one (.int .i64 0))))⟩, ⟨(some 3), none, (.mv (.const (.one (.int .i64 0))))⟩]) .ret) .skip)) (.seq (.ops [⟨(some 72), none, (.mv (.tmp 0))⟩, ⟨(some 73), none, (.mv (.tmp 4))⟩, ⟨(some 74), none, (.call 13 [(.tmp 72), (.tmp 73)])⟩, ⟨(some 75), none, (.iadrR 1 (.tmp 74) (.const (.one (.int .i64 0))))⟩, ⟨(some 76), none, (.load none (.tmp 75))⟩, ⟨(some 77), none, (.mv (.tmp 4))⟩, ⟨(some 78), none, (.lenS (.tmp 77))⟩, ⟨(some 2), none, (.mv (.tmp 76))⟩, ⟨(some 3), none, (.mv (.tmp 78))⟩]) .ret)))))⟩
abbrev T19 : Nat → Callee := (upd none0 13 F13)
def F19 : Callee := evF T19 KK c19
theorem s19 : Sound Go.Proofs.Try.prog 19 F19 := fn_ok (upd_ok (none0_ok _) s13) mixed (by kernel_rfl)
def b20x0 : AC := (.seq (.seq (.ops [⟨(some 29), none, (.mv (.tmp 9))⟩, ⟨(some 30), none, (.mv (.tmp 7))⟩, ⟨(some 31), none, (.lenS (.tmp 30))⟩, ⟨(some 32), none, (.bin .add (.tmp 29) (.tmp 31))⟩, ⟨(some 33), none, (.mv (.tmp 0))⟩, ⟨(some 34), none, (.lenS (.tmp 33))⟩, ⟨(some 35), none, (.bin .lss (.tmp 32) (.tmp 34))⟩]) (.cond (.tmp 35) .skip (.exit 2))) (.block 3 (.seq (.ops [⟨(some 37), none, (.mv (.tmp 6))⟩, ⟨(some 38), none, (.mv (.tmp 0))⟩, ⟨(some 39), none, (.mv (.tmp 9))⟩, ⟨(some 40), none, (.mv (.tmp 9))⟩, ⟨(some 41), none, (.mv (.tmp 7))⟩, ⟨(some 42), none, (.lenS (.tmp 41))⟩, ⟨(some 43), none, (.bin .add (.tmp 40) (.tmp 42))⟩, ⟨(some 44), none, (.bin .add (.tmp 43) (.const (.one (.int .i64 1))))⟩, ⟨(some 45), none, (.cutS (.tmp 38) (some (.tmp 39)) (some (.tmp 44)))⟩, ⟨(some 46), none, (.call 14 [(.tmp 37), (.tmp 45)])⟩, ⟨(some 36), none, (.mv (.tmp 46))⟩, ⟨(some 47), none, (.extract 0 (.tmp 36))⟩, ⟨(some 48), none, (.extract 1 (.tmp 36))⟩, ⟨(some 10), none, (.mv (.tmp 47))⟩, ⟨(some 11), none, (.mv (.tmp 48))⟩]) (.seq (.seq (.ops [⟨(some 49), none, (.mv (.tmp 10))⟩, ⟨(some 50), none, (.mv (.tmp 11))⟩, ⟨(some 51), none, (.bin .eql (.tmp 49) (.tmp 50))⟩]) (.cond (.tmp 51) (.exit 2) .skip)) (.ops [⟨(some 52), none, (.mv (.tmp 0))⟩, ⟨(some 53), none, (.mv (.tmp 9))⟩, ⟨(some 54), none, (.mv (.tmp 9))⟩, ⟨(some 55), none, (.mv (.tmp 7))⟩, ⟨(some 56), none, (.lenS (.tmp 55))⟩, ⟨(some 57), none, (.bin .add (.tmp 54) (.tmp 56))⟩, ⟨(some 58), none, (.bin .add (.tmp 57) (.const (.one (.int .i64 1))))⟩, ⟨(some 59), none, (.cutS (.tmp 52) (some (.tmp 53)) (some (.tmp 58)))⟩, ⟨(some 60), none, (.mv (.tmp 9))⟩, ⟨(some 7), none, (.mv (.tmp 59))⟩, ⟨(some 8), none, (.mv (.tmp 60))⟩])))))
def b20x1 : AC := (.seq (.ops [⟨(some 27), none, (.bin .lss (.tmp 26) (.tmp 25))⟩]) (.seq (.cond (.tmp 27) .skip (.exit 0)) (.seq (.block 1 (.seq (.ops [⟨(some 28), none, (.mv (.tmp 26))⟩, ⟨(some 9), none, (.mv (.tmp 28))⟩]) (.block 2 (.loop [0, 6, 7, 8, 9, 25, 26] b20x0)))) (.ops [⟨(some 61), none, (.bin .add (.tmp 26) (.const (.one (.int .i64 1))))⟩, ⟨(some 26), none, (.mv (.tmp 61))⟩]))))
def c20 : AF := ⟨[(4, none), (5, none)],
  (.seq (.ops [⟨(some 4), none, (.mv (.const (.one (.str ⟨#[]⟩))))⟩, ⟨(some 5), none, (.mv (.const (.one (.int .i64 0))))⟩]) (.seq (.opsD [(⟨(some 12), none, (.mv (.tmp 0))⟩, false), (⟨(some 13), none, (.mv (.tmp 0))⟩, false), (⟨(some 14), none, (.lenS (.tmp 13))⟩, false), (⟨(some 15), none, (.min [(.tmp 14), (.const (.one (.int .i64 400)))])⟩, false), (⟨(some 16), none, (.cutS (.tmp 12) none (some (.tmp 15)))⟩, false), (⟨(some 17), none, (.mv (.tmp 1))⟩, false), (⟨(some 18), none, (.mv (.tmp 1))⟩, false), (⟨(some 19), none, (.lenS (.tmp 18))⟩, false), (⟨(some 20), none, (.min [(.tmp 19), (.const (.one (.int .i64 400)))])⟩, false), (⟨(some 21), none, (.cutS (.tmp 17) none (some (.tmp 20)))⟩, false), (⟨(some 0), none, (.mv (.tmp 16))⟩, false), (⟨(some 1), none, (.mv (.tmp 21))⟩, false)] []) (.seq (.ops [⟨(some 22), none, (.mv (.tmp 1))⟩, ⟨(some 23), none, (.call 7 [(.tmp 22)])⟩, ⟨(some 6), none, (.mv (.tmp 23))⟩]) (.seq (.ops [⟨(some 7), none, (.mv (.const (.one (.str ⟨#[]⟩))))⟩, ⟨(some 8), none, (.mv (.const (.one (.int .i64 0))))⟩]) (.seq (.seq (.ops [⟨(some 24), none, (.mv (.tmp 0))⟩, ⟨(some 25), none, (.lenS (.tmp 24))⟩, ⟨(some 26), none, (.mv (.const (.one (.int .i64 0))))⟩]) (.block 0 (.loop [0, 6, 7, 8, 25, 26] b20x1))) (.seq (.ops [⟨(some 62), none, (.mv (.tmp 7))⟩, ⟨(some 63), none, (.mv (.tmp 8))⟩, ⟨(some 4), none, (.mv (.tmp 62))⟩, ⟨(some 5), none, (.mv (.tmp 63))⟩]) .ret))))))⟩
abbrev T20 : Nat → Callee := (upd (upd none0 7 F7) 14 F14)
def F20 : Callee := evF T20 KK c20
theorem s20 : Sound Go.Proofs.Try.prog 20 F20 := fn_ok (upd_ok (upd_ok (none0_ok _) s7) s14) mixed (by kernel_rfl)
def b21x0 : AC := (.seq (.seq (.opsD [(⟨(some 23), none, (.mv (.tmp 8))⟩, false), (⟨(some 24), none, (.mv (.tmp 10))⟩, false), (⟨(some 25), none, (.bin .add (.tmp 23) (.tmp 24))⟩, false), (⟨(some 26), none, (.mv (.tmp 0))⟩, false), (⟨(some 27), none, (.lenS (.tmp 26))⟩, false), (⟨(some 28), none, (.bin .lss (.tmp 25) (.tmp 27))⟩, false), (⟨(some 29), none, (.mv (.tmp 28))⟩, false), (⟨(some 30), (some (29, true)), (.mv (.tmp 9))⟩, false), (⟨(some 31), (some (29, true)), (.mv (.tmp 10))⟩, false), (⟨(some 32), (some (29, true)), (.bin .add (.tmp 30) (.tmp 31))⟩, false), (⟨(some 33), (some (29, true)), (.mv (.tmp 1))⟩, false), (⟨(some 34), (some (29, true)), (.lenS (.tmp 33))⟩, false), (⟨(some 35), (some (29, true)), (.bin .lss (.tmp 32) (.tmp 34))⟩, false), (⟨(some 36), none, (.pick (.tmp 29) (.tmp 35) (.const (.one (.bool false))))⟩, false), (⟨(some 37), none, (.mv (.tmp 36))⟩, false), (⟨(some 38), (some (37, true)), (.mv (.tmp 0))⟩, false), (⟨(some 39), (some (37, true)), (.mv (.tmp 8))⟩, false), (⟨(some 40), (some (37, true)), (.mv (.tmp 10))⟩, false), (⟨(some 41), (some (37, true)), (.bin .add (.tmp 39) (.tmp 40))⟩, false), (⟨(some 42), (some (37, true)), (.idxS (.tmp 38) (.tmp 41))⟩, false), (⟨(some 43), (some (37, true)), (.mv (.tmp 1))⟩, false), (⟨(some 44), (some (37, true)), (.mv (.tmp 9))⟩, false), (⟨(some 45), (some (37, true)), (.mv (.tmp 10))⟩, false), (⟨(some 46), (some (37, true)), (.bin .add (.tmp 44) (.tmp 45))⟩, false), (⟨(some 47), (some (37, true)), (.idxS (.tmp 43) (.tmp 46))⟩, false), (⟨(some 48), (some (37, true)), (.bin .eql (.tmp 42) (.tmp 47))⟩, false), (⟨(some 49), none, (.pick (.tmp 37) (.tmp 48) (.const (.one (.bool false))))⟩, false)] []) (.cond (.tmp 49) .skip (.exit 4))) (.block 5 (.ops [⟨(some 50), none, (.mv (.tmp 10))⟩, ⟨(some 51), none, (.bin .add (.tmp 50) (.const (.one (.int .i64 1))))⟩, ⟨(some 10), none, (.mv (.tmp 51))⟩])))
def b21x1 : AC := (.seq (.seq (.ops [⟨(some 17), none, (.mv (.tmp 9))⟩, ⟨(some 18), none, (.mv (.tmp 1))⟩, ⟨(some 19), none, (.lenS (.tmp 18))⟩, ⟨(some 20), none, (.bin .lss (.tmp 17) (.tmp 19))⟩]) (.cond (.tmp 20) .skip (.exit 2))) (.seq (.block 3 (.seq (.ops [⟨(some 10), none, (.mv (.const (.one (.int .i64 0))))⟩]) (.seq (.block 4 (.loop [0, 1, 6, 7, 8, 9, 10] b21x0)) (.seq (.ops [⟨(some 52), none, (.mv (.tmp 10))⟩, ⟨(some 53), none, (.mv (.tmp 6))⟩, ⟨(some 54), none, (.lenS (.tmp 53))⟩, ⟨(some 55), none, (.bin .gtr (.tmp 52) (.tmp 54))⟩]) (.cond (.tmp 55) (.seq (.ops [⟨(some 56), none, (.mv (.tmp 0))⟩, ⟨(some 57), none, (.mv (.tmp 8))⟩, ⟨(some 58), none, (.mv (.tmp 8))⟩, ⟨(some 59), none, (.mv (.tmp 10))⟩, ⟨(some 60), none, (.bin .add (.tmp 58) (.tmp 59))⟩, ⟨(some 61), none, (.cutS (.tmp 56) (some (.tmp 57)) (some (.tmp 60)))⟩, ⟨(some 6), none, (.mv (.tmp 61))⟩]) (.ops [⟨(some 62), none, (.mv (.tmp 8))⟩, ⟨(some 7), none, (.mv (.tmp 62))⟩])) .skip))))) (.ops [⟨(some 21), none, (.mv (.tmp 9))⟩, ⟨(some 22), none, (.bin .add (.tmp 21) (.const (.one (.int .i64 1))))⟩, ⟨(some 9), none, (.mv (.tmp 22))⟩])))
def b21x2 : AC := (.seq (.seq (.ops [⟨(some 11), none, (.mv (.tmp 8))⟩, ⟨(some 12), none, (.mv (.tmp 0))⟩, ⟨(some 13), none, (.lenS (.tmp 12))⟩, ⟨(some 14), none, (.bin .lss (.tmp 11) (.tmp 13))⟩]) (.cond (.tmp 14) .skip (.exit 0))) (.seq (.block 1 (.seq (.ops [⟨(some 9), none, (.mv (.const (.one (.int .i64 0))))⟩]) (.block 2 (.loop [0, 1, 6, 7, 8, 9] b21x1)))) (.ops [⟨(some 15), none, (.mv (.tmp 8))⟩, ⟨(some 16), none, (.bin .add (.tmp 15) (.const (.one (.int .i64 1))))⟩, ⟨(some 8), none, (.mv (.tmp 16))⟩])))
def c21 : AF := ⟨[(4, none), (5, none)],
  (.seq (.ops [⟨(some 4), none, (.mv (.const (.one (.str ⟨#[]⟩))))⟩, ⟨(some 5), none, (.mv (.const (.one (.int .i64 0))))⟩]) (.seq (.ops [⟨(some 6), none, (.mv (.const (.one (.str ⟨#[]⟩))))⟩]) (.seq (.ops [⟨(some 7), none, (.mv (.const (.one (.int .i64 0))))⟩]) (.seq (.seq (.ops [⟨(some 8), none, (.mv (.const (.one (.int .i64 0))))⟩]) (.block 0 (.loop [0, 1, 6, 7, 8] b21x2))) (.seq (.ops [⟨(some 63), none, (.mv (.tmp 6))⟩, ⟨(some 64), none, (.mv (.tmp 7))⟩, ⟨(some 4), none, (.mv (.tmp 63))⟩, ⟨(some 5), none, (.mv (.tmp 64))⟩]) .ret)))))⟩
abbrev T21 : Nat → Callee := none0
def F21 : Callee := evF T21 KK c21
theorem s21 : Sound Go.Proofs.Try.prog 21 F21 := fn_ok (none0_ok _) mixed (by kernel_rfl)
def c5 : AF := ⟨[(4, none)],
  (.seq (.ops [⟨(some 4), none, (.mv (.const (.one (.bool false))))⟩]) (.seq (.seq (.ops [⟨(some 18), none, (.call 6 [])⟩, ⟨(some 19), none, (.un .not (.tmp 18))⟩]) (.cond (.tmp 19) (.seq (.ops [⟨(some 4), none, (.mv (.const (.one (.bool false))))⟩]) .ret) .skip)) (.seq (.seq (.ops [⟨(some 20), none, (.mv (.tmp 0))⟩, ⟨(some 21), none, (.lenS (.tmp 20))⟩, ⟨(some 22), none, (.bin .gtr (.tmp 21) (.const (.one (.int .i64 120))))⟩, ⟨(some 23), none, (.mv (.tmp 22))⟩, ⟨(some 24), (some (23, false)), (.mv (.tmp 1))⟩, ⟨(some 25), (some (23, false)), (.lenS (.tmp 24))⟩, ⟨(some 26), (some (23, false)), (.bin .gtr (.tmp 25) (.const (.one (.int .i64 120))))⟩, ⟨(some 27), none, (.pick (.tmp 23) (.const (.one (.bool true))) (.tmp 26))⟩]) (.cond (.tmp 27) (.seq (.ops [⟨(some 4), none, (.mv (.const (.one (.bool true))))⟩]) .ret) .skip)) (.seq (.ops [⟨(some 29), none, (.mv (.tmp 0))⟩, ⟨(some 30), none, (.call 7 [(.tmp 29)])⟩, ⟨(some 31), none, (.call 18 [(.tmp 30)])⟩, ⟨(some 28), none, (.mv (.tmp 31))⟩, ⟨(some 32), none, (.extract 0 (.tmp 28))⟩, ⟨(some 33), none, (.extract 1 (.tmp 28))⟩, ⟨(some 5), none, (.mv (.tmp 32))⟩, ⟨(some 6), none, (.mv (.tmp 33))⟩]) (.seq (.ops [⟨(some 35), none, (.mv (.tmp 0))⟩, ⟨(some 36), none, (.call 19 [(.tmp 35)])⟩, ⟨(some 34), none, (.mv (.tmp 36))⟩, ⟨(some 37), none, (.extract 0 (.tmp 34))⟩, ⟨(some 38), none, (.extract 1 (.tmp 34))⟩, ⟨(some 7), none, (.mv (.tmp 37))⟩, ⟨(some 8), none, (.mv (.tmp 38))⟩]) (.seq (.ops [⟨(some 40), none, (.mv (.tmp 0))⟩, ⟨(some 41), none, (.mv (.tmp 1))⟩, ⟨(some 42), none, (.call 20 [(.tmp 40), (.tmp 41)])⟩, ⟨(some 39), none, (.mv (.tmp 42))⟩, ⟨(some 43), none, (.extract 0 (.tmp 39))⟩, ⟨(some 44), none, (.extract 1 (.tmp 39))⟩, ⟨(some 9), none, (.mv (.tmp 43))⟩, ⟨(some 10), none, (.mv (.tmp 44))⟩]) (.seq (.ops [⟨(some 46), none, (.mv (.tmp 0))⟩, ⟨(some 47), none, (.mv (.tmp 1))⟩, ⟨(some 48), none, (.call 21 [(.tmp 46), (.tmp 47)])⟩, ⟨(some 45), none, (.mv (.tmp 48))⟩, ⟨(some 49), none, (.extract 0 (.tmp 45))⟩, ⟨(some 50), none, (.extract 1 (.tmp 45))⟩, ⟨(some 11), none, (.mv (.tmp 49))⟩, ⟨(some 12), none, (.mv (.tmp 50))⟩]) (.seq (.ops [⟨(some 13), none, (.mv (.const (.one .nilp)))⟩]) (.seq (.ops [⟨(some 52), none, (.mv (.tmp 13))⟩, ⟨(some 53), none, (.call 18 [(.tmp 52)])⟩, ⟨(some 51), none, (.mv (.tmp 53))⟩, ⟨(some 54), none, (.extract 0 (.tmp 51))⟩, ⟨(some 55), none, (.extract 1 (.tmp 51))⟩, ⟨(some 14), none, (.mv (.tmp 54))⟩, ⟨(some 15), none, (.mv (.tmp 55))⟩]) (.seq (.ops [⟨(some 57), none, (.mv (.tmp 13))⟩, ⟨(some 58), none, (.mv (.tmp 0))⟩, ⟨(some 59), none, (.call 14 [(.tmp 57), (.tmp 58)])⟩, ⟨(some 56), none, (.mv (.tmp 59))⟩, ⟨(some 60), none, (.extract 0 (.tmp 56))⟩, ⟨(some 61), none, (.extract 1 (.tmp 56))⟩, ⟨(some 16), none, (.mv (.tmp 60))⟩, ⟨(some 17), none, (.mv (.tmp 61))⟩]) (.seq (.ops [⟨(some 62), none, (.mv (.tmp 5))⟩, ⟨(some 63), none, (.mv (.tmp 7))⟩, ⟨(some 64), none, (.bin .eql (.tmp 62) (.tmp 63))⟩, ⟨(some 65), none, (.mv (.tmp 64))⟩, ⟨(some 66), (some (65, true)), (.mv (.tmp 6))⟩, ⟨(some 67), (some (65, true)), (.mv (.tmp 8))⟩, ⟨(some 68), (some (65, true)), (.bin .eql (.tmp 66) (.tmp 67))⟩, ⟨(some 69), none, (.pick (.tmp 65) (.tmp 68) (.const (.one (.bool false))))⟩, ⟨(some 70), none, (.mv (.tmp 69))⟩, ⟨(some 71), (some (70, true)), (.mv (.tmp 9))⟩, ⟨(some 72), (some (70, true)), (.mv (.tmp 11))⟩, ⟨(some 73), (some (70, true)), (.bin .eql (.tmp 71) (.tmp 72))⟩, ⟨(some 74), none, (.pick (.tmp 70) (.tmp 73) (.const (.one (.bool false))))⟩, ⟨(some 75), none, (.mv (.tmp 74))⟩, ⟨(some 76), (some (75, true)), (.mv (.tmp 10))⟩, ⟨(some 77), (some (75, true)), (.mv (.tmp 12))⟩, ⟨(some 78), (some (75, true)), (.bin .eql (.tmp 76) (.tmp 77))⟩, ⟨(some 79), none, (.pick (.tmp 75) (.tmp 78) (.const (.one (.bool false))))⟩, ⟨(some 80), none, (.mv (.tmp 79))⟩, ⟨(some 81), (some (80, true)), (.mv (.tmp 13))⟩, ⟨(some 82), (some (80, true)), (.call 9 [(.tmp 81)])⟩, ⟨(some 83), (some (80, true)), (.bin .eql (.tmp 82) (.const (.one (.int .i64 0))))⟩, ⟨(some 84), none, (.pick (.tmp 80) (.tmp 83) (.const (.one (.bool false))))⟩, ⟨(some 85), none, (.mv (.tmp 84))⟩, ⟨(some 86), (some (85, true)), (.mv (.tmp 14))⟩, ⟨(some 87), (some (85, true)), (.bin .eql (.tmp 86) (.const (.one (.int .i64 0))))⟩, ⟨(some 88), none, (.pick (.tmp 85) (.tmp 87) (.const (.one (.bool false))))⟩, ⟨(some 89), none, (.mv (.tmp 88))⟩, ⟨(some 90), (some (89, true)), (.mv (.tmp 15))⟩, ⟨(some 91), (some (89, true)), (.bin .eql (.tmp 90) (.const (.one (.int .i64 0))))⟩, ⟨(some 92), none, (.pick (.tmp 89) (.tmp 91) (.const (.one (.bool false))))⟩, ⟨(some 93), none, (.mv (.tmp 92))⟩, ⟨(some 94), (some (93, true)), (.mv (.tmp 16))⟩, ⟨(some 95), (some (93, true)), (.bin .eql (.tmp 94) (.const (.one (.int .i64 0))))⟩, ⟨(some 96), none, (.pick (.tmp 93) (.tmp 95) (.const (.one (.bool false))))⟩, ⟨(some 97), none, (.mv (.tmp 96))⟩, ⟨(some 98), (some (97, true)), (.mv (.tmp 17))⟩, ⟨(some 99), (some (97, true)), (.bin .eql (.tmp 98) (.const (.one (.int .i64 0))))⟩, ⟨(some 100), none, (.pick (.tmp 97) (.tmp 99) (.const (.one (.bool false))))⟩, ⟨(some 101), none, (.mv (.tmp 100))⟩, ⟨(some 102), (some (101, true)), (.mv (.tmp 13))⟩, ⟨(some 103), (some (101, true)), (.mv (.tmp 1))⟩, ⟨(some 104), (some (101, true)), (.call 16 [(.tmp 102), (.tmp 103)])⟩, ⟨(some 105), (some (101, true)), (.len (.tmp 104))⟩, ⟨(some 106), (some (101, true)), (.bin .eql (.tmp 105) (.const (.one (.int .i64 0))))⟩, ⟨(some 107), none, (.pick (.tmp 101) (.tmp 106) (.const (.one (.bool false))))⟩, ⟨(some 4), none, (.mv (.tmp 107))⟩]) .ret)))))))))))⟩
abbrev T5 : Nat → Callee := (upd (upd (upd (upd (upd (upd (upd (upd (upd none0 6 F6) 7 F7) 9 F9) 14 F14) 16 F16) 18 F18) 19 F19) 20 F20) 21 F21)
def F5 : Callee := evF T5 0 c5
theorem s5 : Sound Go.Proofs.Try.prog 5 F5 := fn_ok (upd_ok (upd_ok (upd_ok (upd_ok (upd_ok (upd_ok (upd_ok (upd_ok (upd_ok (none0_ok _) s6) s7) s9) s14) s16) s18) s19) s20) s21) mixed (by kernel_rfl)
end Go.X.Try
namespace Go.X
def lx : List Int → List Int → Bool
  | _, [] => false
  | [], _ :: _ => true
  | a :: x, b :: y => decide (a < b) || (decide (a = b) && lx x y)
@[simp] theorem lx_nil_right (x : List Int) : lx x [] = false := by cases x <;> rfl
@[simp] theorem lx_nil_cons (b : Int) (y : List Int) : lx [] (b :: y) = true := rfl
theorem lx_cons (a b : Int) (x y : List Int) : lx (a :: x) (b :: y) = true ↔ a < b ∨ (a = b ∧ lx x y = true) := by simp [lx]
theorem lx_irrefl : ∀ x : List Int, lx x x = false
  | [] => rfl
  | a :: x => by simp [lx, lx_irrefl x]
theorem lx_trans : ∀ {x y z : List Int}, lx x y = true → lx y z = true → lx x z = true
  | _, [], _, h, _ => by simp at h
  | _, _ :: _, [], _, h => by simp at h
  | [], _ :: _, _ :: _, _, _ => rfl
  | a :: x, b :: y, c :: z, h, h' => by
    rw [lx_cons] at *
    rcases h with h | ⟨rfl, h⟩ <;> rcases h' with h' | ⟨rfl, h'⟩
    · exact .inl (by omega)
    · exact .inl h
    · exact .inl h'
    · exact .inr ⟨rfl, lx_trans h h'⟩
theorem lx_total : ∀ x y : List Int, lx x y = true ∨ x = y ∨ lx y x = true
  | [], [] => .inr (.inl rfl)
  | [], _ :: _ => .inl rfl
  | _ :: _, [] => .inr (.inr rfl)
  | a :: x, b :: y => by
    rw [lx_cons, lx_cons]
    rcases Int.lt_trichotomy a b with h | rfl | h
    · exact .inl (.inl h)
    · rcases lx_total x y with h | rfl | h
      · exact .inl (.inr ⟨rfl, h⟩)
      · exact .inr (.inl rfl)
      · exact .inr (.inr (.inr ⟨rfl, h⟩))
    · exact .inr (.inr (.inl h))
theorem lx_asymm {x y : List Int} (h : lx x y = true) : lx y x = false := by
  cases h' : lx y x with
  | false => rfl
  | true => have := lx_trans h h'; rw [lx_irrefl] at this; cases this
theorem lx_ntrans {x y z : List Int} (h : lx x y = false) (h' : lx y z = false) : lx x z = false := by
  rcases lx_total x y with h1 | rfl | h1
  · rw [h1] at h; cases h
  · exact h'
  · rcases lx_total y z with h2 | rfl | h2
    · rw [h2] at h'; cases h'
    · exact h
    · exact lx_asymm (lx_trans h2 h1)
theorem lx_app : ∀ (a c b d : List Int), (a.length < c.length → b = []) → (c.length < a.length → d = []) → (lx (a ++ b) (c ++ d) = true ↔ lx a c = true ∨ (a = c ∧ lx b d = true))
  | [], [], b, d, _, _ => by simp
  | [], y :: c, b, d, h1, _ => by rw [h1 (by simp)]; simp
  | x :: a, [], b, d, _, h2 => by rw [h2 (by simp)]; simp
  | x :: a, y :: c, b, d, h1, h2 => by
    rw [List.cons_append, List.cons_append, lx_cons, lx_cons, lx_app a c b d (fun h => h1 (by simpa using h)) (fun h => h2 (by simpa using h))]
    constructor
    · rintro (h | ⟨rfl, h | ⟨rfl, h⟩⟩)
      · exact .inl (.inl h)
      · exact .inl (.inr ⟨rfl, h⟩)
      · exact .inr ⟨rfl, h⟩
    · rintro ((h | ⟨rfl, h⟩) | ⟨h, h'⟩)
      · exact .inl h
      · exact .inr ⟨rfl, .inl h⟩
      · simp at h; exact .inr ⟨h.1, .inr ⟨h.2, h'⟩⟩
def pre (t : List Int) (K i : Nat) : List Int := (t.drop i).take K
theorem pre_dbl (t : List Int) (K i : Nat) : pre t (2 * K) i = pre t K i ++ pre t K (i + K) := by
  simp only [pre]
  rw [show 2 * K = K + K by omega, List.take_add, List.drop_drop]
theorem pre_len (t : List Int) (K i : Nat) : (pre t K i).length = min K (t.length - i) := by simp [pre]
theorem pre_short {t : List Int} {K i j : Nat} (h : (pre t K i).length < (pre t K j).length) : pre t K (i + K) = [] := by
  have h1 := pre_len t K i
  have h2 := pre_len t K j
  apply List.eq_nil_of_length_eq_zero
  rw [pre_len]; omega
theorem lx_dbl (t : List Int) (K i j : Nat) : lx (pre t (2 * K) i) (pre t (2 * K) j) = true ↔ lx (pre t K i) (pre t K j) = true ∨ (pre t K i = pre t K j ∧ lx (pre t K (i + K)) (pre t K (j + K)) = true) := by
  rw [pre_dbl, pre_dbl]
  exact lx_app _ _ _ _ pre_short pre_short
theorem lx_pre {t : List Int} {K i j : Nat} (h : lx (pre t K i) (pre t K j) = true) : lx (t.drop i) (t.drop j) = true := by
  have e : ∀ k, t.drop k = pre t K k ++ t.drop (k + K) := fun k => by
    simp only [pre]; rw [← List.drop_drop, List.take_append_drop]
  have sh : ∀ k l, (pre t K k).length < (pre t K l).length → t.drop (k + K) = [] := fun k l h => by
    rw [pre_len, pre_len] at h
    apply List.eq_nil_of_length_eq_zero
    rw [List.length_drop]; omega
  rw [e i, e j]
  exact (lx_app _ _ _ _ (sh i j) (sh j i)).2 (.inl h)
structure Ranks (t : List Int) (K : Nat) (now : List Int) : Prop where
  len : now.length = t.length
  pos : ∀ i, i < t.length → 0 ≤ now.getD i 0
  lt : ∀ i j, i < t.length → j < t.length → (now.getD i 0 < now.getD j 0 ↔ lx (pre t K i) (pre t K j) = true)
theorem Ranks.eq {t : List Int} {K : Nat} {now : List Int} (h : Ranks t K now) {i j : Nat} (hi : i < t.length) (hj : j < t.length) : now.getD i 0 = now.getD j 0 ↔ pre t K i = pre t K j := by
  have h1 := h.lt i j hi hj
  have h2 := h.lt j i hj hi
  constructor
  · intro e
    rcases lx_total (pre t K i) (pre t K j) with h3 | h3 | h3
    · have := h1.2 h3; omega
    · exact h3
    · have := h2.2 h3; omega
  · intro e
    rw [e, lx_irrefl] at h1
    rw [e, lx_irrefl] at h2
    have a : ¬ now.getD i 0 < now.getD j 0 := fun x => absurd (h1.1 x) (by simp)
    have b : ¬ now.getD j 0 < now.getD i 0 := fun x => absurd (h2.1 x) (by simp)
    rcases Int.lt_trichotomy (now.getD i 0) (now.getD j 0) with h3 | h3 | h3
    · exact absurd h3 a
    · exact h3
    · exact absurd h3 b
open Go.Proofs in
theorem Ranks.cmp {t : List Int} {K : Nat} {now : List Int} (h : Ranks t K now) (hK : 0 < K) {i j : Nat} (hi : i < t.length) (hj : j < t.length) : cmpV now K i j < 0 ↔ lx (pre t (2 * K) i) (pre t (2 * K) j) = true := by
  have at_ : ∀ i, atI now now.length K (i : Nat) = if i + K < t.length then now.getD (i + K) 0 else -1 := by
    intro i
    unfold atI
    rw [h.len]
    by_cases hik : i + K < t.length
    · rw [if_pos (by omega), if_pos hik, show ((i : Int) + K).toNat = i + K by omega]
    · rw [if_neg (by omega), if_neg hik]
  rw [cmpV_neg, lx_dbl, at_, at_, show (i : Int).toNat = i by omega, show (j : Int).toNat = j by omega, h.lt i j hi hj, h.eq hi hj]
  have nil : ∀ k, ¬ k + K < t.length → pre t K (k + K) = [] := fun k hk => List.eq_nil_of_length_eq_zero (by rw [pre_len]; omega)
  have e : (if i + K < t.length then now.getD (i + K) 0 else -1) < (if j + K < t.length then now.getD (j + K) 0 else -1) ↔ lx (pre t K (i + K)) (pre t K (j + K)) = true := by
    by_cases h1 : i + K < t.length <;> by_cases h2 : j + K < t.length
    · rw [if_pos h1, if_pos h2]; exact h.lt _ _ h1 h2
    · rw [if_pos h1, if_neg h2, nil j h2]
      have := h.pos _ h1
      generalize now.getD (i + K) 0 = z at *
      simp; omega
    · rw [if_neg h1, if_pos h2, nil i h1]
      have := h.pos _ h2
      cases hp : pre t K (j + K) with
      | nil => have := pre_len t K (j + K); rw [hp] at this; simp at this; omega
      | cons a l => generalize now.getD (j + K) 0 = z at *; simp; omega
    · rw [if_neg h1, if_neg h2, nil i h1, nil j h2]; simp
  rw [e]
open Go.Proofs Go.Sort
def ci (l : List Nat) : List Int := l.map fun x : Nat => (x : Int)
theorem ci_length (l : List Nat) : (ci l).length = l.length := by simp [ci]
theorem ci_getD (l : List Nat) (i : Nat) : (ci l).getD i 0 = (l.getD i 0 : Nat) := by
  simp only [ci, List.getD, List.getElem?_map]
  cases l[i]? <;> rfl
theorem srt_spec (now : List Int) (K : Int) (ord : List Nat) (h : ∀ x ∈ ord, x < now.length) :
    ∃ ys : List Nat, srtI now (ci ord) K = ci ys ∧ ys.Perm ord ∧ ∀ i j, i < j → j < ys.length → ¬ cmpV now K (ys.getD j 0 : Nat) (ys.getD i 0 : Nat) < 0 := by
  obtain ⟨⟨hs, _, hp⟩, hso⟩ := srtD_ok now (ci ord) K
  have hD : (plD now (ci ord)).toList.map (·.val) = ord := by
    simp only [plD, ci, List.map_map]
    conv => rhs; rw [← List.map_id ord]
    apply List.map_congr_left
    intro x hx
    have := h x hx
    simp [Fin.ofNat]
    omega
  refine ⟨(srtD now (ci ord) K).toList.map (·.val), ?_, ?_, ?_⟩
  · simp only [srtI, ci, List.map_map]; rfl
  · have e1 : (srtD now (ci ord) K).extract 0 (plD now (ci ord)).size = srtD now (ci ord) K := by
      rw [← hs]; simp
    have e2 : (plD now (ci ord)).extract 0 (plD now (ci ord)).size = plD now (ci ord) := by simp
    rw [e1, e2] at hp
    have := hp.map (fun i : Pl now => i.val)
    rw [hD] at this
    exact this
  · intro i j hij hj
    have hj' : j < (srtD now (ci ord) K).size := by simpa using hj
    have hi' : i < (srtD now (ci ord) K).size := by omega
    have := hso i j (Nat.zero_le _) hij (by omega)
    rw [getElem!_pos _ i hi', getElem!_pos _ j hj'] at this
    have := of_decide_eq_false this
    simp only [plC] at this
    simpa [List.getD, hi', hj'] using this
section
variable (now : List Int) (K : Nat) (ys : List Nat)
def lastAt : Nat → Int
  | 0 => 0
  | p + 1 => lastAt p + if cmpV now K (ys.getD p 0 : Nat) (ys.getD (p + 1) 0 : Nat) < 0 then 1 else 0
def nxAt : Nat → List Int
  | 0 => List.replicate now.length 0
  | p + 1 => (nxAt p).set (ys.getD (p + 1) 0) (lastAt now K ys (p + 1))
end
theorem nxAt_length (now : List Int) (K : Nat) (ys : List Nat) (m : Nat) : (nxAt now K ys m).length = now.length := by
  induction m with
  | zero => simp [nxAt]
  | succ m ih => simp [nxAt, ih]
theorem getD_inj {ys : List Nat} (hn : ys.Nodup) {p q : Nat} (hp : p < ys.length) (hq : q < ys.length) (h : ys.getD p 0 = ys.getD q 0) : p = q := by
  simp only [List.getD, List.getElem?_eq_getElem hp, List.getElem?_eq_getElem hq, Option.getD_some] at h
  exact (List.getElem_inj hn).1 h
theorem nxAt_get {now : List Int} {K : Nat} {ys : List Nat} (hn : ys.Nodup) (hb : ∀ x ∈ ys, x < now.length) : ∀ (m q : Nat), m < ys.length → q ≤ m → (nxAt now K ys m).getD (ys.getD q 0) 0 = lastAt now K ys q
  | 0, q, hm, hq => by
    obtain rfl : q = 0 := by omega
    have h1 : ys.getD 0 0 < now.length := hb _ (by simp [List.getD, hm])
    simp only [nxAt, lastAt]
    generalize ys.getD 0 0 = z at *
    simp [List.getD, h1]
  | m + 1, q, hm, hq => by
    have h1 : ys.getD (m + 1) 0 < now.length := hb _ (by simp [List.getD, hm])
    by_cases e : q = m + 1
    · subst e
      simp only [nxAt]
      have : ys.getD (m + 1) 0 < (nxAt now K ys m).length := by rw [nxAt_length]; exact h1
      generalize ys.getD (m + 1) 0 = z at *
      simp [List.getD, this]
    · have h2 : ys.getD (m + 1) 0 ≠ ys.getD q 0 := fun e' => e (getD_inj hn (by omega) (by omega) e'.symm)
      have ih := nxAt_get (K := K) hn hb m q (by omega) (by omega)
      simp only [nxAt]
      rw [← ih]
      generalize ys.getD (m + 1) 0 = z at *
      generalize ys.getD q 0 = z' at *
      simp [List.getD, List.getElem?_set_ne h2]
theorem lastAt_mono (now : List Int) (K : Nat) (ys : List Nat) (p : Nat) : lastAt now K ys p ≤ lastAt now K ys (p + 1) ∧ lastAt now K ys (p + 1) ≤ lastAt now K ys p + 1 := by
  simp only [lastAt]; split <;> omega
theorem lastAt_le (now : List Int) (K : Nat) (ys : List Nat) : ∀ p : Nat, 0 ≤ lastAt now K ys p ∧ lastAt now K ys p ≤ p
  | 0 => by simp [lastAt]
  | p + 1 => by have := lastAt_le now K ys p; have := lastAt_mono now K ys p; omega
structure IsSA (t : List Int) (ord : List Nat) : Prop where
  perm : ord.Perm (List.range t.length)
  sorted : ord.Pairwise fun i j => lx (t.drop i) (t.drop j) = true
section
variable {t : List Int} {K : Nat} {now : List Int} {ys : List Nat} (R : Ranks t K now) (hK : 0 < K) (hp : ys.Perm (List.range t.length)) (hs : ∀ i j, i < j → j < ys.length → ¬ cmpV now K (ys.getD j 0 : Nat) (ys.getD i 0 : Nat) < 0)
include R hK hp hs
theorem ys_len : ys.length = t.length := by have := hp.length_eq; simpa using this
theorem ys_lt {p : Nat} (h : p < t.length) : ys.getD p 0 < t.length := by
  have hl := ys_len R hK hp hs
  have : ys.getD p 0 ∈ ys := by simp [List.getD, hl, h]
  have := hp.mem_iff.1 this
  simpa using this
theorem ys_cmp {p q : Nat} (h1 : p < t.length) (h2 : q < t.length) : cmpV now K (ys.getD p 0 : Nat) (ys.getD q 0 : Nat) < 0 ↔ lx (pre t (2 * K) (ys.getD p 0)) (pre t (2 * K) (ys.getD q 0)) = true :=
  R.cmp hK (ys_lt R hK hp hs h1) (ys_lt R hK hp hs h2)
theorem ys_sorted {p q : Nat} (h1 : p < q) (h2 : q < t.length) : lx (pre t (2 * K) (ys.getD q 0)) (pre t (2 * K) (ys.getD p 0)) = false := by
  have hl := ys_len R hK hp hs
  have h := hs p q h1 (by omega)
  rw [ys_cmp R hK hp hs h2 (by omega)] at h
  simpa using h
theorem lastAt_lt : ∀ q p : Nat, p ≤ q → q < t.length → (lastAt now K ys p < lastAt now K ys q ↔ lx (pre t (2 * K) (ys.getD p 0)) (pre t (2 * K) (ys.getD q 0)) = true) ∧ lastAt now K ys p ≤ lastAt now K ys q
  | 0, p, h, _ => by
    obtain rfl : p = 0 := by omega
    simp [lx_irrefl]
  | q + 1, p, h, hq => by
    by_cases e : p = q + 1
    · subst e; simp [lx_irrefl]
    · obtain ⟨ih1, ih2⟩ := lastAt_lt q p (by omega) (by omega)
      have hst : lastAt now K ys (q + 1) = lastAt now K ys q + if lx (pre t (2 * K) (ys.getD q 0)) (pre t (2 * K) (ys.getD (q + 1) 0)) = true then 1 else 0 := by
        simp only [lastAt, ys_cmp R hK hp hs (show q < t.length by omega) hq]
      have so := ys_sorted R hK hp hs (show q < q + 1 by omega) hq
      have so2 : lx (pre t (2 * K) (ys.getD q 0)) (pre t (2 * K) (ys.getD p 0)) = false := by
        by_cases e2 : p = q
        · subst e2; exact lx_irrefl _
        · exact ys_sorted R hK hp hs (show p < q by omega) (by omega)
      generalize pre t (2 * K) (ys.getD (q + 1) 0) = c at *
      generalize pre t (2 * K) (ys.getD q 0) = b at *
      generalize pre t (2 * K) (ys.getD p 0) = a at *
      have t1 : lx a b = true → lx a c = true := fun h1 => by
        rcases lx_total b c with h2 | rfl | h2
        · exact lx_trans h1 h2
        · exact h1
        · rw [h2] at so; cases so
      have t2 : lx b c = true → lx a c = true := fun h1 => by
        rcases lx_total a b with h2 | rfl | h2
        · exact lx_trans h2 h1
        · exact h1
        · rw [h2] at so2; cases so2
      by_cases hbc : lx b c = true
      · rw [if_pos hbc] at hst
        exact ⟨⟨fun _ => t2 hbc, fun _ => by omega⟩, by omega⟩
      · rw [if_neg hbc] at hst
        refine ⟨⟨fun h1 => t1 (ih1.1 (by omega)), fun h1 => ?_⟩, by omega⟩
        cases hab : lx a b with
        | true => have := ih1.2 hab; omega
        | false => rw [lx_ntrans hab (by simpa using hbc)] at h1; cases h1
theorem ranks_next (h0 : 0 < t.length) : Ranks t (2 * K) (nxAt now K ys (t.length - 1)) := by
  have hl := ys_len R hK hp hs
  have hn : ys.Nodup := hp.nodup_iff.2 List.nodup_range
  have hb : ∀ x ∈ ys, x < now.length := fun x hx => by have := hp.mem_iff.1 hx; rw [R.len]; simpa using this
  have get : ∀ i, i < t.length → ∃ p, p < t.length ∧ ys.getD p 0 = i ∧ (nxAt now K ys (t.length - 1)).getD i 0 = lastAt now K ys p := by
    intro i hi
    have hm : i ∈ ys := hp.mem_iff.2 (by simpa using hi)
    obtain ⟨p, hp1, hp2⟩ := List.mem_iff_getElem.1 hm
    have e : ys.getD p 0 = i := by simp [List.getD, hp1, hp2]
    refine ⟨p, by omega, e, ?_⟩
    rw [← e]
    exact nxAt_get hn hb (t.length - 1) p (by omega) (by omega)
  refine ⟨by rw [nxAt_length, R.len], fun i hi => ?_, fun i j hi hj => ?_⟩
  · obtain ⟨p, _, _, e⟩ := get i hi
    rw [e]; exact (lastAt_le now K ys p).1
  · obtain ⟨p, hp1, e1, e2⟩ := get i hi
    obtain ⟨q, hq1, e3, e4⟩ := get j hj
    rw [e2, e4, ← e1, ← e3]
    rcases Nat.le_total p q with h | h
    · exact (lastAt_lt R hK hp hs q p h hq1).1
    · have h1 := (lastAt_lt R hK hp hs p q h hp1)
      have h2 : lx (pre t (2 * K) (ys.getD p 0)) (pre t (2 * K) (ys.getD q 0)) = false := by
        by_cases e : q = p
        · subst e; exact lx_irrefl _
        · exact ys_sorted R hK hp hs (show q < p by omega) hp1
      rw [h2]
      simp
      exact h1.2
theorem sa_of_last (h : (t.length : Int) - 1 ≤ lastAt now K ys (t.length - 1)) : IsSA t ys := by
  have hl := ys_len R hK hp hs
  refine ⟨hp, ?_⟩
  have str : ∀ m, m < t.length → (m : Int) ≤ lastAt now K ys m := by
    intro m hm
    have : ∀ d, m + d < t.length → lastAt now K ys (m + d) ≤ lastAt now K ys m + d := by
      intro d
      induction d with
      | zero => intro _; simp
      | succ d ih => intro h2; have := ih (by omega); have := (lastAt_mono now K ys (m + d)).2; rw [Nat.add_succ]; simp only [Nat.succ_eq_add_one] at *; omega
    have := this (t.length - 1 - m) (by omega)
    rw [show m + (t.length - 1 - m) = t.length - 1 by omega] at this
    omega
  rw [List.pairwise_iff_getElem]
  intro p q hp1 hq1 hpq
  have h1 := (lastAt_lt R hK hp hs q p (by omega) (by omega)).1
  have : lastAt now K ys p < lastAt now K ys q := by
    have := (lastAt_le now K ys p).2
    have := str q (by omega)
    omega
  have h2 := lx_pre (h1.1 this)
  simpa [List.getD, hp1, hq1] using h2
theorem more_of_last (h : lastAt now K ys (t.length - 1) < (t.length : Int) - 1) : 2 * K < t.length := by
  have hl := ys_len R hK hp hs
  by_cases hc : 2 * K < t.length
  · exact hc
  exfalso
  have whole : ∀ i, pre t (2 * K) i = t.drop i := fun i => by
    simp only [pre]; rw [List.take_of_length_le]; rw [List.length_drop]; omega
  have str : ∀ m, m < t.length → lastAt now K ys m = m := by
    intro m
    induction m with
    | zero => intro _; rfl
    | succ m ih =>
      intro hm
      have e := ih (by omega)
      simp only [lastAt, e]
      have so := ys_sorted R hK hp hs (show m < m + 1 by omega) hm
      have : lx (pre t (2 * K) (ys.getD m 0)) (pre t (2 * K) (ys.getD (m + 1) 0)) = true := by
        rcases lx_total (pre t (2 * K) (ys.getD m 0)) (pre t (2 * K) (ys.getD (m + 1) 0)) with h1 | h1 | h1
        · exact h1
        · rw [whole, whole] at h1
          have h2 := congrArg List.length h1
          rw [List.length_drop, List.length_drop] at h2
          have a := ys_lt R hK hp hs (show m < t.length by omega)
          have b := ys_lt R hK hp hs hm
          have hn : ys.Nodup := hp.nodup_iff.2 List.nodup_range
          have := getD_inj hn (show m < ys.length by omega) (show m + 1 < ys.length by omega) (by omega)
          omega
        · rw [h1] at so; cases so
      rw [if_pos ((ys_cmp R hK hp hs (show m < t.length by omega) hm).2 this)]
      omega
  by_cases h0 : t.length = 0
  · rw [h0] at h; simp [lastAt] at h
  · have := str (t.length - 1) (by omega)
    omega
end
end Go.X
namespace Go.X.Try
open Go.IntWalk Go.Proofs
theorem f41 (x : Int) : F41 [.one (.int .i64 x)] [] = some (.one (.bool false), []) := by
  simp -implicitDefEqProofs [F41, c41, upd]
theorem f35 (x y : Int) : F35 [.one (.int .i64 x), .one (.int .i64 y)] [] = some (.one (.int .i64 (cmpI x y)), []) := by
  unfold cmpI
  by_cases h : x < y
  · simp -implicitDefEqProofs [F35, c35, upd, f41, h]
  · by_cases h2 : y < x
    · simp -implicitDefEqProofs [F35, c35, upd, f41, h, h2]
    · simp -implicitDefEqProofs [F35, c35, upd, f41, h, h2]
def kan34 (t : Nat) (l : List Int) (i : Nat) : St := ⟨[(3, .one (.int .i64 0)), (6, .one (.ro t (.ints .i64 l))), (7, .one (.int .i64 l.length)), (8, .one (.int .i64 i))], [.ro t (.ints .i64 l)], []⟩
theorem f34 (t : Nat) (x y : Int) : F34 [.one (.ro t (.ints .i64 [x, y]))] [] = some (.one (.int .i64 (orI x y)), []) := by
  have hK := KK_eq
  obtain ⟨l, hl⟩ : ∃ l : List Int, l = [x, y] := ⟨_, rfl⟩
  have h2 : l.length = 2 := by rw [hl]; rfl
  have hn : ∀ i, i < l.length → decide (l.getD i 0 ≠ 0) = false → ∃ st1, evC T34 KK b34x0 (kan34 t l i) = some (.norm, st1) ∧ St.head [3, 6, 7, 8] st1 = kan34 t l (i + 1) := by
    intro i hi hp
    have hii : (i : Int) < l.length := by omega
    have w : IntKind.i64.wrap ((i : Int) + 1) = i + 1 := Go.IntWalk.i64_in _ (by omega)
    have hp' : l.getD i 0 = 0 := by simpa using hp
    have hx' : (RC.ints .i64 l).get i 0 = some (.int .i64 0) := by simp only [RC.get]; rw [hp']; rfl
    simp -implicitDefEqProofs [b34x0, kan34, upd, hii, hi, w, RC.len, RC.size, hx']
  have hr : ∀ i, i < l.length → decide (l.getD i 0 ≠ 0) = true → ∃ st1, evC T34 KK b34x0 (kan34 t l i) = some (.ret, st1) ∧ resC [(2, none)] (some (.ret, st1)) = some (.one (.int .i64 (l.getD i 0)), []) := by
    intro i hi hp
    have hii : (i : Int) < l.length := by omega
    have hp' : ¬ l.getD i 0 = 0 := by simpa using hp
    generalize hx : l.getD i 0 = z at *
    have hx' : (RC.ints .i64 l).get i 0 = some (.int .i64 z) := by simp only [RC.get]; rw [hx]; rfl
    refine ⟨?w, ?a, ?b⟩
    case a =>
      simp -implicitDefEqProofs [b34x0, kan34, upd, hii, hi, RC.len, RC.size, hx', hp']
      rfl
    case b => simp -implicitDefEqProofs []
  have he : evC T34 KK b34x0 (kan34 t l l.length) = some (.exit 0, ⟨[(9, .one (.bool false)), (3, .one (.int .i64 0)), (6, .one (.ro t (.ints .i64 l))), (7, .one (.int .i64 l.length)), (8, .one (.int .i64 l.length))], [.ro t (.ints .i64 l)], []⟩) := by
    simp -implicitDefEqProofs [b34x0, kan34, upd, RC.len, RC.size]
  rcases loopFirst (fun i => decide (l.getD i 0 ≠ 0)) hn hr he (by omega) with ⟨h1, el⟩ | ⟨i, st1, h1, h3, h4, el, er⟩
  · have hx : x = 0 := by have := h1 0 (by omega); subst hl; simpa using this
    have hy : y = 0 := by have := h1 1 (by omega); subst hl; simpa using this
    simp only [kan34, Int.natCast_zero] at el
    rw [← hl]
    simp -implicitDefEqProofs [F34, c34, upd, RC.len, el, orI, hx, hy]
  · have hv : l.getD i 0 = orI x y := by
      subst hl
      match i, h1 with
      | 0, _ => have : ¬ x = 0 := by simpa using h3
                simp [orI, this]
      | 1, _ => have : x = 0 := by have := h4 0 (by omega); simpa using this
                simp [orI, this]
    rw [hv] at er
    simp only [kan34, Int.natCast_zero] at el
    rw [← er, ← hl]
    simp -implicitDefEqProofs [F34, c34, upd, RC.len, el]
def atHp (g0 g1 g2 g3 : Option Nat) (K : Int) (text : ByteArray) (now : List Int) : List Ob := [.cells g0 [.int .i64 K], .cells g1 [.str text], .cells g2 [.row 3], .rows g3 (.ints .i64 now)]
theorem f32 (g0 g1 g2 g3 : Option Nat) (K : Nat) (text : ByteArray) (now : List Int) (i : Nat) (hl : text.size = now.length) (hi : i < now.length) (hn : now.length ≤ 1000) (hK : K ≤ 1000) :
    F32 [.one (.int .i64 i), .one (.ptr 0 0), .one (.ptr 1 0), .one (.ptr 2 0)] (atHp g0 g1 g2 g3 K text now) = some (.one (.int .i64 (atI now now.length K i)), atHp g0 g1 g2 g3 K text now) := by
  have w1 : IntKind.i64.wrap ((i : Int) + K) = i + K := i64_in _ (by omega)
  unfold atI
  by_cases h : (i : Int) + K < now.length
  · have h' : i + K < now.length := by omega
    have h2 : (i : Int) + K < text.size := by omega
    have e1 : ((i : Int) + K).toNat = i + K := by omega
    have e2 : (0 : Int) ≤ (i : Int) + K := by omega
    rw [if_pos h, e1]
    have hx' : (RC.ints .i64 now).get (i + K) 0 = some (.int .i64 (now.getD (i + K) 0)) := rfl
    generalize now.getD (i + K) 0 = z at *
    simp -implicitDefEqProofs [F32, c32, upd, atHp, w1, h2, h, h', e1, e2, RC.len, RC.size, hx']
  · have h2 : ¬ (i : Int) + K < text.size := by omega
    rw [if_neg h]
    simp -implicitDefEqProofs [F32, c32, upd, atHp, w1, h2, h, RC.len, RC.size]
def cmHp (g0 g1 g2 g3 g4 : Option Nat) (K : Int) (text : ByteArray) (now : List Int) : List Ob := [.cells g0 [.row 1], .rows g1 (.ints .i64 now), .cells g2 [.fn 32 [.ptr 3 0, .ptr 4 0, .ptr 0 0]], .cells g3 [.int .i64 K], .cells g4 [.str text]]
theorem f33 (g0 g1 g2 g3 g4 : Option Nat) (K : Nat) (text : ByteArray) (now : List Int) (i j : Nat) (hl : text.size = now.length) (hi : i < now.length) (hj : j < now.length) (hn : now.length ≤ 1000) (hK : K ≤ 1000) :
    F33 [.one (.int .i64 i), .one (.int .i64 j), .one (.ptr 0 0), .one (.ptr 2 0)] (cmHp g0 g1 g2 g3 g4 K text now) = some (.one (.int .i64 (cmpV now K i j)), cmHp g0 g1 g2 g3 g4 K text now) := by
  have hi' : (i : Int) < now.length := by omega
  have hj' : (j : Int) < now.length := by omega
  have e1 := fun a b c d => f32 a b c d K text now i hl hi hn hK
  have e2 := fun a b c d => f32 a b c d K text now j hl hj hn hK
  have hx : (RC.ints .i64 now).get i 0 = some (.int .i64 (now.getD i 0)) := rfl
  have hy : (RC.ints .i64 now).get j 0 = some (.int .i64 (now.getD j 0)) := rfl
  unfold cmpV
  rw [show (i : Int).toNat = i by omega, show (j : Int).toNat = j by omega]
  generalize now.getD i 0 = x at *
  generalize now.getD j 0 = y at *
  generalize atI now now.length K i = ai at *
  generalize atI now now.length K j = aj at *
  simp only [atHp] at e1 e2
  have he : ∀ a b : Int, (RC.ints .i64 []).ofElems [[Sc.int .i64 a], [Sc.int .i64 b]] = some (.ints .i64 [a, b]) := fun a b => by simp [RC.ofElems]
  simp -implicitDefEqProofs [F33, c33, upd, cmHp, hi', hj', hi, hj, RC.len, RC.size, hx, hy, f35, f34, e1, e2, he]
def soHp (g0 g1 g2 g3 g4 g5 : Option Nat) (K : Int) (text : ByteArray) (now xs : List Int) : List Ob := [.rows g0 (.ints .i64 xs), .cells g1 [.row 2], .rows g2 (.ints .i64 now), .cells g3 [.fn 32 [.ptr 4 0, .ptr 5 0, .ptr 1 0]], .cells g4 [.int .i64 K], .cells g5 [.str text]]
theorem f36 (K : Nat) (text : ByteArray) (now : List Int) (ord : List Nat) (hl : text.size = now.length) (hn : now.length ≤ 1000) (hK : K ≤ 1000) (hp : ord.Perm (List.range now.length)) :
    ∃ ys : List Nat, (∀ g0 g1 g2 g3 g4 g5, F36 [.one (.row 0), .one (.fn 33 [.ptr 1 0, .ptr 3 0])] (soHp g0 g1 g2 g3 g4 g5 K text now (ci ord)) = some (.tup [], soHp g0 g1 g2 g3 g4 g5 K text now (ci ys))) ∧ ys.Perm (List.range now.length) ∧ ∀ i j, i < j → j < ys.length → ¬ cmpV now K (ys.getD j 0 : Nat) (ys.getD i 0 : Nat) < 0 := by
  cases ord with
  | nil => exact ⟨[], fun _ _ _ _ _ _ => rfl, hp, fun i j _ h => by simp at h⟩
  | cons a ord =>
    have hb : ∀ x ∈ a :: ord, x < now.length := fun x hx => by have := hp.mem_iff.1 hx; simpa using this
    obtain ⟨ys, h1, h2, h3⟩ := srt_spec now K (a :: ord) hb
    refine ⟨ys, fun g0 g1 g2 g3 g4 g5 => ?_, h2.trans hp, h3⟩
    have hlen := hp.length_eq
    rw [List.length_range] at hlen
    have hok : okS (ci (a :: ord)) now text K = true := by
      rw [okS_iff]
      refine ⟨by simp [ci], by rw [ci_length]; omega, ?_, hl, by omega, by omega, by omega⟩
      intro x hx
      simp only [ci, List.mem_map] at hx
      obtain ⟨y, hy, rfl⟩ := hx
      have := hb y hy
      omega
    have e : F36 [.one (.row 0), .one (.fn 33 [.ptr 1 0, .ptr 3 0])] (soHp g0 g1 g2 g3 g4 g5 K text now (ci (a :: ord))) = srt36 [.one (.row 0), .one (.fn 33 [.ptr 1 0, .ptr 3 0])] (soHp g0 g1 g2 g3 g4 g5 K text now (ci (a :: ord))) := rfl
    rw [e]
    simp only [soHp, srt36, hok, if_true, h1]
def o0 (n i : Nat) : List Int := ci (List.range i) ++ List.replicate (n - i) 0
def w0 (t : List Int) (i : Nat) : List Int := t.take i ++ List.replicate (t.length - i) 0
theorem o0_length (n i : Nat) (h : i ≤ n) : (o0 n i).length = n := by simp [o0, ci_length]; omega
theorem w0_length (t : List Int) (i : Nat) (h : i ≤ t.length) : (w0 t i).length = t.length := by simp [w0]; omega
theorem o0_set (n i : Nat) (h : i < n) : (o0 n i).set i (i : Int) = o0 n (i + 1) := by
  have e : (ci (List.range i)).length = i := by simp [ci_length]
  simp only [o0]
  rw [List.set_append_right _ _ (by omega), e, show i - i = 0 by omega]
  rw [show n - i = (n - (i + 1)) + 1 by omega, List.replicate_succ, List.set_cons_zero, List.range_succ]
  simp [ci]
theorem w0_set (t : List Int) (i : Nat) (h : i < t.length) : (w0 t i).set i (t.getD i 0) = w0 t (i + 1) := by
  have e : (t.take i).length = i := by simp; omega
  simp only [w0]
  rw [List.set_append_right _ _ (by omega), e, show i - i = 0 by omega]
  rw [show t.length - i = (t.length - (i + 1)) + 1 by omega, List.replicate_succ, List.set_cons_zero]
  have e2 : t.take (i + 1) = t.take i ++ [t[i]] := by rw [List.take_add_one, List.getElem?_eq_getElem h]; rfl
  rw [e2, List.append_assoc]
  have e3 : t.getD i 0 = t[i] := by simp [List.getD, h]
  rw [e3]
  rfl
def kA (s : ByteArray) (o w : List Int) (i : Nat) : St := ⟨[(1, .one (.ptr 0 0)), (3, .one (.row 1)), (4, .one (.ptr 2 0)), (19, .one (.int .i64 s.size)), (20, .one (.int .i64 i))], [.str s], [.cells none [.str s], .rows none (.ints .i64 o), .cells none [.row 3], .rows none (.ints .i64 w)]⟩
theorem body22a (s : ByteArray) (i : Nat) (hi : i < s.size) (hn : s.size ≤ 1000) : ∃ st1, evC T22 KK b22x0 (kA s (o0 s.size i) (w0 (toBytes s) i) i) = some (.norm, st1) ∧ St.head [1, 3, 4, 19, 20] st1 = kA s (o0 s.size (i + 1)) (w0 (toBytes s) (i + 1)) (i + 1) := by
  have hl := size_toBytes s
  have l1 := o0_length s.size i (by omega)
  have l2 := w0_length (toBytes s) i (by omega)
  have e1 := o0_set s.size i hi
  have e2 := w0_set (toBytes s) i (by omega)
  have hb := isB_toBytes s ((toBytes s).getD i 0) (by simp [List.getD, hl, hi])
  rw [← e1, ← e2]
  have hii : (i : Int) < s.size := by omega
  have w : IntKind.i64.wrap ((i : Int) + 1) = i + 1 := i64_in _ (by omega)
  have w2 : IntKind.i64.wrap ((toBytes s).getD i 0) = (toBytes s).getD i 0 := i64_in _ (by omega)
  have q1 : (i : Int) < (o0 s.size i).length := by omega
  have q2 : (i : Int) < (w0 (toBytes s) i).length := by omega
  have q3 : i < (o0 s.size i).length := by omega
  have q4 : i < (w0 (toBytes s) i).length := by omega
  have hx : (toBytes s)[i]?.getD 0 = (toBytes s).getD i 0 := by simp [List.getD]
  generalize (toBytes s).getD i 0 = z at *
  generalize o0 s.size i = o at *
  generalize w0 (toBytes s) i = ww at *
  simp -implicitDefEqProofs [b22x0, kA, upd, hii, hi, w, w2, q1, q2, q3, q4, RC.len, RC.size, RC.set, hx]
def kB (s : ByteArray) (K : Nat) (now : List Int) (ys : List Nat) (nx : List Int) (la : Int) (i : Nat) : St :=
  ⟨[(1, .one (.ptr 0 0)), (3, .one (.row 1)), (4, .one (.ptr 2 0)), (6, .one (.ptr 4 0)), (8, .one (.fn 33 [.ptr 2 0, .ptr 5 0])), (9, .one (.row 6)), (10, .one (.int .i64 la)), (11, .one (.int .i64 i))], [.str s],
    [.cells none [.str s], .rows none (.ints .i64 (ci ys)), .cells none [.row 3], .rows none (.ints .i64 now), .cells none [.int .i64 K], .cells none [.fn 32 [.ptr 4 0, .ptr 0 0, .ptr 2 0]], .rows none (.ints .i64 nx)]⟩
theorem body22b (s : ByteArray) (K : Nat) (now : List Int) (ys : List Nat) (nx : List Int) (la : Int) (p : Nat) (hl : s.size = now.length) (hn : now.length ≤ 1000) (hK : K ≤ 1000) (hy : ys.length = now.length) (hb : ∀ x ∈ ys, x < now.length) (hx : nx.length = now.length) (hp : p + 1 < ys.length) (hla : 0 ≤ la ∧ la ≤ 1000) :
    ∃ st1, evC T22 KK b22x1 (kB s K now ys nx la (p + 1)) = some (.norm, st1) ∧ St.head [1, 3, 4, 6, 8, 9, 10, 11] st1 = kB s K now ys (nx.set (ys.getD (p + 1) 0) (la + if cmpV now K (ys.getD p 0 : Nat) (ys.getD (p + 1) 0 : Nat) < 0 then 1 else 0)) (la + if cmpV now K (ys.getD p 0 : Nat) (ys.getD (p + 1) 0 : Nat) < 0 then 1 else 0) (p + 2) := by
  have m1 : ys.getD p 0 < now.length := hb _ (by simp [List.getD, show p < ys.length by omega])
  have m2 : ys.getD (p + 1) 0 < now.length := hb _ (by simp [List.getD, hp])
  have e := fun a a1 b c d => f33 a a1 b c d K s now (ys.getD p 0) (ys.getD (p + 1) 0) hl m1 m2 hn hK
  have v1 : (RC.ints .i64 (ci ys)).get p 0 = some (.int .i64 (ys.getD p 0 : Nat)) := by simp only [RC.get, if_true]; rw [ci_getD]
  have v2 : (RC.ints .i64 (ci ys)).get (p + 1) 0 = some (.int .i64 (ys.getD (p + 1) 0 : Nat)) := by simp only [RC.get, if_true]; rw [ci_getD]
  have lc : (ci ys).length = ys.length := ci_length ys
  have q1 : ((p + 1 : Nat) : Int) < ys.length := by omega
  have q1' : (p : Int) + 1 < ys.length := by omega
  have q2 : (p : Int) < ys.length := by omega
  have q3 : p < ys.length := by omega
  have w1 : IntKind.i64.wrap (p : Int) = p := i64_in _ (by omega)
  have w2 : IntKind.i64.wrap ((p : Int) + 1 + 1) = p + 2 := by rw [i64_in _ (by omega)]; omega
  have w3 : IntKind.i64.wrap (la + 1) = la + 1 := i64_in _ (by omega)
  have m3 : ((ys.getD (p + 1) 0 : Nat) : Int) < nx.length := by omega
  have m4 : ys.getD (p + 1) 0 < nx.length := by omega
  have g1 : (0 : Int) ≤ (p : Int) + 1 := by omega
  have g2 : ((p : Int) + 1).toNat = p + 1 := by omega
  have g3 : ((p : Int) + 2) = ((p + 2 : Nat) : Int) := by omega
  generalize ys.getD p 0 = x at *
  generalize ys.getD (p + 1) 0 = y at *
  simp only [cmHp] at e
  by_cases hc : cmpV now K x y < 0
  · rw [if_pos hc]
    simp -implicitDefEqProofs [b22x1, kB, upd, q1, q1', q2, q3, hp, w1, w2, w3, m3, m4, g1, g2, v1, v2, lc, RC.len, RC.size, RC.set, e, hc]
  · rw [if_neg hc, Int.add_zero]
    simp -implicitDefEqProofs [b22x1, kB, upd, q1, q1', q2, q3, hp, w1, w2, w3, m3, m4, g1, g2, v1, v2, lc, RC.len, RC.size, RC.set, e, hc]
theorem end22b (s : ByteArray) (K : Nat) (now : List Int) (ys : List Nat) (nx : List Int) (la : Int) (i : Nat) (hi : ys.length ≤ i) (hi2 : i < 2000) : evC T22 KK b22x1 (kB s K now ys nx la i) = some (.exit 4, ⟨[(48, .one (.bool false)), (47, .one (.int .i64 ys.length)), (46, .one (.row 1)), (45, .one (.int .i64 i))] ++ (kB s K now ys nx la i).env, [.str s], (kB s K now ys nx la i).hp⟩) := by
  have lc : (ci ys).length = ys.length := ci_length ys
  have q1 : ¬ (i : Int) < ys.length := by omega
  simp -implicitDefEqProofs [b22x1, kB, upd, q1, lc, RC.len, RC.size]
end Go.X.Try
namespace Go.X
theorem mapM_rep {α β : Type} {f : α → Option β} {a : α} {b : β} (h : f a = some b) : ∀ n : Nat, List.mapM f (List.replicate n a) = some (List.replicate n b)
  | 0 => rfl
  | n + 1 => by rw [List.replicate_succ, List.mapM_cons, h, mapM_rep h n]; rfl
theorem mks_ints (k : IntKind) (n : Nat) : RC.ofElems (.ints k []) (List.replicate n [Sc.int k 0]) = some (.ints k (List.replicate n 0)) := by
  simp only [RC.ofElems]
  rw [mapM_rep (b := (0 : Int))]
  · rfl
  · simp
end Go.X
namespace Go.X.Try
open Go.IntWalk Go.Proofs
theorem loop22b (s : ByteArray) (K : Nat) (now : List Int) (ys : List Nat) (hl : s.size = now.length) (hn : now.length ≤ 1000) (hK : K ≤ 1000) (hy : ys.length = now.length) (hb : ∀ x ∈ ys, x < now.length) :
    ∃ env, loopH (evC T22 KK b22x1) [1, 3, 4, 6, 8, 9, 10, 11] KK (kB s K now ys (List.replicate now.length 0) 0 1) = some (.exit 4, ⟨env, [.str s], (kB s K now ys (nxAt now K ys (now.length - 1)) 0 1).hp⟩) ∧
      getT 1 env = .one (.ptr 0 0) ∧ getT 3 env = .one (.row 1) ∧ getT 4 env = .one (.ptr 2 0) ∧ getT 6 env = .one (.ptr 4 0) ∧ getT 9 env = .one (.row 6) ∧ getT 10 env = .one (.int .i64 (lastAt now K ys (now.length - 1))) := by
  have hKK := KK_eq
  have h := loopUp (body := evC T22 KK b22x1) (live := [1, 3, 4, 6, 8, 9, 10, 11]) (canon := fun i => kB s K now ys (nxAt now K ys i) (lastAt now K ys i) (i + 1)) (n := now.length - 1) (x := 4)
    (fun i hi => by
      have hla := lastAt_le now K ys i
      exact body22b s K now ys (nxAt now K ys i) (lastAt now K ys i) i hl hn hK hy hb (nxAt_length now K ys i) (by omega) (by omega))
    (end22b s K now ys (nxAt now K ys (now.length - 1)) (lastAt now K ys (now.length - 1)) (now.length - 1 + 1) (by omega) (by omega)) (by omega)
  exact ⟨_, h, rfl, rfl, rfl, rfl, rfl, rfl⟩
def kC (s : ByteArray) (K : Nat) (now : List Int) (ord : List Nat) : St :=
  ⟨[(1, .one (.ptr 0 0)), (3, .one (.row 1)), (4, .one (.ptr 2 0)), (6, .one (.ptr 4 0))], [.str s], [.cells none [.str s], .rows none (.ints .i64 (ci ord)), .cells none [.row 3], .rows none (.ints .i64 now), .cells none [.int .i64 K]]⟩
theorem body22c (s : ByteArray) (K : Nat) (now : List Int) (ord : List Nat) (R : Ranks (toBytes s) K now) (hn : s.size ≤ 1000) (hK : 0 < K) (hK2 : K ≤ 1000) (hp : ord.Perm (List.range s.size)) :
    (∃ ys st1, IsSA (toBytes s) ys ∧ evC T22 KK b22x2 (kC s K now ord) = some (.ret, st1) ∧ resC [(2, none)] (some (.ret, st1)) = some (.one (.row 0), [.rows none (.ints .i64 (ci ys))])) ∨
    (∃ ys now' st1, Ranks (toBytes s) (2 * K) now' ∧ 2 * K < s.size ∧ ys.Perm (List.range s.size) ∧ evC T22 KK b22x2 (kC s K now ord) = some (.norm, st1) ∧ St.head [1, 3, 4, 6] st1 = kC s (2 * K) now' ys) := by
  have hl := size_toBytes s
  have hl2 : s.size = now.length := by rw [R.len, hl]
  rw [hl2] at hp
  obtain ⟨ys, h1, h2, h3⟩ := f36 K s now ord hl2 (by omega) hK2 hp
  have hy : ys.length = now.length := by have := h2.length_eq; simpa using this
  have hb : ∀ x ∈ ys, x < now.length := fun x hx => by have := h2.mem_iff.1 hx; simpa using this
  obtain ⟨env, el, g1, g3, g4, g6, g9, g10⟩ := loop22b s K now ys hl2 (by omega) hK2 hy hb
  have h2' : ys.Perm (List.range (toBytes s).length) := by rw [hl, hl2]; exact h2
  have mk := mks_ints .i64 now.length
  have n1 : (0 : Int) ≤ s.size := by omega
  have n2 : (s.size : Int) * 8 ≤ 140737488355328 := by omega
  have n3 : ((s.size : Int)).toNat = now.length := by omega
  have wk : IntKind.i64.wrap ((K : Int) * 2) = K * 2 := i64_in _ (by omega)
  have wk2 : (K : Int) * 2 = ((2 * K : Nat) : Int) := by omega
  have wk3 : IntKind.i64.wrap (2 * (K : Int)) = 2 * K := i64_in _ (by omega)
  have ws : IntKind.i64.wrap ((s.size : Int) - 1) = s.size - 1 := i64_in _ (by omega)
  simp only [soHp] at h1
  have lc : (ci ys).length = ys.length := ci_length ys
  have lc2 : (ci ord).length = now.length := by rw [ci_length]; have := hp.length_eq; simpa using this
  have lx : (nxAt now K ys (now.length - 1)).length = now.length := nxAt_length _ _ _ _
  have hla := lastAt_le now K ys (now.length - 1)
  have tl : (toBytes s).length - 1 = now.length - 1 := by omega
  by_cases hc : (s.size : Int) - 1 ≤ lastAt now K ys (now.length - 1)
  · left
    have sa := sa_of_last R hK h2' h3 (by rw [hl, ← hl, tl, hl]; exact hc)
    simp only [kB, Int.natCast_one] at el
    refine ⟨ys, ?w1, sa, ?q1, ?q2⟩
    case q1 =>
      simp -implicitDefEqProofs [b22x2, kC, upd, h1, mk, n1, n2, n3, el, g1, g3, g4, g6, g9, g10, ws, hc, RC.len, RC.size, lc, lc2, lx]
      rfl
    case q2 => simp -implicitDefEqProofs []
  · right
    have R2 := ranks_next (R := R) hK h2' h3
    have more := more_of_last R hK h2' h3 (by rw [tl, hl]; omega)
    by_cases h0 : 0 < s.size
    · have key : ∃ st1, evC T22 KK b22x2 (kC s K now ord) = some (.norm, st1) ∧ St.head [1, 3, 4, 6] st1 = kC s (2 * K) (nxAt now K ys (now.length - 1)) ys := by
        simp only [kB, Int.natCast_one] at el
        simp -implicitDefEqProofs [b22x2, kC, upd, h1, mk, n1, n2, n3, el, g1, g3, g4, g6, g9, g10, ws, hc, RC.len, RC.size, lc, lc2, lx, wk, wk2, wk3]
      obtain ⟨st1, k1, k2⟩ := key
      have R3 := R2 (by omega)
      rw [tl] at R3
      exact ⟨ys, _, st1, R3, by omega, by rw [hl2]; exact h2, k1, k2⟩
    · omega
theorem loop22c (s : ByteArray) (hn : s.size ≤ 1000) : ∀ (m KF K : Nat) (now : List Int) (ord : List Nat), Ranks (toBytes s) K now → 0 < K → K ≤ 1000 → (K = 1 ∨ K < s.size) → ord.Perm (List.range s.size) → s.size ≤ m + K → m + 3 < KF →
    ∃ ys st1, IsSA (toBytes s) ys ∧ loopH (evC T22 KK b22x2) [1, 3, 4, 6] KF (kC s K now ord) = some (.ret, st1) ∧ resC [(2, none)] (some (.ret, st1)) = some (.one (.row 0), [.rows none (.ints .i64 (ci ys))])
  | 0, KF, K, now, ord, R, hK, hK2, h1, hp, hm, hF => by
    rcases body22c s K now ord R hn hK hK2 hp with ⟨ys, st1, sa, e1, e2⟩ | ⟨ys, now', st1, R2, h2, hp2, e1, e2⟩
    · exact ⟨ys, st1, sa, loopH_ret e1, e2⟩
    · omega
  | m + 1, KF, K, now, ord, R, hK, hK2, h1, hp, hm, hF => by
    rcases body22c s K now ord R hn hK hK2 hp with ⟨ys, st1, sa, e1, e2⟩ | ⟨ys, now', st1, R2, h2, hp2, e1, e2⟩
    · exact ⟨ys, st1, sa, loopH_ret e1, e2⟩
    · obtain ⟨ys', st2, sa, e3, e4⟩ := loop22c s hn m (KF - 1) (2 * K) now' ys R2 (by omega) (by omega) (.inr h2) hp2 (by omega) (by omega)
      exact ⟨ys', st2, sa, by rw [loopH_norm e1 (by omega), e2]; exact e3, e4⟩
theorem ranks_first (t : List Int) (hB : isB t) : Ranks t 1 t := by
  have e : ∀ i, i < t.length → pre t 1 i = [t.getD i 0] := fun i hi => by
    simp only [pre]
    rw [List.drop_eq_getElem_cons hi, List.take_succ_cons, List.take_zero]
    simp only [List.getD, List.getElem?_eq_getElem hi, Option.getD_some]
  refine ⟨rfl, fun i hi => (hB _ (by simp [List.getD, hi])).1, fun i j hi hj => ?_⟩
  rw [e i hi, e j hj, lx_cons]
  simp
theorem end22a (s : ByteArray) (hn : s.size ≤ 1000) (o w : List Int) : evC T22 KK b22x0 (kA s o w s.size) = some (.exit 0, ⟨(21, .one (.bool false)) :: (kA s o w s.size).env, [.str s], (kA s o w s.size).hp⟩) := by
  simp -implicitDefEqProofs [b22x0, kA, upd]
theorem f22 (s : ByteArray) (hn : s.size ≤ 1000) : ∃ ys, IsSA (toBytes s) ys ∧ F22 [.one (.str s)] [] = some (.one (.row 0), [.rows none (.ints .i64 (ci ys))]) := by
  have hK := KK_eq
  have hl := size_toBytes s
  obtain ⟨ys, st1, sa, e1, e2⟩ := loop22c s hn s.size KK 1 (toBytes s) (List.range s.size) (ranks_first _ (isB_toBytes s)) (by omega) (by omega) (.inl rfl) (List.Perm.refl _) (by omega) (by omega)
  have ea := loopUp (body := evC T22 KK b22x0) (live := [1, 3, 4, 19, 20]) (canon := fun i => kA s (o0 s.size i) (w0 (toBytes s) i) i) (n := s.size) (x := 0) (fun i hi => body22a s i hi hn) (end22a s hn _ _) (by omega)
  have z1 : o0 s.size 0 = List.replicate s.size 0 := by simp [o0, ci]
  have z2 : w0 (toBytes s) 0 = List.replicate s.size 0 := by simp [w0, hl]
  have z3 : o0 s.size s.size = ci (List.range s.size) := by simp [o0]
  have z4 : w0 (toBytes s) s.size = toBytes s := by simp [w0, hl]; rw [← hl]; simp
  refine ⟨ys, sa, ?_⟩
  have mk := mks_ints .i64 s.size
  have n1 : (0 : Int) ≤ s.size := by omega
  have n2 : (s.size : Int) * 8 ≤ 140737488355328 := by omega
  simp only [z1, z2, z3, z4, kA, Int.natCast_zero] at ea
  simp only [kC, Int.natCast_one] at e1
  rw [← e2]
  simp -implicitDefEqProofs [F22, c22, upd, mk, n1, n2, ea, e1]
end Go.X.Try
namespace Go.X
theorem toL_ofBytes (l : List Int) : (ofBytes l).toList = l.map fun x => UInt8.ofNat x.toNat := by
  rw [ByteArray.toList_eq]; simp [ofBytes]
theorem u8_lt {a b : Int} (ha : 0 ≤ a ∧ a < 256) (hb : 0 ≤ b ∧ b < 256) : (UInt8.ofNat a.toNat < UInt8.ofNat b.toNat) ↔ a < b := by
  rw [UInt8.lt_iff_toNat_lt]
  simp only [UInt8.toNat_ofNat']
  omega
theorem u8_eq {a b : Int} (ha : 0 ≤ a ∧ a < 256) (hb : 0 ≤ b ∧ b < 256) : (UInt8.ofNat a.toNat = UInt8.ofNat b.toNat) ↔ a = b := by
  rw [← UInt8.toNat_inj]
  simp only [UInt8.toNat_ofNat']
  omega
theorem less_lx : ∀ {x y : List Int}, isB x → isB y → Go.Op.bytesLess (ofBytes x).toList (ofBytes y).toList = lx x y := by
  intro x y hx hy
  rw [toL_ofBytes, toL_ofBytes]
  induction x generalizing y with
  | nil => cases y <;> rfl
  | cons a x ih =>
    cases y with
    | nil => rfl
    | cons b y =>
      have h1 := hx a (by simp)
      have h2 := hy b (by simp)
      simp only [List.map_cons, Go.Op.bytesLess, lx]
      rw [ih hx.tail hy.tail]
      have e1 : decide (UInt8.ofNat a.toNat < UInt8.ofNat b.toNat) = decide (a < b) := decide_eq_decide.2 (u8_lt h1 h2)
      have e2 : (UInt8.ofNat a.toNat == UInt8.ofNat b.toNat) = decide (a = b) := by rw [Bool.eq_iff_iff]; simp only [beq_iff_eq, decide_eq_true_eq]; exact u8_eq h1 h2
      rw [e1, e2]
theorem cmp_lx : ∀ {x y : List Int}, isB x → isB y → (Lib.compareBytes (ofBytes x).data.toList (ofBytes y).data.toList < 0 ↔ lx x y = true) := by
  intro x y hx hy
  have e : ∀ l, (ofBytes l).data.toList = l.map fun x => UInt8.ofNat x.toNat := fun l => by simp [ofBytes]
  rw [e, e]
  induction x generalizing y with
  | nil => cases y <;> simp [Lib.compareBytes]
  | cons a x ih =>
    cases y with
    | nil => simp [Lib.compareBytes]
    | cons b y =>
      have h1 := hx a (by simp)
      have h2 := hy b (by simp)
      simp only [List.map_cons, Lib.compareBytes, lx_cons, u8_lt h1 h2, u8_lt h2 h1]
      by_cases h3 : a < b
      · simp [h3]
      · by_cases h4 : b < a
        · rw [if_neg h3, if_pos h4]; simp [h3]; omega
        · rw [if_neg h3, if_neg h4]
          have h5 : a = b := by omega
          have h6 := ih hx.tail hy.tail
          simp only [h3, h5, true_and, false_or, Int.lt_irrefl]
          exact h6
def lcp : List Int → List Int → Nat
  | a :: x, b :: y => if a = b then lcp x y + 1 else 0
  | _, _ => 0
theorem lcp_le : ∀ x y : List Int, lcp x y ≤ x.length ∧ lcp x y ≤ y.length
  | [], _ => by simp [lcp]
  | _ :: _, [] => by simp [lcp]
  | a :: x, b :: y => by
    have := lcp_le x y
    simp only [lcp, List.length_cons]
    split <;> omega
theorem lcp_same : ∀ {x y : List Int} {i : Nat}, i < lcp x y → x.getD i 0 = y.getD i 0
  | [], _, _, h => by simp [lcp] at h
  | _ :: _, [], _, h => by simp [lcp] at h
  | a :: x, b :: y, i, h => by
    simp only [lcp] at h
    split at h
    · rename_i e; subst e
      cases i with
      | zero => rfl
      | succ i => simpa [List.getD] using lcp_same (x := x) (y := y) (i := i) (by omega)
    · omega
theorem lcp_stop : ∀ {x y : List Int}, lcp x y < x.length → lcp x y < y.length → x.getD (lcp x y) 0 ≠ y.getD (lcp x y) 0
  | [], _, h, _ => by simp [lcp] at h
  | _ :: _, [], _, h => by simp [lcp] at h
  | a :: x, b :: y, h1, h2 => by
    simp only [lcp] at *
    split at h1
    · rename_i e; subst e
      rw [if_pos rfl] at h2 ⊢
      simpa [List.getD] using lcp_stop (x := x) (y := y) (by simpa using h1) (by simpa using h2)
    · rename_i e
      rw [if_neg e]
      simpa [List.getD] using e
theorem cut_end (t : List Int) (i : Nat) (h : i ≤ t.length) : (ofBytes t).extract i t.length = ofBytes (t.drop i) := by
  rw [ofBytes_extract, List.take_of_length_le (by simp)]
theorem sa_unique {t : List Int} {a b : List Nat} (ha : IsSA t a) (hb : IsSA t b) : a = b := by
  have key : ∀ (a b : List Nat), a.Perm b → a.Pairwise (fun i j => lx (t.drop i) (t.drop j) = true) → b.Pairwise (fun i j => lx (t.drop i) (t.drop j) = true) → a = b := by
    intro a
    induction a with
    | nil => intro b h _ _; exact h.nil_eq
    | cons x a ih =>
      intro b h pa pb
      cases b with
      | nil => exact absurd h.length_eq (by simp)
      | cons y b =>
        rw [List.pairwise_cons] at pa pb
        have e : x = y := by
          by_cases e : x = y
          · exact e
          · have h1 : x ∈ b := by
              have := h.mem_iff.1 (List.mem_cons_self (a := x) (l := a))
              rcases List.mem_cons.1 this with h2 | h2
              · exact absurd h2 e
              · exact h2
            have h2 : y ∈ a := by
              have := h.mem_iff.2 (List.mem_cons_self (a := y) (l := b))
              rcases List.mem_cons.1 this with h2 | h2
              · exact absurd h2.symm e
              · exact h2
            have h3 := pa.1 y h2
            have h4 := pb.1 x h1
            rw [lx_asymm h3] at h4; cases h4
        subst e
        rw [ih b (List.Perm.cons_inv h) pa.2 pb.2]
  exact key a b (ha.perm.trans hb.perm.symm) ha.sorted hb.sorted
theorem lcp_at {t : List Int} {a b m : Nat} (ha : a ≤ t.length) (hb : b ≤ t.length) (hm : m ≤ lcp (t.drop a) (t.drop b)) :
    (m < lcp (t.drop a) (t.drop b) → a + m < t.length ∧ b + m < t.length ∧ t.getD (a + m) 0 = t.getD (b + m) 0) ∧
    (m = lcp (t.drop a) (t.drop b) → a + m < t.length → b + m < t.length → t.getD (a + m) 0 ≠ t.getD (b + m) 0) := by
  have hl := lcp_le (t.drop a) (t.drop b)
  rw [List.length_drop, List.length_drop] at hl
  have g : ∀ c, (t.drop c).getD m 0 = t.getD (c + m) 0 := fun c => by simp [List.getD, List.getElem?_drop]
  refine ⟨fun h => ⟨by omega, by omega, ?_⟩, fun h h1 h2 => ?_⟩
  · have := lcp_same h; rwa [g, g] at this
  · have := lcp_stop (x := t.drop a) (y := t.drop b) (by rw [List.length_drop]; omega) (by rw [List.length_drop]; omega)
    rw [← h, g, g] at this; exact this
end Go.X
namespace Go.X.Try
open Go.IntWalk Go.Proofs
def k23 (s : ByteArray) (a b : Nat) (m : Nat) : St := ⟨[(0, .one (.str s)), (1, .one (.int .i64 a)), (2, .one (.int .i64 b)), (7, .one (.int .i64 m))], [.str s, .int .i64 a, .int .i64 b], []⟩
theorem f23 (s : ByteArray) (a b : Nat) (hn : s.size ≤ 1000) (ha : a ≤ s.size) (hb : b ≤ s.size) : F23 [.one (.str s), .one (.int .i64 a), .one (.int .i64 b)] [] = some (.one (.int .i64 (lcp ((toBytes s).drop a) ((toBytes s).drop b))), []) := by
  have hK := KK_eq
  have hl := size_toBytes s
  have hle := lcp_le ((toBytes s).drop a) ((toBytes s).drop b)
  rw [List.length_drop, List.length_drop] at hle
  have L := fun m hm => lcp_at (t := toBytes s) (a := a) (b := b) (m := m) (by omega) (by omega) hm
  obtain ⟨N, hN⟩ : ∃ N, lcp ((toBytes s).drop a) ((toBytes s).drop b) = N := ⟨_, rfl⟩
  rw [hN] at L hle ⊢
  have hbody : ∀ m, m < N → ∃ st1, evC T23 KK b23x0 (k23 s a b m) = some (.norm, st1) ∧ St.head [0, 1, 2, 7] st1 = k23 s a b (m + 1) := by
    intro m hm
    obtain ⟨q1, q2, q3⟩ := (L m (by omega)).1 hm
    have w1 : IntKind.i64.wrap ((s.size : Int) - m) = s.size - m := i64_in _ (by omega)
    have w2 : IntKind.i64.wrap ((a : Int) + m) = a + m := i64_in _ (by omega)
    have w3 : IntKind.i64.wrap ((b : Int) + m) = b + m := i64_in _ (by omega)
    have w4 : IntKind.i64.wrap ((m : Int) + 1) = m + 1 := i64_in _ (by omega)
    have c1 : (a : Int) < s.size - m := by omega
    have c2 : (b : Int) < s.size - m := by omega
    have c3 : (a : Int) + m < s.size := by omega
    have c4 : (b : Int) + m < s.size := by omega
    have p3 : (0 : Int) ≤ (a : Int) + m := by omega
    have p4 : (0 : Int) ≤ (b : Int) + m := by omega
    have n3 : ((a : Int) + m).toNat = a + m := by omega
    have n4 : ((b : Int) + m).toNat = b + m := by omega
    have x3 : (toBytes s)[a + m]?.getD 0 = (toBytes s).getD (a + m) 0 := by simp [List.getD]
    have x4 : (toBytes s)[b + m]?.getD 0 = (toBytes s).getD (b + m) 0 := by simp [List.getD]
    rw [← q3] at x4
    generalize (toBytes s).getD (a + m) 0 = z at *
    by_cases hab : (a : Int) < b
    · simp -implicitDefEqProofs [b23x0, k23, upd, hab, w1, w2, w3, w4, c1, c2, c3, c4, n3, n4, p3, p4, x3, x4]
    · simp -implicitDefEqProofs [b23x0, k23, upd, hab, w1, w2, w3, w4, c1, c2, c3, c4, n3, n4, p3, p4, x3, x4]
  have hend : ∃ env, evC T23 KK b23x0 (k23 s a b N) = some (.exit 0, ⟨env, [.str s, .int .i64 a, .int .i64 b], []⟩) ∧ getT 7 env = .one (.int .i64 N) := by
    have q := (L N (by omega)).2 rfl
    have w1 : IntKind.i64.wrap ((s.size : Int) - N) = s.size - N := i64_in _ (by omega)
    have w2 : IntKind.i64.wrap ((a : Int) + N) = a + N := i64_in _ (by omega)
    have w3 : IntKind.i64.wrap ((b : Int) + N) = b + N := i64_in _ (by omega)
    have c3 : ∀ c : Nat, (c : Int) < s.size - N ↔ c + N < s.size := by omega
    have p3 : (0 : Int) ≤ (a : Int) + N := by omega
    have p4 : (0 : Int) ≤ (b : Int) + N := by omega
    have n3 : ((a : Int) + N).toNat = a + N := by omega
    have n4 : ((b : Int) + N).toNat = b + N := by omega
    by_cases hab : (a : Int) < b
    · by_cases hc : b + N < s.size
      · have hq := q (by omega) (by omega)
        have x3 : (toBytes s)[a + N]?.getD 0 = (toBytes s).getD (a + N) 0 := by simp [List.getD]
        have x4 : (toBytes s)[b + N]?.getD 0 = (toBytes s).getD (b + N) 0 := by simp [List.getD]
        have c1 : (b : Int) < s.size - N := by omega
        have c5 : (a : Int) + N < s.size := by omega
        have c6 : (b : Int) + N < s.size := by omega
        generalize (toBytes s).getD (a + N) 0 = z at *
        generalize (toBytes s).getD (b + N) 0 = z' at *
        simp -implicitDefEqProofs [b23x0, k23, upd, hab, w1, w2, w3, c1, c5, c6, n3, n4, p3, p4, x3, x4, hq]
      · have c1 : ¬ (b : Int) < s.size - N := by omega
        simp -implicitDefEqProofs [b23x0, k23, upd, hab, w1, c1]
    · by_cases hc : a + N < s.size
      · have hq := q (by omega) (by omega)
        have x3 : (toBytes s)[a + N]?.getD 0 = (toBytes s).getD (a + N) 0 := by simp [List.getD]
        have x4 : (toBytes s)[b + N]?.getD 0 = (toBytes s).getD (b + N) 0 := by simp [List.getD]
        have c1 : (a : Int) < s.size - N := by omega
        have c5 : (a : Int) + N < s.size := by omega
        have c6 : (b : Int) + N < s.size := by omega
        generalize (toBytes s).getD (a + N) 0 = z at *
        generalize (toBytes s).getD (b + N) 0 = z' at *
        simp -implicitDefEqProofs [b23x0, k23, upd, hab, w1, w2, w3, c1, c5, c6, n3, n4, p3, p4, x3, x4, hq]
      · have c1 : ¬ (a : Int) < s.size - N := by omega
        simp -implicitDefEqProofs [b23x0, k23, upd, hab, w1, c1]
  obtain ⟨env, he, g7⟩ := hend
  have el := loopUp (body := evC T23 KK b23x0) (live := [0, 1, 2, 7]) (canon := k23 s a b) (n := N) (x := 0) hbody he (by omega)
  simp only [k23, Int.natCast_zero] at el
  have r1 : ¬ (a : Int) < 0 := by omega
  have r2 : ¬ (b : Int) < 0 := by omega
  have r3 : ¬ (s.size : Int) < a := by omega
  have r4 : ¬ (s.size : Int) < b := by omega
  simp -implicitDefEqProofs [F23, c23, upd, r1, r2, r3, r4, el, g7]
theorem f11 (s : ByteArray) (a b : Nat) (hn : s.size ≤ 1000) (ha : a ≤ s.size) (hb : b ≤ s.size) : F11 [.one (.str s), .one (.int .i64 a), .one (.int .i64 b)] [] = some (.one (.int .i64 (lcp ((toBytes s).drop a) ((toBytes s).drop b))), []) := by
  have hK := KK_eq
  have hl := size_toBytes s
  have hle := lcp_le ((toBytes s).drop a) ((toBytes s).drop b)
  rw [List.length_drop, List.length_drop] at hle
  have L := fun m hm => lcp_at (t := toBytes s) (a := a) (b := b) (m := m) (by omega) (by omega) hm
  obtain ⟨N, hN⟩ : ∃ N, lcp ((toBytes s).drop a) ((toBytes s).drop b) = N := ⟨_, rfl⟩
  rw [hN] at L hle ⊢
  have hbody : ∀ m, m < N → ∃ st1, evC T11 KK b11x0 (k23 s a b m) = some (.norm, st1) ∧ St.head [0, 1, 2, 7] st1 = k23 s a b (m + 1) := by
    intro m hm
    obtain ⟨q1, q2, q3⟩ := (L m (by omega)).1 hm
    have w2 : IntKind.i64.wrap ((a : Int) + m) = a + m := i64_in _ (by omega)
    have w3 : IntKind.i64.wrap ((b : Int) + m) = b + m := i64_in _ (by omega)
    have w4 : IntKind.i64.wrap ((m : Int) + 1) = m + 1 := i64_in _ (by omega)
    have c3 : (a : Int) + m < s.size := by omega
    have c4 : (b : Int) + m < s.size := by omega
    have p3 : (0 : Int) ≤ (a : Int) + m := by omega
    have p4 : (0 : Int) ≤ (b : Int) + m := by omega
    have n3 : ((a : Int) + m).toNat = a + m := by omega
    have n4 : ((b : Int) + m).toNat = b + m := by omega
    have x3 : (toBytes s)[a + m]?.getD 0 = (toBytes s).getD (a + m) 0 := by simp [List.getD]
    have x4 : (toBytes s)[b + m]?.getD 0 = (toBytes s).getD (b + m) 0 := by simp [List.getD]
    rw [← q3] at x4
    generalize (toBytes s).getD (a + m) 0 = z at *
    simp -implicitDefEqProofs [b11x0, k23, upd, w2, w3, w4, c3, c4, n3, n4, p3, p4, x3, x4]
  have hend : ∃ env, evC T11 KK b11x0 (k23 s a b N) = some (.exit 0, ⟨env, [.str s, .int .i64 a, .int .i64 b], []⟩) ∧ getT 7 env = .one (.int .i64 N) := by
    have q := (L N (by omega)).2 rfl
    have w2 : IntKind.i64.wrap ((a : Int) + N) = a + N := i64_in _ (by omega)
    have w3 : IntKind.i64.wrap ((b : Int) + N) = b + N := i64_in _ (by omega)
    have p3 : (0 : Int) ≤ (a : Int) + N := by omega
    have p4 : (0 : Int) ≤ (b : Int) + N := by omega
    have n3 : ((a : Int) + N).toNat = a + N := by omega
    have n4 : ((b : Int) + N).toNat = b + N := by omega
    by_cases hab : (a : Int) + N < s.size
    · by_cases hc : (b : Int) + N < s.size
      · have hq := q (by omega) (by omega)
        have x3 : (toBytes s)[a + N]?.getD 0 = (toBytes s).getD (a + N) 0 := by simp [List.getD]
        have x4 : (toBytes s)[b + N]?.getD 0 = (toBytes s).getD (b + N) 0 := by simp [List.getD]
        generalize (toBytes s).getD (a + N) 0 = z at *
        generalize (toBytes s).getD (b + N) 0 = z' at *
        simp -implicitDefEqProofs [b11x0, k23, upd, hab, hc, w2, w3, n3, n4, p3, p4, x3, x4, hq]
      · simp -implicitDefEqProofs [b11x0, k23, upd, hab, hc, w2, w3]
    · simp -implicitDefEqProofs [b11x0, k23, upd, hab, w2, w3]
  obtain ⟨env, he, g7⟩ := hend
  have el := loopUp (body := evC T11 KK b11x0) (live := [0, 1, 2, 7]) (canon := k23 s a b) (n := N) (x := 0) hbody he (by omega)
  simp only [k23, Int.natCast_zero] at el
  have r1 : ¬ (a : Int) < 0 := by omega
  have r2 : ¬ (b : Int) < 0 := by omega
  have r3 : ¬ (s.size : Int) < a := by omega
  have r4 : ¬ (s.size : Int) < b := by omega
  simp -implicitDefEqProofs [F11, c11, upd, r1, r2, r3, r4, el, g7]
end Go.X.Try
namespace Go.X
theorem ext_of (s : ByteArray) (i : Nat) : s.extract i s.size = ofBytes ((toBytes s).drop i) := by
  conv => lhs; rw [← ofBytes_toBytes s]
  rw [ofBytes_extract, size_ofBytes, List.take_of_length_le (by simp)]
theorem ext_lx (s : ByteArray) (i j : Nat) : Go.Op.bytesLess (s.extract i s.size).toList (s.extract j s.size).toList = lx ((toBytes s).drop i) ((toBytes s).drop j) := by
  rw [ext_of, ext_of, less_lx (isB_drop _ (isB_toBytes s)) (isB_drop _ (isB_toBytes s))]
theorem ends_ne {t : List Int} {i j : Nat} (hi : i < t.length) (hj : j < t.length) (h : i ≠ j) : t.drop i ≠ t.drop j := fun e => by
  have := congrArg List.length e
  rw [List.length_drop, List.length_drop] at this
  omega
theorem ci_set (o : List Nat) (a s : Nat) : (ci o).set a (s : Int) = ci (o.set a s) := by simp [ci, List.map_set]
theorem ci_append (a b : List Nat) : ci (a ++ b) = ci a ++ ci b := by simp [ci]
abbrev LT (t : List Int) (i j : Nat) : Prop := lx (t.drop i) (t.drop j) = true
structure Ins (t : List Int) (m : Nat) (A B : List Nat) : Prop where
  perm : (A ++ B).Perm (List.range m)
  sorted : (A ++ B).Pairwise (LT t)
  low : ∀ b ∈ B, LT t m b
theorem Ins.done {t : List Int} {m : Nat} {A B : List Nat} (h : Ins t m A B) (hm : m < t.length) (hA : A = [] ∨ ∃ A' y, A = A' ++ [y] ∧ lx (t.drop m) (t.drop y) = false) : (A ++ m :: B).Perm (List.range (m + 1)) ∧ (A ++ m :: B).Pairwise (LT t) := by
  refine ⟨?_, ?_⟩
  · rw [List.range_succ]
    exact List.perm_middle.trans ((List.Perm.cons m h.perm).trans (List.perm_append_comm (l₁ := [m]) (l₂ := List.range m)))
  · have hs := h.sorted
    rw [List.pairwise_append] at hs ⊢
    obtain ⟨s1, s2, s3⟩ := hs
    refine ⟨s1, List.pairwise_cons.2 ⟨h.low, s2⟩, fun a ha b hb => ?_⟩
    have am : LT t a m := by
      rcases hA with rfl | ⟨A', y, rfl, hy⟩
      · simp at ha
      · have ymem : y ∈ List.range m := h.perm.mem_iff.1 (by simp)
        have yn : y < m := by simpa using ymem
        have ym : LT t y m := by
          rcases lx_total (t.drop m) (t.drop y) with h1 | h1 | h1
          · rw [h1] at hy; cases hy
          · exact absurd h1 (ends_ne hm (by omega) (by omega))
          · exact h1
        rcases List.mem_append.1 ha with h1 | h1
        · rw [List.pairwise_append] at s1
          exact lx_trans (s1.2.2 a h1 y (by simp)) ym
        · simp at h1; subst h1; exact ym
    rcases List.mem_cons.1 hb with rfl | hb
    · exact am
    · exact s3 a ha b hb
theorem Ins.step {t : List Int} {m : Nat} {A B : List Nat} {y : Nat} (h : Ins t m (A ++ [y]) B) (hy : lx (t.drop m) (t.drop y) = true) : Ins t m A (y :: B) := by
  refine ⟨by simpa using h.perm, by simpa using h.sorted, fun b hb => ?_⟩
  rcases List.mem_cons.1 hb with rfl | hb
  · exact hy
  · exact h.low b hb
end Go.X
namespace Go.X.Try
open Go.IntWalk Go.Proofs
def kI (s : ByteArray) (l : List Nat) (i k : Nat) : St := ⟨[(0, .one (.str s)), (3, .one (.row 0)), (4, .one (.int .i64 i)), (5, .one (.int .i64 k))], [.str s], [.rows none (.ints .i64 (ci l))]⟩
theorem body8a (s : ByteArray) (l : List Nat) (i k x y : Nat) (hl : l.length ≤ 1000) (hk : k + 1 < l.length) (hx : l.getD (k + 1) 0 = x) (hy : l.getD k 0 = y) (hxs : x < s.size) (hys : y < s.size) (hn : s.size ≤ 1000) (hlt : lx ((toBytes s).drop x) ((toBytes s).drop y) = true) :
    ∃ st1, evC T8 KK b8x0 (kI s l i (k + 1)) = some (.norm, st1) ∧ St.head [0, 3, 4, 5] st1 = kI s ((l.set (k + 1) y).set k x) i k := by
  have v1 : (RC.ints .i64 (ci l)).get (k + 1) 0 = some (.int .i64 x) := by simp only [RC.get, if_true]; rw [ci_getD, hx]
  have v2 : (RC.ints .i64 (ci l)).get k 0 = some (.int .i64 y) := by simp only [RC.get, if_true]; rw [ci_getD, hy]
  have lc : (ci l).length = l.length := ci_length l
  have lc2 : (ci (l.set (k + 1) y)).length = l.length := by rw [ci_length]; simp
  have c0 : (0 : Int) < (k : Int) + 1 := by omega
  have c0' : (0 : Int) ≤ (k : Int) + 1 := by omega
  have c1 : (k : Int) + 1 < l.length := by omega
  have c2 : (k : Int) < l.length := by omega
  have c3 : k < l.length := by omega
  have n1 : ((k : Int) + 1).toNat = k + 1 := by omega
  have w1 : IntKind.i64.wrap (k : Int) = k := i64_in _ (by omega)
  have x1 : (x : Int) ≤ s.size := by omega
  have y1 : (y : Int) ≤ s.size := by omega
  have hb := ext_lx s x y
  rw [hlt] at hb
  have st1 : (RC.ints .i64 (ci l)).set (k + 1) 0 (.int .i64 y) = some (.ints .i64 (ci (l.set (k + 1) y))) := by simp [RC.set, ci_set]
  have st2 : (RC.ints .i64 (ci (l.set (k + 1) y))).set k 0 (.int .i64 x) = some (.ints .i64 (ci ((l.set (k + 1) y).set k x))) := by simp [RC.set, ci_set]
  simp -implicitDefEqProofs [b8x0, kI, upd, v1, v2, lc, lc2, c0, c0', c1, c2, c3, n1, hk, w1, x1, y1, hb, st1, st2, RC.len, RC.size]
theorem end8a (s : ByteArray) (l : List Nat) (i k : Nat) (hl : l.length ≤ 1000) (hk : k < l.length) (hn : s.size ≤ 1000) (h : k = 0 ∨ ∃ x y, 0 < k ∧ l.getD k 0 = x ∧ l.getD (k - 1) 0 = y ∧ x < s.size ∧ y < s.size ∧ lx ((toBytes s).drop x) ((toBytes s).drop y) = false) :
    ∃ env, evC T8 KK b8x0 (kI s l i k) = some (.exit 2, ⟨env, [.str s], [.rows none (.ints .i64 (ci l))]⟩) ∧ getT 0 env = .one (.str s) ∧ getT 3 env = .one (.row 0) ∧ getT 4 env = .one (.int .i64 i) := by
  by_cases h0 : k = 0
  · subst h0
    simp -implicitDefEqProofs [b8x0, kI, upd]
  · obtain ⟨j, rfl⟩ : ∃ j, k = j + 1 := ⟨k - 1, by omega⟩
    rcases h with h | ⟨x, y, _, hx, hy, hxs, hys, hlt⟩
    · omega
    rw [show j + 1 - 1 = j by omega] at hy
    have v1 : (RC.ints .i64 (ci l)).get (j + 1) 0 = some (.int .i64 x) := by simp only [RC.get, if_true]; rw [ci_getD, hx]
    have v2 : (RC.ints .i64 (ci l)).get j 0 = some (.int .i64 y) := by simp only [RC.get, if_true]; rw [ci_getD, hy]
    have lc : (ci l).length = l.length := ci_length l
    have c0 : (0 : Int) < (j : Int) + 1 := by omega
    have c0' : (0 : Int) ≤ (j : Int) + 1 := by omega
    have c1 : (j : Int) + 1 < l.length := by omega
    have c2 : (j : Int) < l.length := by omega
    have c3 : j < l.length := by omega
    have n1 : ((j : Int) + 1).toNat = j + 1 := by omega
    have w1 : IntKind.i64.wrap (j : Int) = j := i64_in _ (by omega)
    have x1 : (x : Int) ≤ s.size := by omega
    have y1 : (y : Int) ≤ s.size := by omega
    have hb := ext_lx s x y
    rw [hlt] at hb
    simp -implicitDefEqProofs [b8x0, kI, upd, v1, v2, lc, c0, c0', c1, c2, c3, n1, hk, w1, x1, y1, hb, RC.len, RC.size]
theorem set_down (A B : List Nat) (y m : Nat) : ((A ++ [y] ++ m :: B).set (A.length + 1) y).set A.length m = A ++ m :: (y :: B) := by
  rw [List.append_assoc]
  rw [List.set_append_right _ _ (by omega), show A.length + 1 - A.length = 1 by omega, List.set_append_right _ _ (by omega)]
  simp
theorem loop8a (s : ByteArray) (m : Nat) (hm : m < s.size) (hn : s.size ≤ 1000) : ∀ (k KF : Nat) (A B : List Nat), A.length = k → Ins (toBytes s) m A B → k + 1 < KF →
    ∃ l env, l.Perm (List.range (m + 1)) ∧ l.Pairwise (LT (toBytes s)) ∧ loopH (evC T8 KK b8x0) [0, 3, 4, 5] KF (kI s (A ++ m :: B) m k) = some (.exit 2, ⟨env, [.str s], [.rows none (.ints .i64 (ci l))]⟩) ∧ getT 0 env = .one (.str s) ∧ getT 3 env = .one (.row 0) ∧ getT 4 env = .one (.int .i64 m) := by
  have hl := size_toBytes s
  intro k
  induction k with
  | zero =>
    intro KF A B hA I hF
    obtain rfl : A = [] := List.eq_nil_of_length_eq_zero hA
    obtain ⟨p1, p2⟩ := I.done (by omega) (.inl rfl)
    have hlen := p1.length_eq
    rw [List.length_range] at hlen
    obtain ⟨env, e1, e2⟩ := end8a s ([] ++ m :: B) m 0 (by omega) (by omega) hn (.inl rfl)
    exact ⟨_, env, p1, p2, loopH_exit e1, e2⟩
  | succ k ih =>
    intro KF A B hA I hF
    have hne : A ≠ [] := by rintro rfl; simp at hA
    obtain ⟨A', y, rfl⟩ : ∃ A' y, A = A' ++ [y] := ⟨A.dropLast, A.getLast hne, (List.dropLast_concat_getLast hne).symm⟩
    have hA' : A'.length = k := by simpa using hA
    have hlen := I.perm.length_eq
    rw [List.length_range] at hlen
    simp only [List.length_append, List.length_cons, List.length_nil] at hlen
    have hx : (A' ++ [y] ++ m :: B).getD (k + 1) 0 = m := by rw [← hA']; simp [List.getD]
    have hy : (A' ++ [y] ++ m :: B).getD k 0 = y := by rw [← hA']; simp [List.getD]
    have ys : y < s.size := by
      have : y ∈ List.range m := I.perm.mem_iff.1 (by simp)
      have : y < m := by simpa using this
      omega
    cases hc : lx ((toBytes s).drop m) ((toBytes s).drop y) with
    | true =>
      obtain ⟨st1, e1, e2⟩ := body8a s (A' ++ [y] ++ m :: B) m k m y (by simp; omega) (by simp; omega) hx hy hm ys hn hc
      have e3 : ((A' ++ [y] ++ m :: B).set (k + 1) y).set k m = A' ++ m :: (y :: B) := by rw [← hA']; exact set_down A' B y m
      rw [e3] at e2
      obtain ⟨l, env, p1, p2, e4, e5⟩ := ih (KF - 1) A' (y :: B) hA' (I.step hc) (by omega)
      exact ⟨l, env, p1, p2, by rw [loopH_norm e1 (by omega), e2]; exact e4, e5⟩
    | false =>
      obtain ⟨p1, p2⟩ := I.done (by omega) (.inr ⟨A', y, rfl, hc⟩)
      obtain ⟨env, e1, e2⟩ := end8a s (A' ++ [y] ++ m :: B) m (k + 1) (by simp; omega) (by simp; omega) hn (.inr ⟨m, y, by omega, hx, hy, hm, ys, hc⟩)
      exact ⟨_, env, p1, p2, loopH_exit e1, e2⟩
def kO (s : ByteArray) (l : List Nat) (i : Nat) : St := ⟨[(0, .one (.str s)), (3, .one (.row 0)), (4, .one (.int .i64 i))], [.str s], [.rows none (.ints .i64 (ci l))]⟩
theorem body8b (s : ByteArray) (l : List Nat) (i : Nat) (hi : i < s.size) (hn : s.size ≤ 1000) (p1 : l.Perm (List.range i)) (p2 : l.Pairwise (LT (toBytes s))) :
    ∃ l' st1, l'.Perm (List.range (i + 1)) ∧ l'.Pairwise (LT (toBytes s)) ∧ evC T8 KK b8x1 (kO s l i) = some (.norm, st1) ∧ St.head [0, 3, 4] st1 = kO s l' (i + 1) := by
  have hK := KK_eq
  have hlen := p1.length_eq
  rw [List.length_range] at hlen
  obtain ⟨l', env, q1, q2, el, g0, g3, g4⟩ := loop8a s i hi hn i KK l [] hlen ⟨by simpa using p1, by simpa using p2, by simp⟩ (by omega)
  refine ⟨l', ?_⟩
  have hii : (i : Int) < s.size := by omega
  have w1 : IntKind.i64.wrap ((i : Int) + 1) = i + 1 := i64_in _ (by omega)
  have w2 : IntKind.i64.wrap (i : Int) = i := i64_in _ (by omega)
  have lc : (ci l).length = i := by rw [ci_length]; exact hlen
  have e1 : ci (l ++ [i]) = ci l ++ [(i : Int)] := by rw [ci_append]; rfl
  have sz : (i + 1) * 8 ≤ 140737488355328 := by omega
  simp only [kI, e1] at el
  simp -implicitDefEqProofs [b8x1, kO, upd, hii, w1, w2, lc, hlen, RC.len, RC.size, RC.ofElems, RC.app, el, g0, g3, g4, q1, q2, sz]
theorem loop8b (s : ByteArray) (hn : s.size ≤ 1000) : ∀ (d KF i : Nat) (l : List Nat), i + d = s.size → l.Perm (List.range i) → l.Pairwise (LT (toBytes s)) → d + 1 < KF →
    ∃ ys env, IsSA (toBytes s) ys ∧ loopH (evC T8 KK b8x1) [0, 3, 4] KF (kO s l i) = some (.exit 0, ⟨env, [.str s], [.rows none (.ints .i64 (ci ys))]⟩) ∧ getT 3 env = .one (.row 0)
  | 0, KF, i, l, hi, p1, p2, hF => by
    obtain rfl : i = s.size := by omega
    obtain ⟨env, e1, e2⟩ : ∃ env, evC T8 KK b8x1 (kO s l s.size) = some (.exit 0, ⟨env, [.str s], [.rows none (.ints .i64 (ci l))]⟩) ∧ getT 3 env = .one (.row 0) := by
      simp -implicitDefEqProofs [b8x1, kO, upd]
    exact ⟨l, env, ⟨by rw [size_toBytes]; exact p1, p2⟩, loopH_exit e1, e2⟩
  | d + 1, KF, i, l, hi, p1, p2, hF => by
    obtain ⟨l', st1, q1, q2, e1, e2⟩ := body8b s l i (by omega) hn p1 p2
    obtain ⟨ys, env, sa, e3, e4⟩ := loop8b s hn d (KF - 1) (i + 1) l' (by omega) q1 q2 (by omega)
    exact ⟨ys, env, sa, by rw [loopH_norm e1 (by omega), e2]; exact e3, e4⟩
theorem f8 (s : ByteArray) (hn : s.size ≤ 1000) : ∃ ys, IsSA (toBytes s) ys ∧ F8 [.one (.str s)] [] = some (.one (.row 0), [.rows none (.ints .i64 (ci ys))]) := by
  have hK := KK_eq
  obtain ⟨ys, env, sa, el, g3⟩ := loop8b s hn s.size KK 0 [] (by omega) (List.Perm.refl _) List.Pairwise.nil (by omega)
  refine ⟨ys, sa, ?_⟩
  have c0 : ci [] = [] := rfl
  simp only [kO, c0, Int.natCast_zero] at el
  simp -implicitDefEqProofs [F8, c8, upd, el, g3]
end Go.X.Try
namespace Go.X
def alP (t : List Int) (ys : List Nat) (i : Nat) : List Int := (List.range ys.length).map fun j => if j = 0 ∨ i ≤ j then 0 else (lcp (t.drop (ys.getD (j - 1) 0)) (t.drop (ys.getD j 0)) : Int)
theorem alP_length (t : List Int) (ys : List Nat) (i : Nat) : (alP t ys i).length = ys.length := by simp [alP]
theorem alP_one (t : List Int) (ys : List Nat) : alP t ys 1 = List.replicate ys.length 0 := by
  rw [List.eq_replicate_iff]
  refine ⟨alP_length _ _ _, fun b hb => ?_⟩
  simp only [alP, List.mem_map] at hb
  obtain ⟨j, _, rfl⟩ := hb
  rw [if_pos (by omega)]
theorem alP_set (t : List Int) (ys : List Nat) (i : Nat) (h0 : 0 < i) (hi : i < ys.length) : (alP t ys i).set i (lcp (t.drop (ys.getD (i - 1) 0)) (t.drop (ys.getD i 0)) : Int) = alP t ys (i + 1) := by
  apply List.ext_getElem
  · simp [alP]
  · intro j h1 h2
    rw [List.getElem_set]
    simp only [alP, List.getElem_map, List.getElem_range]
    by_cases e : i = j
    · subst e
      rw [if_pos rfl, if_neg (by omega)]
    · rw [if_neg e]
      by_cases e2 : j = 0 ∨ i ≤ j
      · rw [if_pos e2, if_pos (by omega)]
      · rw [if_neg e2, if_neg (by omega)]
def alL (t : List Int) (ys : List Nat) : List Int := alP t ys ys.length
theorem alL_get (t : List Int) (ys : List Nat) (j : Nat) (h0 : 0 < j) (hj : j < ys.length) : (alL t ys).getD j 0 = (lcp (t.drop (ys.getD (j - 1) 0)) (t.drop (ys.getD j 0)) : Int) := by
  have : j < (alP t ys ys.length).length := by rw [alP_length]; exact hj
  simp only [alL, List.getD, List.getElem?_eq_getElem this, Option.getD_some]
  simp only [alP, List.getElem_map, List.getElem_range]
  rw [if_neg (by omega)]
  rfl
theorem alL_zero (t : List Int) (ys : List Nat) : (alL t ys).getD 0 0 = 0 := by
  by_cases h : 0 < ys.length
  · have : 0 < (alP t ys ys.length).length := by rw [alP_length]; exact h
    simp only [alL, List.getD, List.getElem?_eq_getElem this, Option.getD_some]
    simp only [alP, List.getElem_map, List.getElem_range]
    rw [if_pos (.inl trivial)]
  · have : (alP t ys ys.length) = [] := List.eq_nil_of_length_eq_zero (by rw [alP_length]; omega)
    simp [alL, this]
theorem alL_length (t : List Int) (ys : List Nat) : (alL t ys).length = ys.length := alP_length _ _ _
theorem IsSA.length {t : List Int} {ys : List Nat} (h : IsSA t ys) : ys.length = t.length := by have := h.perm.length_eq; simpa using this
theorem IsSA.lt {t : List Int} {ys : List Nat} (h : IsSA t ys) {x : Nat} (hx : x ∈ ys) : x < t.length := by have := h.perm.mem_iff.1 hx; simpa using this
theorem IsSA.getD_lt {t : List Int} {ys : List Nat} (h : IsSA t ys) {i : Nat} (hi : i < ys.length) : ys.getD i 0 < t.length := h.lt (by simp [List.getD, hi])
theorem ext_all (s : ByteArray) : s.extract 0 s.size = s := by rw [ext_of, List.drop_zero, ofBytes_toBytes]
end Go.X
namespace Go.X.Try
open Go.IntWalk Go.Proofs
def arr (g : Option Nat) (s : ByteArray) (ys : List Nat) (al : List Int) : List Ob := [.cells g [.str s, .row 1, .row 2], .rows none (.ints .i64 (ci ys)), .rows none (.ints .i64 al)]
def k7 (s : ByteArray) (ys : List Nat) (al : List Int) (i : Nat) : St := ⟨[(0, .one (.str s)), (3, .one (.ptr 0 0)), (4, .one (.int .i64 i))], [.str s], arr none s ys al⟩
theorem body7 (s : ByteArray) (ys : List Nat) (i : Nat) (hi : i + 1 < ys.length) (hn : s.size ≤ 1000) (sa : IsSA (toBytes s) ys) : ∃ st1, evC T7 KK b7x0 (k7 s ys (alP (toBytes s) ys (i + 1)) (i + 1)) = some (.norm, st1) ∧ St.head [0, 3, 4] st1 = k7 s ys (alP (toBytes s) ys (i + 2)) (i + 2) := by
  have hl := size_toBytes s
  have hy := sa.length
  have a1 := sa.getD_lt (i := i) (by omega)
  have a2 := sa.getD_lt (i := i + 1) hi
  have e23 := f23 s (ys.getD i 0) (ys.getD (i + 1) 0) hn (by omega) (by omega)
  have es := alP_set (toBytes s) ys (i + 1) (by omega) hi
  rw [show i + 1 - 1 = i by omega] at es
  rw [← es]
  have v1 : (RC.ints .i64 (ci ys)).get i 0 = some (.int .i64 (ys.getD i 0 : Nat)) := by simp only [RC.get, if_true]; rw [ci_getD]
  have v2 : (RC.ints .i64 (ci ys)).get (i + 1) 0 = some (.int .i64 (ys.getD (i + 1) 0 : Nat)) := by simp only [RC.get, if_true]; rw [ci_getD]
  have lc : (ci ys).length = ys.length := ci_length ys
  have la : (alP (toBytes s) ys (i + 1)).length = ys.length := alP_length _ _ _
  generalize alP (toBytes s) ys (i + 1) = al at *
  generalize lcp ((toBytes s).drop (ys.getD i 0)) ((toBytes s).drop (ys.getD (i + 1) 0)) = N at *
  generalize ys.getD i 0 = x at *
  generalize ys.getD (i + 1) 0 = y at *
  have c1 : (i : Int) + 1 < ys.length := by omega
  have c2 : (i : Int) < ys.length := by omega
  have c3 : i < ys.length := by omega
  have c4 : (0 : Int) ≤ (i : Int) + 1 := by omega
  have n1 : ((i : Int) + 1).toNat = i + 1 := by omega
  have w1 : IntKind.i64.wrap (i : Int) = i := i64_in _ (by omega)
  have w2 : IntKind.i64.wrap ((i : Int) + 1 + 1) = i + 2 := by rw [i64_in _ (by omega)]; omega
  have st1 : (RC.ints .i64 al).set (i + 1) 0 (.int .i64 (N : Int)) = some (.ints .i64 (al.set (i + 1) (N : Int))) := by simp [RC.set]
  simp -implicitDefEqProofs [b7x0, k7, arr, upd, v1, v2, lc, la, c1, c2, c3, c4, n1, w1, w2, hi, e23, st1, RC.len, RC.size]
theorem end7 (s : ByteArray) (ys : List Nat) (al : List Int) (i : Nat) (hi : ys.length ≤ i) : ∃ env, evC T7 KK b7x0 (k7 s ys al i) = some (.exit 0, ⟨env, [.str s], arr none s ys al⟩) ∧ getT 3 env = .one (.ptr 0 0) := by
  have lc : (ci ys).length = ys.length := ci_length ys
  have c1 : ¬ (i : Int) < ys.length := by omega
  simp -implicitDefEqProofs [b7x0, k7, arr, upd, lc, c1, RC.len, RC.size]
theorem f7 (s : ByteArray) (hn : s.size ≤ 1000) : ∃ ys, IsSA (toBytes s) ys ∧ F7 [.one (.str s)] [] = some (.one (.ptr 0 0), arr none s ys (alL (toBytes s) ys)) := by
  have hK := KK_eq
  have hl := size_toBytes s
  obtain ⟨ys, sa, e22⟩ := f22 s hn
  have hy := sa.length
  refine ⟨ys, sa, ?_⟩
  have z1 := alP_one (toBytes s) ys
  have key : ∃ env, loopH (evC T7 KK b7x0) [0, 3, 4] KK (k7 s ys (List.replicate s.size 0) 1) = some (.exit 0, ⟨env, [.str s], arr none s ys (alL (toBytes s) ys)⟩) ∧ getT 3 env = .one (.ptr 0 0) := by
    by_cases h0 : ys.length = 0
    · obtain ⟨env, e1, e2⟩ := end7 s ys (List.replicate s.size 0) 1 (by omega)
      have : alL (toBytes s) ys = List.replicate s.size 0 := by
        rw [show s.size = 0 by omega]
        exact List.eq_nil_of_length_eq_zero (by rw [alL_length]; exact h0)
      rw [this]
      exact ⟨env, loopH_exit e1, e2⟩
    · obtain ⟨env, e1, e2⟩ := end7 s ys (alP (toBytes s) ys (ys.length - 1 + 1)) (ys.length - 1 + 1) (by omega)
      have el := loopUp (body := evC T7 KK b7x0) (live := [0, 3, 4]) (canon := fun i => k7 s ys (alP (toBytes s) ys (i + 1)) (i + 1)) (n := ys.length - 1) (x := 0) (fun i hi => body7 s ys i (by omega) hn sa) e1 (by omega)
      rw [show 0 + 1 = 1 from rfl, z1, show ys.length = s.size by omega] at el
      refine ⟨env, ?_, e2⟩
      rw [el]
      simp only [alL]
      rw [show s.size - 1 + 1 = ys.length by omega]
  obtain ⟨env, el, g3⟩ := key
  have mk := mks_ints .i64 s.size
  have n1 : (0 : Int) ≤ s.size := by omega
  have n2 : (s.size : Int) * 8 ≤ 140737488355328 := by omega
  have n4 : ¬ (1000 : Int) < s.size := by omega
  have x0 := ext_all s
  simp only [k7, arr, Int.natCast_one] at el
  simp -implicitDefEqProofs [F7, c7, upd, arr, e22, mk, n1, n2, n4, x0, el, g3]
end Go.X.Try
namespace Go.X
open Go.Proofs
def pfx (x q : List Int) : Bool := decide (x.take q.length = q)
theorem pfx_iff (x q : List Int) : pfx x q = true ↔ ∃ r, x = q ++ r := by
  simp only [pfx, decide_eq_true_eq]
  constructor
  · intro h
    refine ⟨x.drop q.length, ?_⟩
    conv => lhs; rw [← List.take_append_drop q.length x, h]
  · rintro ⟨r, rfl⟩
    simp
theorem lx_append (q r : List Int) : lx (q ++ r) q = false := by
  induction q with
  | nil => simp
  | cons a q ih => simp [lx, ih]
theorem pfx_not_lx {x q : List Int} (h : pfx x q = true) : lx x q = false := by
  obtain ⟨r, rfl⟩ := (pfx_iff x q).1 h
  exact lx_append q r
theorem pfx_between : ∀ {x q r : List Int}, lx x q = false → lx x (q ++ r) = true → pfx x q = true
  | x, [], r, _, _ => by simp [pfx]
  | [], b :: q, r, h, _ => by simp at h
  | a :: x, b :: q, r, h, h' => by
    rw [List.cons_append, lx_cons] at h'
    have h1 : ¬ (a < b ∨ (a = b ∧ lx x q = true)) := by rw [← lx_cons]; simp [h]
    rcases h' with h' | ⟨rfl, h'⟩
    · exact absurd (.inl h') h1
    · have h2 : lx x q = false := by
        cases h3 : lx x q with
        | false => rfl
        | true => exact absurd (.inr ⟨rfl, h3⟩) h1
      have := pfx_between h2 h'
      simp only [pfx, decide_eq_true_eq] at this ⊢
      simp [this]
theorem IsSA.get_lt {t : List Int} {ys : List Nat} (h : IsSA t ys) {p p' : Nat} (hp : p < p') (hp' : p' < ys.length) : lx (t.drop (ys.getD p 0)) (t.drop (ys.getD p' 0)) = true := by
  have := List.pairwise_iff_getElem.1 h.sorted p p' (by omega) hp' hp
  simpa [List.getD, show p < ys.length by omega, hp'] using this
structure Found (t : List Int) (ys : List Nat) (q : List Int) (a b : Nat) : Prop where
  le : a ≤ b
  len : b ≤ ys.length
  lo : ∀ p, p < ys.length → (lx (t.drop (ys.getD p 0)) q = true ↔ p < a)
  pf : ∀ p, p < ys.length → (pfx (t.drop (ys.getD p 0)) q = true ↔ a ≤ p ∧ p < b)
theorem Found.mk' {t : List Int} {ys : List Nat} {q : List Int} {a b : Nat} (sa : IsSA t ys) (hab : a ≤ b) (hb : b ≤ ys.length) (h1 : ∀ p, p < a → lx (t.drop (ys.getD p 0)) q = true) (h2 : ∀ p, a ≤ p → p < ys.length → lx (t.drop (ys.getD p 0)) q = false)
    (h3 : ∀ p, a ≤ p → p < b → pfx (t.drop (ys.getD p 0)) q = true) (h4 : b = ys.length ∨ pfx (t.drop (ys.getD b 0)) q = false) : Found t ys q a b := by
  have lo : ∀ p, p < ys.length → (lx (t.drop (ys.getD p 0)) q = true ↔ p < a) := by
    intro p hp
    rcases Nat.lt_or_ge p a with h | h
    · simp only [h1 p h, h]
    · rw [h2 p h hp]; simp; omega
  refine ⟨hab, hb, lo, fun p hp => ?_⟩
  constructor
  · intro h
    have h5 : a ≤ p := by
      rcases Nat.lt_or_ge p a with h6 | h6
      · have := h1 p h6; rw [pfx_not_lx h] at this; cases this
      · exact h6
    refine ⟨h5, ?_⟩
    rcases Nat.lt_or_ge p b with h6 | h6
    · exact h6
    · exfalso
      have hb' : b < ys.length := by omega
      rcases h4 with h4 | h4
      · omega
      · by_cases e : b = p
        · subst e; rw [h] at h4; cases h4
        · have h7 := sa.get_lt (show b < p by omega) hp
          obtain ⟨r, hr⟩ := (pfx_iff _ _).1 h
          rw [hr] at h7
          rw [pfx_between (h2 b hab hb') h7] at h4
          cases h4
  · rintro ⟨h5, h6⟩; exact h3 p h5 h6
theorem count_range (a : Nat) : ∀ n : Nat, a ≤ n → ((List.range n).filter fun p => decide (p < a)).length = a
  | 0, h => by simp; omega
  | n + 1, h => by
    rw [List.range_succ, List.filter_append, List.length_append]
    by_cases e : a = n + 1
    · subst e
      have : (List.range n).filter (fun p => decide (p < n + 1)) = List.range n := by
        rw [List.filter_eq_self]; intro x hx; have := List.mem_range.1 hx; simp; omega
      rw [this]; simp
    · rw [count_range a n (by omega)]
      simp; omega
theorem ys_map (ys : List Nat) : (List.range ys.length).map (fun p => ys.getD p 0) = ys := by
  apply List.ext_getElem
  · simp
  · intro i h1 h2
    simp [List.getD, h2]
theorem Found.less {t : List Int} {ys : List Nat} {q : List Int} {a b : Nat} (sa : IsSA t ys) (F : Found t ys q a b) : ((List.range t.length).filter fun i => lx (t.drop i) q).length = a := by
  have h1 := (sa.perm.filter fun i => lx (t.drop i) q).length_eq
  rw [← h1]
  conv => lhs; rw [← ys_map ys]
  rw [List.filter_map, List.length_map]
  have h2 : (List.range ys.length).filter ((fun i => lx (t.drop i) q) ∘ fun p => ys.getD p 0) = (List.range ys.length).filter fun p => decide (p < a) := by
    apply List.filter_congr
    intro p hp
    have := F.lo p (by simpa using hp)
    rw [Bool.eq_iff_iff]
    simpa using this
  rw [h2]
  exact count_range a _ (by have := F.le; have := F.len; omega)
theorem Found.mid {t : List Int} {ys : List Nat} {q : List Int} {a b : Nat} (F : Found t ys q a b) : ys.filter (fun i => pfx (t.drop i) q) = (ys.drop a).take (b - a) := by
  have hab := F.le
  have hb := F.len
  have e : ys = ys.take a ++ ((ys.drop a).take (b - a) ++ ys.drop b) := by
    have : ys.drop b = (ys.drop a).drop (b - a) := by rw [List.drop_drop]; congr 1; omega
    rw [this, List.take_append_drop, List.take_append_drop]
  have at1 : ∀ p (hp : p < ys.length), pfx (t.drop ys[p]) q = true ↔ a ≤ p ∧ p < b := fun p hp => by
    have := F.pf p hp; simpa [List.getD, hp] using this
  conv => lhs; rw [e]
  rw [List.filter_append, List.filter_append]
  have h1 : (ys.take a).filter (fun i => pfx (t.drop i) q) = [] := by
    rw [List.filter_eq_nil_iff]
    intro x hx
    obtain ⟨p, hp, rfl⟩ := List.mem_iff_getElem.1 hx
    rw [List.getElem_take, at1]
    have : p < a := by simp at hp; omega
    omega
  have h2 : ((ys.drop a).take (b - a)).filter (fun i => pfx (t.drop i) q) = (ys.drop a).take (b - a) := by
    rw [List.filter_eq_self]
    intro x hx
    obtain ⟨p, hp, rfl⟩ := List.mem_iff_getElem.1 hx
    have hp2 : p < b - a ∧ p < ys.length - a := by rw [List.length_take, List.length_drop] at hp; omega
    rw [List.getElem_take, List.getElem_drop, at1]
    omega
  have h3 : (ys.drop b).filter (fun i => pfx (t.drop i) q) = [] := by
    rw [List.filter_eq_nil_iff]
    intro x hx
    obtain ⟨p, hp, rfl⟩ := List.mem_iff_getElem.1 hx
    rw [List.getElem_drop, at1]
    omega
  rw [h1, h2, h3]; simp
theorem srt_unique : ∀ {l m : List Int}, l.Perm m → l.Pairwise (· ≤ ·) → m.Pairwise (· ≤ ·) → l = m
  | [], m, h, _, _ => h.nil_eq
  | x :: l, m, h, pl, pm => by
    cases m with
    | nil => exact absurd h.length_eq (by simp)
    | cons y m =>
      rw [List.pairwise_cons] at pl pm
      have e : x = y := by
        have h1 := h.mem_iff.1 (List.mem_cons_self (a := x) (l := l))
        have h2 := h.mem_iff.2 (List.mem_cons_self (a := y) (l := m))
        rcases List.mem_cons.1 h1 with h1 | h1
        · exact h1
        · rcases List.mem_cons.1 h2 with h2 | h2
          · exact h2.symm
          · have := pl.1 y h2; have := pm.1 x h1; omega
      subst e
      rw [srt_unique (List.Perm.cons_inv h) pl.2 pm.2]
def places (t q : List Int) : List Nat := (List.range t.length).filter fun i => pfx (t.drop i) q
theorem Found.places {t : List Int} {ys : List Nat} {q : List Int} {a b : Nat} (sa : IsSA t ys) (F : Found t ys q a b) : srtS (((ci ys).drop a).take (b - a)) = ci (places t q) := by
  have e : ((ci ys).drop a).take (b - a) = ci ((ys.drop a).take (b - a)) := by simp [ci, List.map_drop, List.map_take]
  have h1 := sa.perm.filter fun i => pfx (t.drop i) q
  rw [F.mid] at h1
  rw [e]
  refine srt_unique ?_ ?_ ?_
  · exact (List.mergeSort_perm _ _).trans (h1.map _)
  · have := List.pairwise_mergeSort (le := fun x y : Int => decide (x ≤ y)) (fun a b c h1 h2 => by simp at *; omega) (fun a b => by simp; omega) (ci ((ys.drop a).take (b - a)))
    simpa [srtS] using this
  · have : ((List.range t.length).filter fun i => pfx (t.drop i) q).Pairwise (· < ·) := List.pairwise_lt_range.filter _
    simp only [ci, Go.X.places]
    exact this.map _ fun x y h => by simp; omega
theorem Found.count {t : List Int} {ys : List Nat} {q : List Int} {a b : Nat} (sa : IsSA t ys) (F : Found t ys q a b) : (Go.X.places t q).length = b - a := by
  have h1 := (sa.perm.filter fun i => pfx (t.drop i) q).length_eq
  rw [F.mid] at h1
  have := F.len
  have := F.le
  simp only [Go.X.places]
  rw [← h1]; simp; omega
end Go.X
namespace Go.X.Try
open Go.IntWalk Go.Proofs
def cmpE (s q : ByteArray) (i : Nat) : Int := Lib.compareBytes (s.extract i s.size).data.toList q.data.toList
theorem cmpE_neg (s q : ByteArray) (i : Nat) : cmpE s q i < 0 ↔ lx ((toBytes s).drop i) (toBytes q) = true := by
  unfold cmpE
  rw [ext_of]
  conv => lhs; rw [← ofBytes_toBytes q]
  exact cmp_lx (isB_drop _ (isB_toBytes s)) (isB_toBytes q)
def fHp (g0 g1 g2 g3 : Option Nat) (s : ByteArray) (ys : List Nat) (al : List Int) : List Ob := [.cells g0 [.ptr 1 0], .cells g1 [.str s, .row 2, .row 3], .rows g2 (.ints .i64 (ci ys)), .rows g3 (.ints .i64 al)]
theorem f25 (g0 g1 g2 g3 : Option Nat) (s q : ByteArray) (ys : List Nat) (al : List Int) (i : Nat) (hi : i ≤ s.size) : F25 [.one (.int .i64 i), .one (.str q), .one (.ptr 0 0)] (fHp g0 g1 g2 g3 s ys al) = some (.one (.int .i64 (cmpE s q i)), fHp g0 g1 g2 g3 s ys al) := by
  have hi' : (i : Int) ≤ s.size := by omega
  have e26 : F26 [.one (.str (s.extract i s.size)), .one (.str q)] [] = some (.one (.int .i64 (cmpE s q i)), []) := rfl
  generalize cmpE s q i = c at *
  simp -implicitDefEqProofs [F25, c25, upd, fHp, hi', e26]
def k24 (g0 g1 g2 g3 : Option Nat) (s q : ByteArray) (ys : List Nat) (al : List Int) (i j : Nat) : St := ⟨[(0, .one (.row 0)), (1, .one (.str q)), (2, .one (.fn 25 [.ptr 1 0])), (8, .one (.int .i64 ys.length)), (9, .one (.int .i64 i)), (10, .one (.int .i64 j))], [.row 0, .str q, .fn 25 [.ptr 1 0]], [.rows g2 (.ints .i64 (ci ys)), .cells g0 [.ptr 2 0], .cells g1 [.str s, .row 0, .row 3], .rows g3 (.ints .i64 al)]⟩
theorem body24 (g0 g1 g2 g3 : Option Nat) (s q : ByteArray) (ys : List Nat) (al : List Int) (i j h : Nat) (hij : i < j) (hj : j ≤ ys.length) (hn : ys.length ≤ 1000) (hh : h = (i + j) / 2) (hb : ys.getD h 0 ≤ s.size) :
    ∃ st1, evC T24 KK b24x0 (k24 g0 g1 g2 g3 s q ys al i j) = some (.norm, st1) ∧ St.head [0, 1, 2, 8, 9, 10] st1 = (if cmpE s q (ys.getD h 0) < 0 then k24 g0 g1 g2 g3 s q ys al (h + 1) j else k24 g0 g1 g2 g3 s q ys al i h) := by
  have e25 := fun a b c d => f25 a b c d s q ys al (ys.getD h 0) hb
  have lc : (ci ys).length = ys.length := ci_length ys
  have v1 : (RC.ints .i64 (ci ys)).get h 0 = some (.int .i64 (ys.getD h 0 : Nat)) := by simp only [RC.get, if_true]; rw [ci_getD]
  generalize ys.getD h 0 = x at *
  generalize cmpE s q x = c at *
  have c1 : (i : Int) < j := by omega
  have c2 : (h : Int) < ys.length := by omega
  have c3 : h < ys.length := by omega
  have w1 : IntKind.i64.wrap ((i : Int) + j) = i + j := i64_in _ (by omega)
  have w2 : IntKind.u64.wrap ((i : Int) + j) = i + j := u64_in _ (by omega)
  have w3 : shrI .u64 ((i : Int) + j) 1 = h := by
    rw [shrI_eq]
    have : Nat.min (1 : Int).toNat IntKind.u64.bits = 1 := by decide
    rw [this]; omega
  have w4 : IntKind.i64.wrap (h : Int) = h := i64_in _ (by omega)
  have w5 : IntKind.i64.wrap ((h : Int) + 1) = h + 1 := i64_in _ (by omega)
  simp only [fHp] at e25
  by_cases hc : c < 0
  · rw [if_pos hc]
    simp -implicitDefEqProofs [b24x0, k24, upd, lc, v1, c1, c2, c3, w1, w2, w3, w4, w5, e25, hc, RC.len, RC.size]
  · rw [if_neg hc]
    simp -implicitDefEqProofs [b24x0, k24, upd, lc, v1, c1, c2, c3, w1, w2, w3, w4, w5, e25, hc, RC.len, RC.size]
theorem loop24 (g0 g1 g2 g3 : Option Nat) (s q : ByteArray) (ys : List Nat) (al : List Int) (hn : s.size ≤ 1000) (sa : IsSA (toBytes s) ys) : ∀ (m KF i j : Nat), j - i ≤ m → i ≤ j → j ≤ ys.length → m + 1 < KF →
    (∀ p, p < i → lx ((toBytes s).drop (ys.getD p 0)) (toBytes q) = true) → (∀ p, j ≤ p → p < ys.length → lx ((toBytes s).drop (ys.getD p 0)) (toBytes q) = false) →
    ∃ a env, a ≤ ys.length ∧ (∀ p, p < a → lx ((toBytes s).drop (ys.getD p 0)) (toBytes q) = true) ∧ (∀ p, a ≤ p → p < ys.length → lx ((toBytes s).drop (ys.getD p 0)) (toBytes q) = false) ∧
      loopH (evC T24 KK b24x0) [0, 1, 2, 8, 9, 10] KF (k24 g0 g1 g2 g3 s q ys al i j) = some (.exit 0, ⟨env, (k24 g0 g1 g2 g3 s q ys al a a).rts, (k24 g0 g1 g2 g3 s q ys al a a).hp⟩) ∧
      getT 0 env = .one (.row 0) ∧ getT 1 env = .one (.str q) ∧ getT 2 env = .one (.fn 25 [.ptr 1 0]) ∧ getT 8 env = .one (.int .i64 ys.length) ∧ getT 9 env = .one (.int .i64 a) := by
  have hl := size_toBytes s
  have hy := sa.length
  intro m
  induction m with
  | zero =>
    intro KF i j hm hij hj hF h1 h2
    obtain rfl : i = j := by omega
    obtain ⟨env, e1, e2⟩ : ∃ env, evC T24 KK b24x0 (k24 g0 g1 g2 g3 s q ys al i i) = some (.exit 0, ⟨env, (k24 g0 g1 g2 g3 s q ys al i i).rts, (k24 g0 g1 g2 g3 s q ys al i i).hp⟩) ∧ getT 0 env = .one (.row 0) ∧ getT 1 env = .one (.str q) ∧ getT 2 env = .one (.fn 25 [.ptr 1 0]) ∧ getT 8 env = .one (.int .i64 ys.length) ∧ getT 9 env = .one (.int .i64 i) := by
      simp -implicitDefEqProofs [b24x0, k24, upd]
    exact ⟨i, env, hj, h1, h2, loopH_exit e1, e2⟩
  | succ m ih =>
    intro KF i j hm hij hj hF h1 h2
    by_cases e : i = j
    · exact ih KF i j (by omega) hij hj (by omega) h1 h2
    · obtain ⟨h, hh⟩ : ∃ h, h = (i + j) / 2 := ⟨_, rfl⟩
      have hlt : h < ys.length := by omega
      have hb := sa.getD_lt hlt
      obtain ⟨st1, e1, e2⟩ := body24 g0 g1 g2 g3 s q ys al i j h (by omega) hj (by omega) hh (by omega)
      have hc := cmpE_neg s q (ys.getD h 0)
      by_cases c : cmpE s q (ys.getD h 0) < 0
      · rw [if_pos c] at e2
        have hx := hc.1 c
        obtain ⟨a, env, q1, q2, q3, q4, q5⟩ := ih (KF - 1) (h + 1) j (by omega) (by omega) hj (by omega) (fun p hp => by
          by_cases e : p = h
          · rw [e]; exact hx
          · exact lx_trans (sa.get_lt (show p < h by omega) hlt) hx) h2
        exact ⟨a, env, q1, q2, q3, by rw [loopH_norm e1 (by omega), e2]; exact q4, q5⟩
      · rw [if_neg c] at e2
        have hx : lx ((toBytes s).drop (ys.getD h 0)) (toBytes q) = false := by
          cases hz : lx ((toBytes s).drop (ys.getD h 0)) (toBytes q) with
          | false => rfl
          | true => exact absurd (hc.2 hz) c
        obtain ⟨a, env, q1, q2, q3, q4, q5⟩ := ih (KF - 1) i h (by omega) (by omega) (by omega) (by omega) h1 (fun p hp hp2 => by
          by_cases e : p = h
          · rw [e]; exact hx
          · cases hz : lx ((toBytes s).drop (ys.getD p 0)) (toBytes q) with
            | false => rfl
            | true => rw [lx_trans (sa.get_lt (show h < p by omega) hp2) hz] at hx; cases hx)
        exact ⟨a, env, q1, q2, q3, by rw [loopH_norm e1 (by omega), e2]; exact q4, q5⟩
theorem f24 (g0 g1 : Option Nat) (s q : ByteArray) (ys : List Nat) (al : List Int) (hn : s.size ≤ 1000) (sa : IsSA (toBytes s) ys) :
    ∃ a b, a ≤ ys.length ∧ (∀ p, p < a → lx ((toBytes s).drop (ys.getD p 0)) (toBytes q) = true) ∧ (∀ p, a ≤ p → p < ys.length → lx ((toBytes s).drop (ys.getD p 0)) (toBytes q) = false) ∧
      F24 [.one (.row 2), .one (.str q), .one (.fn 25 [.ptr 0 0])] (fHp g0 g1 none none s ys al) = some (.tup [.one (.int .i64 a), .one (.bool b)], [.rows none (.ints .i64 (ci ys)), .cells g0 [.ptr 2 0], .cells g1 [.str s, .row 0, .row 3], .rows none (.ints .i64 al)]) := by
  have hK := KK_eq
  have hl := size_toBytes s
  have hy := sa.length
  obtain ⟨a, env, q1, q2, q3, el, r0, r1, r2, r8, r9⟩ := loop24 g0 g1 none none s q ys al hn sa 1000 KK 0 ys.length (by omega) (by omega) (by omega) (by omega) (fun p hp => by omega) (fun p h1 h2 => by omega)
  have lc : (ci ys).length = ys.length := ci_length ys
  simp only [k24, Int.natCast_zero] at el
  by_cases h : a < ys.length
  · refine ⟨a, decide (cmpE s q (ys.getD a 0) = 0), q1, q2, q3, ?_⟩
    have hb := sa.getD_lt h
    have e25 := fun a1 b c d => f25 a1 b c d s q ys al (ys.getD a 0) (by omega)
    have v1 : (RC.ints .i64 (ci ys)).get a 0 = some (.int .i64 (ys.getD a 0 : Nat)) := by simp only [RC.get, if_true]; rw [ci_getD]
    generalize ys.getD a 0 = x at *
    generalize cmpE s q x = c at *
    have c1 : (a : Int) < ys.length := by omega
    simp only [fHp] at e25
    by_cases hc : c = 0
    · simp -implicitDefEqProofs [F24, c24, upd, fHp, el, r0, r1, r2, r8, r9, lc, v1, c1, h, e25, hc, RC.len, RC.size]
    · simp -implicitDefEqProofs [F24, c24, upd, fHp, el, r0, r1, r2, r8, r9, lc, v1, c1, h, e25, hc, RC.len, RC.size]
  · refine ⟨a, false, q1, q2, q3, ?_⟩
    have c1 : ¬ (a : Int) < ys.length := by omega
    simp -implicitDefEqProofs [F24, c24, upd, fHp, el, r0, r1, r2, r8, r9, lc, c1, RC.len, RC.size]
theorem f38 (x q : ByteArray) : F38 [.one (.str x), .one (.str q)] [] = some (.one (.bool (pfx (toBytes x) (toBytes q))), []) := by
  have hx := size_toBytes x
  have hq := size_toBytes q
  by_cases h : (q.size : Int) ≤ x.size
  · have e : ((x.extract 0 q.size).toList == q.toList) = decide ((toBytes x).take q.size = toBytes q) := by
      rw [beqS]
      apply decide_eq_decide.2
      conv => lhs; rw [← ofBytes_toBytes x, ofBytes_extract, ← ofBytes_toBytes q, List.drop_zero, size_ofBytes, hq, Nat.sub_zero]
      exact ofBytes_inj (isB_take _ (isB_toBytes x)) (isB_toBytes q)
    unfold pfx
    rw [hq]
    generalize decide ((toBytes x).take q.size = toBytes q) = b at *
    simp -implicitDefEqProofs [F38, c38, upd, h, e]
  · have e : pfx (toBytes x) (toBytes q) = false := by
      simp only [pfx, decide_eq_false_iff_not]
      intro e
      have := congrArg List.length e
      rw [List.length_take] at this
      omega
    rw [e]
    simp -implicitDefEqProofs [F38, c38, upd, h]
theorem f27 (x q : ByteArray) : F27 [.one (.str x), .one (.str q)] [] = some (.one (.bool (pfx (toBytes x) (toBytes q))), []) := by
  have e := f38 x q
  simp -implicitDefEqProofs [F27, c27, upd, e]
theorem toBytes_ext (s : ByteArray) (i : Nat) : toBytes (s.extract i s.size) = (toBytes s).drop i := by
  rw [ext_of, toBytes_ofBytes (isB_drop _ (isB_toBytes s))]
def k14 (g : Option Nat) (s q : ByteArray) (ys : List Nat) (al : List Int) (a b : Nat) : St := ⟨[(1, .one (.str q)), (2, .one (.ptr 3 0)), (6, .one (.int .i64 a)), (8, .one (.int .i64 b))], [.ptr 0 0, .str q], arr g s ys al ++ [.cells none [.ptr 0 0]]⟩
theorem body14 (g : Option Nat) (s q : ByteArray) (ys : List Nat) (al : List Int) (a b : Nat) (hb : b < ys.length) (hn : s.size ≤ 1000) (sa : IsSA (toBytes s) ys) (hp : pfx ((toBytes s).drop (ys.getD b 0)) (toBytes q) = true) :
    ∃ st1, evC T14 KK b14x0 (k14 g s q ys al a b) = some (.norm, st1) ∧ St.head [1, 2, 6, 8] st1 = k14 g s q ys al a (b + 1) := by
  have hl := size_toBytes s
  have hy := sa.length
  have hx := sa.getD_lt hb
  have e27 := f27 (s.extract (ys.getD b 0) s.size) q
  rw [toBytes_ext, hp] at e27
  have lc : (ci ys).length = ys.length := ci_length ys
  have v1 : (RC.ints .i64 (ci ys)).get b 0 = some (.int .i64 (ys.getD b 0 : Nat)) := by simp only [RC.get, if_true]; rw [ci_getD]
  generalize ys.getD b 0 = x at *
  have c1 : (b : Int) < ys.length := by omega
  have c2 : (x : Int) ≤ s.size := by omega
  have w1 : IntKind.i64.wrap ((b : Int) + 1) = b + 1 := i64_in _ (by omega)
  simp -implicitDefEqProofs [b14x0, k14, arr, upd, lc, v1, c1, c2, hb, w1, e27, RC.len, RC.size]
theorem end14 (g : Option Nat) (s q : ByteArray) (ys : List Nat) (al : List Int) (a b : Nat) (hn : s.size ≤ 1000) (sa : IsSA (toBytes s) ys) (hp : ys.length ≤ b ∨ (b < ys.length ∧ pfx ((toBytes s).drop (ys.getD b 0)) (toBytes q) = false)) :
    ∃ env, evC T14 KK b14x0 (k14 g s q ys al a b) = some (.exit 0, ⟨env, [.ptr 0 0, .str q], arr g s ys al ++ [.cells none [.ptr 0 0]]⟩) ∧ getT 6 env = .one (.int .i64 a) ∧ getT 8 env = .one (.int .i64 b) := by
  have hl := size_toBytes s
  have hy := sa.length
  have lc : (ci ys).length = ys.length := ci_length ys
  rcases hp with hb | ⟨hb, hp⟩
  · have c1 : ¬ (b : Int) < ys.length := by omega
    simp -implicitDefEqProofs [b14x0, k14, arr, upd, lc, c1, RC.len, RC.size]
  · have hx := sa.getD_lt hb
    have e27 := f27 (s.extract (ys.getD b 0) s.size) q
    rw [toBytes_ext, hp] at e27
    have v1 : (RC.ints .i64 (ci ys)).get b 0 = some (.int .i64 (ys.getD b 0 : Nat)) := by simp only [RC.get, if_true]; rw [ci_getD]
    generalize ys.getD b 0 = x at *
    have c1 : (b : Int) < ys.length := by omega
    have c2 : (x : Int) ≤ s.size := by omega
    simp -implicitDefEqProofs [b14x0, k14, arr, upd, lc, v1, c1, c2, hb, e27, RC.len, RC.size]
theorem loop14 (g : Option Nat) (s q : ByteArray) (ys : List Nat) (al : List Int) (a : Nat) (hn : s.size ≤ 1000) (sa : IsSA (toBytes s) ys) : ∀ (m KF b : Nat), b + m = ys.length → m + 1 < KF → a ≤ b → (∀ p, a ≤ p → p < b → pfx ((toBytes s).drop (ys.getD p 0)) (toBytes q) = true) →
    ∃ b' env, a ≤ b' ∧ b' ≤ ys.length ∧ (∀ p, a ≤ p → p < b' → pfx ((toBytes s).drop (ys.getD p 0)) (toBytes q) = true) ∧ (b' = ys.length ∨ pfx ((toBytes s).drop (ys.getD b' 0)) (toBytes q) = false) ∧
      loopH (evC T14 KK b14x0) [1, 2, 6, 8] KF (k14 g s q ys al a b) = some (.exit 0, ⟨env, [.ptr 0 0, .str q], arr g s ys al ++ [.cells none [.ptr 0 0]]⟩) ∧ getT 6 env = .one (.int .i64 a) ∧ getT 8 env = .one (.int .i64 b') := by
  intro m
  induction m with
  | zero =>
    intro KF b hb hF hab h1
    obtain ⟨env, e1, e2, e3⟩ := end14 g s q ys al a b hn sa (.inl (by omega))
    exact ⟨b, env, hab, by omega, h1, .inl (by omega), loopH_exit e1, e2, e3⟩
  | succ m ih =>
    intro KF b hb hF hab h1
    cases hp : pfx ((toBytes s).drop (ys.getD b 0)) (toBytes q) with
    | true =>
      obtain ⟨st1, e1, e2⟩ := body14 g s q ys al a b (by omega) hn sa hp
      obtain ⟨b', env, q1, q2, q3, q4, q5, q6⟩ := ih (KF - 1) (b + 1) (by omega) (by omega) (by omega) (fun p h2 h3 => by
        by_cases e : p = b
        · rw [e]; exact hp
        · exact h1 p h2 (by omega))
      exact ⟨b', env, q1, q2, q3, q4, by rw [loopH_norm e1 (by omega), e2]; exact q5, q6⟩
    | false =>
      obtain ⟨env, e1, e2, e3⟩ := end14 g s q ys al a b hn sa (.inr ⟨by omega, hp⟩)
      exact ⟨b, env, hab, by omega, h1, .inr hp, loopH_exit e1, e2, e3⟩
theorem f14 (g : Option Nat) (s q : ByteArray) (ys : List Nat) (al : List Int) (hn : s.size ≤ 1000) (sa : IsSA (toBytes s) ys) :
    ∃ a b, Found (toBytes s) ys (toBytes q) a b ∧ F14 [.one (.ptr 0 0), .one (.str q)] (arr g s ys al) = some (.tup [.one (.int .i64 a), .one (.int .i64 b)], arr g s ys al) := by
  have hK := KK_eq
  have hl := size_toBytes s
  have hy := sa.length
  obtain ⟨a, bo, q1, q2, q3, e24⟩ := f24 (some 0) (some 1) s q ys al hn sa
  obtain ⟨b, env, r1, r2, r3, r4, el, r6, r8⟩ := loop14 g s q ys al a hn sa (ys.length - a) KK a (by omega) (by omega) (Nat.le_refl _) (fun p h1 h2 => by omega)
  refine ⟨a, b, Found.mk' sa r1 r2 q2 q3 r3 r4, ?_⟩
  simp only [k14, arr, List.cons_append, List.nil_append] at el
  simp only [fHp] at e24
  simp -implicitDefEqProofs [F14, c14, upd, arr, e24, el, r6, r8]
theorem f14n (q : ByteArray) : F14 [.one .nilp, .one (.str q)] [] = some (.tup [.one (.int .i64 0), .one (.int .i64 0)], []) := by
  simp -implicitDefEqProofs [F14, c14, upd]
theorem f9 (g : Option Nat) (s : ByteArray) (ys : List Nat) (al : List Int) : F9 [.one (.ptr 0 0)] (arr g s ys al) = some (.one (.int .i64 ys.length), arr g s ys al) := by
  have lc : (ci ys).length = ys.length := ci_length ys
  simp -implicitDefEqProofs [F9, c9, upd, arr, lc, RC.len]
theorem f9n : F9 [.one .nilp] [] = some (.one (.int .i64 0), []) := by
  simp -implicitDefEqProofs [F9, c9, upd]
theorem f10 (g : Option Nat) (s : ByteArray) (ys : List Nat) (al : List Int) (i : Nat) (hi : i < ys.length) : F10 [.one (.ptr 0 0), .one (.int .i64 i)] (arr g s ys al) = some (.tup [.one (.int .i64 (ys.getD i 0 : Nat)), .one (.bool true)], arr g s ys al) := by
  have e := fun g => f9 g s ys al
  have lc : (ci ys).length = ys.length := ci_length ys
  have v1 : (RC.ints .i64 (ci ys)).get i 0 = some (.int .i64 (ys.getD i 0 : Nat)) := by simp only [RC.get, if_true]; rw [ci_getD]
  have c1 : (i : Int) < ys.length := by omega
  have c2 : ¬ (ys.length : Int) ≤ i := by omega
  have c0 : ¬ (i : Int) < 0 := by omega
  generalize ys.getD i 0 = x at *
  simp only [arr] at e
  simp -implicitDefEqProofs [F10, c10, upd, arr, e, lc, v1, c0, c1, c2, hi, RC.len, RC.size]
theorem f10n (g : Option Nat) (s : ByteArray) (ys : List Nat) (al : List Int) (i : Int) (hi : i < 0 ∨ (ys.length : Int) ≤ i) : F10 [.one (.ptr 0 0), .one (.int .i64 i)] (arr g s ys al) = some (.tup [.one (.int .i64 0), .one (.bool false)], arr g s ys al) := by
  have e := fun g => f9 g s ys al
  simp only [arr] at e
  by_cases h : i < 0
  · simp -implicitDefEqProofs [F10, c10, upd, arr, e, h]
  · have h2 : (ys.length : Int) ≤ i := by omega
    simp -implicitDefEqProofs [F10, c10, upd, arr, e, h, h2]
theorem f12 (g : Option Nat) (s : ByteArray) (ys : List Nat) (al : List Int) (ha : al.length = ys.length) (i : Nat) (hi : i < ys.length) : F12 [.one (.ptr 0 0), .one (.int .i64 i)] (arr g s ys al) = some (.one (.int .i64 (al.getD i 0)), arr g s ys al) := by
  have e := fun g => f9 g s ys al
  have v1 : (RC.ints .i64 al).get i 0 = some (.int .i64 (al.getD i 0)) := rfl
  have c1 : (i : Int) < ys.length := by omega
  have c2 : ¬ (ys.length : Int) ≤ i := by omega
  have c0 : ¬ (i : Int) < 0 := by omega
  generalize al.getD i 0 = x at *
  simp only [arr] at e
  simp -implicitDefEqProofs [F12, c12, upd, arr, e, ha, v1, c0, c1, c2, hi, RC.len, RC.size]
theorem f12n (g : Option Nat) (s : ByteArray) (ys : List Nat) (al : List Int) (i : Int) (hi : i < 0 ∨ (ys.length : Int) ≤ i) : F12 [.one (.ptr 0 0), .one (.int .i64 i)] (arr g s ys al) = some (.one (.int .i64 0), arr g s ys al) := by
  have e := fun g => f9 g s ys al
  simp only [arr] at e
  by_cases h : i < 0
  · simp -implicitDefEqProofs [F12, c12, upd, arr, e, h]
  · have h2 : (ys.length : Int) ≤ i := by omega
    simp -implicitDefEqProofs [F12, c12, upd, arr, e, h, h2]
def k3 (s : ByteArray) (i : Int) (ys : List Nat) (al : List Int) (k : Nat) : St := ⟨[(0, .one (.str s)), (1, .one (.int .i64 i)), (5, .one (.ptr 0 0)), (6, .one (.row 3)), (28, .one (.row 3)), (29, .one (.int .i64 ys.length)), (30, .one (.int .i64 k))], [.str s, .int .i64 i], arr none s ys al ++ [.rows none (.ints .i64 (ci ys))]⟩
theorem body3 (s : ByteArray) (i : Int) (ys : List Nat) (k : Nat) (hk : k < ys.length) (hn : s.size ≤ 1000) (sa : IsSA (toBytes s) ys) : ∃ st1, evC T3 KK b3x0 (k3 s i ys (alL (toBytes s) ys) k) = some (.norm, st1) ∧ St.head [0, 1, 5, 6, 28, 29, 30] st1 = k3 s i ys (alL (toBytes s) ys) (k + 1) := by
  have hl := size_toBytes s
  have hy := sa.length
  have ha := alL_length (toBytes s) ys
  have lc : (ci ys).length = ys.length := ci_length ys
  have e10 := fun g => f10 g s ys (alL (toBytes s) ys) k hk
  have e12 := fun g => f12 g s ys (alL (toBytes s) ys) ha k hk
  have v1 : (RC.ints .i64 (ci ys)).get k 0 = some (.int .i64 (ys.getD k 0 : Nat)) := by simp only [RC.get, if_true]; rw [ci_getD]
  have c1 : (k : Int) < ys.length := by omega
  have w1 : IntKind.i64.wrap ((k : Int) + 1) = k + 1 := i64_in _ (by omega)
  simp only [arr] at e10 e12
  cases k with
  | zero =>
    rw [alL_zero] at e12
    generalize alL (toBytes s) ys = al at *
    generalize ys.getD 0 0 = x at *
    have w0 : IntKind.i64.wrap 1 = 1 := by decide
    simp only [Int.natCast_zero] at *
    simp -implicitDefEqProofs [b3x0, k3, arr, upd, lc, v1, c1, w1, w0, hk, e10, e12, RC.len, RC.size]
  | succ k =>
    have a1 := sa.getD_lt (i := k) (by omega)
    have a2 := sa.getD_lt (i := k + 1) hk
    have e11 := f11 s (ys.getD k 0) (ys.getD (k + 1) 0) hn (by omega) (by omega)
    have v2 : (RC.ints .i64 (ci ys)).get k 0 = some (.int .i64 (ys.getD k 0 : Nat)) := by simp only [RC.get, if_true]; rw [ci_getD]
    have eal := alL_get (toBytes s) ys (k + 1) (by omega) hk
    rw [show k + 1 - 1 = k by omega] at eal
    rw [eal] at e12
    generalize alL (toBytes s) ys = al at *
    generalize lcp ((toBytes s).drop (ys.getD k 0)) ((toBytes s).drop (ys.getD (k + 1) 0)) = N at *
    generalize ys.getD k 0 = y at *
    generalize ys.getD (k + 1) 0 = x at *
    have c2 : (k : Int) < ys.length := by omega
    have c3 : k < ys.length := by omega
    have c4 : (0 : Int) ≤ (k : Int) + 1 := by omega
    have c5 : (0 : Int) < (k : Int) + 1 := by omega
    have n1 : ((k : Int) + 1).toNat = k + 1 := by omega
    have w2 : IntKind.i64.wrap (k : Int) = k := i64_in _ (by omega)
    simp only [Int.natCast_add, Int.natCast_one] at *
    simp -implicitDefEqProofs [b3x0, k3, arr, upd, lc, v1, v2, c1, c2, c3, c4, c5, n1, w1, w2, hk, e10, e11, e12, RC.len, RC.size]
end Go.X.Try
namespace Go.X
def mx (l : List Int) : Nat → Int
  | 0 => l.getD 0 0
  | i + 1 => if mx l i < l.getD (i + 1) 0 then l.getD (i + 1) 0 else mx l i
theorem mx_spec (l : List Int) : ∀ i : Nat, (∃ j, j ≤ i ∧ l.getD j 0 = mx l i) ∧ ∀ j, j ≤ i → l.getD j 0 ≤ mx l i
  | 0 => ⟨⟨0, Nat.le_refl _, rfl⟩, fun j hj => by rw [show j = 0 by omega]; exact Int.le_refl _⟩
  | i + 1 => by
    obtain ⟨⟨j0, h0, h1⟩, h2⟩ := mx_spec l i
    simp only [mx]
    split
    · rename_i h
      refine ⟨⟨i + 1, Nat.le_refl _, rfl⟩, fun j hj => ?_⟩
      by_cases e : j = i + 1
      · rw [e]; exact Int.le_refl _
      · have := h2 j (by omega); omega
    · rename_i h
      refine ⟨⟨j0, by omega, h1⟩, fun j hj => ?_⟩
      by_cases e : j = i + 1
      · rw [e]; omega
      · exact h2 j (by omega)
end Go.X
namespace Go.X.Try
open Go.IntWalk Go.Proofs
theorem f16 (g : Option Nat) (s q : ByteArray) (ys : List Nat) (al : List Int) (hn : s.size ≤ 1000) (sa : IsSA (toBytes s) ys) :
    F16 [.one (.ptr 0 0), .one (.str q)] (arr g s ys al) = some (.one (.row 3), arr g s ys al ++ [.rows none (.ints .i64 (ci (places (toBytes s) (toBytes q))))]) := by
  have hl := size_toBytes s
  have hy := sa.length
  obtain ⟨a, b, F, e14⟩ := f14 (some 0) s q ys al hn sa
  have hpl := F.places sa
  have hcount := F.count sa
  have hab := F.le
  have hb := F.len
  have lc : (ci ys).length = ys.length := ci_length ys
  simp only [arr] at e14
  by_cases h : a = b
  · have h0 : places (toBytes s) (toBytes q) = [] := List.eq_nil_of_length_eq_zero (by omega)
    rw [h0]
    have c0 : ci [] = [] := rfl
    have c1 : (a : Int) = b := by omega
    subst h
    simp -implicitDefEqProofs [F16, c16, upd, arr, e14, c0]
  · have hcut : (RC.ints .i64 (ci ys)).cut a (b - a) = .ints .i64 (((ci ys).drop a).take (b - a)) := rfl
    have hlen : (((ci ys).drop a).take (b - a)).length ≤ 100000 := by rw [List.length_take]; omega
    rw [← hpl]
    generalize ((ci ys).drop a).take (b - a) = m at *
    have e28 : ∀ t, F28 [.one (.ro t (.ints .i64 m))] [] = some (.one (.row 0), [.rows none (.ints .i64 m)]) := fun t => by
      show cl28 _ _ = _
      simp only [cl28, hlen, if_true]
    have e29 : ∀ g, F29 [.one (.row 0)] [.rows g (.ints .i64 m)] = some (.tup [], [.rows g (.ints .i64 (srtS m))]) := fun g => by
      show srt29 _ _ = _
      simp only [srt29, hlen, if_true]
    have c1 : ¬ (a : Int) = b := by omega
    have c2 : (a : Int) ≤ b := by omega
    have c3 : (b : Int) ≤ ys.length := by omega
    simp -implicitDefEqProofs [F16, c16, upd, arr, e14, e28, e29, h, c1, c2, c3, hab, hb, lc, hcut, RC.len, RC.size]
theorem f16n (q : ByteArray) : F16 [.one .nilp, .one (.str q)] [] = some (.one (.row 0), [.rows none (.ints .i64 [])]) := by
  have e := f14n q
  simp -implicitDefEqProofs [F16, c16, upd, e]
def k30 (t : Nat) (l : List Int) (m : Int) (i : Nat) : St := ⟨[(0, .one (.ro t (.ints .i64 l))), (3, .one (.int .i64 m)), (4, .one (.int .i64 i))], [.ro t (.ints .i64 l)], []⟩
theorem f30 (t : Nat) (l : List Int) (h0 : l ≠ []) (hl : l.length ≤ 1000) : F30 [.one (.ro t (.ints .i64 l))] [] = some (.one (.int .i64 (mx l (l.length - 1))), []) := by
  have hK := KK_eq
  have hpos : 0 < l.length := List.length_pos_iff.2 h0
  have hbody : ∀ i, i < l.length - 1 → ∃ st1, evC T30 KK b30x0 (k30 t l (mx l i) (i + 1)) = some (.norm, st1) ∧ St.head [0, 3, 4] st1 = k30 t l (mx l (i + 1)) (i + 1 + 1) := by
    intro i hi
    have v1 : (RC.ints .i64 l).get (i + 1) 0 = some (.int .i64 (l.getD (i + 1) 0)) := rfl
    simp only [mx]
    generalize l.getD (i + 1) 0 = x at *
    generalize mx l i = m at *
    have c1 : (i : Int) + 1 < l.length := by omega
    have c2 : i + 1 < l.length := by omega
    have c3 : (0 : Int) ≤ (i : Int) + 1 := by omega
    have n1 : ((i : Int) + 1).toNat = i + 1 := by omega
    have w1 : IntKind.i64.wrap ((i : Int) + 1 + 1) = i + 1 + 1 := i64_in _ (by omega)
    by_cases hc : m < x
    · simp -implicitDefEqProofs [b30x0, k30, upd, v1, c1, c2, c3, n1, w1, hc, RC.len, RC.size]
    · simp -implicitDefEqProofs [b30x0, k30, upd, v1, c1, c2, c3, n1, w1, hc, RC.len, RC.size]
  obtain ⟨env, he, g3⟩ : ∃ env, evC T30 KK b30x0 (k30 t l (mx l (l.length - 1)) (l.length - 1 + 1)) = some (.exit 0, ⟨env, [.ro t (.ints .i64 l)], []⟩) ∧ getT 3 env = .one (.int .i64 (mx l (l.length - 1))) := by
    rw [show l.length - 1 + 1 = l.length by omega]
    simp -implicitDefEqProofs [b30x0, k30, upd, RC.len, RC.size]
  have el := loopUp (body := evC T30 KK b30x0) (live := [0, 3, 4]) (canon := fun i => k30 t l (mx l i) (i + 1)) (n := l.length - 1) (x := 0) hbody he (by omega)
  have v0 : (RC.ints .i64 l).get 0 0 = some (.int .i64 (mx l 0)) := rfl
  generalize mx l (l.length - 1) = M at *
  generalize mx l 0 = m0 at *
  simp only [k30, Int.natCast_one, Nat.zero_add] at el
  have c1 : ¬ (l.length : Int) < 1 := by omega
  have c2 : (0 : Int) < l.length := by omega
  simp -implicitDefEqProofs [F30, c30, upd, v0, c1, c2, hpos, el, g3, RC.len, RC.size]
def k31 (t : Nat) (l : List Int) (v : Int) (i : Nat) : St := ⟨[(0, .one (.ro t (.ints .i64 l))), (1, .one (.int .i64 v)), (7, .one (.int .i64 l.length)), (8, .one (.int .i64 i))], [.ro t (.ints .i64 l), .int .i64 v], []⟩
theorem f31 (l : List Int) (v : Int) (hl : l.length ≤ 1000) (hv : ∃ j, j < l.length ∧ l.getD j 0 = v) : ∃ i, i < l.length ∧ l.getD i 0 = v ∧ (∀ j, j < i → l.getD j 0 ≠ v) ∧ ∀ t, F31 [.one (.ro t (.ints .i64 l)), .one (.int .i64 v)] [] = some (.one (.int .i64 i), []) := by
  have hK := KK_eq
  have hmin : ∃ i, i < l.length ∧ l.getD i 0 = v ∧ ∀ j, j < i → l.getD j 0 ≠ v := by
    obtain ⟨j, h1, h2⟩ := hv
    induction j using Nat.strongRecOn with
    | _ j ih =>
      by_cases h : ∃ k, k < j ∧ l.getD k 0 = v
      · obtain ⟨k, k1, k2⟩ := h
        exact ih k k1 (by omega) k2
      · exact ⟨j, h1, h2, fun k hk e => h ⟨k, hk, e⟩⟩
  obtain ⟨i0, i1, i2, i3⟩ := hmin
  refine ⟨i0, i1, i2, i3, fun t => ?_⟩
  have hn : ∀ i, i < l.length → decide (v = l.getD i 0) = false → ∃ st1, evC T31 KK b31x0 (k31 t l v i) = some (.norm, st1) ∧ St.head [0, 1, 7, 8] st1 = k31 t l v (i + 1) := by
    intro i hi hp
    have hp' : ¬ v = l.getD i 0 := by simpa using hp
    have v1 : (RC.ints .i64 l).get i 0 = some (.int .i64 (l.getD i 0)) := rfl
    generalize l.getD i 0 = x at *
    have c1 : (i : Int) < l.length := by omega
    have w1 : IntKind.i64.wrap ((i : Int) + 1) = i + 1 := i64_in _ (by omega)
    simp -implicitDefEqProofs [b31x0, k31, upd, v1, c1, hi, w1, hp', RC.len, RC.size]
  have hr : ∀ i, i < l.length → decide (v = l.getD i 0) = true → ∃ st1, evC T31 KK b31x0 (k31 t l v i) = some (.ret, st1) ∧ resC [(4, none)] (some (.ret, st1)) = some (.one (.int .i64 i), []) := by
    intro i hi hp
    have hp' : v = l.getD i 0 := by simpa using hp
    have v1 : (RC.ints .i64 l).get i 0 = some (.int .i64 (l.getD i 0)) := rfl
    rw [← hp'] at v1
    have c1 : (i : Int) < l.length := by omega
    refine ⟨?w, ?a, ?b⟩
    case a =>
      simp -implicitDefEqProofs [b31x0, k31, upd, v1, c1, hi, RC.len, RC.size]
      rfl
    case b => simp -implicitDefEqProofs []
  obtain ⟨env, he⟩ : ∃ env, evC T31 KK b31x0 (k31 t l v l.length) = some (.exit 0, ⟨env, [.ro t (.ints .i64 l), .int .i64 v], []⟩) := by
    simp -implicitDefEqProofs [b31x0, k31, upd, RC.len, RC.size]
  rcases loopFirst (fun i => decide (v = l.getD i 0)) hn hr he (by omega) with ⟨h1, el⟩ | ⟨i, st1, h1, h3, h4, el, er⟩
  · have := h1 i0 i1
    simp at this
    exact absurd i2.symm (by simpa [List.getD] using this)
  · have e : i = i0 := by
      have a1 : l.getD i 0 = v := by have := of_decide_eq_true h3; exact this.symm
      rcases Nat.lt_trichotomy i i0 with h | h | h
      · exact absurd a1 (i3 i h)
      · exact h
      · have := of_decide_eq_false (h4 i0 h); exact absurd i2.symm this
    subst e
    simp only [k31, Int.natCast_zero] at el
    rw [← er]
    simp -implicitDefEqProofs [F31, c31, upd, RC.len, el]
end Go.X.Try
namespace Go.X
theorem ext_mid (s : ByteArray) (i j : Nat) : s.extract i j = ofBytes (((toBytes s).drop i).take (j - i)) := by
  conv => lhs; rw [← ofBytes_toBytes s]
  rw [ofBytes_extract]
theorem toBytes_mid (s : ByteArray) (i j : Nat) : toBytes (s.extract i j) = ((toBytes s).drop i).take (j - i) := by
  rw [ext_mid, toBytes_ofBytes (isB_take _ (isB_drop _ (isB_toBytes s)))]
def Lgst (t : List Int) (ys : List Nat) (P N : Nat) : Prop :=
  (N = 0 ∧ P = 0 ∧ ∀ p, 0 < p → p < ys.length → lcp (t.drop (ys.getD (p - 1) 0)) (t.drop (ys.getD p 0)) = 0) ∨
  (0 < N ∧ ∃ i, 0 < i ∧ i < ys.length ∧ lcp (t.drop (ys.getD (i - 1) 0)) (t.drop (ys.getD i 0)) = N ∧ (∀ p, 0 < p → p < i → lcp (t.drop (ys.getD (p - 1) 0)) (t.drop (ys.getD p 0)) ≠ N) ∧ (∀ p, 0 < p → p < ys.length → lcp (t.drop (ys.getD (p - 1) 0)) (t.drop (ys.getD p 0)) ≤ N) ∧ P = (places t ((t.drop (ys.getD i 0)).take N)).getD 0 0)
theorem places_pos {t : List Int} {i n : Nat} (hi : i < t.length) (hn : n ≤ t.length - i) : 0 < (places t ((t.drop i).take n)).length := by
  have : i ∈ places t ((t.drop i).take n) := by
    simp only [places, List.mem_filter, List.mem_range]
    refine ⟨hi, ?_⟩
    rw [pfx_iff]
    exact ⟨(t.drop i).drop n, (List.take_append_drop n _).symm⟩
  exact List.length_pos_of_mem this
end Go.X
namespace Go.X.Try
open Go.IntWalk Go.Proofs
theorem f18 (g : Option Nat) (s : ByteArray) (ys : List Nat) (hn : s.size ≤ 1000) (sa : IsSA (toBytes s) ys) :
    ∃ P N : Nat, Lgst (toBytes s) ys P N ∧ F18 [.one (.ptr 0 0)] (arr g s ys (alL (toBytes s) ys)) = some (.tup [.one (.int .i64 P), .one (.int .i64 N)], arr g s ys (alL (toBytes s) ys)) := by
  have hl := size_toBytes s
  have hy := sa.length
  have e9 := fun g => f9 g s ys (alL (toBytes s) ys)
  have hal := alL_length (toBytes s) ys
  simp only [arr] at e9
  by_cases h0 : ys.length = 0
  · refine ⟨0, 0, .inl ⟨rfl, rfl, fun p h1 h2 => by omega⟩, ?_⟩
    have c1 : (ys.length : Int) = 0 := by omega
    rw [c1] at e9
    generalize alL (toBytes s) ys = al at *
    simp -implicitDefEqProofs [F18, c18, upd, arr, e9]
  have lpos : ys ≠ [] := by rintro rfl; simp at h0
  obtain ⟨⟨j0, m1, m2⟩, m3⟩ := mx_spec (alL (toBytes s) ys) (ys.length - 1)
  have ane : alL (toBytes s) ys ≠ [] := by intro e; rw [e] at hal; simp at hal; omega
  have e30 := fun t => f30 t (alL (toBytes s) ys) ane (by omega)
  rw [hal] at e30
  have c1 : ¬ (ys.length : Int) = 0 := by omega
  generalize hM : mx (alL (toBytes s) ys) (ys.length - 1) = M at *
  by_cases hz : M = 0
  · refine ⟨0, 0, .inl ⟨rfl, rfl, fun p h1 h2 => ?_⟩, ?_⟩
    · have := m3 p (by omega)
      rw [alL_get _ _ p h1 h2] at this
      omega
    · simp -implicitDefEqProofs [F18, c18, upd, arr, e9, e30, c1, hz, lpos]
  obtain ⟨i, i1, i2, i3, e31⟩ := f31 (alL (toBytes s) ys) M (by omega) ⟨j0, by omega, m2⟩
  have ipos : 0 < i := by
    rcases Nat.eq_zero_or_pos i with h | h
    · subst h; rw [alL_zero] at i2; exact absurd i2.symm hz
    · exact h
  have iy : i < ys.length := by omega
  have ai := alL_get (toBytes s) ys i ipos iy
  rw [i2] at ai
  obtain ⟨N, hN⟩ : ∃ N, lcp ((toBytes s).drop (ys.getD (i - 1) 0)) ((toBytes s).drop (ys.getD i 0)) = N := ⟨_, rfl⟩
  rw [hN] at ai
  have hle := (lcp_le ((toBytes s).drop (ys.getD (i - 1) 0)) ((toBytes s).drop (ys.getD i 0))).2
  rw [hN, List.length_drop] at hle
  have hx := sa.getD_lt iy
  have hq : toBytes (s.extract (ys.getD i 0) (ys.getD i 0 + N)) = ((toBytes s).drop (ys.getD i 0)).take N := by rw [toBytes_mid]; congr 1; omega
  have e16 := fun g => f16 g s (s.extract (ys.getD i 0) (ys.getD i 0 + N)) ys (alL (toBytes s) ys) hn sa
  rw [hq] at e16
  have pp := places_pos hx hle
  refine ⟨(places (toBytes s) (((toBytes s).drop (ys.getD i 0)).take N)).getD 0 0, N, .inr ⟨by omega, i, ipos, iy, hN, fun p p1 p2 e => ?_, fun p p1 p2 => ?_, rfl⟩, ?_⟩
  · have := i3 p p2
    rw [alL_get _ _ p p1 (by omega), e] at this
    exact this ai.symm
  · have := m3 p (by omega)
    rw [alL_get _ _ p p1 p2, ai] at this
    omega
  · have lc : (ci ys).length = ys.length := ci_length ys
    have v1 : (RC.ints .i64 (ci ys)).get i 0 = some (.int .i64 (ys.getD i 0 : Nat)) := by simp only [RC.get, if_true]; rw [ci_getD]
    have v2 : (RC.ints .i64 (ci (places (toBytes s) (((toBytes s).drop (ys.getD i 0)).take N)))).get 0 0 = some (.int .i64 ((places (toBytes s) (((toBytes s).drop (ys.getD i 0)).take N)).getD 0 0 : Nat)) := by simp only [RC.get, if_true]; rw [ci_getD]
    have lp : (ci (places (toBytes s) (((toBytes s).drop (ys.getD i 0)).take N))).length = (places (toBytes s) (((toBytes s).drop (ys.getD i 0)).take N)).length := ci_length _
    generalize places (toBytes s) (((toBytes s).drop (ys.getD i 0)).take N) = pl at *
    generalize pl.getD 0 0 = p0 at *
    generalize alL (toBytes s) ys = al at *
    generalize ys.getD i 0 = x at *
    subst ai
    have c2 : (i : Int) < ys.length := by omega
    have c3 : ¬ (N : Int) = 0 := by omega
    have c3' : ¬ N = 0 := by omega
    have c4 : (x : Int) ≤ x + N := by omega
    have c5 : (x : Int) + N ≤ s.size := by omega
    have c6 : ((x : Int) + N).toNat = x + N := by omega
    have c7 : (0 : Int) < pl.length := by omega
    have w1 : IntKind.i64.wrap ((x : Int) + N) = x + N := i64_in _ (by omega)
    simp only [arr, List.cons_append, List.nil_append] at e16
    simp -implicitDefEqProofs [F18, c18, upd, arr, e9, e30, e31, e16, lpos, c1, c2, c3, c3', c4, c5, c6, c7, pp, w1, v1, v2, lc, lp, hal, iy, RC.len, RC.size]
abbrev abab : ByteArray := ⟨#[97, 98, 97, 98]⟩
theorem sa_abab : IsSA (toBytes abab) [2, 0, 3, 1] := by
  have e : toBytes abab = [97, 98, 97, 98] := by decide
  rw [e]
  refine ⟨by decide, ?_⟩
  simp [lx]
theorem f6 : F6 [] [] = some (.one (.bool true), []) := by
  obtain ⟨ys, sa, e7⟩ := f7 abab (by decide)
  obtain rfl := sa_unique sa sa_abab
  have e : toBytes abab = [97, 98, 97, 98] := by decide
  obtain ⟨P, N, hL, e18⟩ := f18 (some 0) abab [2, 0, 3, 1] (by decide) sa_abab
  have hal : alL (toBytes abab) [2, 0, 3, 1] = [0, 2, 0, 1] := by rw [e]; decide
  have e10a := fun g => f10 g abab [2, 0, 3, 1] [0, 2, 0, 1] 0 (by decide)
  have e10b := fun g => f10 g abab [2, 0, 3, 1] [0, 2, 0, 1] 1 (by decide)
  have e12 := fun g => f12 g abab [2, 0, 3, 1] [0, 2, 0, 1] rfl 1 (by decide)
  rw [hal] at e7 e18
  rw [e] at hL
  obtain ⟨rfl, rfl⟩ : P = 0 ∧ N = 2 := by
    have l1 : lcp ([97, 98, 97, 98].drop 2) ([97, 98, 97, 98].drop 0) = 2 := by decide
    rcases hL with ⟨_, _, h⟩ | ⟨h0, i, h1, h2, h3, h4, h5, h6⟩
    · have := h 1 (by decide) (by decide)
      rw [show ([2, 0, 3, 1] : List Nat).getD (1 - 1) 0 = 2 from rfl, show ([2, 0, 3, 1] : List Nat).getD 1 0 = 0 from rfl, l1] at this
      omega
    · have h7 := h5 1 (by decide) (by decide)
      rw [show ([2, 0, 3, 1] : List Nat).getD (1 - 1) 0 = 2 from rfl, show ([2, 0, 3, 1] : List Nat).getD 1 0 = 0 from rfl, l1] at h7
      have hi : i < 4 := h2
      have : i = 1 := by
        match i, h1, hi with
        | 1, _, _ => rfl
        | 2, _, _ => have : lcp ([97, 98, 97, 98].drop 0) ([97, 98, 97, 98].drop 3) = 0 := by decide
                     rw [show ([2, 0, 3, 1] : List Nat).getD (2 - 1) 0 = 0 from rfl, show ([2, 0, 3, 1] : List Nat).getD 2 0 = 3 from rfl, this] at h3
                     omega
        | 3, _, _ => have : lcp ([97, 98, 97, 98].drop 3) ([97, 98, 97, 98].drop 1) = 1 := by decide
                     rw [show ([2, 0, 3, 1] : List Nat).getD (3 - 1) 0 = 3 from rfl, show ([2, 0, 3, 1] : List Nat).getD 3 0 = 1 from rfl, this] at h3
                     omega
      subst this
      rw [show ([2, 0, 3, 1] : List Nat).getD (1 - 1) 0 = 2 from rfl, show ([2, 0, 3, 1] : List Nat).getD 1 0 = 0 from rfl, l1] at h3
      subst h3
      rw [show ([2, 0, 3, 1] : List Nat).getD 1 0 = 0 from rfl] at h6
      have : (places [97, 98, 97, 98] (([97, 98, 97, 98].drop 0).take 2)).getD 0 0 = 0 := by decide
      exact ⟨by rw [h6, this], rfl⟩
  simp only [arr, ci] at e7 e10a e10b e12 e18
  simp at e7 e10a e10b e12 e18
  simp -implicitDefEqProofs [F6, c6, upd, e7, e10a, e10b, e12, e18]
theorem end3 (s : ByteArray) (i : Int) (ys : List Nat) (al : List Int) : ∃ env, evC T3 KK b3x0 (k3 s i ys al ys.length) = some (.exit 0, ⟨env, [.str s, .int .i64 i], arr none s ys al ++ [.rows none (.ints .i64 (ci ys))]⟩) ∧ getT 0 env = .one (.str s) ∧ getT 1 env = .one (.int .i64 i) ∧ getT 5 env = .one (.ptr 0 0) ∧ getT 6 env = .one (.row 3) := by
  simp -implicitDefEqProofs [b3x0, k3, arr, upd]
theorem law3c (s : ByteArray) (i : Int) : F3 [.one (.str s), .one (.int .i64 i)] [] = some (.one (.bool true), []) := by
  have hK := KK_eq
  have hl := size_toBytes s
  by_cases h : (150 : Int) < s.size
  · simp -implicitDefEqProofs [F3, c3, upd, f6, h]
  have hn : s.size ≤ 1000 := by omega
  obtain ⟨ys, sa, e7⟩ := f7 s hn
  obtain ⟨zs, sb, e8⟩ := f8 s hn
  obtain rfl := sa_unique sb sa
  have hy := sa.length
  have hal := alL_length (toBytes s) zs
  obtain ⟨env, he, g0, g1, g5, g6⟩ := end3 s i zs (alL (toBytes s) zs)
  have el := loopUp (body := evC T3 KK b3x0) (live := [0, 1, 5, 6, 28, 29, 30]) (canon := k3 s i zs (alL (toBytes s) zs)) (n := zs.length) (x := 0) (fun k hk => body3 s i zs k hk hn sa) he (by omega)
  have e9 := fun g => f9 g s zs (alL (toBytes s) zs)
  have lc : (ci zs).length = zs.length := ci_length zs
  simp only [k3, arr, List.cons_append, List.nil_append, Int.natCast_zero] at el
  by_cases hi : 0 ≤ i ∧ i < zs.length
  · obtain ⟨j, rfl⟩ : ∃ j : Nat, i = j := ⟨i.toNat, by omega⟩
    have e10 := fun g => f10 g s zs (alL (toBytes s) zs) j (by omega)
    generalize zs.getD j 0 = x at *
    generalize alL (toBytes s) zs = al at *
    have c1 : (0 : Int) ≤ j := by omega
    have c2 : (j : Int) < zs.length := by omega
    have c4 : j < zs.length := by omega
    simp only [arr] at e7 e9 e10
    simp -implicitDefEqProofs [F3, c3, upd, f6, h, e7, e8, e9, e10, el, g0, g1, g5, g6, lc, c1, c2, c4, RC.len, RC.size]
  · have e10 := fun g => f10n g s zs (alL (toBytes s) zs) i (by omega)
    have e12 := fun g => f12n g s zs (alL (toBytes s) zs) i (by omega)
    generalize alL (toBytes s) zs = al at *
    simp only [arr] at e7 e9 e10 e12
    by_cases c1 : 0 ≤ i
    · have c2 : ¬ i < zs.length := by omega
      simp -implicitDefEqProofs [F3, c3, upd, f6, h, e7, e8, e9, e10, e12, el, g0, g1, g5, g6, lc, c1, c2, RC.len, RC.size]
    · simp -implicitDefEqProofs [F3, c3, upd, f6, h, e7, e8, e9, e10, e12, el, g0, g1, g5, g6, lc, c1, RC.len, RC.size]
theorem law3 {p q : Prop} (s : ByteArray) (i : Int) (_ : p) (_ : q) : F3 [.one (.str s), .one (.int .i64 i)] [] = some (.one (.bool true), []) := law3c s i
end Go.X.Try
namespace Go.X
def plP (t q : List Int) (i : Nat) : List Nat := (List.range i).filter fun i => pfx (t.drop i) q
theorem plP_succ (t q : List Int) (i : Nat) : plP t q (i + 1) = if pfx (t.drop i) q = true then plP t q i ++ [i] else plP t q i := by
  simp only [plP, List.range_succ, List.filter_append]
  split
  · rename_i h; simp [h]
  · rename_i h; simp [h]
theorem plP_le (t q : List Int) (i : Nat) : (plP t q i).length ≤ i := by
  have := List.length_filter_le (fun i => pfx (t.drop i) q) (List.range i)
  simpa [plP] using this
theorem pfx_len {t q : List Int} {i : Nat} (h : pfx (t.drop i) q = true) : q.length ≤ t.length - i := by
  obtain ⟨r, hr⟩ := (pfx_iff _ _).1 h
  have := congrArg List.length hr
  simp at this; omega
theorem plP_end (t q : List Int) : ∀ (d i : Nat), i + d = t.length → (t.length ≤ i ∨ t.length < i + q.length) → places t q = plP t q i
  | 0, i, h, _ => by obtain rfl : i = t.length := by omega
                     rfl
  | d + 1, i, h, h2 => by
    rw [plP_end t q d (i + 1) (by omega) (by omega), plP_succ]
    split
    · rename_i h3
      have := pfx_len h3
      omega
    · rfl
def leP (t q : List Int) (i : Nat) : Nat := ((List.range i).filter fun i => lx (t.drop i) q).length
theorem leP_succ (t q : List Int) (i : Nat) : leP t q (i + 1) = if lx (t.drop i) q = true then leP t q i + 1 else leP t q i := by
  simp only [leP, List.range_succ, List.filter_append, List.length_append]
  split
  · rename_i h; simp [h]
  · rename_i h; simp [h]
theorem leP_le (t q : List Int) (i : Nat) : leP t q i ≤ i := by
  have := List.length_filter_le (fun i => lx (t.drop i) q) (List.range i)
  simpa [leP] using this
end Go.X
namespace Go.X.Try
open Go.IntWalk Go.Proofs
def k13 (s q : ByteArray) (l : List Nat) (i : Nat) : St := ⟨[(0, .one (.str s)), (1, .one (.str q)), (5, .one (.row 0)), (6, .one (.int .i64 i))], [.str s, .str q], [.rows none (.ints .i64 (ci l))]⟩
theorem body13 (s q : ByteArray) (i : Nat) (hi : i < s.size) (hi2 : i + q.size ≤ s.size) (hn : s.size ≤ 1000) : ∃ st1, evC T13 KK b13x0 (k13 s q (plP (toBytes s) (toBytes q) i) i) = some (.norm, st1) ∧ St.head [0, 1, 5, 6] st1 = k13 s q (plP (toBytes s) (toBytes q) (i + 1)) (i + 1) := by
  have hl := size_toBytes s
  have hq := size_toBytes q
  have e : ((s.extract i (i + q.size)).toList == q.toList) = pfx ((toBytes s).drop i) (toBytes q) := by
    rw [beqS]
    unfold pfx
    apply decide_eq_decide.2
    rw [ext_mid, hq, show i + q.size - i = q.size by omega]
    conv => lhs; rhs; rw [← ofBytes_toBytes q]
    exact ofBytes_inj (isB_take _ (isB_drop _ (isB_toBytes s))) (isB_toBytes q)
  have hle := plP_le (toBytes s) (toBytes q) i
  rw [plP_succ]
  have c1 : (i : Int) < s.size := by omega
  have c2 : (i : Int) + q.size ≤ s.size := by omega
  have c3 : (i : Int) ≤ (i : Int) + q.size := by omega
  have n1 : ((i : Int) + q.size).toNat = i + q.size := by omega
  have w1 : IntKind.i64.wrap ((i : Int) + q.size) = i + q.size := i64_in _ (by omega)
  have w2 : IntKind.i64.wrap ((i : Int) + 1) = i + 1 := i64_in _ (by omega)
  generalize plP (toBytes s) (toBytes q) i = l at *
  have lc : (ci l).length = l.length := ci_length l
  have sz : (l.length + 1) * 8 ≤ 140737488355328 := by omega
  have ea : ci (l ++ [i]) = ci l ++ [(i : Int)] := by rw [ci_append]; rfl
  by_cases h : pfx ((toBytes s).drop i) (toBytes q) = true
  · rw [if_pos h]
    rw [h] at e
    simp -implicitDefEqProofs [b13x0, k13, upd, c1, c2, c3, n1, w1, w2, e, lc, sz, ea, RC.len, RC.size, RC.ofElems, RC.app]
  · rw [if_neg h]
    rw [show pfx ((toBytes s).drop i) (toBytes q) = false by simpa using h] at e
    simp -implicitDefEqProofs [b13x0, k13, upd, c1, c2, c3, n1, w1, w2, e, lc, RC.len, RC.size]
theorem end13 (s q : ByteArray) (l : List Nat) (i : Nat) (hi : s.size ≤ i ∨ s.size < i + q.size) (hi2 : i ≤ s.size) (hn : s.size ≤ 1000) (hq : q.size ≤ 1000) : ∃ env, evC T13 KK b13x0 (k13 s q l i) = some (.exit 0, ⟨env, [.str s, .str q], [.rows none (.ints .i64 (ci l))]⟩) ∧ getT 5 env = .one (.row 0) := by
  by_cases h : (i : Int) < s.size
  · have c2 : ¬ (i : Int) + q.size ≤ s.size := by omega
    have w1 : IntKind.i64.wrap ((i : Int) + q.size) = i + q.size := i64_in _ (by omega)
    simp -implicitDefEqProofs [b13x0, k13, upd, h, c2, w1]
  · simp -implicitDefEqProofs [b13x0, k13, upd, h]
theorem f13 (s q : ByteArray) (hn : s.size ≤ 1000) (hq : q.size ≤ 1000) : F13 [.one (.str s), .one (.str q)] [] = some (.one (.row 0), [.rows none (.ints .i64 (ci (places (toBytes s) (toBytes q))))]) := by
  have hK := KK_eq
  have hl := size_toBytes s
  have hql := size_toBytes q
  have key : ∃ n, n ≤ s.size ∧ (s.size ≤ n ∨ s.size < n + q.size) ∧ ∀ i, i < n → i < s.size ∧ i + q.size ≤ s.size := by
    by_cases h : q.size = 0
    · exact ⟨s.size, Nat.le_refl _, .inl (Nat.le_refl _), fun i hi => by omega⟩
    · exact ⟨s.size + 1 - q.size, by omega, by omega, fun i hi => by omega⟩
  obtain ⟨n, n1, n2, n3⟩ := key
  obtain ⟨env, he, g5⟩ := end13 s q (plP (toBytes s) (toBytes q) n) n n2 n1 hn hq
  have el := loopUp (body := evC T13 KK b13x0) (live := [0, 1, 5, 6]) (canon := fun i => k13 s q (plP (toBytes s) (toBytes q) i) i) (n := n) (x := 0) (fun i hi => body13 s q i (n3 i hi).1 (n3 i hi).2 hn) he (by omega)
  rw [plP_end (toBytes s) (toBytes q) (s.size - n) n (by omega) (by omega)]
  have z : ci (plP (toBytes s) (toBytes q) 0) = [] := rfl
  generalize plP (toBytes s) (toBytes q) n = l at *
  simp only [k13, z, Int.natCast_zero] at el
  simp -implicitDefEqProofs [F13, c13, upd, el, g5]
def k17 (s q : ByteArray) (c : Nat) (i : Nat) : St := ⟨[(0, .one (.str s)), (1, .one (.str q)), (5, .one (.int .i64 c)), (6, .one (.int .i64 i))], [.str s, .str q], []⟩
theorem f17 (s q : ByteArray) (hn : s.size ≤ 1000) : F17 [.one (.str s), .one (.str q)] [] = some (.one (.int .i64 (((List.range (toBytes s).length).filter fun i => lx ((toBytes s).drop i) (toBytes q)).length : Nat)), []) := by
  have hK := KK_eq
  have hl := size_toBytes s
  have hbody : ∀ i, i < s.size → ∃ st1, evC T17 KK b17x0 (k17 s q (leP (toBytes s) (toBytes q) i) i) = some (.norm, st1) ∧ St.head [0, 1, 5, 6] st1 = k17 s q (leP (toBytes s) (toBytes q) (i + 1)) (i + 1) := by
    intro i hi
    have e : Go.Op.bytesLess (s.extract i s.size).toList q.toList = lx ((toBytes s).drop i) (toBytes q) := by
      rw [ext_of]
      conv => lhs; rw [← ofBytes_toBytes q]
      exact less_lx (isB_drop _ (isB_toBytes s)) (isB_toBytes q)
    have hle := leP_le (toBytes s) (toBytes q) i
    rw [leP_succ]
    generalize leP (toBytes s) (toBytes q) i = c at *
    have c1 : (i : Int) < s.size := by omega
    have c2 : (i : Int) ≤ s.size := by omega
    have w1 : IntKind.i64.wrap ((c : Int) + 1) = c + 1 := i64_in _ (by omega)
    have w2 : IntKind.i64.wrap ((i : Int) + 1) = i + 1 := i64_in _ (by omega)
    by_cases h : lx ((toBytes s).drop i) (toBytes q) = true
    · rw [if_pos h]
      rw [h] at e
      simp -implicitDefEqProofs [b17x0, k17, upd, c1, c2, w1, w2, e]
    · rw [if_neg h]
      rw [show lx ((toBytes s).drop i) (toBytes q) = false by simpa using h] at e
      simp -implicitDefEqProofs [b17x0, k17, upd, c1, c2, w1, w2, e]
  obtain ⟨env, he, g5⟩ : ∃ env, evC T17 KK b17x0 (k17 s q (leP (toBytes s) (toBytes q) s.size) s.size) = some (.exit 0, ⟨env, [.str s, .str q], []⟩) ∧ getT 5 env = .one (.int .i64 (leP (toBytes s) (toBytes q) s.size)) := by
    simp -implicitDefEqProofs [b17x0, k17, upd]
  have el := loopUp (body := evC T17 KK b17x0) (live := [0, 1, 5, 6]) (canon := fun i => k17 s q (leP (toBytes s) (toBytes q) i) i) (n := s.size) (x := 0) hbody he (by omega)
  have z : leP (toBytes s) (toBytes q) 0 = 0 := rfl
  have z2 : ((List.range (toBytes s).length).filter fun i => lx ((toBytes s).drop i) (toBytes q)).length = leP (toBytes s) (toBytes q) s.size := by rw [hl]; rfl
  rw [z2]
  generalize leP (toBytes s) (toBytes q) s.size = c at *
  simp only [k17, z, Int.natCast_zero] at el
  simp -implicitDefEqProofs [F17, c17, upd, el, g5]
def k15 (t u : Nat) (l : List Int) (i : Nat) : St := ⟨[(0, .one (.ro t (.ints .i64 l))), (1, .one (.ro u (.ints .i64 l))), (12, .one (.int .i64 l.length)), (13, .one (.int .i64 i))], [.ro t (.ints .i64 l), .ro u (.ints .i64 l)], []⟩
theorem f15 (t u : Nat) (l : List Int) (hn : l.length ≤ 1000) : F15 [.one (.ro t (.ints .i64 l)), .one (.ro u (.ints .i64 l))] [] = some (.one (.bool true), []) := by
  have hK := KK_eq
  have hbody : ∀ i, i < l.length → ∃ st1, evC T15 KK b15x0 (k15 t u l i) = some (.norm, st1) ∧ St.head [0, 1, 12, 13] st1 = k15 t u l (i + 1) := by
    intro i hi
    have v1 : (RC.ints .i64 l).get i 0 = some (.int .i64 (l.getD i 0)) := rfl
    generalize l.getD i 0 = x at *
    have c1 : (i : Int) < l.length := by omega
    have w1 : IntKind.i64.wrap ((i : Int) + 1) = i + 1 := i64_in _ (by omega)
    simp -implicitDefEqProofs [b15x0, k15, upd, v1, c1, hi, w1, RC.len, RC.size]
  obtain ⟨env, he⟩ : ∃ env, evC T15 KK b15x0 (k15 t u l l.length) = some (.exit 0, ⟨env, [.ro t (.ints .i64 l), .ro u (.ints .i64 l)], []⟩) := by
    simp -implicitDefEqProofs [b15x0, k15, upd]
  have el := loopUp (body := evC T15 KK b15x0) (live := [0, 1, 12, 13]) (canon := k15 t u l) (n := l.length) (x := 0) hbody he (by omega)
  simp only [k15, Int.natCast_zero] at el
  simp -implicitDefEqProofs [F15, c15, upd, el, RC.len]
theorem law4c (s q : ByteArray) : F4 [.one (.str s), .one (.str q)] [] = some (.one (.bool true), []) := by
  have hl := size_toBytes s
  by_cases h : (150 : Int) < s.size
  · simp -implicitDefEqProofs [F4, c4, upd, f6, h]
  by_cases h2 : (60 : Int) < q.size
  · simp -implicitDefEqProofs [F4, c4, upd, f6, h, h2]
  have hn : s.size ≤ 1000 := by omega
  obtain ⟨ys, sa, e7⟩ := f7 s hn
  have e13 := f13 s q hn (by omega)
  obtain ⟨a, b, F, e14⟩ := f14 (some 0) s q ys (alL (toBytes s) ys) hn sa
  have e16 := f16 (some 0) s q ys (alL (toBytes s) ys) hn sa
  have e17 := f17 s q hn
  rw [F.less sa] at e17
  have hc := F.count sa
  have hab := F.le
  have hb := F.len
  have hy := sa.length
  have lp : (ci (places (toBytes s) (toBytes q))).length = b - a := by rw [ci_length, hc]
  have e15 := fun t u => f15 t u (ci (places (toBytes s) (toBytes q))) (by omega)
  generalize ci (places (toBytes s) (toBytes q)) = l at *
  generalize alL (toBytes s) ys = al at *
  have w1 : IntKind.i64.wrap ((b - a : Nat) : Int) = ((b - a : Nat) : Int) := i64_in _ (by omega)
  have c1 : (b : Int) - a = ((b - a : Nat) : Int) := by omega
  simp only [arr, List.cons_append, List.nil_append] at e7 e14 e16
  simp -implicitDefEqProofs [F4, c4, upd, f6, h, h2, e7, e13, e14, e15, e16, e17, w1, lp, c1, RC.len, RC.size]
theorem law4 {p1 p2 : Prop} (s q : ByteArray) (_ : p1) (_ : p2) : F4 [.one (.str s), .one (.str q)] [] = some (.one (.bool true), []) := law4c s q
end Go.X.Try
namespace Go.X
theorem lcp_comm : ∀ x y : List Int, lcp x y = lcp y x
  | [], [] => rfl
  | [], _ :: _ => rfl
  | _ :: _, [] => rfl
  | a :: x, b :: y => by
    simp only [lcp]
    by_cases h : a = b
    · rw [if_pos h, if_pos h.symm, lcp_comm x y]
    · rw [if_neg h, if_neg (fun e => h e.symm)]
theorem lcp_take : ∀ {x y : List Int} {n : Nat}, n ≤ lcp x y → x.take n = y.take n
  | [], _, n, h => by
    have : n = 0 := by simp [lcp] at h; exact h
    subst this; simp
  | _ :: _, [], n, h => by
    have : n = 0 := by simp [lcp] at h; exact h
    subst this; simp
  | a :: x, b :: y, n, h => by
    simp only [lcp] at h
    split at h
    · rename_i e; subst e
      cases n with
      | zero => simp
      | succ n => simp only [List.take_succ_cons]; rw [lcp_take (x := x) (y := y) (n := n) (by omega)]
    · have : n = 0 := by omega
      subst this; simp
theorem lcp_ge_of_take : ∀ {x y : List Int} {n : Nat}, n ≤ x.length → n ≤ y.length → x.take n = y.take n → n ≤ lcp x y
  | _, _, 0, _, _, _ => Nat.zero_le _
  | [], _, n + 1, h, _, _ => by simp at h
  | _ :: _, [], n + 1, _, h, _ => by simp at h
  | a :: x, b :: y, n + 1, h1, h2, h => by
    simp only [List.take_succ_cons, List.cons.injEq] at h
    obtain ⟨rfl, h⟩ := h
    have := lcp_ge_of_take (x := x) (y := y) (n := n) (by simpa using h1) (by simpa using h2) h
    simp only [lcp, if_true]; omega
theorem lcp_mid : ∀ {x y z : List Int}, lx x y = true → lx y z = true → lcp x z ≤ lcp x y ∧ lcp x z ≤ lcp y z
  | [], y, z, _, _ => by simp [lcp]
  | a :: x, [], z, h, _ => by simp at h
  | a :: x, b :: y, [], _, h => by simp at h
  | a :: x, b :: y, c :: z, h1, h2 => by
    rw [lx_cons] at h1 h2
    simp only [lcp]
    by_cases e : a = c
    · subst e
      have e2 : a = b := by rcases h1 with h1 | h1 <;> rcases h2 with h2 | h2 <;> omega
      subst e2
      rcases h1 with h1 | ⟨_, h1⟩
      · omega
      rcases h2 with h2 | ⟨_, h2⟩
      · omega
      have := lcp_mid h1 h2
      simp only [if_true]; omega
    · rw [if_neg e]; omega
theorem lx_take_not {t : List Int} {i j : Nat} (n : Nat) (h : lx (t.drop i) (t.drop j) = true) : lx ((t.drop j).take n) ((t.drop i).take n) = false := by
  cases h2 : lx ((t.drop j).take n) ((t.drop i).take n) with
  | false => rfl
  | true =>
    have := lx_pre (t := t) (K := n) (i := j) (j := i) h2
    rw [lx_asymm h] at this; cases this
section
variable {t : List Int} {ys : List Nat} (sa : IsSA t ys)
include sa
theorem adj_le {p q r : Nat} (h1 : p < r) (h2 : r ≤ q) (h3 : q < ys.length) : lcp (t.drop (ys.getD p 0)) (t.drop (ys.getD q 0)) ≤ lcp (t.drop (ys.getD (r - 1) 0)) (t.drop (ys.getD r 0)) := by
  have s1 : lcp (t.drop (ys.getD p 0)) (t.drop (ys.getD q 0)) ≤ lcp (t.drop (ys.getD p 0)) (t.drop (ys.getD r 0)) := by
    by_cases e : r = q
    · subst e; exact Nat.le_refl _
    · exact (lcp_mid (sa.get_lt h1 (by omega)) (sa.get_lt (show r < q by omega) h3)).1
  have s2 : lcp (t.drop (ys.getD p 0)) (t.drop (ys.getD r 0)) ≤ lcp (t.drop (ys.getD (r - 1) 0)) (t.drop (ys.getD r 0)) := by
    by_cases e : p = r - 1
    · subst e; exact Nat.le_refl _
    · exact (lcp_mid (sa.get_lt (show p < r - 1 by omega) (by omega)) (sa.get_lt (show r - 1 < r by omega) (by omega))).2
  omega
theorem pos_of {i : Nat} (hi : i < t.length) : ∃ p, p < ys.length ∧ ys.getD p 0 = i := by
  have : i ∈ ys := sa.perm.mem_iff.2 (by simpa using hi)
  obtain ⟨p, hp, e⟩ := List.mem_iff_getElem.1 this
  exact ⟨p, hp, by simp [List.getD, hp, e]⟩
end
structure Best (t : List Int) (w : List Int) : Prop where
  is : w = [] ∨ ∃ i k, k < i ∧ i < t.length ∧ 0 < w.length ∧ lcp (t.drop i) (t.drop k) = w.length ∧ w = (t.drop i).take w.length
  le : ∀ i k, k < i → i < t.length → lcp (t.drop i) (t.drop k) ≤ w.length
  lt : ∀ i k, k < i → i < t.length → 0 < w.length → lcp (t.drop i) (t.drop k) = w.length → lx ((t.drop i).take w.length) w = false
theorem Best.lgst {t w : List Int} {ys : List Nat} {P N : Nat} (sa : IsSA t ys) (B : Best t w) (L : Lgst t ys P N) : w.length = N ∧ P = if w = [] then 0 else (places t w).getD 0 0 := by
  have hy := sa.length
  -- a pair of ends, by their places in the order
  have pair : ∀ i k, k < i → i < t.length → ∃ p q, p < q ∧ q < ys.length ∧ lcp (t.drop i) (t.drop k) = lcp (t.drop (ys.getD p 0)) (t.drop (ys.getD q 0)) ∧ ∀ n, n ≤ lcp (t.drop i) (t.drop k) → (t.drop i).take n = (t.drop (ys.getD p 0)).take n := by
    intro i k hk hi
    obtain ⟨p, hp, e1⟩ := pos_of sa hi
    obtain ⟨q, hq, e2⟩ := pos_of sa (show k < t.length by omega)
    rcases Nat.lt_trichotomy p q with h | h | h
    · exact ⟨p, q, h, hq, by rw [e1, e2], fun n hn => by rw [e1]⟩
    · subst h; omega
    · exact ⟨q, p, h, hp, by rw [e1, e2, lcp_comm], fun n hn => by rw [e2]; exact lcp_take hn⟩
  have adj : ∀ p, 0 < p → p < ys.length → lcp (t.drop (ys.getD (p - 1) 0)) (t.drop (ys.getD p 0)) ≤ w.length := by
    intro p h1 h2
    have n1 := sa.getD_lt (i := p - 1) (by omega)
    have n2 := sa.getD_lt h2
    have ne : ys.getD (p - 1) 0 ≠ ys.getD p 0 := fun e => by
      have := sa.get_lt (show p - 1 < p by omega) h2
      rw [e, lx_irrefl] at this; cases this
    rcases Nat.lt_or_ge (ys.getD (p - 1) 0) (ys.getD p 0) with h | h
    · rw [lcp_comm]; exact B.le _ _ h n2
    · exact B.le _ _ (by omega) n1
  rcases L with ⟨rfl, rfl, h0⟩ | ⟨hN, i0, j1, j2, j3, j4, j5, rfl⟩
  · have hw : w = [] := by
      rcases B.is with h | ⟨i, k, h1, h2, h3, h4, h5⟩
      · exact h
      · obtain ⟨p, q, a1, a2, a3, _⟩ := pair i k h1 h2
        have := adj_le sa (show p < p + 1 by omega) (show p + 1 ≤ q by omega) a2
        rw [h0 (p + 1) (by omega) (by omega)] at this
        omega
    rw [hw]; simp
  · have hle := adj i0 j1 j2
    rw [j3] at hle
    rcases B.is with h | ⟨i, k, h1, h2, h3, h4, h5⟩
    · rw [h] at hle; simp at hle; omega
    obtain ⟨p, q, a1, a2, a3, a4⟩ := pair i k h1 h2
    have b1 := adj_le sa (show p < p + 1 by omega) (show p + 1 ≤ q by omega) a2
    have b2 := j5 (p + 1) (by omega) (by omega)
    rw [show p + 1 - 1 = p by omega] at b1 b2
    have hN2 : w.length = N := by omega
    refine ⟨hN2, ?_⟩
    have hwne : w ≠ [] := by rintro rfl; simp at h3
    rw [if_neg hwne]
    -- the first neighbours are not behind the pair
    have e1 : lcp (t.drop (ys.getD p 0)) (t.drop (ys.getD (p + 1) 0)) = N := by omega
    have i0le : i0 ≤ p + 1 := by
      rcases Nat.lt_or_ge (p + 1) i0 with h | h
      · have := j4 (p + 1) (by omega) h
        rw [show p + 1 - 1 = p by omega] at this
        exact absurd e1 this
      · exact h
    have w1 : w = (t.drop (ys.getD (p + 1) 0)).take N := by
      have := a4 w.length (by omega)
      rw [← h5] at this
      rw [this, hN2]
      exact lcp_take (by omega)
    have c1 : lx w ((t.drop (ys.getD i0 0)).take N) = false := by
      rw [w1]
      by_cases e : i0 = p + 1
      · rw [e]; exact lx_irrefl _
      · exact lx_take_not N (sa.get_lt (show i0 < p + 1 by omega) (by omega))
    have c2 : lx ((t.drop (ys.getD i0 0)).take N) w = false := by
      have n1 := sa.getD_lt (i := i0 - 1) (by omega)
      have n2 := sa.getD_lt j2
      have ne : ys.getD (i0 - 1) 0 ≠ ys.getD i0 0 := fun e => by
        have := sa.get_lt (show i0 - 1 < i0 by omega) j2
        rw [e, lx_irrefl] at this; cases this
      rcases Nat.lt_or_ge (ys.getD (i0 - 1) 0) (ys.getD i0 0) with h | h
      · have := B.lt _ _ h n2 h3 (by rw [lcp_comm, j3, hN2])
        rwa [hN2] at this
      · have := B.lt _ _ (show ys.getD i0 0 < ys.getD (i0 - 1) 0 by omega) n1 h3 (by rw [j3, hN2])
        rw [hN2] at this
        rwa [lcp_take (x := t.drop (ys.getD (i0 - 1) 0)) (y := t.drop (ys.getD i0 0)) (n := N) (by omega)] at this
    have : w = (t.drop (ys.getD i0 0)).take N := by
      rcases lx_total w ((t.drop (ys.getD i0 0)).take N) with h | h | h
      · rw [c1] at h; cases h
      · exact h
      · rw [c2] at h; cases h
    rw [← this]
end Go.X
