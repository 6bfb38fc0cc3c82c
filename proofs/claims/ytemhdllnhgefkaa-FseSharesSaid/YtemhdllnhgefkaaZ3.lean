import Derived.IntWalk
import Derived.Test.YtemhdllnhgefkaaZ2
set_option linter.unusedVariables false
set_option linter.unusedSimpArgs false
/- The functions' codes, each turned by the compiler (Lean checks it), and what each comes to, as a function of data. -/
set_option maxRecDepth 100000
namespace Go.X.Try
theorem mixed : Go.Proofs.Try.prog.follows .mixedOrders = true := by kernel_rfl

def c75 : AF := ⟨[(2, none)],
  (.seq (.ops [⟨(some 2), none, (.mv (.const (.one (.bool false))))⟩]) (.seq (.ops [⟨(some 3), none, (.mv (.tmp 0))⟩, ⟨(some 4), none, (.bin .geq (.tmp 3) (.const (.one (.int .i64 5))))⟩, ⟨(some 5), none, (.mv (.tmp 4))⟩, ⟨(some 6), (some (5, true)), (.mv (.tmp 0))⟩, ⟨(some 7), (some (5, true)), (.bin .leq (.tmp 6) (.const (.one (.int .i64 9))))⟩, ⟨(some 8), none, (.pick (.tmp 5) (.tmp 7) (.const (.one (.bool false))))⟩, ⟨(some 2), none, (.mv (.tmp 8))⟩]) .ret))⟩
abbrev T75 : Nat → Callee := none0
def F75 : Callee := evF T75 0 c75
theorem s75 : Sound Go.Proofs.Try.prog 75 F75 := fn_ok (none0_ok _) mixed (by kernel_rfl)
def b41x0 : AC := (.seq (.ops [⟨(some 21), none, (.bin .lss (.tmp 20) (.tmp 19))⟩]) (.seq (.cond (.tmp 21) .skip (.exit 0)) (.seq (.block 1 (.seq (.ops [⟨(some 22), none, (.iadrR 1 (.tmp 18) (.tmp 20))⟩, ⟨(some 23), none, (.load none (.tmp 22))⟩, ⟨(some 7), none, (.mv (.tmp 23))⟩]) (.seq (.seq (.ops [⟨(some 24), none, (.mv (.tmp 7))⟩, ⟨(some 25), none, (.bin .lss (.tmp 24) (.const (.one (.int .i64 0))))⟩, ⟨(some 26), none, (.mv (.tmp 25))⟩, ⟨(some 27), (some (26, false)), (.mv (.tmp 7))⟩, ⟨(some 28), (some (26, false)), (.mv (.tmp 5))⟩, ⟨(some 29), (some (26, false)), (.bin .gtr (.tmp 27) (.tmp 28))⟩, ⟨(some 30), none, (.pick (.tmp 26) (.const (.one (.bool true))) (.tmp 29))⟩]) (.cond (.tmp 30) (.seq (.ops [⟨(some 4), none, (.mv (.const (.one (.bool false))))⟩]) .ret) .skip)) (.ops [⟨(some 31), none, (.mv (.tmp 5))⟩, ⟨(some 32), none, (.mv (.tmp 7))⟩, ⟨(some 33), none, (.bin .sub (.tmp 31) (.tmp 32))⟩, ⟨(some 5), none, (.mv (.tmp 33))⟩])))) (.ops [⟨(some 34), none, (.bin .add (.tmp 20) (.const (.one (.int .i64 1))))⟩, ⟨(some 20), none, (.mv (.tmp 34))⟩]))))
def c41 : AF := ⟨[(4, none)],
  (.seq (.ops [⟨(some 4), none, (.mv (.const (.one (.bool false))))⟩]) (.seq (.seq (.ops [⟨(some 8), none, (.mv (.tmp 1))⟩, ⟨(some 9), none, (.call 75 [(.tmp 8)])⟩, ⟨(some 10), none, (.un .not (.tmp 9))⟩, ⟨(some 11), none, (.mv (.tmp 10))⟩, ⟨(some 12), (some (11, false)), (.mv (.tmp 0))⟩, ⟨(some 13), (some (11, false)), (.len (.tmp 12))⟩, ⟨(some 14), (some (11, false)), (.bin .gtr (.tmp 13) (.const (.one (.int .i64 256))))⟩, ⟨(some 15), none, (.pick (.tmp 11) (.const (.one (.bool true))) (.tmp 14))⟩]) (.cond (.tmp 15) (.seq (.ops [⟨(some 4), none, (.mv (.const (.one (.bool false))))⟩]) .ret) .skip)) (.seq (.ops [⟨(some 16), none, (.mv (.tmp 1))⟩, ⟨(some 17), none, (.bin .shl (.const (.one (.int .i64 1))) (.tmp 16))⟩, ⟨(some 5), none, (.mv (.tmp 17))⟩]) (.seq (.seq (.ops [⟨(some 18), none, (.mv (.tmp 0))⟩, ⟨(some 19), none, (.len (.tmp 18))⟩, ⟨(some 20), none, (.mv (.const (.one (.int .i64 0))))⟩]) (.block 0 (.loop [5, 18, 19, 20] b41x0))) (.seq (.ops [⟨(some 35), none, (.mv (.tmp 5))⟩, ⟨(some 36), none, (.bin .eql (.tmp 35) (.const (.one (.int .i64 0))))⟩, ⟨(some 4), none, (.mv (.tmp 36))⟩]) .ret)))))⟩
abbrev T41 : Nat → Callee := (upd none0 75 F75)
def F41 : Callee := evF T41 KK c41
theorem s41 : Sound Go.Proofs.Try.prog 41 F41 := fn_ok (upd_ok (none0_ok _) s75) mixed (by kernel_rfl)
def b42x0 : AC := (.seq (.ops [⟨(some 27), none, (.bin .lss (.tmp 26) (.tmp 25))⟩]) (.seq (.cond (.tmp 27) .skip (.exit 2)) (.seq (.block 3 (.seq (.ops [⟨(some 28), none, (.mv (.tmp 5))⟩, ⟨(some 29), none, (.mv (.tmp 7))⟩, ⟨(some 30), none, (.mv (.tmp 8))⟩, ⟨(some 31), none, (.conv .u8 (.tmp 30))⟩, ⟨(some 32), none, (.iadrR 1 (.tmp 28) (.tmp 29))⟩, ⟨none, none, (.store 1 (.tmp 32) (.tmp 31))⟩]) (.ops [⟨(some 33), none, (.mv (.tmp 7))⟩, ⟨(some 34), none, (.mv (.tmp 6))⟩, ⟨(some 35), none, (.bin .add (.tmp 33) (.tmp 34))⟩, ⟨(some 36), none, (.mv (.tmp 1))⟩, ⟨(some 37), none, (.bin .sub (.tmp 36) (.const (.one (.int .i64 1))))⟩, ⟨(some 38), none, (.bin .and (.tmp 35) (.tmp 37))⟩, ⟨(some 7), none, (.mv (.tmp 38))⟩]))) (.ops [⟨(some 39), none, (.bin .add (.tmp 26) (.const (.one (.int .i64 1))))⟩, ⟨(some 26), none, (.mv (.tmp 39))⟩]))))
def b42x1 : AC := (.seq (.ops [⟨(some 21), none, (.bin .lss (.tmp 20) (.tmp 19))⟩]) (.seq (.cond (.tmp 21) .skip (.exit 0)) (.seq (.block 1 (.seq (.ops [⟨(some 22), none, (.mv (.tmp 20))⟩, ⟨(some 23), none, (.iadrR 1 (.tmp 18) (.tmp 20))⟩, ⟨(some 24), none, (.load none (.tmp 23))⟩, ⟨(some 8), none, (.mv (.tmp 22))⟩, ⟨(some 9), none, (.mv (.tmp 24))⟩]) (.seq (.ops [⟨(some 25), none, (.mv (.tmp 9))⟩, ⟨(some 26), none, (.mv (.const (.one (.int .i64 0))))⟩]) (.block 2 (.loop [1, 5, 6, 7, 8, 18, 19, 20, 25, 26] b42x0))))) (.ops [⟨(some 40), none, (.bin .add (.tmp 20) (.const (.one (.int .i64 1))))⟩, ⟨(some 20), none, (.mv (.tmp 40))⟩]))))
def c42 : AF := ⟨[(4, none)],
  (.seq (.ops [⟨(some 4), none, (.newNil (.ints .u8 []))⟩]) (.seq (.ops [⟨(some 10), none, (.mv (.tmp 1))⟩, ⟨(some 11), none, (.mks (.ints .u8 []) [(.int .u8 0)] 1 (.tmp 10) (.tmp 10))⟩, ⟨(some 5), none, (.mv (.tmp 11))⟩]) (.seq (.ops [⟨(some 12), none, (.mv (.tmp 1))⟩, ⟨(some 13), none, (.bin .shr (.tmp 12) (.const (.one (.int .u64 1))))⟩, ⟨(some 14), none, (.mv (.tmp 1))⟩, ⟨(some 15), none, (.bin .shr (.tmp 14) (.const (.one (.int .u64 3))))⟩, ⟨(some 16), none, (.bin .add (.tmp 13) (.tmp 15))⟩, ⟨(some 17), none, (.bin .add (.tmp 16) (.const (.one (.int .i64 3))))⟩, ⟨(some 6), none, (.mv (.tmp 17))⟩]) (.seq (.ops [⟨(some 7), none, (.mv (.const (.one (.int .i64 0))))⟩]) (.seq (.seq (.ops [⟨(some 18), none, (.mv (.tmp 0))⟩, ⟨(some 19), none, (.len (.tmp 18))⟩, ⟨(some 20), none, (.mv (.const (.one (.int .i64 0))))⟩]) (.block 0 (.loop [1, 5, 6, 7, 18, 19, 20] b42x1))) (.seq (.ops [⟨(some 41), none, (.mv (.tmp 5))⟩, ⟨(some 4), none, (.mv (.tmp 41))⟩]) .ret))))))⟩
abbrev T42 : Nat → Callee := none0
def F42 : Callee := evF T42 KK c42
theorem s42 : Sound Go.Proofs.Try.prog 42 F42 := fn_ok (none0_ok _) mixed (by kernel_rfl)
def lit85x0 : ByteArray := ⟨#[0, 1, 2, 2, 3, 3, 3, 3, 4, 4, 4, 4, 4, 4, 4, 4, 5, 5, 5, 5, 5, 5, 5, 5, 5, 5, 5, 5, 5, 5, 5, 5, 6, 6, 6, 6, 6, 6, 6, 6, 6, 6, 6, 6, 6, 6, 6, 6, 6, 6, 6, 6, 6, 6, 6, 6, 6, 6, 6, 6, 6, 6, 6, 6, 7, 7, 7, 7, 7, 7, 7, 7, 7, 7, 7, 7, 7, 7, 7, 7, 7, 7, 7, 7, 7, 7, 7, 7, 7, 7, 7, 7, 7, 7, 7, 7, 7, 7, 7, 7, 7, 7, 7, 7, 7, 7, 7, 7, 7, 7, 7, 7, 7, 7, 7, 7, 7, 7, 7, 7, 7, 7, 7, 7, 7, 7, 7, 7, 8, 8, 8, 8, 8, 8, 8, 8, 8, 8, 8, 8, 8, 8, 8, 8, 8, 8, 8, 8, 8, 8, 8, 8, 8, 8, 8, 8, 8, 8, 8, 8, 8, 8, 8, 8, 8, 8, 8, 8, 8, 8, 8, 8, 8, 8, 8, 8, 8, 8, 8, 8, 8, 8, 8, 8, 8, 8, 8, 8, 8, 8, 8, 8, 8, 8, 8, 8, 8, 8, 8, 8, 8, 8, 8, 8, 8, 8, 8, 8, 8, 8, 8, 8, 8, 8, 8, 8, 8, 8, 8, 8, 8, 8, 8, 8, 8, 8, 8, 8, 8, 8, 8, 8, 8, 8, 8, 8, 8, 8, 8, 8, 8, 8, 8, 8, 8, 8, 8, 8, 8, 8, 8, 8, 8, 8, 8, 8]⟩
def c85 : AF := ⟨[(2, none)],
  (.seq (.ops [⟨(some 2), none, (.mv (.const (.one (.int .i64 0))))⟩]) (.seq (.seq (.ops [⟨(some 3), none, (.mv (.tmp 0))⟩, ⟨(some 4), none, (.bin .geq (.tmp 3) (.const (.one (.int .u32 65536))))⟩]) (.cond (.tmp 4) (.seq (.ops [⟨(some 5), none, (.mv (.tmp 0))⟩, ⟨(some 6), none, (.bin .shr (.tmp 5) (.const (.one (.int .u64 16))))⟩, ⟨(some 0), none, (.mv (.tmp 6))⟩]) (.ops [⟨(some 2), none, (.mv (.const (.one (.int .i64 16))))⟩])) .skip)) (.seq (.seq (.ops [⟨(some 7), none, (.mv (.tmp 0))⟩, ⟨(some 8), none, (.bin .geq (.tmp 7) (.const (.one (.int .u32 256))))⟩]) (.cond (.tmp 8) (.seq (.ops [⟨(some 9), none, (.mv (.tmp 0))⟩, ⟨(some 10), none, (.bin .shr (.tmp 9) (.const (.one (.int .u64 8))))⟩, ⟨(some 0), none, (.mv (.tmp 10))⟩]) (.ops [⟨(some 11), none, (.mv (.tmp 2))⟩, ⟨(some 12), none, (.bin .add (.tmp 11) (.const (.one (.int .i64 8))))⟩, ⟨(some 2), none, (.mv (.tmp 12))⟩])) .skip)) (.seq (.ops [⟨(some 13), none, (.mv (.tmp 2))⟩, ⟨(some 14), none, (.mv (.tmp 0))⟩, ⟨(some 15), none, (.conv .u8 (.tmp 14))⟩, ⟨(some 16), none, (.idxS (.const (.one (.str lit85x0))) (.tmp 15))⟩, ⟨(some 17), none, (.conv .i64 (.tmp 16))⟩, ⟨(some 18), none, (.bin .add (.tmp 13) (.tmp 17))⟩, ⟨(some 2), none, (.mv (.tmp 18))⟩]) .ret))))⟩
abbrev T85 : Nat → Callee := none0
def F85 : Callee := evF T85 0 c85
theorem s85 : Sound Go.Proofs.Try.prog 85 F85 := fn_ok (none0_ok _) mixed (by kernel_rfl)
def c43 : AF := ⟨[(2, none)],
  (.seq (.ops [⟨(some 2), none, (.mv (.const (.one (.int .i64 0))))⟩]) (.seq (.ops [⟨(some 3), none, (.mv (.tmp 0))⟩, ⟨(some 4), none, (.call 85 [(.tmp 3)])⟩, ⟨(some 2), none, (.mv (.tmp 4))⟩]) .ret))⟩
abbrev T43 : Nat → Callee := (upd none0 85 F85)
def F43 : Callee := evF T43 0 c43
theorem s43 : Sound Go.Proofs.Try.prog 43 F43 := fn_ok (upd_ok (none0_ok _) s85) mixed (by kernel_rfl)
def b17x0 : AC := (.seq (.ops [⟨(some 37), none, (.bin .lss (.tmp 36) (.tmp 35))⟩]) (.seq (.cond (.tmp 37) .skip (.exit 0)) (.seq (.block 1 (.seq (.ops [⟨(some 38), none, (.mv (.tmp 36))⟩, ⟨(some 39), none, (.iadrR 1 (.tmp 34) (.tmp 36))⟩, ⟨(some 40), none, (.load none (.tmp 39))⟩, ⟨(some 9), none, (.mv (.tmp 38))⟩, ⟨(some 10), none, (.mv (.tmp 40))⟩]) (.seq (.ops [⟨(some 41), none, (.mv (.tmp 7))⟩, ⟨(some 42), none, (.nilCheck (.tmp 41))⟩, ⟨(some 43), none, (.fadr 3 (.tmp 42))⟩, ⟨(some 44), none, (.load none (.tmp 43))⟩, ⟨(some 45), none, (.mv (.tmp 9))⟩, ⟨(some 46), none, (.mv (.tmp 8))⟩, ⟨(some 47), none, (.iadrR 1 (.tmp 44) (.tmp 45))⟩, ⟨none, none, (.store 1 (.tmp 47) (.tmp 46))⟩]) (.ops [⟨(some 48), none, (.mv (.tmp 8))⟩, ⟨(some 49), none, (.mv (.tmp 10))⟩, ⟨(some 50), none, (.bin .add (.tmp 48) (.tmp 49))⟩, ⟨(some 8), none, (.mv (.tmp 50))⟩])))) (.ops [⟨(some 51), none, (.bin .add (.tmp 36) (.const (.one (.int .i64 1))))⟩, ⟨(some 36), none, (.mv (.tmp 51))⟩]))))
def b17x1 : AC := (.seq (.ops [⟨(some 60), none, (.bin .lss (.tmp 59) (.tmp 58))⟩]) (.seq (.cond (.tmp 60) .skip (.exit 2)) (.seq (.block 3 (.seq (.ops [⟨(some 61), none, (.mv (.tmp 59))⟩, ⟨(some 62), none, (.iadrR 1 (.tmp 57) (.tmp 59))⟩, ⟨(some 63), none, (.load none (.tmp 62))⟩, ⟨(some 12), none, (.mv (.tmp 61))⟩, ⟨(some 13), none, (.mv (.tmp 63))⟩]) (.seq (.opsD [(⟨(some 64), none, (.mv (.tmp 0))⟩, false), (⟨(some 65), none, (.mv (.tmp 13))⟩, false), (⟨(some 66), none, (.iadrR 1 (.tmp 64) (.tmp 65))⟩, false), (⟨(some 67), none, (.load none (.tmp 66))⟩, false), (⟨(some 68), none, (.mv (.tmp 11))⟩, false), (⟨(some 69), none, (.mv (.tmp 13))⟩, false), (⟨(some 70), none, (.iadrR 1 (.tmp 68) (.tmp 69))⟩, false), (⟨(some 71), none, (.load none (.tmp 70))⟩, false), (⟨(some 72), none, (.bin .add (.tmp 67) (.tmp 71))⟩, false), (⟨(some 14), none, (.mv (.tmp 72))⟩, false)] []) (.seq (.opsD [(⟨(some 73), none, (.mv (.tmp 7))⟩, false), (⟨(some 74), none, (.nilCheck (.tmp 73))⟩, false), (⟨(some 75), none, (.fadr 4 (.tmp 74))⟩, false), (⟨(some 76), none, (.load none (.tmp 75))⟩, false), (⟨(some 77), none, (.mv (.tmp 7))⟩, false), (⟨(some 78), none, (.nilCheck (.tmp 77))⟩, false), (⟨(some 79), none, (.fadr 3 (.tmp 78))⟩, false), (⟨(some 80), none, (.load none (.tmp 79))⟩, false), (⟨(some 81), none, (.mv (.tmp 13))⟩, false), (⟨(some 82), none, (.iadrR 1 (.tmp 80) (.tmp 81))⟩, false), (⟨(some 83), none, (.load none (.tmp 82))⟩, false), (⟨(some 84), none, (.mv (.tmp 11))⟩, false), (⟨(some 85), none, (.mv (.tmp 13))⟩, false), (⟨(some 86), none, (.iadrR 1 (.tmp 84) (.tmp 85))⟩, false), (⟨(some 87), none, (.load none (.tmp 86))⟩, false), (⟨(some 88), none, (.bin .add (.tmp 83) (.tmp 87))⟩, false), (⟨(some 89), none, (.mv (.tmp 12))⟩, false), (⟨(some 90), none, (.iadrR 1 (.tmp 76) (.tmp 88))⟩, false), (⟨none, none, (.store 1 (.tmp 90) (.tmp 89))⟩, true)] []) (.seq (.ops [⟨(some 91), none, (.mv (.tmp 11))⟩, ⟨(some 92), none, (.mv (.tmp 13))⟩, ⟨(some 93), none, (.iadrR 1 (.tmp 91) (.tmp 92))⟩, ⟨(some 94), none, (.load none (.tmp 93))⟩, ⟨(some 95), none, (.bin .add (.tmp 94) (.const (.one (.int .i64 1))))⟩, ⟨(some 96), none, (.iadrR 1 (.tmp 91) (.tmp 92))⟩, ⟨none, none, (.store 1 (.tmp 96) (.tmp 95))⟩]) (.seq (.ops [⟨(some 97), none, (.mv (.tmp 1))⟩, ⟨(some 98), none, (.mv (.tmp 14))⟩, ⟨(some 99), none, (.conv .u32 (.tmp 98))⟩, ⟨(some 100), none, (.call 43 [(.tmp 99)])⟩, ⟨(some 101), none, (.bin .sub (.tmp 97) (.tmp 100))⟩, ⟨(some 102), none, (.bin .add (.tmp 101) (.const (.one (.int .i64 1))))⟩, ⟨(some 15), none, (.mv (.tmp 102))⟩]) (.opsD [(⟨(some 103), none, (.mv (.tmp 7))⟩, false), (⟨(some 104), none, (.nilCheck (.tmp 103))⟩, false), (⟨(some 105), none, (.fadr 1 (.tmp 104))⟩, false), (⟨(some 106), none, (.load none (.tmp 105))⟩, false), (⟨(some 107), none, (.mv (.tmp 12))⟩, false), (⟨(some 108), none, (.mv (.tmp 13))⟩, false), (⟨(some 109), none, (.mv (.tmp 15))⟩, false), (⟨(some 110), none, (.mv (.tmp 14))⟩, false), (⟨(some 111), none, (.mv (.tmp 15))⟩, false), (⟨(some 112), none, (.bin .shl (.tmp 110) (.tmp 111))⟩, false), (⟨(some 113), none, (.mv (.tmp 6))⟩, false), (⟨(some 114), none, (.bin .sub (.tmp 112) (.tmp 113))⟩, false), (⟨(some 115), none, (.build [(.sv (.int .u8 0)), (.sv (.int .i64 0)), (.sv (.int .i64 0))] [((0, 1), (.tmp 108)), ((1, 1), (.tmp 109)), ((2, 1), (.tmp 114))])⟩, false), (⟨(some 116), none, (.iadrR 3 (.tmp 106) (.tmp 107))⟩, false), (⟨none, none, (.store 3 (.tmp 116) (.tmp 115))⟩, true)] []))))))) (.ops [⟨(some 117), none, (.bin .add (.tmp 59) (.const (.one (.int .i64 1))))⟩, ⟨(some 59), none, (.mv (.tmp 117))⟩]))))
def c17 : AF := ⟨[(4, none), (5, none)],
  (.seq (.ops [⟨(some 4), none, (.mv (.const (.one .nilp)))⟩, ⟨(some 5), none, (.mv (.const (.one (.bool false))))⟩]) (.seq (.seq (.ops [⟨(some 16), none, (.mv (.tmp 0))⟩, ⟨(some 17), none, (.mv (.tmp 1))⟩, ⟨(some 18), none, (.call 41 [(.tmp 16), (.tmp 17)])⟩, ⟨(some 19), none, (.un .not (.tmp 18))⟩]) (.cond (.tmp 19) (.seq (.ops [⟨(some 4), none, (.mv (.const (.one .nilp)))⟩, ⟨(some 5), none, (.mv (.const (.one (.bool false))))⟩]) .ret) .skip)) (.seq (.ops [⟨(some 20), none, (.mv (.tmp 1))⟩, ⟨(some 21), none, (.bin .shl (.const (.one (.int .i64 1))) (.tmp 20))⟩, ⟨(some 6), none, (.mv (.tmp 21))⟩]) (.seq (.opsF [(⟨(some 22), none, (.mv (.tmp 1))⟩, (false, none)), (⟨(some 23), none, (.mv (.tmp 6))⟩, (false, none)), (⟨(some 24), none, (.mks (.recs 3 []) [(.int .u8 0), (.int .i64 0), (.int .i64 0)] 24 (.tmp 23) (.tmp 23))⟩, (false, (some 0))), (⟨(some 25), none, (.mv (.tmp 0))⟩, (false, none)), (⟨(some 26), none, (.append (.ints .i64 []) 8 (.const (.one (.nils (.ints .i64 [])))) (.tmp 25))⟩, (false, (some 1))), (⟨(some 27), none, (.mv (.tmp 0))⟩, (false, none)), (⟨(some 28), none, (.len (.tmp 27))⟩, (false, none)), (⟨(some 29), none, (.mks (.ints .i64 []) [(.int .i64 0)] 8 (.tmp 28) (.tmp 28))⟩, (false, (some 2))), (⟨(some 30), none, (.mv (.tmp 6))⟩, (false, none)), (⟨(some 31), none, (.mks (.ints .i64 []) [(.int .i64 0)] 8 (.tmp 30) (.tmp 30))⟩, (false, (some 3))), (⟨(some 32), none, (.build [(.sv (.int .i64 0)), (.nil (.recs 3 [])), (.nil (.ints .i64 [])), (.nil (.ints .i64 [])), (.nil (.ints .i64 []))] [((0, 1), (.tmp 22)), ((1, 1), (.tmp 24)), ((2, 1), (.tmp 26)), ((3, 1), (.tmp 29)), ((4, 1), (.tmp 31))])⟩, (true, none)), (⟨(some 33), none, (.box (.tmp 32))⟩, (true, none)), (⟨(some 7), none, (.mv (.tmp 33))⟩, (false, none))] [] [(2, [0]), (4, [0]), (7, [0]), (9, [0])]) (.seq (.ops [⟨(some 8), none, (.mv (.const (.one (.int .i64 0))))⟩]) (.seq (.seq (.ops [⟨(some 34), none, (.mv (.tmp 0))⟩, ⟨(some 35), none, (.len (.tmp 34))⟩, ⟨(some 36), none, (.mv (.const (.one (.int .i64 0))))⟩]) (.block 0 (.loop [0, 1, 6, 7, 8, 34, 35, 36] b17x0))) (.seq (.ops [⟨(some 52), none, (.mv (.tmp 0))⟩, ⟨(some 53), none, (.len (.tmp 52))⟩, ⟨(some 54), none, (.mks (.ints .i64 []) [(.int .i64 0)] 8 (.tmp 53) (.tmp 53))⟩, ⟨(some 11), none, (.mv (.tmp 54))⟩]) (.seq (.seq (.ops [⟨(some 55), none, (.mv (.tmp 0))⟩, ⟨(some 56), none, (.mv (.tmp 6))⟩, ⟨(some 57), none, (.call 42 [(.tmp 55), (.tmp 56)])⟩, ⟨(some 58), none, (.len (.tmp 57))⟩, ⟨(some 59), none, (.mv (.const (.one (.int .i64 0))))⟩]) (.block 2 (.loop [0, 1, 6, 7, 11, 57, 58, 59] b17x1))) (.seq (.ops [⟨(some 118), none, (.mv (.tmp 7))⟩, ⟨(some 4), none, (.mv (.tmp 118))⟩, ⟨(some 5), none, (.mv (.const (.one (.bool true))))⟩]) .ret)))))))))⟩
abbrev T17 : Nat → Callee := (upd (upd (upd none0 41 F41) 42 F42) 43 F43)
def F17 : Callee := evF T17 KK c17
theorem s17 : Sound Go.Proofs.Try.prog 17 F17 := fn_ok (upd_ok (upd_ok (upd_ok (none0_ok _) s41) s42) s43) mixed (by kernel_rfl)
def c44 : AF := ⟨[(2, none), (3, none)],
  (.seq (.ops [⟨(some 2), none, (.mv (.const (.one .nilp)))⟩, ⟨(some 3), none, (.mv (.const (.one (.bool false))))⟩]) (.seq (.seq (.ops [⟨(some 5), none, (.mv (.tmp 0))⟩, ⟨(some 6), none, (.len (.tmp 5))⟩, ⟨(some 7), none, (.bin .eql (.tmp 6) (.const (.one (.int .i64 0))))⟩, ⟨(some 8), none, (.mv (.tmp 7))⟩, ⟨(some 9), (some (8, false)), (.mv (.tmp 0))⟩, ⟨(some 10), (some (8, false)), (.mv (.tmp 0))⟩, ⟨(some 11), (some (8, false)), (.len (.tmp 10))⟩, ⟨(some 12), (some (8, false)), (.bin .sub (.tmp 11) (.const (.one (.int .i64 1))))⟩, ⟨(some 13), (some (8, false)), (.iadrR 1 (.tmp 9) (.tmp 12))⟩, ⟨(some 14), (some (8, false)), (.load none (.tmp 13))⟩, ⟨(some 15), (some (8, false)), (.bin .eql (.tmp 14) (.const (.one (.int .u8 0))))⟩, ⟨(some 16), none, (.pick (.tmp 8) (.const (.one (.bool true))) (.tmp 15))⟩]) (.cond (.tmp 16) (.seq (.ops [⟨(some 2), none, (.mv (.const (.one .nilp)))⟩, ⟨(some 3), none, (.mv (.const (.one (.bool false))))⟩]) .ret) .skip)) (.seq (.ops [⟨(some 17), none, (.mv (.tmp 0))⟩, ⟨(some 18), none, (.mv (.tmp 0))⟩, ⟨(some 19), none, (.len (.tmp 18))⟩, ⟨(some 20), none, (.bin .sub (.tmp 19) (.const (.one (.int .i64 1))))⟩, ⟨(some 21), none, (.iadrR 1 (.tmp 17) (.tmp 20))⟩, ⟨(some 22), none, (.load none (.tmp 21))⟩, ⟨(some 23), none, (.conv .u32 (.tmp 22))⟩, ⟨(some 24), none, (.call 43 [(.tmp 23)])⟩, ⟨(some 25), none, (.bin .sub (.tmp 24) (.const (.one (.int .i64 1))))⟩, ⟨(some 4), none, (.mv (.tmp 25))⟩]) (.seq (.ops [⟨(some 26), none, (.mv (.tmp 0))⟩, ⟨(some 27), none, (.append (.ints .u8 []) 1 (.const (.one (.nils (.ints .u8 [])))) (.tmp 26))⟩, ⟨(some 28), none, (.mv (.tmp 0))⟩, ⟨(some 29), none, (.len (.tmp 28))⟩, ⟨(some 30), none, (.bin .sub (.tmp 29) (.const (.one (.int .i64 1))))⟩, ⟨(some 31), none, (.bin .mul (.const (.one (.int .i64 8))) (.tmp 30))⟩, ⟨(some 32), none, (.mv (.tmp 4))⟩, ⟨(some 33), none, (.bin .add (.tmp 31) (.tmp 32))⟩, ⟨(some 34), none, (.build [(.nil (.ints .u8 [])), (.sv (.int .i64 0))] [((0, 1), (.tmp 27)), ((1, 1), (.tmp 33))])⟩, ⟨(some 35), none, (.box (.tmp 34))⟩, ⟨(some 2), none, (.mv (.tmp 35))⟩, ⟨(some 3), none, (.mv (.const (.one (.bool true))))⟩]) .ret))))⟩
abbrev T44 : Nat → Callee := (upd none0 43 F43)
def F44 : Callee := evF T44 0 c44
theorem s44 : Sound Go.Proofs.Try.prog 44 F44 := fn_ok (upd_ok (none0_ok _) s43) mixed (by kernel_rfl)
def c86 : AF := ⟨[(4, none)],
  (.seq (.ops [⟨(some 4), none, (.mv (.const (.one (.int .u32 0))))⟩]) (.seq (.ops [⟨(some 5), none, (.mv (.tmp 0))⟩, ⟨(some 6), none, (.nilCheck (.tmp 5))⟩, ⟨(some 7), none, (.fadr 0 (.tmp 6))⟩, ⟨(some 8), none, (.load none (.tmp 7))⟩, ⟨(some 9), none, (.mv (.tmp 1))⟩, ⟨(some 10), none, (.bin .shr (.tmp 9) (.const (.one (.int .u64 3))))⟩, ⟨(some 11), none, (.iadrR 1 (.tmp 8) (.tmp 10))⟩, ⟨(some 12), none, (.load none (.tmp 11))⟩, ⟨(some 13), none, (.mv (.tmp 1))⟩, ⟨(some 14), none, (.bin .and (.tmp 13) (.const (.one (.int .i64 7))))⟩, ⟨(some 15), none, (.bin .shr (.tmp 12) (.tmp 14))⟩, ⟨(some 16), none, (.conv .u32 (.tmp 15))⟩, ⟨(some 17), none, (.bin .and (.tmp 16) (.const (.one (.int .u32 1))))⟩, ⟨(some 4), none, (.mv (.tmp 17))⟩]) .ret))⟩
abbrev T86 : Nat → Callee := none0
def F86 : Callee := evF T86 0 c86
theorem s86 : Sound Go.Proofs.Try.prog 86 F86 := fn_ok (none0_ok _) mixed (by kernel_rfl)
def b45x0 : AC := (.seq (.ops [⟨(some 27), none, (.bin .lss (.tmp 26) (.tmp 25))⟩]) (.seq (.cond (.tmp 27) .skip (.exit 0)) (.seq (.block 1 (.seq (.ops [⟨(some 28), none, (.mv (.tmp 0))⟩, ⟨(some 29), none, (.nilCheck (.tmp 28))⟩, ⟨(some 30), none, (.fadr 1 (.tmp 29))⟩, ⟨(some 31), none, (.load none (.tmp 30))⟩, ⟨(some 32), none, (.bin .sub (.tmp 31) (.const (.one (.int .i64 1))))⟩, ⟨(some 33), none, (.nilCheck (.tmp 28))⟩, ⟨(some 34), none, (.fadr 1 (.tmp 33))⟩, ⟨none, none, (.store 1 (.tmp 34) (.tmp 32))⟩]) (.ops [⟨(some 35), none, (.mv (.tmp 6))⟩, ⟨(some 36), none, (.bin .shl (.tmp 35) (.const (.one (.int .u64 1))))⟩, ⟨(some 37), none, (.mv (.tmp 0))⟩, ⟨(some 38), none, (.mv (.tmp 0))⟩, ⟨(some 39), none, (.nilCheck (.tmp 38))⟩, ⟨(some 40), none, (.fadr 1 (.tmp 39))⟩, ⟨(some 41), none, (.load none (.tmp 40))⟩, ⟨(some 42), none, (.call 86 [(.tmp 37), (.tmp 41)])⟩, ⟨(some 43), none, (.bin .or (.tmp 36) (.tmp 42))⟩, ⟨(some 6), none, (.mv (.tmp 43))⟩]))) (.ops [⟨(some 44), none, (.bin .add (.tmp 26) (.const (.one (.int .i64 1))))⟩, ⟨(some 26), none, (.mv (.tmp 44))⟩]))))
def c45 : AF := ⟨[(4, none), (5, none)],
  (.seq (.ops [⟨(some 4), none, (.mv (.const (.one (.int .u32 0))))⟩, ⟨(some 5), none, (.mv (.const (.one (.bool false))))⟩]) (.seq (.seq (.ops [⟨(some 7), none, (.mv (.tmp 0))⟩, ⟨(some 8), none, (.eqNil false (.tmp 7))⟩, ⟨(some 9), none, (.mv (.tmp 8))⟩, ⟨(some 10), (some (9, false)), (.mv (.tmp 1))⟩, ⟨(some 11), (some (9, false)), (.bin .lss (.tmp 10) (.const (.one (.int .i64 0))))⟩, ⟨(some 12), none, (.pick (.tmp 9) (.const (.one (.bool true))) (.tmp 11))⟩, ⟨(some 13), none, (.mv (.tmp 12))⟩, ⟨(some 14), (some (13, false)), (.mv (.tmp 1))⟩, ⟨(some 15), (some (13, false)), (.bin .gtr (.tmp 14) (.const (.one (.int .i64 32))))⟩, ⟨(some 16), none, (.pick (.tmp 13) (.const (.one (.bool true))) (.tmp 15))⟩, ⟨(some 17), none, (.mv (.tmp 16))⟩, ⟨(some 18), (some (17, false)), (.mv (.tmp 1))⟩, ⟨(some 19), (some (17, false)), (.mv (.tmp 0))⟩, ⟨(some 20), (some (17, false)), (.nilCheck (.tmp 19))⟩, ⟨(some 21), (some (17, false)), (.fadr 1 (.tmp 20))⟩, ⟨(some 22), (some (17, false)), (.load none (.tmp 21))⟩, ⟨(some 23), (some (17, false)), (.bin .gtr (.tmp 18) (.tmp 22))⟩, ⟨(some 24), none, (.pick (.tmp 17) (.const (.one (.bool true))) (.tmp 23))⟩]) (.cond (.tmp 24) (.seq (.ops [⟨(some 4), none, (.mv (.const (.one (.int .u32 0))))⟩, ⟨(some 5), none, (.mv (.const (.one (.bool false))))⟩]) .ret) .skip)) (.seq (.ops [⟨(some 6), none, (.mv (.const (.one (.int .u32 0))))⟩]) (.seq (.seq (.ops [⟨(some 25), none, (.mv (.tmp 1))⟩, ⟨(some 26), none, (.mv (.const (.one (.int .i64 0))))⟩]) (.block 0 (.loop [0, 6, 25, 26] b45x0))) (.seq (.ops [⟨(some 45), none, (.mv (.tmp 6))⟩, ⟨(some 4), none, (.mv (.tmp 45))⟩, ⟨(some 5), none, (.mv (.const (.one (.bool true))))⟩]) .ret)))))⟩
abbrev T45 : Nat → Callee := (upd none0 86 F86)
def F45 : Callee := evF T45 KK c45
theorem s45 : Sound Go.Proofs.Try.prog 45 F45 := fn_ok (upd_ok (none0_ok _) s86) mixed (by kernel_rfl)
def c46 : AF := ⟨[(2, none)],
  (.seq (.ops [⟨(some 2), none, (.mv (.const (.one (.int .i64 0))))⟩]) (.seq (.seq (.ops [⟨(some 3), none, (.mv (.tmp 0))⟩, ⟨(some 4), none, (.eqNil false (.tmp 3))⟩]) (.cond (.tmp 4) (.seq (.ops [⟨(some 2), none, (.mv (.const (.one (.int .i64 0))))⟩]) .ret) .skip)) (.seq (.ops [⟨(some 5), none, (.mv (.tmp 0))⟩, ⟨(some 6), none, (.nilCheck (.tmp 5))⟩, ⟨(some 7), none, (.fadr 0 (.tmp 6))⟩, ⟨(some 8), none, (.load none (.tmp 7))⟩, ⟨(some 2), none, (.mv (.tmp 8))⟩]) .ret)))⟩
abbrev T46 : Nat → Callee := none0
def F46 : Callee := evF T46 0 c46
theorem s46 : Sound Go.Proofs.Try.prog 46 F46 := fn_ok (none0_ok _) mixed (by kernel_rfl)
def c101 : AF := ⟨[(2, none)],
  (.seq (.ops [⟨(some 2), none, (.mv (.const (.one (.int .i64 0))))⟩]) (.seq (.seq (.ops [⟨(some 3), none, (.mv (.tmp 0))⟩, ⟨(some 4), none, (.eqNil false (.tmp 3))⟩]) (.cond (.tmp 4) (.seq (.ops [⟨(some 2), none, (.mv (.const (.one (.int .i64 0))))⟩]) .ret) .skip)) (.seq (.ops [⟨(some 5), none, (.mv (.tmp 0))⟩, ⟨(some 6), none, (.nilCheck (.tmp 5))⟩, ⟨(some 7), none, (.fadr 1 (.tmp 6))⟩, ⟨(some 8), none, (.load none (.tmp 7))⟩, ⟨(some 9), none, (.len (.tmp 8))⟩, ⟨(some 2), none, (.mv (.tmp 9))⟩]) .ret)))⟩
abbrev T101 : Nat → Callee := none0
def F101 : Callee := evF T101 0 c101
theorem s101 : Sound Go.Proofs.Try.prog 101 F101 := fn_ok (none0_ok _) mixed (by kernel_rfl)
def c87 : AF := ⟨[(4, none)],
  (.seq (.ops [⟨(some 4), none, (.mv (.const (.one (.bool false))))⟩]) (.seq (.ops [⟨(some 5), none, (.mv (.tmp 1))⟩, ⟨(some 6), none, (.bin .geq (.tmp 5) (.const (.one (.int .i64 0))))⟩, ⟨(some 7), none, (.mv (.tmp 6))⟩, ⟨(some 8), (some (7, true)), (.mv (.tmp 1))⟩, ⟨(some 9), (some (7, true)), (.mv (.tmp 0))⟩, ⟨(some 10), (some (7, true)), (.call 101 [(.tmp 9)])⟩, ⟨(some 11), (some (7, true)), (.bin .lss (.tmp 8) (.tmp 10))⟩, ⟨(some 12), none, (.pick (.tmp 7) (.tmp 11) (.const (.one (.bool false))))⟩, ⟨(some 4), none, (.mv (.tmp 12))⟩]) .ret))⟩
abbrev T87 : Nat → Callee := (upd none0 101 F101)
def F87 : Callee := evF T87 0 c87
theorem s87 : Sound Go.Proofs.Try.prog 87 F87 := fn_ok (upd_ok (none0_ok _) s101) mixed (by kernel_rfl)
def c47 : AF := ⟨[(4, (some (some 3))), (5, none)],
  (.seq (.ops [⟨(some 4), none, (.alloc [(.sv (.int .u8 0)), (.sv (.int .i64 0)), (.sv (.int .i64 0))])⟩, ⟨(some 5), none, (.mv (.const (.one (.bool false))))⟩]) (.seq (.seq (.ops [⟨(some 6), none, (.mv (.tmp 0))⟩, ⟨(some 7), none, (.mv (.tmp 1))⟩, ⟨(some 8), none, (.call 87 [(.tmp 6), (.tmp 7)])⟩, ⟨(some 9), none, (.un .not (.tmp 8))⟩]) (.cond (.tmp 9) (.seq (.ops [⟨(some 10), none, (.build [(.sv (.int .u8 0)), (.sv (.int .i64 0)), (.sv (.int .i64 0))] [])⟩, ⟨none, none, (.store 3 (.tmp 4) (.tmp 10))⟩, ⟨(some 5), none, (.mv (.const (.one (.bool false))))⟩]) .ret) .skip)) (.seq (.ops [⟨(some 11), none, (.mv (.tmp 0))⟩, ⟨(some 12), none, (.nilCheck (.tmp 11))⟩, ⟨(some 13), none, (.fadr 1 (.tmp 12))⟩, ⟨(some 14), none, (.load none (.tmp 13))⟩, ⟨(some 15), none, (.mv (.tmp 1))⟩, ⟨(some 16), none, (.iadrR 3 (.tmp 14) (.tmp 15))⟩, ⟨(some 17), none, (.load (some 3) (.tmp 16))⟩, ⟨none, none, (.store 3 (.tmp 4) (.tmp 17))⟩, ⟨(some 5), none, (.mv (.const (.one (.bool true))))⟩]) .ret)))⟩
abbrev T47 : Nat → Callee := (upd none0 87 F87)
def F47 : Callee := evF T47 0 c47
theorem s47 : Sound Go.Proofs.Try.prog 47 F47 := fn_ok (upd_ok (none0_ok _) s87) mixed (by kernel_rfl)
def c48 : AF := ⟨[(6, none), (7, none)],
  (.seq (.ops [⟨(some 6), none, (.mv (.const (.one (.int .i64 0))))⟩, ⟨(some 7), none, (.mv (.const (.one (.bool false))))⟩]) (.seq (.ops [⟨(some 11), none, (.mv (.tmp 0))⟩, ⟨(some 12), none, (.mv (.tmp 1))⟩, ⟨(some 13), none, (.call 47 [(.tmp 11), (.tmp 12)])⟩, ⟨(some 10), none, (.mv (.tmp 13))⟩, ⟨(some 14), none, (.extract 0 (.tmp 10))⟩, ⟨(some 15), none, (.extract 1 (.tmp 10))⟩, ⟨(some 8), none, (.alloc [(.sv (.int .u8 0)), (.sv (.int .i64 0)), (.sv (.int .i64 0))])⟩, ⟨none, none, (.store 3 (.tmp 8) (.tmp 14))⟩, ⟨(some 9), none, (.mv (.tmp 15))⟩]) (.seq (.seq (.ops [⟨(some 16), none, (.mv (.tmp 9))⟩, ⟨(some 17), none, (.un .not (.tmp 16))⟩, ⟨(some 18), none, (.mv (.tmp 17))⟩, ⟨(some 19), (some (18, false)), (.mv (.tmp 2))⟩, ⟨(some 20), (some (18, false)), (.bin .lss (.tmp 19) (.const (.one (.int .i64 0))))⟩, ⟨(some 21), none, (.pick (.tmp 18) (.const (.one (.bool true))) (.tmp 20))⟩, ⟨(some 22), none, (.mv (.tmp 21))⟩, ⟨(some 23), (some (22, false)), (.mv (.tmp 2))⟩, ⟨(some 24), (some (22, false)), (.fadr 1 (.tmp 8))⟩, ⟨(some 25), (some (22, false)), (.load none (.tmp 24))⟩, ⟨(some 26), (some (22, false)), (.bin .shl (.const (.one (.int .i64 1))) (.tmp 25))⟩, ⟨(some 27), (some (22, false)), (.bin .geq (.tmp 23) (.tmp 26))⟩, ⟨(some 28), none, (.pick (.tmp 22) (.const (.one (.bool true))) (.tmp 27))⟩]) (.cond (.tmp 28) (.seq (.ops [⟨(some 6), none, (.mv (.const (.one (.int .i64 0))))⟩, ⟨(some 7), none, (.mv (.const (.one (.bool false))))⟩]) .ret) .skip)) (.seq (.ops [⟨(some 29), none, (.fadr 2 (.tmp 8))⟩, ⟨(some 30), none, (.load none (.tmp 29))⟩, ⟨(some 31), none, (.mv (.tmp 2))⟩, ⟨(some 32), none, (.bin .add (.tmp 30) (.tmp 31))⟩, ⟨(some 6), none, (.mv (.tmp 32))⟩, ⟨(some 7), none, (.mv (.const (.one (.bool true))))⟩]) .ret))))⟩
abbrev T48 : Nat → Callee := (upd none0 47 F47)
def F48 : Callee := evF T48 0 c48
theorem s48 : Sound Go.Proofs.Try.prog 48 F48 := fn_ok (upd_ok (none0_ok _) s47) mixed (by kernel_rfl)
def c49 : AF := ⟨[(2, none)],
  (.seq (.ops [⟨(some 2), none, (.mv (.const (.one (.int .i64 0))))⟩]) (.seq (.seq (.ops [⟨(some 3), none, (.mv (.tmp 0))⟩, ⟨(some 4), none, (.eqNil false (.tmp 3))⟩]) (.cond (.tmp 4) (.seq (.ops [⟨(some 2), none, (.mv (.const (.one (.int .i64 0))))⟩]) .ret) .skip)) (.seq (.ops [⟨(some 5), none, (.mv (.tmp 0))⟩, ⟨(some 6), none, (.nilCheck (.tmp 5))⟩, ⟨(some 7), none, (.fadr 1 (.tmp 6))⟩, ⟨(some 8), none, (.load none (.tmp 7))⟩, ⟨(some 2), none, (.mv (.tmp 8))⟩]) .ret)))⟩
abbrev T49 : Nat → Callee := none0
def F49 : Callee := evF T49 0 c49
theorem s49 : Sound Go.Proofs.Try.prog 49 F49 := fn_ok (none0_ok _) mixed (by kernel_rfl)
def b18x0 : AC := (.seq (.ops [⟨(some 49), none, (.bin .lss (.tmp 48) (.tmp 47))⟩]) (.seq (.cond (.tmp 49) .skip (.exit 0)) (.seq (.block 1 (.seq (.ops [⟨(some 51), none, (.mv (.tmp 0))⟩, ⟨(some 52), none, (.mv (.tmp 11))⟩, ⟨(some 53), none, (.call 47 [(.tmp 51), (.tmp 52)])⟩, ⟨(some 50), none, (.mv (.tmp 53))⟩, ⟨(some 54), none, (.extract 0 (.tmp 50))⟩, ⟨(some 55), none, (.extract 1 (.tmp 50))⟩, ⟨(some 13), none, (.alloc [(.sv (.int .u8 0)), (.sv (.int .i64 0)), (.sv (.int .i64 0))])⟩, ⟨none, none, (.store 3 (.tmp 13) (.tmp 54))⟩, ⟨(some 14), none, (.mv (.tmp 55))⟩]) (.seq (.ops [⟨(some 57), none, (.mv (.tmp 8))⟩, ⟨(some 58), none, (.fadr 1 (.tmp 13))⟩, ⟨(some 59), none, (.load none (.tmp 58))⟩, ⟨(some 60), none, (.call 45 [(.tmp 57), (.tmp 59)])⟩, ⟨(some 56), none, (.mv (.tmp 60))⟩, ⟨(some 61), none, (.extract 0 (.tmp 56))⟩, ⟨(some 62), none, (.extract 1 (.tmp 56))⟩, ⟨(some 15), none, (.mv (.tmp 61))⟩, ⟨(some 16), none, (.mv (.tmp 62))⟩]) (.seq (.seq (.ops [⟨(some 63), none, (.mv (.tmp 16))⟩, ⟨(some 64), none, (.un .not (.tmp 63))⟩]) (.cond (.tmp 64) (.seq (.ops [⟨(some 6), none, (.newNil (.ints .u8 []))⟩, ⟨(some 7), none, (.mv (.const (.one (.bool false))))⟩]) .ret) .skip)) (.seq (.ops [⟨(some 65), none, (.mv (.tmp 12))⟩, ⟨(some 66), none, (.fadr 0 (.tmp 13))⟩, ⟨(some 67), none, (.load none (.tmp 66))⟩, ⟨(some 68), none, (.bslice (.ints .u8 []) [(.int .u8 0)] 1 [(0, (.tmp 67))])⟩, ⟨(some 69), none, (.append (.ints .u8 []) 1 (.tmp 65) (.tmp 68))⟩, ⟨(some 12), none, (.mv (.tmp 69))⟩]) (.ops [⟨(some 71), none, (.mv (.tmp 0))⟩, ⟨(some 72), none, (.mv (.tmp 11))⟩, ⟨(some 73), none, (.mv (.tmp 15))⟩, ⟨(some 74), none, (.conv .i64 (.tmp 73))⟩, ⟨(some 75), none, (.call 48 [(.tmp 71), (.tmp 72), (.tmp 74)])⟩, ⟨(some 70), none, (.mv (.tmp 75))⟩, ⟨(some 76), none, (.extract 0 (.tmp 70))⟩, ⟨(some 77), none, (.extract 1 (.tmp 70))⟩, ⟨(some 11), none, (.mv (.tmp 76))⟩])))))) (.ops [⟨(some 78), none, (.bin .add (.tmp 48) (.const (.one (.int .i64 1))))⟩, ⟨(some 48), none, (.mv (.tmp 78))⟩]))))
def c18 : AF := ⟨[(6, none), (7, none)],
  (.seq (.ops [⟨(some 6), none, (.newNil (.ints .u8 []))⟩, ⟨(some 7), none, (.mv (.const (.one (.bool false))))⟩]) (.seq (.ops [⟨(some 18), none, (.mv (.tmp 1))⟩, ⟨(some 19), none, (.call 44 [(.tmp 18)])⟩, ⟨(some 17), none, (.mv (.tmp 19))⟩, ⟨(some 20), none, (.extract 0 (.tmp 17))⟩, ⟨(some 21), none, (.extract 1 (.tmp 17))⟩, ⟨(some 8), none, (.mv (.tmp 20))⟩, ⟨(some 9), none, (.mv (.tmp 21))⟩]) (.seq (.seq (.ops [⟨(some 22), none, (.mv (.tmp 9))⟩, ⟨(some 23), none, (.un .not (.tmp 22))⟩, ⟨(some 24), none, (.mv (.tmp 23))⟩, ⟨(some 25), (some (24, false)), (.mv (.tmp 0))⟩, ⟨(some 26), (some (24, false)), (.eqNil false (.tmp 25))⟩, ⟨(some 27), none, (.pick (.tmp 24) (.const (.one (.bool true))) (.tmp 26))⟩, ⟨(some 28), none, (.mv (.tmp 27))⟩, ⟨(some 29), (some (28, false)), (.mv (.tmp 2))⟩, ⟨(some 30), (some (28, false)), (.bin .lss (.tmp 29) (.const (.one (.int .i64 0))))⟩, ⟨(some 31), none, (.pick (.tmp 28) (.const (.one (.bool true))) (.tmp 30))⟩, ⟨(some 32), none, (.mv (.tmp 31))⟩, ⟨(some 33), (some (32, false)), (.mv (.tmp 2))⟩, ⟨(some 34), (some (32, false)), (.bin .gtr (.tmp 33) (.const (.one (.int .i64 1048576))))⟩, ⟨(some 35), none, (.pick (.tmp 32) (.const (.one (.bool true))) (.tmp 34))⟩]) (.cond (.tmp 35) (.seq (.ops [⟨(some 6), none, (.newNil (.ints .u8 []))⟩, ⟨(some 7), none, (.mv (.const (.one (.bool false))))⟩]) .ret) .skip)) (.seq (.ops [⟨(some 37), none, (.mv (.tmp 8))⟩, ⟨(some 38), none, (.mv (.tmp 0))⟩, ⟨(some 39), none, (.call 46 [(.tmp 38)])⟩, ⟨(some 40), none, (.call 45 [(.tmp 37), (.tmp 39)])⟩, ⟨(some 36), none, (.mv (.tmp 40))⟩, ⟨(some 41), none, (.extract 0 (.tmp 36))⟩, ⟨(some 42), none, (.extract 1 (.tmp 36))⟩, ⟨(some 10), none, (.mv (.tmp 41))⟩, ⟨(some 9), none, (.mv (.tmp 42))⟩]) (.seq (.seq (.ops [⟨(some 43), none, (.mv (.tmp 9))⟩, ⟨(some 44), none, (.un .not (.tmp 43))⟩]) (.cond (.tmp 44) (.seq (.ops [⟨(some 6), none, (.newNil (.ints .u8 []))⟩, ⟨(some 7), none, (.mv (.const (.one (.bool false))))⟩]) .ret) .skip)) (.seq (.ops [⟨(some 45), none, (.mv (.tmp 10))⟩, ⟨(some 46), none, (.conv .i64 (.tmp 45))⟩, ⟨(some 11), none, (.mv (.tmp 46))⟩]) (.seq (.ops [⟨(some 12), none, (.newNil (.ints .u8 []))⟩]) (.seq (.seq (.ops [⟨(some 47), none, (.mv (.tmp 2))⟩, ⟨(some 48), none, (.mv (.const (.one (.int .i64 0))))⟩]) (.block 0 (.loop [0, 8, 11, 12, 47, 48] b18x0))) (.seq (.seq (.ops [⟨(some 79), none, (.mv (.tmp 11))⟩, ⟨(some 80), none, (.bin .neq (.tmp 79) (.const (.one (.int .i64 0))))⟩, ⟨(some 81), none, (.mv (.tmp 80))⟩, ⟨(some 82), (some (81, false)), (.mv (.tmp 8))⟩, ⟨(some 83), (some (81, false)), (.call 49 [(.tmp 82)])⟩, ⟨(some 84), (some (81, false)), (.bin .gtr (.tmp 83) (.const (.one (.int .i64 0))))⟩, ⟨(some 85), none, (.pick (.tmp 81) (.const (.one (.bool true))) (.tmp 84))⟩]) (.cond (.tmp 85) (.seq (.ops [⟨(some 6), none, (.newNil (.ints .u8 []))⟩, ⟨(some 7), none, (.mv (.const (.one (.bool false))))⟩]) .ret) .skip)) (.seq (.ops [⟨(some 86), none, (.mv (.tmp 12))⟩, ⟨(some 6), none, (.mv (.tmp 86))⟩, ⟨(some 7), none, (.mv (.const (.one (.bool true))))⟩]) .ret))))))))))⟩
abbrev T18 : Nat → Callee := (upd (upd (upd (upd (upd (upd none0 44 F44) 45 F45) 46 F46) 47 F47) 48 F48) 49 F49)
def F18 : Callee := evF T18 KK c18
theorem s18 : Sound Go.Proofs.Try.prog 18 F18 := fn_ok (upd_ok (upd_ok (upd_ok (upd_ok (upd_ok (upd_ok (none0_ok _) s44) s45) s46) s47) s48) s49) mixed (by kernel_rfl)
def c91 : AF := ⟨[(2, none)],
  (.seq (.ops [⟨(some 2), none, (.mv (.const (.one (.bool false))))⟩]) (.seq (.ops [⟨(some 3), none, (.mv (.tmp 0))⟩, ⟨(some 4), none, (.bin .geq (.tmp 3) (.const (.one (.int .i64 0))))⟩, ⟨(some 5), none, (.mv (.tmp 4))⟩, ⟨(some 6), (some (5, true)), (.mv (.tmp 0))⟩, ⟨(some 7), (some (5, true)), (.bin .leq (.tmp 6) (.const (.one (.int .i64 32))))⟩, ⟨(some 8), none, (.pick (.tmp 5) (.tmp 7) (.const (.one (.bool false))))⟩, ⟨(some 2), none, (.mv (.tmp 8))⟩]) .ret))⟩
abbrev T91 : Nat → Callee := none0
def F91 : Callee := evF T91 0 c91
theorem s91 : Sound Go.Proofs.Try.prog 91 F91 := fn_ok (none0_ok _) mixed (by kernel_rfl)
def b55x0 : AC := (.seq (.seq (.ops [⟨(some 16), none, (.mv (.tmp 2))⟩, ⟨(some 17), none, (.bin .gtr (.tmp 16) (.const (.one (.int .i64 0))))⟩]) (.cond (.tmp 17) .skip (.exit 0))) (.block 1 (.seq (.ops [⟨(some 18), none, (.mv (.tmp 0))⟩, ⟨(some 19), none, (.nilCheck (.tmp 18))⟩, ⟨(some 20), none, (.fadr 1 (.tmp 19))⟩, ⟨(some 21), none, (.load none (.tmp 20))⟩, ⟨(some 22), none, (.bin .and (.tmp 21) (.const (.one (.int .i64 7))))⟩, ⟨(some 7), none, (.mv (.tmp 22))⟩]) (.seq (.seq (.ops [⟨(some 23), none, (.mv (.tmp 7))⟩, ⟨(some 24), none, (.bin .eql (.tmp 23) (.const (.one (.int .i64 0))))⟩]) (.cond (.tmp 24) (.ops [⟨(some 25), none, (.mv (.tmp 0))⟩, ⟨(some 26), none, (.mv (.tmp 0))⟩, ⟨(some 27), none, (.nilCheck (.tmp 26))⟩, ⟨(some 28), none, (.fadr 0 (.tmp 27))⟩, ⟨(some 29), none, (.load none (.tmp 28))⟩, ⟨(some 30), none, (.bslice (.ints .u8 []) [(.int .u8 0)] 1 [(0, (.const (.one (.int .u8 0))))])⟩, ⟨(some 31), none, (.append (.ints .u8 []) 1 (.tmp 29) (.tmp 30))⟩, ⟨(some 32), none, (.nilCheck (.tmp 25))⟩, ⟨(some 33), none, (.fadr 0 (.tmp 32))⟩, ⟨none, none, (.store 1 (.tmp 33) (.tmp 31))⟩]) .skip)) (.seq (.ops [⟨(some 34), none, (.mv (.tmp 2))⟩, ⟨(some 35), none, (.mv (.tmp 7))⟩, ⟨(some 36), none, (.bin .sub (.const (.one (.int .i64 8))) (.tmp 35))⟩, ⟨(some 37), none, (.min [(.tmp 34), (.tmp 36)])⟩, ⟨(some 8), none, (.mv (.tmp 37))⟩]) (.seq (.opsD [(⟨(some 38), none, (.mv (.tmp 0))⟩, false), (⟨(some 39), none, (.nilCheck (.tmp 38))⟩, false), (⟨(some 40), none, (.fadr 0 (.tmp 39))⟩, false), (⟨(some 41), none, (.load none (.tmp 40))⟩, false), (⟨(some 42), none, (.mv (.tmp 0))⟩, false), (⟨(some 43), none, (.nilCheck (.tmp 42))⟩, false), (⟨(some 44), none, (.fadr 0 (.tmp 43))⟩, false), (⟨(some 45), none, (.load none (.tmp 44))⟩, false), (⟨(some 46), none, (.len (.tmp 45))⟩, false), (⟨(some 47), none, (.bin .sub (.tmp 46) (.const (.one (.int .i64 1))))⟩, false), (⟨(some 48), none, (.iadrR 1 (.tmp 41) (.tmp 47))⟩, false), (⟨(some 49), none, (.load none (.tmp 48))⟩, false), (⟨(some 50), none, (.mv (.tmp 1))⟩, false), (⟨(some 51), none, (.mv (.tmp 8))⟩, false), (⟨(some 52), none, (.bin .shl (.const (.one (.int .u32 1))) (.tmp 51))⟩, false), (⟨(some 53), none, (.bin .sub (.tmp 52) (.const (.one (.int .u32 1))))⟩, false), (⟨(some 54), none, (.bin .and (.tmp 50) (.tmp 53))⟩, false), (⟨(some 55), none, (.conv .u8 (.tmp 54))⟩, false), (⟨(some 56), none, (.mv (.tmp 7))⟩, false), (⟨(some 57), none, (.bin .shl (.tmp 55) (.tmp 56))⟩, false), (⟨(some 58), none, (.bin .or (.tmp 49) (.tmp 57))⟩, false), (⟨(some 59), none, (.iadrR 1 (.tmp 41) (.tmp 47))⟩, false), (⟨none, none, (.store 1 (.tmp 59) (.tmp 58))⟩, true)] []) (.seq (.ops [⟨(some 60), none, (.mv (.tmp 1))⟩, ⟨(some 61), none, (.mv (.tmp 8))⟩, ⟨(some 62), none, (.bin .shr (.tmp 60) (.tmp 61))⟩, ⟨(some 1), none, (.mv (.tmp 62))⟩]) (.seq (.ops [⟨(some 63), none, (.mv (.tmp 0))⟩, ⟨(some 64), none, (.nilCheck (.tmp 63))⟩, ⟨(some 65), none, (.fadr 1 (.tmp 64))⟩, ⟨(some 66), none, (.load none (.tmp 65))⟩, ⟨(some 67), none, (.mv (.tmp 8))⟩, ⟨(some 68), none, (.bin .add (.tmp 66) (.tmp 67))⟩, ⟨(some 69), none, (.nilCheck (.tmp 63))⟩, ⟨(some 70), none, (.fadr 1 (.tmp 69))⟩, ⟨none, none, (.store 1 (.tmp 70) (.tmp 68))⟩]) (.ops [⟨(some 71), none, (.mv (.tmp 2))⟩, ⟨(some 72), none, (.mv (.tmp 8))⟩, ⟨(some 73), none, (.bin .sub (.tmp 71) (.tmp 72))⟩, ⟨(some 2), none, (.mv (.tmp 73))⟩])))))))))
def c55 : AF := ⟨[(6, none)],
  (.seq (.ops [⟨(some 6), none, (.mv (.const (.one (.bool false))))⟩]) (.seq (.seq (.ops [⟨(some 9), none, (.mv (.tmp 0))⟩, ⟨(some 10), none, (.eqNil false (.tmp 9))⟩, ⟨(some 11), none, (.mv (.tmp 10))⟩, ⟨(some 12), (some (11, false)), (.mv (.tmp 2))⟩, ⟨(some 13), (some (11, false)), (.call 91 [(.tmp 12)])⟩, ⟨(some 14), (some (11, false)), (.un .not (.tmp 13))⟩, ⟨(some 15), none, (.pick (.tmp 11) (.const (.one (.bool true))) (.tmp 14))⟩]) (.cond (.tmp 15) (.seq (.ops [⟨(some 6), none, (.mv (.const (.one (.bool false))))⟩]) .ret) .skip)) (.seq (.block 0 (.loop [0, 1, 2] b55x0)) (.seq (.ops [⟨(some 6), none, (.mv (.const (.one (.bool true))))⟩]) .ret))))⟩
abbrev T55 : Nat → Callee := (upd none0 91 F91)
def F55 : Callee := evF T55 KK c55
theorem s55 : Sound Go.Proofs.Try.prog 55 F55 := fn_ok (upd_ok (none0_ok _) s91) mixed (by kernel_rfl)
def c54 : AF := ⟨[],
  (.ops [⟨(some 5), none, (.mv (.tmp 0))⟩, ⟨(some 6), none, (.conv .u32 (.tmp 5))⟩, ⟨(some 7), none, (.mv (.tmp 1))⟩, ⟨(some 8), none, (.call 55 [(.tmp 2), (.tmp 6), (.tmp 7)])⟩])⟩
abbrev T54 : Nat → Callee := (upd none0 55 F55)
def F54 : Callee := evF T54 0 c54
theorem s54 : Sound Go.Proofs.Try.prog 54 F54 := fn_ok (upd_ok (none0_ok _) s55) mixed (by kernel_rfl)
def c70 : AF := ⟨[],
  (.ops [⟨(some 5), none, (.load none (.tmp 2))⟩, ⟨(some 6), none, (.mv (.tmp 1))⟩, ⟨(some 7), none, (.bin .add (.tmp 5) (.tmp 6))⟩, ⟨none, none, (.store 1 (.tmp 2) (.tmp 7))⟩])⟩
abbrev T70 : Nat → Callee := none0
def F70 : Callee := evF T70 0 c70
theorem s70 : Sound Go.Proofs.Try.prog 70 F70 := fn_ok (none0_ok _) mixed (by kernel_rfl)
def c89 : AF := ⟨[(2, none)],
  (.seq (.ops [⟨(some 1), none, (.box (.tmp 0))⟩, ⟨(some 2), none, (.mv (.const (.one .nilf)))⟩]) (.seq (.ops [⟨(some 3), none, (.mkfn 102 [(.tmp 1)])⟩, ⟨(some 2), none, (.mv (.tmp 3))⟩]) .ret))⟩
abbrev T89 : Nat → Callee := none0
def F89 : Callee := evF T89 0 c89
theorem s89 : Sound Go.Proofs.Try.prog 89 F89 := fn_ok (none0_ok _) mixed (by kernel_rfl)
def b90x0 : AC := (.seq (.seq (.ops [⟨(some 51), none, (.mv (.tmp 11))⟩, ⟨(some 52), none, (.mv (.tmp 12))⟩, ⟨(some 53), none, (.bin .shr (.tmp 51) (.tmp 52))⟩, ⟨(some 54), none, (.mv (.tmp 10))⟩, ⟨(some 55), none, (.bin .mul (.const (.one (.int .i64 2))) (.tmp 54))⟩, ⟨(some 56), none, (.bin .geq (.tmp 53) (.tmp 55))⟩]) (.cond (.tmp 56) .skip (.exit 0))) (.block 1 (.ops [⟨(some 57), none, (.mv (.tmp 12))⟩, ⟨(some 58), none, (.bin .add (.tmp 57) (.const (.one (.int .i64 1))))⟩, ⟨(some 12), none, (.mv (.tmp 58))⟩])))
def c90 : AF := ⟨[(6, none), (7, none), (8, none), (9, none)],
  (.seq (.ops [⟨(some 6), none, (.mv (.const (.one (.int .i64 0))))⟩, ⟨(some 7), none, (.mv (.const (.one (.int .i64 0))))⟩, ⟨(some 8), none, (.mv (.const (.one (.int .i64 0))))⟩, ⟨(some 9), none, (.mv (.const (.one (.bool false))))⟩]) (.seq (.seq (.ops [⟨(some 13), none, (.mv (.tmp 0))⟩, ⟨(some 14), none, (.mv (.tmp 1))⟩, ⟨(some 15), none, (.call 87 [(.tmp 13), (.tmp 14)])⟩, ⟨(some 16), none, (.un .not (.tmp 15))⟩, ⟨(some 17), none, (.mv (.tmp 16))⟩, ⟨(some 18), (some (17, false)), (.mv (.tmp 2))⟩, ⟨(some 19), (some (17, false)), (.conv .i64 (.tmp 18))⟩, ⟨(some 20), (some (17, false)), (.mv (.tmp 0))⟩, ⟨(some 21), (some (17, false)), (.nilCheck (.tmp 20))⟩, ⟨(some 22), (some (17, false)), (.fadr 2 (.tmp 21))⟩, ⟨(some 23), (some (17, false)), (.load none (.tmp 22))⟩, ⟨(some 24), (some (17, false)), (.len (.tmp 23))⟩, ⟨(some 25), (some (17, false)), (.bin .geq (.tmp 19) (.tmp 24))⟩, ⟨(some 26), none, (.pick (.tmp 17) (.const (.one (.bool true))) (.tmp 25))⟩, ⟨(some 27), none, (.mv (.tmp 26))⟩, ⟨(some 28), (some (27, false)), (.mv (.tmp 0))⟩, ⟨(some 29), (some (27, false)), (.nilCheck (.tmp 28))⟩, ⟨(some 30), (some (27, false)), (.fadr 2 (.tmp 29))⟩, ⟨(some 31), (some (27, false)), (.load none (.tmp 30))⟩, ⟨(some 32), (some (27, false)), (.mv (.tmp 2))⟩, ⟨(some 33), (some (27, false)), (.iadrR 1 (.tmp 31) (.tmp 32))⟩, ⟨(some 34), (some (27, false)), (.load none (.tmp 33))⟩, ⟨(some 35), (some (27, false)), (.bin .eql (.tmp 34) (.const (.one (.int .i64 0))))⟩, ⟨(some 36), none, (.pick (.tmp 27) (.const (.one (.bool true))) (.tmp 35))⟩]) (.cond (.tmp 36) (.seq (.ops [⟨(some 6), none, (.mv (.const (.one (.int .i64 0))))⟩, ⟨(some 7), none, (.mv (.const (.one (.int .i64 0))))⟩, ⟨(some 8), none, (.mv (.const (.one (.int .i64 0))))⟩, ⟨(some 9), none, (.mv (.const (.one (.bool false))))⟩]) .ret) .skip)) (.seq (.opsD [(⟨(some 37), none, (.mv (.tmp 0))⟩, false), (⟨(some 38), none, (.nilCheck (.tmp 37))⟩, false), (⟨(some 39), none, (.fadr 2 (.tmp 38))⟩, false), (⟨(some 40), none, (.load none (.tmp 39))⟩, false), (⟨(some 41), none, (.mv (.tmp 2))⟩, false), (⟨(some 42), none, (.iadrR 1 (.tmp 40) (.tmp 41))⟩, false), (⟨(some 43), none, (.load none (.tmp 42))⟩, false), (⟨(some 44), none, (.mv (.tmp 1))⟩, false), (⟨(some 45), none, (.mv (.tmp 0))⟩, false), (⟨(some 46), none, (.nilCheck (.tmp 45))⟩, false), (⟨(some 47), none, (.fadr 1 (.tmp 46))⟩, false), (⟨(some 48), none, (.load none (.tmp 47))⟩, false), (⟨(some 49), none, (.len (.tmp 48))⟩, false), (⟨(some 50), none, (.bin .add (.tmp 44) (.tmp 49))⟩, false), (⟨(some 10), none, (.mv (.tmp 43))⟩, false), (⟨(some 11), none, (.mv (.tmp 50))⟩, false)] []) (.seq (.ops [⟨(some 12), none, (.mv (.const (.one (.int .i64 0))))⟩]) (.seq (.block 0 (.loop [0, 2, 10, 11, 12] b90x0)) (.seq (.opsD [(⟨(some 59), none, (.mv (.tmp 0))⟩, false), (⟨(some 60), none, (.nilCheck (.tmp 59))⟩, false), (⟨(some 61), none, (.fadr 4 (.tmp 60))⟩, false), (⟨(some 62), none, (.load none (.tmp 61))⟩, false), (⟨(some 63), none, (.mv (.tmp 0))⟩, false), (⟨(some 64), none, (.nilCheck (.tmp 63))⟩, false), (⟨(some 65), none, (.fadr 3 (.tmp 64))⟩, false), (⟨(some 66), none, (.load none (.tmp 65))⟩, false), (⟨(some 67), none, (.mv (.tmp 2))⟩, false), (⟨(some 68), none, (.iadrR 1 (.tmp 66) (.tmp 67))⟩, false), (⟨(some 69), none, (.load none (.tmp 68))⟩, false), (⟨(some 70), none, (.mv (.tmp 11))⟩, false), (⟨(some 71), none, (.mv (.tmp 12))⟩, false), (⟨(some 72), none, (.bin .shr (.tmp 70) (.tmp 71))⟩, false), (⟨(some 73), none, (.bin .add (.tmp 69) (.tmp 72))⟩, false), (⟨(some 74), none, (.mv (.tmp 10))⟩, false), (⟨(some 75), none, (.bin .sub (.tmp 73) (.tmp 74))⟩, false), (⟨(some 76), none, (.iadrR 1 (.tmp 62) (.tmp 75))⟩, false), (⟨(some 77), none, (.load none (.tmp 76))⟩, false), (⟨(some 78), none, (.mv (.tmp 11))⟩, false), (⟨(some 79), none, (.mv (.tmp 12))⟩, false), (⟨(some 80), none, (.bin .shl (.const (.one (.int .i64 1))) (.tmp 79))⟩, false), (⟨(some 81), none, (.bin .sub (.tmp 80) (.const (.one (.int .i64 1))))⟩, false), (⟨(some 82), none, (.bin .and (.tmp 78) (.tmp 81))⟩, false), (⟨(some 83), none, (.mv (.tmp 12))⟩, false), (⟨(some 6), none, (.mv (.tmp 77))⟩, false), (⟨(some 7), none, (.mv (.tmp 82))⟩, false), (⟨(some 8), none, (.mv (.tmp 83))⟩, false), (⟨(some 9), none, (.mv (.const (.one (.bool true))))⟩, false)] []) .ret))))))⟩
abbrev T90 : Nat → Callee := (upd none0 87 F87)
def F90 : Callee := evF T90 KK c90
theorem s90 : Sound Go.Proofs.Try.prog 90 F90 := fn_ok (upd_ok (none0_ok _) s87) mixed (by kernel_rfl)
def pA53 : AC := (.ops [⟨(some 3), none, (.box (.tmp 0))⟩, ⟨(some 5), none, (.box (.tmp 2))⟩, ⟨(some 6), none, (.alloc [(.sv (.int .i64 0))])⟩, ⟨(some 7), none, (.alloc [(.sv (.bool false))])⟩])
def pB53 : AC := (.ops [⟨(some 8), none, (.alloc [(.sv (.int .i64 0))])⟩, ⟨none, none, (.store 1 (.tmp 8) (.const (.one (.int .i64 0))))⟩])
def pC53 : AC := (.ops [⟨(some 15), none, (.mv (.tmp 1))⟩, ⟨(some 16), none, (.call 89 [(.tmp 15)])⟩])
def bd53 : AC := (.block 1 (.seq (.ops [⟨(some 20), none, (.load none (.tmp 3))⟩, ⟨(some 21), none, (.load none (.tmp 8))⟩, ⟨(some 22), none, (.mv (.tmp 10))⟩, ⟨(some 23), none, (.call 90 [(.tmp 20), (.tmp 21), (.tmp 22)])⟩, ⟨(some 19), none, (.mv (.tmp 23))⟩, ⟨(some 24), none, (.extract 0 (.tmp 19))⟩, ⟨(some 25), none, (.extract 1 (.tmp 19))⟩, ⟨(some 26), none, (.extract 2 (.tmp 19))⟩, ⟨(some 27), none, (.extract 3 (.tmp 19))⟩, ⟨(some 11), none, (.mv (.tmp 24))⟩, ⟨(some 12), none, (.mv (.tmp 25))⟩, ⟨(some 13), none, (.mv (.tmp 26))⟩, ⟨(some 14), none, (.mv (.tmp 27))⟩]) (.seq (.seq (.ops [⟨(some 28), none, (.mv (.tmp 14))⟩, ⟨(some 29), none, (.un .not (.tmp 28))⟩]) (.cond (.tmp 29) (.seq (.ops [⟨none, none, (.store 1 (.tmp 6) (.const (.one (.int .i64 0))))⟩, ⟨none, none, (.store 1 (.tmp 7) (.const (.one (.bool false))))⟩]) .ret) .skip)) (.seq (.ops [⟨(some 30), none, (.load none (.tmp 5))⟩, ⟨(some 31), none, (.mv (.tmp 12))⟩, ⟨(some 32), none, (.mv (.tmp 13))⟩, ⟨(some 33), none, (.callv (.tmp 30) [(.tmp 31), (.tmp 32)])⟩]) (.ops [⟨(some 34), none, (.mv (.tmp 11))⟩, ⟨none, none, (.store 1 (.tmp 8) (.tmp 34))⟩])))))
def z53 : AC := (.seq (.opsD [(⟨(some 35), none, (.load none (.tmp 8))⟩, false), (⟨(some 36), none, (.load none (.tmp 3))⟩, false), (⟨(some 37), none, (.eqNil true (.tmp 36))⟩, false), (⟨none, none, (.store 1 (.tmp 6) (.tmp 35))⟩, true), (⟨none, none, (.store 1 (.tmp 7) (.tmp 37))⟩, true)] [(1, [1])]) .ret)
abbrev T53 : Nat → Callee := (upd (upd (upd (upd none0 54 F54) 70 F70) 89 F89) 90 F90)
def F53 : Callee := evR T53 0 pA53 pB53 pC53 102 16 [3, 5, 6, 7, 8, 16] [3, 5, 6, 7, 8] 10 bd53 [3, 6, 7, 8] z53 [(6, some none), (7, some none)]
theorem s53 : Sound Go.Proofs.Try.prog 53 F53 :=
  fnR_ok (upd_ok (upd_ok (upd_ok (upd_ok (none0_ok _) s54) s70) s89) s90) mixed Go.Proofs.Try.func53 rfl (by kernel_rfl) (by decide) (by kernel_rfl) (by kernel_rfl) (by kernel_rfl) (by kernel_rfl) (by kernel_rfl) (by kernel_rfl) (by kernel_rfl) (by decide) (by decide) (by decide) (by decide) (asn_ok rfl rfl rfl) (by kernel_rfl) Go.Proofs.Try.it102
def c92 : AF := ⟨[(2, none)],
  (.seq (.ops [⟨(some 2), none, (.newNil (.ints .u8 []))⟩]) (.seq (.seq (.ops [⟨(some 3), none, (.mv (.tmp 0))⟩, ⟨(some 4), none, (.eqNil false (.tmp 3))⟩]) (.cond (.tmp 4) (.seq (.ops [⟨(some 2), none, (.newNil (.ints .u8 []))⟩]) .ret) .skip)) (.seq (.ops [⟨(some 5), none, (.mv (.tmp 0))⟩, ⟨(some 6), none, (.nilCheck (.tmp 5))⟩, ⟨(some 7), none, (.fadr 0 (.tmp 6))⟩, ⟨(some 8), none, (.load none (.tmp 7))⟩, ⟨(some 9), none, (.append (.ints .u8 []) 1 (.const (.one (.nils (.ints .u8 [])))) (.tmp 8))⟩, ⟨(some 2), none, (.mv (.tmp 9))⟩]) .ret)))⟩
abbrev T92 : Nat → Callee := none0
def F92 : Callee := evF T92 0 c92
theorem s92 : Sound Go.Proofs.Try.prog 92 F92 := fn_ok (none0_ok _) mixed (by kernel_rfl)
def c93 : AF := ⟨[(2, none)],
  (.seq (.ops [⟨(some 2), none, (.mv (.const (.one (.int .i64 0))))⟩]) (.seq (.seq (.ops [⟨(some 3), none, (.mv (.tmp 0))⟩, ⟨(some 4), none, (.eqNil false (.tmp 3))⟩]) (.cond (.tmp 4) (.seq (.ops [⟨(some 2), none, (.mv (.const (.one (.int .i64 0))))⟩]) .ret) .skip)) (.seq (.ops [⟨(some 5), none, (.mv (.tmp 0))⟩, ⟨(some 6), none, (.nilCheck (.tmp 5))⟩, ⟨(some 7), none, (.fadr 1 (.tmp 6))⟩, ⟨(some 8), none, (.load none (.tmp 7))⟩, ⟨(some 2), none, (.mv (.tmp 8))⟩]) .ret)))⟩
abbrev T93 : Nat → Callee := none0
def F93 : Callee := evF T93 0 c93
theorem s93 : Sound Go.Proofs.Try.prog 93 F93 := fn_ok (none0_ok _) mixed (by kernel_rfl)
def c56 : AF := ⟨[(2, none)],
  (.seq (.ops [⟨(some 2), none, (.newNil (.ints .u8 []))⟩]) (.seq (.ops [⟨(some 5), none, (.mv (.tmp 0))⟩, ⟨(some 6), none, (.call 92 [(.tmp 5)])⟩, ⟨(some 7), none, (.mv (.tmp 0))⟩, ⟨(some 8), none, (.call 93 [(.tmp 7)])⟩, ⟨(some 3), none, (.mv (.tmp 6))⟩, ⟨(some 4), none, (.mv (.tmp 8))⟩]) (.seq (.seq (.ops [⟨(some 9), none, (.mv (.tmp 4))⟩, ⟨(some 10), none, (.bin .and (.tmp 9) (.const (.one (.int .i64 7))))⟩, ⟨(some 11), none, (.bin .eql (.tmp 10) (.const (.one (.int .i64 0))))⟩]) (.cond (.tmp 11) (.ops [⟨(some 12), none, (.mv (.tmp 3))⟩, ⟨(some 13), none, (.bslice (.ints .u8 []) [(.int .u8 0)] 1 [(0, (.const (.one (.int .u8 0))))])⟩, ⟨(some 14), none, (.append (.ints .u8 []) 1 (.tmp 12) (.tmp 13))⟩, ⟨(some 3), none, (.mv (.tmp 14))⟩]) .skip)) (.seq (.opsD [(⟨(some 15), none, (.mv (.tmp 3))⟩, false), (⟨(some 16), none, (.mv (.tmp 4))⟩, false), (⟨(some 17), none, (.bin .shr (.tmp 16) (.const (.one (.int .u64 3))))⟩, false), (⟨(some 18), none, (.iadrR 1 (.tmp 15) (.tmp 17))⟩, false), (⟨(some 19), none, (.load none (.tmp 18))⟩, false), (⟨(some 20), none, (.mv (.tmp 4))⟩, false), (⟨(some 21), none, (.bin .and (.tmp 20) (.const (.one (.int .i64 7))))⟩, false), (⟨(some 22), none, (.bin .shl (.const (.one (.int .u8 1))) (.tmp 21))⟩, false), (⟨(some 23), none, (.bin .or (.tmp 19) (.tmp 22))⟩, false), (⟨(some 24), none, (.iadrR 1 (.tmp 15) (.tmp 17))⟩, false), (⟨none, none, (.store 1 (.tmp 24) (.tmp 23))⟩, true)] []) (.seq (.ops [⟨(some 25), none, (.mv (.tmp 3))⟩, ⟨(some 2), none, (.mv (.tmp 25))⟩]) .ret)))))⟩
abbrev T56 : Nat → Callee := (upd (upd none0 92 F92) 93 F93)
def F56 : Callee := evF T56 0 c56
theorem s56 : Sound Go.Proofs.Try.prog 56 F56 := fn_ok (upd_ok (upd_ok (none0_ok _) s92) s93) mixed (by kernel_rfl)
def c21 : AF := ⟨[(4, none), (5, none)],
  (.seq (.ops [⟨(some 4), none, (.newNil (.ints .u8 []))⟩, ⟨(some 5), none, (.mv (.const (.one (.bool false))))⟩]) (.seq (.ops [⟨(some 6), none, (.alloc [(.nil (.ints .u8 [])), (.sv (.int .i64 0))])⟩]) (.seq (.ops [⟨(some 10), none, (.mv (.tmp 0))⟩, ⟨(some 11), none, (.mv (.tmp 1))⟩, ⟨(some 12), none, (.mkfn 54 [(.tmp 6)])⟩, ⟨(some 13), none, (.call 53 [(.tmp 10), (.tmp 11), (.tmp 12)])⟩, ⟨(some 9), none, (.mv (.tmp 13))⟩, ⟨(some 14), none, (.extract 0 (.tmp 9))⟩, ⟨(some 15), none, (.extract 1 (.tmp 9))⟩, ⟨(some 7), none, (.mv (.tmp 14))⟩, ⟨(some 8), none, (.mv (.tmp 15))⟩]) (.seq (.seq (.ops [⟨(some 16), none, (.mv (.tmp 8))⟩, ⟨(some 17), none, (.un .not (.tmp 16))⟩]) (.cond (.tmp 17) (.seq (.ops [⟨(some 4), none, (.newNil (.ints .u8 []))⟩, ⟨(some 5), none, (.mv (.const (.one (.bool false))))⟩]) .ret) .skip)) (.seq (.ops [⟨(some 18), none, (.mv (.tmp 7))⟩, ⟨(some 19), none, (.conv .u32 (.tmp 18))⟩, ⟨(some 20), none, (.mv (.tmp 0))⟩, ⟨(some 21), none, (.call 46 [(.tmp 20)])⟩, ⟨(some 22), none, (.call 55 [(.tmp 6), (.tmp 19), (.tmp 21)])⟩]) (.seq (.ops [⟨(some 23), none, (.call 56 [(.tmp 6)])⟩, ⟨(some 4), none, (.mv (.tmp 23))⟩, ⟨(some 5), none, (.mv (.const (.one (.bool true))))⟩]) .ret))))))⟩
abbrev T21 : Nat → Callee := (upd (upd (upd (upd (upd none0 46 F46) 53 F53) 54 F54) 55 F55) 56 F56)
def F21 : Callee := evF T21 0 c21
theorem s21 : Sound Go.Proofs.Try.prog 21 F21 := fn_ok (upd_ok (upd_ok (upd_ok (upd_ok (upd_ok (none0_ok _) s46) s53) s54) s55) s56) mixed (by kernel_rfl)
def c15 : AF := ⟨[(0, none)],
  (.seq (.ops [⟨(some 0), none, (.mv (.const (.one (.bool false))))⟩]) (.seq (.ops [⟨(some 8), none, (.bslice (.ints .i64 []) [(.int .i64 0)] 2 [(0, (.const (.one (.int .i64 24)))), (1, (.const (.one (.int .i64 8))))])⟩, ⟨(some 9), none, (.call 17 [(.tmp 8), (.const (.one (.int .i64 5)))])⟩, ⟨(some 7), none, (.mv (.tmp 9))⟩, ⟨(some 10), none, (.extract 0 (.tmp 7))⟩, ⟨(some 11), none, (.extract 1 (.tmp 7))⟩, ⟨(some 1), none, (.mv (.tmp 10))⟩, ⟨(some 2), none, (.mv (.tmp 11))⟩]) (.seq (.ops [⟨(some 13), none, (.mv (.tmp 1))⟩, ⟨(some 14), none, (.bslice (.ints .u8 []) [(.int .u8 0)] 3 [(0, (.const (.one (.int .u8 0)))), (1, (.const (.one (.int .u8 1)))), (2, (.const (.one (.int .u8 0))))])⟩, ⟨(some 15), none, (.call 21 [(.tmp 13), (.tmp 14)])⟩, ⟨(some 12), none, (.mv (.tmp 15))⟩, ⟨(some 16), none, (.extract 0 (.tmp 12))⟩, ⟨(some 17), none, (.extract 1 (.tmp 12))⟩, ⟨(some 3), none, (.mv (.tmp 16))⟩, ⟨(some 4), none, (.mv (.tmp 17))⟩]) (.seq (.ops [⟨(some 19), none, (.mv (.tmp 1))⟩, ⟨(some 20), none, (.mv (.tmp 3))⟩, ⟨(some 21), none, (.call 18 [(.tmp 19), (.tmp 20), (.const (.one (.int .i64 3)))])⟩, ⟨(some 18), none, (.mv (.tmp 21))⟩, ⟨(some 22), none, (.extract 0 (.tmp 18))⟩, ⟨(some 23), none, (.extract 1 (.tmp 18))⟩, ⟨(some 5), none, (.mv (.tmp 22))⟩, ⟨(some 6), none, (.mv (.tmp 23))⟩]) (.seq (.ops [⟨(some 24), none, (.mv (.tmp 4))⟩, ⟨(some 25), none, (.mv (.tmp 24))⟩, ⟨(some 26), (some (25, true)), (.mv (.tmp 6))⟩, ⟨(some 27), none, (.pick (.tmp 25) (.tmp 26) (.const (.one (.bool false))))⟩, ⟨(some 28), none, (.mv (.tmp 27))⟩, ⟨(some 29), (some (28, true)), (.mv (.tmp 5))⟩, ⟨(some 30), (some (28, true)), (.b2s (.tmp 29))⟩, ⟨(some 31), (some (28, true)), (.bin .eql (.tmp 30) (.const (.one (.str ⟨#[0, 1, 0]⟩))))⟩, ⟨(some 32), none, (.pick (.tmp 28) (.tmp 31) (.const (.one (.bool false))))⟩, ⟨(some 0), none, (.mv (.tmp 32))⟩]) .ret)))))⟩
abbrev T15 : Nat → Callee := (upd (upd (upd none0 17 F17) 18 F18) 21 F21)
def F15 : Callee := evF T15 0 c15
theorem s15 : Sound Go.Proofs.Try.prog 15 F15 := fn_ok (upd_ok (upd_ok (upd_ok (none0_ok _) s17) s18) s21) mixed (by kernel_rfl)
def b40x0 : AC := (.seq (.seq (.ops [⟨(some 5), none, (.mv (.tmp 4))⟩, ⟨(some 6), none, (.mv (.tmp 0))⟩, ⟨(some 7), none, (.bin .lss (.tmp 5) (.tmp 6))⟩]) (.cond (.tmp 7) .skip (.exit 0))) (.seq (.block 1 (.ops [⟨(some 10), none, (.mv (.tmp 3))⟩, ⟨(some 11), none, (.bin .mul (.tmp 10) (.const (.one (.int .i64 2))))⟩, ⟨(some 3), none, (.mv (.tmp 11))⟩])) (.ops [⟨(some 8), none, (.mv (.tmp 4))⟩, ⟨(some 9), none, (.bin .add (.tmp 8) (.const (.one (.int .i64 1))))⟩, ⟨(some 4), none, (.mv (.tmp 9))⟩])))
def c40 : AF := ⟨[(2, none)],
  (.seq (.ops [⟨(some 2), none, (.mv (.const (.one (.int .i64 0))))⟩]) (.seq (.ops [⟨(some 3), none, (.mv (.const (.one (.int .i64 1))))⟩]) (.seq (.seq (.ops [⟨(some 4), none, (.mv (.const (.one (.int .i64 0))))⟩]) (.block 0 (.loop [0, 3, 4] b40x0))) (.seq (.ops [⟨(some 12), none, (.mv (.tmp 3))⟩, ⟨(some 2), none, (.mv (.tmp 12))⟩]) .ret))))⟩
abbrev T40 : Nat → Callee := none0
def F40 : Callee := evF T40 KK c40
theorem s40 : Sound Go.Proofs.Try.prog 40 F40 := fn_ok (none0_ok _) mixed (by kernel_rfl)
def b16x0 : AC := (.seq (.seq (.ops [⟨(some 18), none, (.mv (.tmp 6))⟩, ⟨(some 19), none, (.mv (.tmp 0))⟩, ⟨(some 20), none, (.len (.tmp 19))⟩, ⟨(some 21), none, (.bin .lss (.tmp 18) (.tmp 20))⟩]) (.cond (.tmp 21) .skip (.exit 0))) (.seq (.block 1 (.seq (.seq (.ops [⟨(some 24), none, (.mv (.tmp 0))⟩, ⟨(some 25), none, (.mv (.tmp 6))⟩, ⟨(some 26), none, (.iadrR 1 (.tmp 24) (.tmp 25))⟩, ⟨(some 27), none, (.load none (.tmp 26))⟩, ⟨(some 28), none, (.bin .lss (.tmp 27) (.const (.one (.int .i64 0))))⟩, ⟨(some 29), none, (.mv (.tmp 28))⟩, ⟨(some 30), (some (29, false)), (.mv (.tmp 0))⟩, ⟨(some 31), (some (29, false)), (.mv (.tmp 6))⟩, ⟨(some 32), (some (29, false)), (.iadrR 1 (.tmp 30) (.tmp 31))⟩, ⟨(some 33), (some (29, false)), (.load none (.tmp 32))⟩, ⟨(some 34), (some (29, false)), (.bin .gtr (.tmp 33) (.const (.one (.int .i64 1000))))⟩, ⟨(some 35), none, (.pick (.tmp 29) (.const (.one (.bool true))) (.tmp 34))⟩]) (.cond (.tmp 35) (.seq (.ops [⟨(some 4), none, (.mv (.const (.one (.bool false))))⟩]) .ret) .skip)) (.ops [⟨(some 36), none, (.mv (.tmp 5))⟩, ⟨(some 37), none, (.mv (.tmp 0))⟩, ⟨(some 38), none, (.mv (.tmp 6))⟩, ⟨(some 39), none, (.iadrR 1 (.tmp 37) (.tmp 38))⟩, ⟨(some 40), none, (.load none (.tmp 39))⟩, ⟨(some 41), none, (.bin .add (.tmp 36) (.tmp 40))⟩, ⟨(some 5), none, (.mv (.tmp 41))⟩]))) (.ops [⟨(some 22), none, (.mv (.tmp 6))⟩, ⟨(some 23), none, (.bin .add (.tmp 22) (.const (.one (.int .i64 1))))⟩, ⟨(some 6), none, (.mv (.tmp 23))⟩])))
def c16 : AF := ⟨[(4, none)],
  (.seq (.ops [⟨(some 4), none, (.mv (.const (.one (.bool false))))⟩]) (.seq (.seq (.ops [⟨(some 7), none, (.mv (.tmp 1))⟩, ⟨(some 8), none, (.bin .lss (.tmp 7) (.const (.one (.int .i64 5))))⟩, ⟨(some 9), none, (.mv (.tmp 8))⟩, ⟨(some 10), (some (9, false)), (.mv (.tmp 1))⟩, ⟨(some 11), (some (9, false)), (.bin .gtr (.tmp 10) (.const (.one (.int .i64 9))))⟩, ⟨(some 12), none, (.pick (.tmp 9) (.const (.one (.bool true))) (.tmp 11))⟩, ⟨(some 13), none, (.mv (.tmp 12))⟩, ⟨(some 14), (some (13, false)), (.mv (.tmp 0))⟩, ⟨(some 15), (some (13, false)), (.len (.tmp 14))⟩, ⟨(some 16), (some (13, false)), (.bin .gtr (.tmp 15) (.const (.one (.int .i64 256))))⟩, ⟨(some 17), none, (.pick (.tmp 13) (.const (.one (.bool true))) (.tmp 16))⟩]) (.cond (.tmp 17) (.seq (.ops [⟨(some 4), none, (.mv (.const (.one (.bool false))))⟩]) .ret) .skip)) (.seq (.ops [⟨(some 5), none, (.mv (.const (.one (.int .i64 0))))⟩]) (.seq (.seq (.ops [⟨(some 6), none, (.mv (.const (.one (.int .i64 0))))⟩]) (.block 0 (.loop [0, 1, 5, 6] b16x0))) (.seq (.ops [⟨(some 42), none, (.mv (.tmp 5))⟩, ⟨(some 43), none, (.mv (.tmp 1))⟩, ⟨(some 44), none, (.call 40 [(.tmp 43)])⟩, ⟨(some 45), none, (.bin .eql (.tmp 42) (.tmp 44))⟩, ⟨(some 4), none, (.mv (.tmp 45))⟩]) .ret)))))⟩
abbrev T16 : Nat → Callee := (upd none0 40 F40)
def F16 : Callee := evF T16 KK c16
theorem s16 : Sound Go.Proofs.Try.prog 16 F16 := fn_ok (upd_ok (none0_ok _) s40) mixed (by kernel_rfl)
def b69x0 : AC := (.seq (.seq (.ops [⟨(some 7), none, (.mv (.tmp 6))⟩, ⟨(some 8), none, (.mv (.tmp 1))⟩, ⟨(some 9), none, (.bin .lss (.tmp 7) (.tmp 8))⟩]) (.cond (.tmp 9) .skip (.exit 0))) (.seq (.block 1 (.ops [⟨(some 12), none, (.mv (.tmp 5))⟩, ⟨(some 13), none, (.mv (.tmp 0))⟩, ⟨(some 14), none, (.mv (.tmp 6))⟩, ⟨(some 15), none, (.bin .shr (.tmp 13) (.tmp 14))⟩, ⟨(some 16), none, (.conv .i64 (.tmp 15))⟩, ⟨(some 17), none, (.bin .rem (.tmp 16) (.const (.one (.int .i64 2))))⟩, ⟨(some 18), none, (.bslice (.ints .i64 []) [(.int .i64 0)] 1 [(0, (.tmp 17))])⟩, ⟨(some 19), none, (.append (.ints .i64 []) 8 (.tmp 12) (.tmp 18))⟩, ⟨(some 5), none, (.mv (.tmp 19))⟩])) (.ops [⟨(some 10), none, (.mv (.tmp 6))⟩, ⟨(some 11), none, (.bin .add (.tmp 10) (.const (.one (.int .i64 1))))⟩, ⟨(some 6), none, (.mv (.tmp 11))⟩])))
def c69 : AF := ⟨[(4, none)],
  (.seq (.ops [⟨(some 4), none, (.newNil (.ints .i64 []))⟩]) (.seq (.ops [⟨(some 5), none, (.newNil (.ints .i64 []))⟩]) (.seq (.seq (.ops [⟨(some 6), none, (.mv (.const (.one (.int .i64 0))))⟩]) (.block 0 (.loop [0, 1, 5, 6] b69x0))) (.seq (.ops [⟨(some 20), none, (.mv (.tmp 5))⟩, ⟨(some 4), none, (.mv (.tmp 20))⟩]) .ret))))⟩
abbrev T69 : Nat → Callee := none0
def F69 : Callee := evF T69 KK c69
theorem s69 : Sound Go.Proofs.Try.prog 69 F69 := fn_ok (none0_ok _) mixed (by kernel_rfl)
def b88x0 : AC := (.seq (.seq (.ops [⟨(some 5), none, (.mv (.tmp 4))⟩, ⟨(some 6), none, (.mv (.tmp 0))⟩, ⟨(some 7), none, (.len (.tmp 6))⟩, ⟨(some 8), none, (.bin .lss (.tmp 5) (.tmp 7))⟩]) (.cond (.tmp 8) .skip (.exit 0))) (.seq (.block 1 (.ops [⟨(some 11), none, (.mv (.tmp 3))⟩, ⟨(some 12), none, (.mv (.tmp 0))⟩, ⟨(some 13), none, (.mv (.tmp 4))⟩, ⟨(some 14), none, (.iadrR 1 (.tmp 12) (.tmp 13))⟩, ⟨(some 15), none, (.load none (.tmp 14))⟩, ⟨(some 16), none, (.conv .u32 (.tmp 15))⟩, ⟨(some 17), none, (.call 69 [(.tmp 16), (.const (.one (.int .i64 8)))])⟩, ⟨(some 18), none, (.append (.ints .i64 []) 8 (.tmp 11) (.tmp 17))⟩, ⟨(some 3), none, (.mv (.tmp 18))⟩])) (.ops [⟨(some 9), none, (.mv (.tmp 4))⟩, ⟨(some 10), none, (.bin .add (.tmp 9) (.const (.one (.int .i64 1))))⟩, ⟨(some 4), none, (.mv (.tmp 10))⟩])))
def c88 : AF := ⟨[(2, none)],
  (.seq (.ops [⟨(some 2), none, (.newNil (.ints .i64 []))⟩]) (.seq (.ops [⟨(some 3), none, (.newNil (.ints .i64 []))⟩]) (.seq (.seq (.ops [⟨(some 4), none, (.mv (.const (.one (.int .i64 0))))⟩]) (.block 0 (.loop [0, 3, 4] b88x0))) (.seq (.ops [⟨(some 19), none, (.mv (.tmp 3))⟩, ⟨(some 2), none, (.mv (.tmp 19))⟩]) .ret))))⟩
abbrev T88 : Nat → Callee := (upd none0 69 F69)
def F88 : Callee := evF T88 KK c88
theorem s88 : Sound Go.Proofs.Try.prog 88 F88 := fn_ok (upd_ok (none0_ok _) s69) mixed (by kernel_rfl)
def b50x0 : AC := (.seq (.seq (.ops [⟨(some 23), none, (.mv (.tmp 4))⟩, ⟨(some 24), none, (.mv (.tmp 5))⟩, ⟨(some 25), none, (.iadrR 1 (.tmp 23) (.tmp 24))⟩, ⟨(some 26), none, (.load none (.tmp 25))⟩, ⟨(some 27), none, (.bin .eql (.tmp 26) (.const (.one (.int .i64 0))))⟩]) (.cond (.tmp 27) .skip (.exit 0))) (.block 1 (.ops [⟨(some 28), none, (.mv (.tmp 5))⟩, ⟨(some 29), none, (.bin .sub (.tmp 28) (.const (.one (.int .i64 1))))⟩, ⟨(some 5), none, (.mv (.tmp 29))⟩])))
def c50 : AF := ⟨[(2, none), (3, none)],
  (.seq (.ops [⟨(some 2), none, (.newNil (.ints .i64 []))⟩, ⟨(some 3), none, (.mv (.const (.one (.bool false))))⟩]) (.seq (.seq (.ops [⟨(some 6), none, (.mv (.tmp 0))⟩, ⟨(some 7), none, (.len (.tmp 6))⟩, ⟨(some 8), none, (.bin .eql (.tmp 7) (.const (.one (.int .i64 0))))⟩, ⟨(some 9), none, (.mv (.tmp 8))⟩, ⟨(some 10), (some (9, false)), (.mv (.tmp 0))⟩, ⟨(some 11), (some (9, false)), (.mv (.tmp 0))⟩, ⟨(some 12), (some (9, false)), (.len (.tmp 11))⟩, ⟨(some 13), (some (9, false)), (.bin .sub (.tmp 12) (.const (.one (.int .i64 1))))⟩, ⟨(some 14), (some (9, false)), (.iadrR 1 (.tmp 10) (.tmp 13))⟩, ⟨(some 15), (some (9, false)), (.load none (.tmp 14))⟩, ⟨(some 16), (some (9, false)), (.bin .eql (.tmp 15) (.const (.one (.int .u8 0))))⟩, ⟨(some 17), none, (.pick (.tmp 9) (.const (.one (.bool true))) (.tmp 16))⟩]) (.cond (.tmp 17) (.seq (.ops [⟨(some 2), none, (.newNil (.ints .i64 []))⟩, ⟨(some 3), none, (.mv (.const (.one (.bool false))))⟩]) .ret) .skip)) (.seq (.ops [⟨(some 18), none, (.mv (.tmp 0))⟩, ⟨(some 19), none, (.call 88 [(.tmp 18)])⟩, ⟨(some 4), none, (.mv (.tmp 19))⟩]) (.seq (.ops [⟨(some 20), none, (.mv (.tmp 4))⟩, ⟨(some 21), none, (.len (.tmp 20))⟩, ⟨(some 22), none, (.bin .sub (.tmp 21) (.const (.one (.int .i64 1))))⟩, ⟨(some 5), none, (.mv (.tmp 22))⟩]) (.seq (.block 0 (.loop [4, 5] b50x0)) (.seq (.ops [⟨(some 30), none, (.mv (.tmp 4))⟩, ⟨(some 31), none, (.mv (.tmp 5))⟩, ⟨(some 32), none, (.cutR 1 (.tmp 30) none (some (.tmp 31)))⟩, ⟨(some 2), none, (.mv (.tmp 32))⟩, ⟨(some 3), none, (.mv (.const (.one (.bool true))))⟩]) .ret))))))⟩
abbrev T50 : Nat → Callee := (upd none0 88 F88)
def F50 : Callee := evF T50 KK c50
theorem s50 : Sound Go.Proofs.Try.prog 50 F50 := fn_ok (upd_ok (none0_ok _) s88) mixed (by kernel_rfl)
def b51x0 : AC := (.seq (.seq (.ops [⟨(some 8), none, (.mv (.tmp 4))⟩, ⟨(some 9), none, (.bin .geq (.tmp 8) (.const (.one (.int .i64 0))))⟩]) (.cond (.tmp 9) .skip (.exit 0))) (.seq (.block 1 (.ops [⟨(some 12), none, (.mv (.tmp 3))⟩, ⟨(some 13), none, (.bin .mul (.tmp 12) (.const (.one (.int .u32 2))))⟩, ⟨(some 14), none, (.mv (.tmp 0))⟩, ⟨(some 15), none, (.mv (.tmp 4))⟩, ⟨(some 16), none, (.iadrR 1 (.tmp 14) (.tmp 15))⟩, ⟨(some 17), none, (.load none (.tmp 16))⟩, ⟨(some 18), none, (.conv .u32 (.tmp 17))⟩, ⟨(some 19), none, (.bin .add (.tmp 13) (.tmp 18))⟩, ⟨(some 3), none, (.mv (.tmp 19))⟩])) (.ops [⟨(some 10), none, (.mv (.tmp 4))⟩, ⟨(some 11), none, (.bin .sub (.tmp 10) (.const (.one (.int .i64 1))))⟩, ⟨(some 4), none, (.mv (.tmp 11))⟩])))
def c51 : AF := ⟨[(2, none)],
  (.seq (.ops [⟨(some 2), none, (.mv (.const (.one (.int .u32 0))))⟩]) (.seq (.ops [⟨(some 3), none, (.mv (.const (.one (.int .u32 0))))⟩]) (.seq (.seq (.ops [⟨(some 5), none, (.mv (.tmp 0))⟩, ⟨(some 6), none, (.len (.tmp 5))⟩, ⟨(some 7), none, (.bin .sub (.tmp 6) (.const (.one (.int .i64 1))))⟩, ⟨(some 4), none, (.mv (.tmp 7))⟩]) (.block 0 (.loop [0, 3, 4] b51x0))) (.seq (.ops [⟨(some 20), none, (.mv (.tmp 3))⟩, ⟨(some 2), none, (.mv (.tmp 20))⟩]) .ret))))⟩
abbrev T51 : Nat → Callee := none0
def F51 : Callee := evF T51 KK c51
theorem s51 : Sound Go.Proofs.Try.prog 51 F51 := fn_ok (none0_ok _) mixed (by kernel_rfl)
def b19x0 : AC := (.seq (.seq (.ops [⟨(some 52), none, (.mv (.tmp 14))⟩, ⟨(some 53), none, (.mv (.tmp 3))⟩, ⟨(some 54), none, (.bin .lss (.tmp 52) (.tmp 53))⟩]) (.cond (.tmp 54) .skip (.exit 0))) (.seq (.block 1 (.seq (.ops [⟨(some 57), none, (.mv (.tmp 0))⟩, ⟨(some 58), none, (.mv (.tmp 12))⟩, ⟨(some 59), none, (.iadrR 3 (.tmp 57) (.tmp 58))⟩, ⟨(some 60), none, (.load (some 3) (.tmp 59))⟩, ⟨(some 15), none, (.alloc [(.sv (.int .u8 0)), (.sv (.int .i64 0)), (.sv (.int .i64 0))])⟩, ⟨none, none, (.store 3 (.tmp 15) (.tmp 60))⟩]) (.seq (.seq (.ops [⟨(some 61), none, (.mv (.tmp 10))⟩, ⟨(some 62), none, (.len (.tmp 61))⟩, ⟨(some 63), none, (.fadr 1 (.tmp 15))⟩, ⟨(some 64), none, (.load none (.tmp 63))⟩, ⟨(some 65), none, (.bin .lss (.tmp 62) (.tmp 64))⟩]) (.cond (.tmp 65) (.seq (.ops [⟨(some 8), none, (.newNil (.ints .u8 []))⟩, ⟨(some 9), none, (.mv (.const (.one (.bool false))))⟩]) .ret) .skip)) (.seq (.ops [⟨(some 66), none, (.mv (.tmp 10))⟩, ⟨(some 67), none, (.len (.tmp 66))⟩, ⟨(some 68), none, (.fadr 1 (.tmp 15))⟩, ⟨(some 69), none, (.load none (.tmp 68))⟩, ⟨(some 70), none, (.bin .sub (.tmp 67) (.tmp 69))⟩, ⟨(some 16), none, (.mv (.tmp 70))⟩]) (.seq (.ops [⟨(some 71), none, (.mv (.tmp 13))⟩, ⟨(some 72), none, (.fadr 0 (.tmp 15))⟩, ⟨(some 73), none, (.load none (.tmp 72))⟩, ⟨(some 74), none, (.bslice (.ints .u8 []) [(.int .u8 0)] 1 [(0, (.tmp 73))])⟩, ⟨(some 75), none, (.append (.ints .u8 []) 1 (.tmp 71) (.tmp 74))⟩, ⟨(some 13), none, (.mv (.tmp 75))⟩]) (.seq (.opsD [(⟨(some 76), none, (.fadr 2 (.tmp 15))⟩, false), (⟨(some 77), none, (.load none (.tmp 76))⟩, false), (⟨(some 78), none, (.mv (.tmp 10))⟩, false), (⟨(some 79), none, (.mv (.tmp 16))⟩, false), (⟨(some 80), none, (.cutR 1 (.tmp 78) (some (.tmp 79)) none)⟩, false), (⟨(some 81), none, (.call 51 [(.tmp 80)])⟩, true), (⟨(some 82), none, (.conv .i64 (.tmp 81))⟩, false), (⟨(some 83), none, (.bin .add (.tmp 77) (.tmp 82))⟩, false), (⟨(some 12), none, (.mv (.tmp 83))⟩, false)] [(1, [1])]) (.ops [⟨(some 84), none, (.mv (.tmp 10))⟩, ⟨(some 85), none, (.mv (.tmp 16))⟩, ⟨(some 86), none, (.cutR 1 (.tmp 84) none (some (.tmp 85)))⟩, ⟨(some 10), none, (.mv (.tmp 86))⟩]))))))) (.ops [⟨(some 55), none, (.mv (.tmp 14))⟩, ⟨(some 56), none, (.bin .add (.tmp 55) (.const (.one (.int .i64 1))))⟩, ⟨(some 14), none, (.mv (.tmp 56))⟩])))
def c19 : AF := ⟨[(8, none), (9, none)],
  (.seq (.ops [⟨(some 8), none, (.newNil (.ints .u8 []))⟩, ⟨(some 9), none, (.mv (.const (.one (.bool false))))⟩]) (.seq (.ops [⟨(some 18), none, (.mv (.tmp 2))⟩, ⟨(some 19), none, (.call 50 [(.tmp 18)])⟩, ⟨(some 17), none, (.mv (.tmp 19))⟩, ⟨(some 20), none, (.extract 0 (.tmp 17))⟩, ⟨(some 21), none, (.extract 1 (.tmp 17))⟩, ⟨(some 10), none, (.mv (.tmp 20))⟩, ⟨(some 11), none, (.mv (.tmp 21))⟩]) (.seq (.seq (.ops [⟨(some 22), none, (.mv (.tmp 11))⟩, ⟨(some 23), none, (.un .not (.tmp 22))⟩, ⟨(some 24), none, (.mv (.tmp 23))⟩, ⟨(some 25), (some (24, false)), (.mv (.tmp 3))⟩, ⟨(some 26), (some (24, false)), (.bin .lss (.tmp 25) (.const (.one (.int .i64 0))))⟩, ⟨(some 27), none, (.pick (.tmp 24) (.const (.one (.bool true))) (.tmp 26))⟩, ⟨(some 28), none, (.mv (.tmp 27))⟩, ⟨(some 29), (some (28, false)), (.mv (.tmp 3))⟩, ⟨(some 30), (some (28, false)), (.bin .gtr (.tmp 29) (.const (.one (.int .i64 1048576))))⟩, ⟨(some 31), none, (.pick (.tmp 28) (.const (.one (.bool true))) (.tmp 30))⟩, ⟨(some 32), none, (.mv (.tmp 31))⟩, ⟨(some 33), (some (32, false)), (.mv (.tmp 10))⟩, ⟨(some 34), (some (32, false)), (.len (.tmp 33))⟩, ⟨(some 35), (some (32, false)), (.mv (.tmp 1))⟩, ⟨(some 36), (some (32, false)), (.bin .lss (.tmp 34) (.tmp 35))⟩, ⟨(some 37), none, (.pick (.tmp 32) (.const (.one (.bool true))) (.tmp 36))⟩]) (.cond (.tmp 37) (.seq (.ops [⟨(some 8), none, (.newNil (.ints .u8 []))⟩, ⟨(some 9), none, (.mv (.const (.one (.bool false))))⟩]) .ret) .skip)) (.seq (.ops [⟨(some 38), none, (.mv (.tmp 10))⟩, ⟨(some 39), none, (.mv (.tmp 10))⟩, ⟨(some 40), none, (.len (.tmp 39))⟩, ⟨(some 41), none, (.mv (.tmp 1))⟩, ⟨(some 42), none, (.bin .sub (.tmp 40) (.tmp 41))⟩, ⟨(some 43), none, (.cutR 1 (.tmp 38) (some (.tmp 42)) none)⟩, ⟨(some 44), none, (.call 51 [(.tmp 43)])⟩, ⟨(some 45), none, (.conv .i64 (.tmp 44))⟩, ⟨(some 12), none, (.mv (.tmp 45))⟩]) (.seq (.ops [⟨(some 46), none, (.mv (.tmp 10))⟩, ⟨(some 47), none, (.mv (.tmp 10))⟩, ⟨(some 48), none, (.len (.tmp 47))⟩, ⟨(some 49), none, (.mv (.tmp 1))⟩, ⟨(some 50), none, (.bin .sub (.tmp 48) (.tmp 49))⟩, ⟨(some 51), none, (.cutR 1 (.tmp 46) none (some (.tmp 50)))⟩, ⟨(some 10), none, (.mv (.tmp 51))⟩]) (.seq (.ops [⟨(some 13), none, (.newNil (.ints .u8 []))⟩]) (.seq (.seq (.ops [⟨(some 14), none, (.mv (.const (.one (.int .i64 0))))⟩]) (.block 0 (.loop [0, 3, 10, 12, 13, 14] b19x0))) (.seq (.seq (.ops [⟨(some 87), none, (.mv (.tmp 12))⟩, ⟨(some 88), none, (.bin .neq (.tmp 87) (.const (.one (.int .i64 0))))⟩, ⟨(some 89), none, (.mv (.tmp 88))⟩, ⟨(some 90), (some (89, false)), (.mv (.tmp 10))⟩, ⟨(some 91), (some (89, false)), (.len (.tmp 90))⟩, ⟨(some 92), (some (89, false)), (.bin .gtr (.tmp 91) (.const (.one (.int .i64 0))))⟩, ⟨(some 93), none, (.pick (.tmp 89) (.const (.one (.bool true))) (.tmp 92))⟩]) (.cond (.tmp 93) (.seq (.ops [⟨(some 8), none, (.newNil (.ints .u8 []))⟩, ⟨(some 9), none, (.mv (.const (.one (.bool false))))⟩]) .ret) .skip)) (.seq (.ops [⟨(some 94), none, (.mv (.tmp 13))⟩, ⟨(some 8), none, (.mv (.tmp 94))⟩, ⟨(some 9), none, (.mv (.const (.one (.bool true))))⟩]) .ret)))))))))⟩
abbrev T19 : Nat → Callee := (upd (upd none0 50 F50) 51 F51)
def F19 : Callee := evF T19 KK c19
theorem s19 : Sound Go.Proofs.Try.prog 19 F19 := fn_ok (upd_ok (upd_ok (none0_ok _) s50) s51) mixed (by kernel_rfl)
def b52x0 : AC := (.seq (.seq (.ops [⟨(some 4), none, (.mv (.tmp 0))⟩, ⟨(some 5), none, (.bin .gtr (.tmp 4) (.const (.one (.int .u32 0))))⟩]) (.cond (.tmp 5) .skip (.exit 0))) (.block 1 (.seq (.ops [⟨(some 6), none, (.mv (.tmp 0))⟩, ⟨(some 7), none, (.bin .quo (.tmp 6) (.const (.one (.int .u32 2))))⟩, ⟨(some 0), none, (.mv (.tmp 7))⟩]) (.ops [⟨(some 8), none, (.mv (.tmp 3))⟩, ⟨(some 9), none, (.bin .add (.tmp 8) (.const (.one (.int .i64 1))))⟩, ⟨(some 3), none, (.mv (.tmp 9))⟩]))))
def c52 : AF := ⟨[(2, none)],
  (.seq (.ops [⟨(some 2), none, (.mv (.const (.one (.int .i64 0))))⟩]) (.seq (.ops [⟨(some 3), none, (.mv (.const (.one (.int .i64 0))))⟩]) (.seq (.block 0 (.loop [0, 3] b52x0)) (.seq (.ops [⟨(some 10), none, (.mv (.tmp 3))⟩, ⟨(some 2), none, (.mv (.tmp 10))⟩]) .ret))))⟩
abbrev T52 : Nat → Callee := none0
def F52 : Callee := evF T52 KK c52
theorem s52 : Sound Go.Proofs.Try.prog 52 F52 := fn_ok (none0_ok _) mixed (by kernel_rfl)
def b20x0 : AC := (.seq (.seq (.ops [⟨(some 23), none, (.mv (.tmp 9))⟩, ⟨(some 24), none, (.mv (.tmp 0))⟩, ⟨(some 25), none, (.mv (.tmp 8))⟩, ⟨(some 26), none, (.iadrR 1 (.tmp 24) (.tmp 25))⟩, ⟨(some 27), none, (.load none (.tmp 26))⟩, ⟨(some 28), none, (.bin .lss (.tmp 23) (.tmp 27))⟩]) (.cond (.tmp 28) .skip (.exit 2))) (.seq (.block 3 (.seq (.ops [⟨(some 31), none, (.mv (.tmp 6))⟩, ⟨(some 32), none, (.mv (.tmp 7))⟩, ⟨(some 33), none, (.mv (.tmp 8))⟩, ⟨(some 34), none, (.conv .u8 (.tmp 33))⟩, ⟨(some 35), none, (.iadrR 3 (.tmp 31) (.tmp 32))⟩, ⟨(some 36), none, (.fadr 0 (.tmp 35))⟩, ⟨none, none, (.store 1 (.tmp 36) (.tmp 34))⟩]) (.ops [⟨(some 37), none, (.mv (.tmp 7))⟩, ⟨(some 38), none, (.mv (.tmp 5))⟩, ⟨(some 39), none, (.bin .quo (.tmp 38) (.const (.one (.int .i64 2))))⟩, ⟨(some 40), none, (.bin .add (.tmp 37) (.tmp 39))⟩, ⟨(some 41), none, (.mv (.tmp 5))⟩, ⟨(some 42), none, (.bin .quo (.tmp 41) (.const (.one (.int .i64 8))))⟩, ⟨(some 43), none, (.bin .add (.tmp 40) (.tmp 42))⟩, ⟨(some 44), none, (.bin .add (.tmp 43) (.const (.one (.int .i64 3))))⟩, ⟨(some 45), none, (.mv (.tmp 5))⟩, ⟨(some 46), none, (.bin .rem (.tmp 44) (.tmp 45))⟩, ⟨(some 7), none, (.mv (.tmp 46))⟩]))) (.ops [⟨(some 29), none, (.mv (.tmp 9))⟩, ⟨(some 30), none, (.bin .add (.tmp 29) (.const (.one (.int .i64 1))))⟩, ⟨(some 9), none, (.mv (.tmp 30))⟩])))
def b20x1 : AC := (.seq (.seq (.ops [⟨(some 17), none, (.mv (.tmp 8))⟩, ⟨(some 18), none, (.mv (.tmp 0))⟩, ⟨(some 19), none, (.len (.tmp 18))⟩, ⟨(some 20), none, (.bin .lss (.tmp 17) (.tmp 19))⟩]) (.cond (.tmp 20) .skip (.exit 0))) (.seq (.block 1 (.seq (.ops [⟨(some 9), none, (.mv (.const (.one (.int .i64 0))))⟩]) (.block 2 (.loop [0, 1, 5, 6, 7, 8, 9] b20x0)))) (.ops [⟨(some 21), none, (.mv (.tmp 8))⟩, ⟨(some 22), none, (.bin .add (.tmp 21) (.const (.one (.int .i64 1))))⟩, ⟨(some 8), none, (.mv (.tmp 22))⟩])))
def b20x2 : AC := (.seq (.seq (.ops [⟨(some 57), none, (.mv (.tmp 12))⟩, ⟨(some 58), none, (.mv (.tmp 5))⟩, ⟨(some 59), none, (.bin .lss (.tmp 57) (.tmp 58))⟩, ⟨(some 60), none, (.mv (.tmp 59))⟩, ⟨(some 61), (some (60, true)), (.mv (.tmp 0))⟩, ⟨(some 62), (some (60, true)), (.mv (.tmp 10))⟩, ⟨(some 63), (some (60, true)), (.iadrR 1 (.tmp 61) (.tmp 62))⟩, ⟨(some 64), (some (60, true)), (.load none (.tmp 63))⟩, ⟨(some 65), (some (60, true)), (.bin .gtr (.tmp 64) (.const (.one (.int .i64 0))))⟩, ⟨(some 66), none, (.pick (.tmp 60) (.tmp 65) (.const (.one (.bool false))))⟩]) (.cond (.tmp 66) .skip (.exit 6))) (.seq (.block 7 (.seq (.seq (.ops [⟨(some 69), none, (.mv (.tmp 6))⟩, ⟨(some 70), none, (.mv (.tmp 12))⟩, ⟨(some 71), none, (.iadrR 3 (.tmp 69) (.tmp 70))⟩, ⟨(some 72), none, (.fadr 0 (.tmp 71))⟩, ⟨(some 73), none, (.load none (.tmp 72))⟩, ⟨(some 74), none, (.conv .i64 (.tmp 73))⟩, ⟨(some 75), none, (.mv (.tmp 10))⟩, ⟨(some 76), none, (.bin .neq (.tmp 74) (.tmp 75))⟩]) (.cond (.tmp 76) (.exit 7) .skip)) (.seq (.ops [⟨(some 77), none, (.mv (.tmp 6))⟩, ⟨(some 78), none, (.mv (.tmp 12))⟩, ⟨(some 79), none, (.mv (.tmp 1))⟩, ⟨(some 80), none, (.mv (.tmp 11))⟩, ⟨(some 81), none, (.conv .u32 (.tmp 80))⟩, ⟨(some 82), none, (.call 52 [(.tmp 81)])⟩, ⟨(some 83), none, (.bin .sub (.tmp 79) (.tmp 82))⟩, ⟨(some 84), none, (.bin .add (.tmp 83) (.const (.one (.int .i64 1))))⟩, ⟨(some 85), none, (.iadrR 3 (.tmp 77) (.tmp 78))⟩, ⟨(some 86), none, (.fadr 1 (.tmp 85))⟩, ⟨none, none, (.store 1 (.tmp 86) (.tmp 84))⟩]) (.seq (.ops [⟨(some 87), none, (.mv (.tmp 6))⟩, ⟨(some 88), none, (.mv (.tmp 12))⟩, ⟨(some 89), none, (.mv (.tmp 11))⟩, ⟨(some 90), none, (.mv (.tmp 6))⟩, ⟨(some 91), none, (.mv (.tmp 12))⟩, ⟨(some 92), none, (.iadrR 3 (.tmp 90) (.tmp 91))⟩, ⟨(some 93), none, (.fadr 1 (.tmp 92))⟩, ⟨(some 94), none, (.load none (.tmp 93))⟩, ⟨(some 95), none, (.call 40 [(.tmp 94)])⟩, ⟨(some 96), none, (.bin .mul (.tmp 89) (.tmp 95))⟩, ⟨(some 97), none, (.mv (.tmp 5))⟩, ⟨(some 98), none, (.bin .sub (.tmp 96) (.tmp 97))⟩, ⟨(some 99), none, (.iadrR 3 (.tmp 87) (.tmp 88))⟩, ⟨(some 100), none, (.fadr 2 (.tmp 99))⟩, ⟨none, none, (.store 1 (.tmp 100) (.tmp 98))⟩]) (.ops [⟨(some 101), none, (.mv (.tmp 11))⟩, ⟨(some 102), none, (.bin .add (.tmp 101) (.const (.one (.int .i64 1))))⟩, ⟨(some 11), none, (.mv (.tmp 102))⟩]))))) (.ops [⟨(some 67), none, (.mv (.tmp 12))⟩, ⟨(some 68), none, (.bin .add (.tmp 67) (.const (.one (.int .i64 1))))⟩, ⟨(some 12), none, (.mv (.tmp 68))⟩])))
def b20x3 : AC := (.seq (.seq (.ops [⟨(some 47), none, (.mv (.tmp 10))⟩, ⟨(some 48), none, (.mv (.tmp 0))⟩, ⟨(some 49), none, (.len (.tmp 48))⟩, ⟨(some 50), none, (.bin .lss (.tmp 47) (.tmp 49))⟩]) (.cond (.tmp 50) .skip (.exit 4))) (.seq (.block 5 (.seq (.ops [⟨(some 53), none, (.mv (.tmp 0))⟩, ⟨(some 54), none, (.mv (.tmp 10))⟩, ⟨(some 55), none, (.iadrR 1 (.tmp 53) (.tmp 54))⟩, ⟨(some 56), none, (.load none (.tmp 55))⟩, ⟨(some 11), none, (.mv (.tmp 56))⟩]) (.seq (.ops [⟨(some 12), none, (.mv (.const (.one (.int .i64 0))))⟩]) (.block 6 (.loop [0, 1, 5, 6, 10, 11, 12] b20x2))))) (.ops [⟨(some 51), none, (.mv (.tmp 10))⟩, ⟨(some 52), none, (.bin .add (.tmp 51) (.const (.one (.int .i64 1))))⟩, ⟨(some 10), none, (.mv (.tmp 52))⟩])))
def c20 : AF := ⟨[(4, none)],
  (.seq (.ops [⟨(some 4), none, (.newNil (.recs 3 []))⟩]) (.seq (.ops [⟨(some 13), none, (.mv (.tmp 1))⟩, ⟨(some 14), none, (.call 40 [(.tmp 13)])⟩, ⟨(some 5), none, (.mv (.tmp 14))⟩]) (.seq (.ops [⟨(some 15), none, (.mv (.tmp 5))⟩, ⟨(some 16), none, (.mks (.recs 3 []) [(.int .u8 0), (.int .i64 0), (.int .i64 0)] 24 (.tmp 15) (.tmp 15))⟩, ⟨(some 6), none, (.mv (.tmp 16))⟩]) (.seq (.ops [⟨(some 7), none, (.mv (.const (.one (.int .i64 0))))⟩]) (.seq (.seq (.ops [⟨(some 8), none, (.mv (.const (.one (.int .i64 0))))⟩]) (.block 0 (.loop [0, 1, 5, 6, 7, 8] b20x1))) (.seq (.seq (.ops [⟨(some 10), none, (.mv (.const (.one (.int .i64 0))))⟩]) (.block 4 (.loop [0, 1, 5, 6, 10] b20x3))) (.seq (.ops [⟨(some 103), none, (.mv (.tmp 6))⟩, ⟨(some 4), none, (.mv (.tmp 103))⟩]) .ret)))))))⟩
abbrev T20 : Nat → Callee := (upd (upd none0 40 F40) 52 F52)
def F20 : Callee := evF T20 KK c20
theorem s20 : Sound Go.Proofs.Try.prog 20 F20 := fn_ok (upd_ok (upd_ok (none0_ok _) s40) s52) mixed (by kernel_rfl)
def c4 : AF := ⟨[(6, none)],
  (.seq (.ops [⟨(some 5), none, (.box (.tmp 2))⟩, ⟨(some 6), none, (.mv (.const (.one (.bool false))))⟩]) (.seq (.seq (.ops [⟨(some 16), none, (.call 15 [])⟩, ⟨(some 17), none, (.un .not (.tmp 16))⟩]) (.cond (.tmp 17) (.seq (.ops [⟨(some 6), none, (.mv (.const (.one (.bool false))))⟩]) .ret) .skip)) (.seq (.ops [⟨(some 18), none, (.iadrA 2 1 (.tmp 5) (.const (.one (.int .i64 0))))⟩, ⟨(some 19), none, (.load none (.tmp 18))⟩, ⟨(some 7), none, (.mv (.tmp 19))⟩]) (.seq (.seq (.ops [⟨(some 20), none, (.mv (.tmp 0))⟩, ⟨(some 21), none, (.len (.tmp 20))⟩, ⟨(some 22), none, (.bin .gtr (.tmp 21) (.const (.one (.int .i64 300))))⟩, ⟨(some 23), none, (.mv (.tmp 22))⟩, ⟨(some 24), (some (23, false)), (.mv (.tmp 1))⟩, ⟨(some 25), (some (23, false)), (.len (.tmp 24))⟩, ⟨(some 26), (some (23, false)), (.bin .gtr (.tmp 25) (.const (.one (.int .i64 60))))⟩, ⟨(some 27), none, (.pick (.tmp 23) (.const (.one (.bool true))) (.tmp 26))⟩, ⟨(some 28), none, (.mv (.tmp 27))⟩, ⟨(some 29), (some (28, false)), (.iadrA 2 1 (.tmp 5) (.const (.one (.int .i64 1))))⟩, ⟨(some 30), (some (28, false)), (.load none (.tmp 29))⟩, ⟨(some 31), (some (28, false)), (.bin .gtr (.tmp 30) (.const (.one (.int .i64 500))))⟩, ⟨(some 32), (some (28, false)), (.mv (.tmp 31))⟩, ⟨(some 33), (some (32, true)), (.iadrA 2 1 (.tmp 5) (.const (.one (.int .i64 1))))⟩, ⟨(some 34), (some (32, true)), (.load none (.tmp 33))⟩, ⟨(some 35), (some (32, true)), (.bin .leq (.tmp 34) (.const (.one (.int .i64 1048576))))⟩, ⟨(some 36), (some (28, false)), (.pick (.tmp 32) (.tmp 35) (.const (.one (.bool false))))⟩, ⟨(some 37), none, (.pick (.tmp 28) (.const (.one (.bool true))) (.tmp 36))⟩, ⟨(some 38), none, (.mv (.tmp 37))⟩, ⟨(some 39), (some (38, false)), (.mv (.tmp 0))⟩, ⟨(some 40), (some (38, false)), (.mv (.tmp 7))⟩, ⟨(some 41), (some (38, false)), (.call 16 [(.tmp 39), (.tmp 40)])⟩, ⟨(some 42), (some (38, false)), (.un .not (.tmp 41))⟩, ⟨(some 43), none, (.pick (.tmp 38) (.const (.one (.bool true))) (.tmp 42))⟩]) (.cond (.tmp 43) (.seq (.ops [⟨(some 6), none, (.mv (.const (.one (.bool true))))⟩]) .ret) .skip)) (.seq (.ops [⟨(some 45), none, (.mv (.tmp 0))⟩, ⟨(some 46), none, (.mv (.tmp 7))⟩, ⟨(some 47), none, (.call 17 [(.tmp 45), (.tmp 46)])⟩, ⟨(some 44), none, (.mv (.tmp 47))⟩, ⟨(some 48), none, (.extract 0 (.tmp 44))⟩, ⟨(some 49), none, (.extract 1 (.tmp 44))⟩, ⟨(some 8), none, (.mv (.tmp 48))⟩, ⟨(some 9), none, (.mv (.tmp 49))⟩]) (.seq (.ops [⟨(some 51), none, (.mv (.tmp 8))⟩, ⟨(some 52), none, (.mv (.tmp 1))⟩, ⟨(some 53), none, (.iadrA 2 1 (.tmp 5) (.const (.one (.int .i64 1))))⟩, ⟨(some 54), none, (.load none (.tmp 53))⟩, ⟨(some 55), none, (.call 18 [(.tmp 51), (.tmp 52), (.tmp 54)])⟩, ⟨(some 50), none, (.mv (.tmp 55))⟩, ⟨(some 56), none, (.extract 0 (.tmp 50))⟩, ⟨(some 57), none, (.extract 1 (.tmp 50))⟩, ⟨(some 10), none, (.mv (.tmp 56))⟩, ⟨(some 11), none, (.mv (.tmp 57))⟩]) (.seq (.opsD [(⟨(some 59), none, (.mv (.tmp 0))⟩, false), (⟨(some 60), none, (.mv (.tmp 7))⟩, false), (⟨(some 61), none, (.call 20 [(.tmp 59), (.tmp 60)])⟩, true), (⟨(some 62), none, (.mv (.tmp 7))⟩, false), (⟨(some 63), none, (.mv (.tmp 1))⟩, false), (⟨(some 64), none, (.iadrA 2 1 (.tmp 5) (.const (.one (.int .i64 1))))⟩, false), (⟨(some 65), none, (.load none (.tmp 64))⟩, false), (⟨(some 66), none, (.call 19 [(.tmp 61), (.tmp 62), (.tmp 63), (.tmp 65)])⟩, true), (⟨(some 58), none, (.mv (.tmp 66))⟩, false), (⟨(some 67), none, (.extract 0 (.tmp 58))⟩, false), (⟨(some 68), none, (.extract 1 (.tmp 58))⟩, false), (⟨(some 12), none, (.mv (.tmp 67))⟩, false), (⟨(some 13), none, (.mv (.tmp 68))⟩, false)] [(6, [0])]) (.seq (.seq (.ops [⟨(some 69), none, (.mv (.tmp 11))⟩, ⟨(some 70), none, (.mv (.tmp 13))⟩, ⟨(some 71), none, (.eqB true (.tmp 69) (.tmp 70))⟩, ⟨(some 72), none, (.mv (.tmp 71))⟩, ⟨(some 73), (some (72, false)), (.mv (.tmp 10))⟩, ⟨(some 74), (some (72, false)), (.b2s (.tmp 73))⟩, ⟨(some 75), (some (72, false)), (.mv (.tmp 12))⟩, ⟨(some 76), (some (72, false)), (.b2s (.tmp 75))⟩, ⟨(some 77), (some (72, false)), (.bin .neq (.tmp 74) (.tmp 76))⟩, ⟨(some 78), none, (.pick (.tmp 72) (.const (.one (.bool true))) (.tmp 77))⟩]) (.cond (.tmp 78) (.seq (.ops [⟨(some 6), none, (.mv (.const (.one (.bool false))))⟩]) .ret) .skip)) (.seq (.seq (.ops [⟨(some 79), none, (.mv (.tmp 11))⟩, ⟨(some 80), none, (.un .not (.tmp 79))⟩]) (.cond (.tmp 80) (.seq (.ops [⟨(some 6), none, (.mv (.const (.one (.bool true))))⟩]) .ret) .skip)) (.seq (.ops [⟨(some 82), none, (.mv (.tmp 8))⟩, ⟨(some 83), none, (.mv (.tmp 10))⟩, ⟨(some 84), none, (.call 21 [(.tmp 82), (.tmp 83)])⟩, ⟨(some 81), none, (.mv (.tmp 84))⟩, ⟨(some 85), none, (.extract 0 (.tmp 81))⟩, ⟨(some 86), none, (.extract 1 (.tmp 81))⟩, ⟨(some 14), none, (.mv (.tmp 85))⟩, ⟨(some 15), none, (.mv (.tmp 86))⟩]) (.seq (.ops [⟨(some 87), none, (.mv (.tmp 15))⟩, ⟨(some 88), none, (.mv (.tmp 87))⟩, ⟨(some 89), (some (88, true)), (.mv (.tmp 14))⟩, ⟨(some 90), (some (88, true)), (.b2s (.tmp 89))⟩, ⟨(some 91), (some (88, true)), (.mv (.tmp 1))⟩, ⟨(some 92), (some (88, true)), (.b2s (.tmp 91))⟩, ⟨(some 93), (some (88, true)), (.bin .eql (.tmp 90) (.tmp 92))⟩, ⟨(some 94), none, (.pick (.tmp 88) (.tmp 93) (.const (.one (.bool false))))⟩, ⟨(some 6), none, (.mv (.tmp 94))⟩]) .ret)))))))))))⟩
abbrev T4 : Nat → Callee := (upd (upd (upd (upd (upd (upd (upd none0 15 F15) 16 F16) 17 F17) 18 F18) 19 F19) 20 F20) 21 F21)
def F4 : Callee := evF T4 0 c4
theorem s4 : Sound Go.Proofs.Try.prog 4 F4 := fn_ok (upd_ok (upd_ok (upd_ok (upd_ok (upd_ok (upd_ok (upd_ok (none0_ok _) s15) s16) s17) s18) s19) s20) s21) mixed (by kernel_rfl)
def b68x0 : AC := (.seq (.seq (.ops [⟨(some 11), none, (.mv (.tmp 9))⟩, ⟨(some 12), none, (.mv (.tmp 0))⟩, ⟨(some 13), none, (.len (.tmp 12))⟩, ⟨(some 14), none, (.bin .lss (.tmp 11) (.tmp 13))⟩]) (.cond (.tmp 14) .skip (.exit 0))) (.seq (.block 1 (.seq (.ops [⟨(some 17), none, (.mv (.tmp 0))⟩, ⟨(some 18), none, (.mv (.tmp 9))⟩, ⟨(some 19), none, (.iadrR 3 (.tmp 17) (.tmp 18))⟩, ⟨(some 20), none, (.load (some 3) (.tmp 19))⟩, ⟨(some 10), none, (.alloc [(.sv (.int .u8 0)), (.sv (.int .i64 0)), (.sv (.int .i64 0))])⟩, ⟨none, none, (.store 3 (.tmp 10) (.tmp 20))⟩]) (.seq (.opsD [(⟨(some 21), none, (.fadr 0 (.tmp 10))⟩, false), (⟨(some 22), none, (.load none (.tmp 21))⟩, false), (⟨(some 23), none, (.mv (.tmp 2))⟩, false), (⟨(some 24), none, (.bin .eql (.tmp 22) (.tmp 23))⟩, false), (⟨(some 25), none, (.mv (.tmp 24))⟩, false), (⟨(some 26), (some (25, true)), (.mv (.tmp 1))⟩, false), (⟨(some 27), (some (25, true)), (.fadr 2 (.tmp 10))⟩, false), (⟨(some 28), (some (25, true)), (.load none (.tmp 27))⟩, false), (⟨(some 29), (some (25, true)), (.bin .geq (.tmp 26) (.tmp 28))⟩, false), (⟨(some 30), none, (.pick (.tmp 25) (.tmp 29) (.const (.one (.bool false))))⟩, false), (⟨(some 31), none, (.mv (.tmp 30))⟩, false), (⟨(some 32), (some (31, true)), (.mv (.tmp 1))⟩, false), (⟨(some 33), (some (31, true)), (.fadr 2 (.tmp 10))⟩, false), (⟨(some 34), (some (31, true)), (.load none (.tmp 33))⟩, false), (⟨(some 35), (some (31, true)), (.fadr 1 (.tmp 10))⟩, false), (⟨(some 36), (some (31, true)), (.load none (.tmp 35))⟩, false), (⟨(some 37), (some (31, true)), (.call 40 [(.tmp 36)])⟩, true), (⟨(some 38), (some (31, true)), (.bin .add (.tmp 34) (.tmp 37))⟩, false), (⟨(some 39), (some (31, true)), (.bin .lss (.tmp 32) (.tmp 38))⟩, false), (⟨(some 40), none, (.pick (.tmp 31) (.tmp 39) (.const (.one (.bool false))))⟩, false)] [(13, [1])]) (.cond (.tmp 40) (.seq (.opsD [(⟨(some 41), none, (.mv (.tmp 9))⟩, false), (⟨(some 42), none, (.mv (.tmp 1))⟩, false), (⟨(some 43), none, (.fadr 2 (.tmp 10))⟩, false), (⟨(some 44), none, (.load none (.tmp 43))⟩, false), (⟨(some 45), none, (.bin .sub (.tmp 42) (.tmp 44))⟩, false), (⟨(some 6), none, (.mv (.tmp 41))⟩, false), (⟨(some 7), none, (.mv (.tmp 45))⟩, false), (⟨(some 8), none, (.mv (.const (.one (.bool true))))⟩, false)] []) .ret) .skip)))) (.ops [⟨(some 15), none, (.mv (.tmp 9))⟩, ⟨(some 16), none, (.bin .add (.tmp 15) (.const (.one (.int .i64 1))))⟩, ⟨(some 9), none, (.mv (.tmp 16))⟩])))
def c68 : AF := ⟨[(6, none), (7, none), (8, none)],
  (.seq (.ops [⟨(some 6), none, (.mv (.const (.one (.int .i64 0))))⟩, ⟨(some 7), none, (.mv (.const (.one (.int .i64 0))))⟩, ⟨(some 8), none, (.mv (.const (.one (.bool false))))⟩]) (.seq (.seq (.ops [⟨(some 9), none, (.mv (.const (.one (.int .i64 0))))⟩]) (.block 0 (.loop [0, 1, 2, 9] b68x0))) (.seq (.ops [⟨(some 6), none, (.mv (.const (.one (.int .i64 0))))⟩, ⟨(some 7), none, (.mv (.const (.one (.int .i64 0))))⟩, ⟨(some 8), none, (.mv (.const (.one (.bool false))))⟩]) .ret)))⟩
abbrev T68 : Nat → Callee := (upd none0 40 F40)
def F68 : Callee := evF T68 KK c68
theorem s68 : Sound Go.Proofs.Try.prog 68 F68 := fn_ok (upd_ok (none0_ok _) s40) mixed (by kernel_rfl)
def b28x0 : AC := (.seq (.seq (.ops [⟨(some 17), none, (.mv (.tmp 10))⟩, ⟨(some 18), none, (.bin .geq (.tmp 17) (.const (.one (.int .i64 0))))⟩]) (.cond (.tmp 18) .skip (.exit 0))) (.seq (.block 1 (.seq (.ops [⟨(some 22), none, (.mv (.tmp 0))⟩, ⟨(some 23), none, (.mv (.tmp 9))⟩, ⟨(some 24), none, (.mv (.tmp 2))⟩, ⟨(some 25), none, (.mv (.tmp 10))⟩, ⟨(some 26), none, (.iadrR 1 (.tmp 24) (.tmp 25))⟩, ⟨(some 27), none, (.load none (.tmp 26))⟩, ⟨(some 28), none, (.call 68 [(.tmp 22), (.tmp 23), (.tmp 27)])⟩, ⟨(some 21), none, (.mv (.tmp 28))⟩, ⟨(some 29), none, (.extract 0 (.tmp 21))⟩, ⟨(some 30), none, (.extract 1 (.tmp 21))⟩, ⟨(some 31), none, (.extract 2 (.tmp 21))⟩, ⟨(some 11), none, (.mv (.tmp 29))⟩, ⟨(some 12), none, (.mv (.tmp 30))⟩, ⟨(some 13), none, (.mv (.tmp 31))⟩]) (.seq (.seq (.ops [⟨(some 32), none, (.mv (.tmp 13))⟩, ⟨(some 33), none, (.un .not (.tmp 32))⟩]) (.cond (.tmp 33) (.seq (.ops [⟨(some 6), none, (.newNil (.ints .i64 []))⟩, ⟨(some 7), none, (.mv (.const (.one (.bool false))))⟩]) .ret) .skip)) (.seq (.ops [⟨(some 34), none, (.mv (.tmp 8))⟩, ⟨(some 35), none, (.mv (.tmp 12))⟩, ⟨(some 36), none, (.conv .u32 (.tmp 35))⟩, ⟨(some 37), none, (.mv (.tmp 0))⟩, ⟨(some 38), none, (.mv (.tmp 11))⟩, ⟨(some 39), none, (.iadrR 3 (.tmp 37) (.tmp 38))⟩, ⟨(some 40), none, (.fadr 1 (.tmp 39))⟩, ⟨(some 41), none, (.load none (.tmp 40))⟩, ⟨(some 42), none, (.call 69 [(.tmp 36), (.tmp 41)])⟩, ⟨(some 43), none, (.append (.ints .i64 []) 8 (.tmp 34) (.tmp 42))⟩, ⟨(some 8), none, (.mv (.tmp 43))⟩]) (.ops [⟨(some 44), none, (.mv (.tmp 11))⟩, ⟨(some 9), none, (.mv (.tmp 44))⟩]))))) (.ops [⟨(some 19), none, (.mv (.tmp 10))⟩, ⟨(some 20), none, (.bin .sub (.tmp 19) (.const (.one (.int .i64 1))))⟩, ⟨(some 10), none, (.mv (.tmp 20))⟩])))
def c28 : AF := ⟨[(6, none), (7, none)],
  (.seq (.ops [⟨(some 6), none, (.newNil (.ints .i64 []))⟩, ⟨(some 7), none, (.mv (.const (.one (.bool false))))⟩]) (.seq (.ops [⟨(some 8), none, (.newNil (.ints .i64 []))⟩]) (.seq (.ops [⟨(some 9), none, (.mv (.const (.one (.int .i64 0))))⟩]) (.seq (.seq (.ops [⟨(some 14), none, (.mv (.tmp 2))⟩, ⟨(some 15), none, (.len (.tmp 14))⟩, ⟨(some 16), none, (.bin .sub (.tmp 15) (.const (.one (.int .i64 1))))⟩, ⟨(some 10), none, (.mv (.tmp 16))⟩]) (.block 0 (.loop [0, 1, 2, 8, 9, 10] b28x0))) (.seq (.ops [⟨(some 45), none, (.mv (.tmp 8))⟩, ⟨(some 46), none, (.mv (.tmp 9))⟩, ⟨(some 47), none, (.conv .u32 (.tmp 46))⟩, ⟨(some 48), none, (.mv (.tmp 1))⟩, ⟨(some 49), none, (.call 69 [(.tmp 47), (.tmp 48)])⟩, ⟨(some 50), none, (.append (.ints .i64 []) 8 (.tmp 45) (.tmp 49))⟩, ⟨(some 6), none, (.mv (.tmp 50))⟩, ⟨(some 7), none, (.mv (.const (.one (.bool true))))⟩]) .ret)))))⟩
abbrev T28 : Nat → Callee := (upd (upd none0 68 F68) 69 F69)
def F28 : Callee := evF T28 KK c28
theorem s28 : Sound Go.Proofs.Try.prog 28 F28 := fn_ok (upd_ok (upd_ok (none0_ok _) s68) s69) mixed (by kernel_rfl)
def c29 : AF := ⟨[(4, none), (5, none)],
  (.seq (.ops [⟨(some 4), none, (.mv (.const (.one (.int .i64 0))))⟩, ⟨(some 5), none, (.mv (.const (.one (.bool false))))⟩]) (.seq (.ops [⟨(some 9), none, (.mv (.tmp 0))⟩, ⟨(some 10), none, (.call 46 [(.tmp 9)])⟩, ⟨(some 6), none, (.alloc [(.sv (.int .i64 0))])⟩, ⟨none, none, (.store 1 (.tmp 6) (.tmp 10))⟩]) (.seq (.seq (.ops [⟨(some 12), none, (.mv (.tmp 0))⟩, ⟨(some 13), none, (.mv (.tmp 1))⟩, ⟨(some 14), none, (.mkfn 70 [(.tmp 6)])⟩, ⟨(some 15), none, (.call 53 [(.tmp 12), (.tmp 13), (.tmp 14)])⟩, ⟨(some 11), none, (.mv (.tmp 15))⟩, ⟨(some 16), none, (.extract 0 (.tmp 11))⟩, ⟨(some 17), none, (.extract 1 (.tmp 11))⟩, ⟨(some 7), none, (.mv (.tmp 16))⟩, ⟨(some 8), none, (.mv (.tmp 17))⟩]) (.seq (.ops [⟨(some 18), none, (.mv (.tmp 8))⟩, ⟨(some 19), none, (.un .not (.tmp 18))⟩]) (.cond (.tmp 19) (.seq (.ops [⟨(some 4), none, (.mv (.const (.one (.int .i64 0))))⟩, ⟨(some 5), none, (.mv (.const (.one (.bool false))))⟩]) .ret) .skip))) (.seq (.ops [⟨(some 20), none, (.load none (.tmp 6))⟩, ⟨(some 4), none, (.mv (.tmp 20))⟩, ⟨(some 5), none, (.mv (.const (.one (.bool true))))⟩]) .ret))))⟩
abbrev T29 : Nat → Callee := (upd (upd (upd none0 46 F46) 53 F53) 70 F70)
def F29 : Callee := evF T29 0 c29
theorem s29 : Sound Go.Proofs.Try.prog 29 F29 := fn_ok (upd_ok (upd_ok (upd_ok (none0_ok _) s46) s53) s70) mixed (by kernel_rfl)
def b71x0 : AC := (.seq (.seq (.ops [⟨(some 5), none, (.mv (.tmp 4))⟩, ⟨(some 6), none, (.mv (.tmp 0))⟩, ⟨(some 7), none, (.len (.tmp 6))⟩, ⟨(some 8), none, (.bin .lss (.tmp 5) (.tmp 7))⟩]) (.cond (.tmp 8) .skip (.exit 0))) (.seq (.block 1 (.seq (.seq (.ops [⟨(some 11), none, (.mv (.tmp 4))⟩, ⟨(some 12), none, (.bin .rem (.tmp 11) (.const (.one (.int .i64 8))))⟩, ⟨(some 13), none, (.bin .eql (.tmp 12) (.const (.one (.int .i64 0))))⟩]) (.cond (.tmp 13) (.ops [⟨(some 14), none, (.mv (.tmp 3))⟩, ⟨(some 15), none, (.bslice (.ints .u8 []) [(.int .u8 0)] 1 [(0, (.const (.one (.int .u8 0))))])⟩, ⟨(some 16), none, (.append (.ints .u8 []) 1 (.tmp 14) (.tmp 15))⟩, ⟨(some 3), none, (.mv (.tmp 16))⟩]) .skip)) (.seq (.ops [⟨(some 17), none, (.mv (.tmp 0))⟩, ⟨(some 18), none, (.mv (.tmp 4))⟩, ⟨(some 19), none, (.iadrR 1 (.tmp 17) (.tmp 18))⟩, ⟨(some 20), none, (.load none (.tmp 19))⟩, ⟨(some 21), none, (.bin .eql (.tmp 20) (.const (.one (.int .i64 1))))⟩]) (.cond (.tmp 21) (.opsD [(⟨(some 22), none, (.mv (.tmp 3))⟩, false), (⟨(some 23), none, (.mv (.tmp 4))⟩, false), (⟨(some 24), none, (.bin .quo (.tmp 23) (.const (.one (.int .i64 8))))⟩, false), (⟨(some 25), none, (.mv (.tmp 3))⟩, false), (⟨(some 26), none, (.mv (.tmp 4))⟩, false), (⟨(some 27), none, (.bin .quo (.tmp 26) (.const (.one (.int .i64 8))))⟩, false), (⟨(some 28), none, (.iadrR 1 (.tmp 25) (.tmp 27))⟩, false), (⟨(some 29), none, (.load none (.tmp 28))⟩, false), (⟨(some 30), none, (.mv (.tmp 4))⟩, false), (⟨(some 31), none, (.bin .rem (.tmp 30) (.const (.one (.int .i64 8))))⟩, false), (⟨(some 32), none, (.bin .shl (.const (.one (.int .u8 1))) (.tmp 31))⟩, false), (⟨(some 33), none, (.bin .or (.tmp 29) (.tmp 32))⟩, false), (⟨(some 34), none, (.iadrR 1 (.tmp 22) (.tmp 24))⟩, false), (⟨none, none, (.store 1 (.tmp 34) (.tmp 33))⟩, true)] []) .skip)))) (.ops [⟨(some 9), none, (.mv (.tmp 4))⟩, ⟨(some 10), none, (.bin .add (.tmp 9) (.const (.one (.int .i64 1))))⟩, ⟨(some 4), none, (.mv (.tmp 10))⟩])))
def c71 : AF := ⟨[(2, none)],
  (.seq (.ops [⟨(some 2), none, (.newNil (.ints .u8 []))⟩]) (.seq (.ops [⟨(some 3), none, (.newNil (.ints .u8 []))⟩]) (.seq (.seq (.ops [⟨(some 4), none, (.mv (.const (.one (.int .i64 0))))⟩]) (.block 0 (.loop [0, 3, 4] b71x0))) (.seq (.ops [⟨(some 35), none, (.mv (.tmp 3))⟩, ⟨(some 2), none, (.mv (.tmp 35))⟩]) .ret))))⟩
abbrev T71 : Nat → Callee := none0
def F71 : Callee := evF T71 KK c71
theorem s71 : Sound Go.Proofs.Try.prog 71 F71 := fn_ok (none0_ok _) mixed (by kernel_rfl)
def c30 : AF := ⟨[(2, none)],
  (.seq (.ops [⟨(some 2), none, (.newNil (.ints .u8 []))⟩]) (.seq (.ops [⟨(some 3), none, (.bslice (.ints .i64 []) [(.int .i64 0)] 0 [])⟩, ⟨(some 4), none, (.mv (.tmp 0))⟩, ⟨(some 5), none, (.append (.ints .i64 []) 8 (.tmp 3) (.tmp 4))⟩, ⟨(some 6), none, (.bslice (.ints .i64 []) [(.int .i64 0)] 1 [(0, (.const (.one (.int .i64 1))))])⟩, ⟨(some 7), none, (.append (.ints .i64 []) 8 (.tmp 5) (.tmp 6))⟩, ⟨(some 8), none, (.call 71 [(.tmp 7)])⟩, ⟨(some 2), none, (.mv (.tmp 8))⟩]) .ret))⟩
abbrev T30 : Nat → Callee := (upd none0 71 F71)
def F30 : Callee := evF T30 0 c30
theorem s30 : Sound Go.Proofs.Try.prog 30 F30 := fn_ok (upd_ok (none0_ok _) s71) mixed (by kernel_rfl)
def c6 : AF := ⟨[(6, none)],
  (.seq (.ops [⟨(some 6), none, (.mv (.const (.one (.bool false))))⟩]) (.seq (.seq (.ops [⟨(some 17), none, (.call 15 [])⟩, ⟨(some 18), none, (.un .not (.tmp 17))⟩]) (.cond (.tmp 18) (.seq (.ops [⟨(some 6), none, (.mv (.const (.one (.bool false))))⟩]) .ret) .skip)) (.seq (.seq (.ops [⟨(some 19), none, (.mv (.tmp 0))⟩, ⟨(some 20), none, (.len (.tmp 19))⟩, ⟨(some 21), none, (.bin .gtr (.tmp 20) (.const (.one (.int .i64 300))))⟩, ⟨(some 22), none, (.mv (.tmp 21))⟩, ⟨(some 23), (some (22, false)), (.mv (.tmp 2))⟩, ⟨(some 24), (some (22, false)), (.len (.tmp 23))⟩, ⟨(some 25), (some (22, false)), (.bin .gtr (.tmp 24) (.const (.one (.int .i64 100))))⟩, ⟨(some 26), none, (.pick (.tmp 22) (.const (.one (.bool true))) (.tmp 25))⟩, ⟨(some 27), none, (.mv (.tmp 26))⟩, ⟨(some 28), (some (27, false)), (.mv (.tmp 0))⟩, ⟨(some 29), (some (27, false)), (.mv (.tmp 1))⟩, ⟨(some 30), (some (27, false)), (.call 16 [(.tmp 28), (.tmp 29)])⟩, ⟨(some 31), (some (27, false)), (.un .not (.tmp 30))⟩, ⟨(some 32), none, (.pick (.tmp 27) (.const (.one (.bool true))) (.tmp 31))⟩]) (.cond (.tmp 32) (.seq (.ops [⟨(some 6), none, (.mv (.const (.one (.bool true))))⟩]) .ret) .skip)) (.seq (.ops [⟨(some 34), none, (.mv (.tmp 0))⟩, ⟨(some 35), none, (.mv (.tmp 1))⟩, ⟨(some 36), none, (.call 17 [(.tmp 34), (.tmp 35)])⟩, ⟨(some 33), none, (.mv (.tmp 36))⟩, ⟨(some 37), none, (.extract 0 (.tmp 33))⟩, ⟨(some 38), none, (.extract 1 (.tmp 33))⟩, ⟨(some 7), none, (.mv (.tmp 37))⟩, ⟨(some 8), none, (.mv (.tmp 38))⟩]) (.seq (.ops [⟨(some 40), none, (.mv (.tmp 0))⟩, ⟨(some 41), none, (.mv (.tmp 1))⟩, ⟨(some 42), none, (.call 20 [(.tmp 40), (.tmp 41)])⟩, ⟨(some 43), none, (.mv (.tmp 1))⟩, ⟨(some 44), none, (.mv (.tmp 2))⟩, ⟨(some 45), none, (.call 28 [(.tmp 42), (.tmp 43), (.tmp 44)])⟩, ⟨(some 39), none, (.mv (.tmp 45))⟩, ⟨(some 46), none, (.extract 0 (.tmp 39))⟩, ⟨(some 47), none, (.extract 1 (.tmp 39))⟩, ⟨(some 9), none, (.mv (.tmp 46))⟩, ⟨(some 10), none, (.mv (.tmp 47))⟩]) (.seq (.ops [⟨(some 49), none, (.mv (.tmp 7))⟩, ⟨(some 50), none, (.mv (.tmp 2))⟩, ⟨(some 51), none, (.call 21 [(.tmp 49), (.tmp 50)])⟩, ⟨(some 48), none, (.mv (.tmp 51))⟩, ⟨(some 52), none, (.extract 0 (.tmp 48))⟩, ⟨(some 53), none, (.extract 1 (.tmp 48))⟩, ⟨(some 11), none, (.mv (.tmp 52))⟩, ⟨(some 12), none, (.mv (.tmp 53))⟩]) (.seq (.ops [⟨(some 55), none, (.mv (.tmp 7))⟩, ⟨(some 56), none, (.mv (.tmp 2))⟩, ⟨(some 57), none, (.call 29 [(.tmp 55), (.tmp 56)])⟩, ⟨(some 54), none, (.mv (.tmp 57))⟩, ⟨(some 58), none, (.extract 0 (.tmp 54))⟩, ⟨(some 59), none, (.extract 1 (.tmp 54))⟩, ⟨(some 13), none, (.mv (.tmp 58))⟩, ⟨(some 14), none, (.mv (.tmp 59))⟩]) (.seq (.seq (.ops [⟨(some 60), none, (.mv (.tmp 12))⟩, ⟨(some 61), none, (.mv (.tmp 10))⟩, ⟨(some 62), none, (.eqB true (.tmp 60) (.tmp 61))⟩, ⟨(some 63), none, (.mv (.tmp 62))⟩, ⟨(some 64), (some (63, false)), (.mv (.tmp 14))⟩, ⟨(some 65), (some (63, false)), (.mv (.tmp 10))⟩, ⟨(some 66), (some (63, false)), (.eqB true (.tmp 64) (.tmp 65))⟩, ⟨(some 67), none, (.pick (.tmp 63) (.const (.one (.bool true))) (.tmp 66))⟩]) (.cond (.tmp 67) (.seq (.ops [⟨(some 6), none, (.mv (.const (.one (.bool false))))⟩]) .ret) .skip)) (.seq (.seq (.ops [⟨(some 68), none, (.mv (.tmp 10))⟩, ⟨(some 69), none, (.un .not (.tmp 68))⟩]) (.cond (.tmp 69) (.seq (.ops [⟨(some 70), none, (.mv (.tmp 11))⟩, ⟨(some 71), none, (.len (.tmp 70))⟩, ⟨(some 72), none, (.bin .eql (.tmp 71) (.const (.one (.int .i64 0))))⟩, ⟨(some 73), none, (.mv (.tmp 72))⟩, ⟨(some 74), (some (73, true)), (.mv (.tmp 13))⟩, ⟨(some 75), (some (73, true)), (.bin .eql (.tmp 74) (.const (.one (.int .i64 0))))⟩, ⟨(some 76), none, (.pick (.tmp 73) (.tmp 75) (.const (.one (.bool false))))⟩, ⟨(some 6), none, (.mv (.tmp 76))⟩]) .ret) .skip)) (.seq (.ops [⟨(some 78), none, (.mv (.tmp 7))⟩, ⟨(some 79), none, (.mv (.tmp 11))⟩, ⟨(some 80), none, (.mv (.tmp 2))⟩, ⟨(some 81), none, (.len (.tmp 80))⟩, ⟨(some 82), none, (.call 18 [(.tmp 78), (.tmp 79), (.tmp 81)])⟩, ⟨(some 77), none, (.mv (.tmp 82))⟩, ⟨(some 83), none, (.extract 0 (.tmp 77))⟩, ⟨(some 84), none, (.extract 1 (.tmp 77))⟩, ⟨(some 15), none, (.mv (.tmp 83))⟩, ⟨(some 16), none, (.mv (.tmp 84))⟩]) (.seq (.opsD [(⟨(some 85), none, (.mv (.tmp 11))⟩, false), (⟨(some 86), none, (.b2s (.tmp 85))⟩, false), (⟨(some 87), none, (.mv (.tmp 9))⟩, false), (⟨(some 88), none, (.call 30 [(.tmp 87)])⟩, true), (⟨(some 89), none, (.b2s (.tmp 88))⟩, false), (⟨(some 90), none, (.bin .eql (.tmp 86) (.tmp 89))⟩, false), (⟨(some 91), none, (.mv (.tmp 90))⟩, false), (⟨(some 92), (some (91, true)), (.mv (.tmp 13))⟩, false), (⟨(some 93), (some (91, true)), (.mv (.tmp 9))⟩, false), (⟨(some 94), (some (91, true)), (.len (.tmp 93))⟩, false), (⟨(some 95), (some (91, true)), (.bin .eql (.tmp 92) (.tmp 94))⟩, false), (⟨(some 96), none, (.pick (.tmp 91) (.tmp 95) (.const (.one (.bool false))))⟩, false), (⟨(some 97), none, (.mv (.tmp 96))⟩, false), (⟨(some 98), (some (97, true)), (.mv (.tmp 16))⟩, false), (⟨(some 99), none, (.pick (.tmp 97) (.tmp 98) (.const (.one (.bool false))))⟩, false), (⟨(some 100), none, (.mv (.tmp 99))⟩, false), (⟨(some 101), (some (100, true)), (.mv (.tmp 15))⟩, false), (⟨(some 102), (some (100, true)), (.b2s (.tmp 101))⟩, false), (⟨(some 103), (some (100, true)), (.mv (.tmp 2))⟩, false), (⟨(some 104), (some (100, true)), (.b2s (.tmp 103))⟩, false), (⟨(some 105), (some (100, true)), (.bin .eql (.tmp 102) (.tmp 104))⟩, false), (⟨(some 106), none, (.pick (.tmp 100) (.tmp 105) (.const (.one (.bool false))))⟩, false), (⟨(some 6), none, (.mv (.tmp 106))⟩, false)] [(1, [1])]) .ret)))))))))))⟩
abbrev T6 : Nat → Callee := (upd (upd (upd (upd (upd (upd (upd (upd (upd none0 15 F15) 16 F16) 17 F17) 18 F18) 20 F20) 21 F21) 28 F28) 29 F29) 30 F30)
def F6 : Callee := evF T6 0 c6
theorem s6 : Sound Go.Proofs.Try.prog 6 F6 := fn_ok (upd_ok (upd_ok (upd_ok (upd_ok (upd_ok (upd_ok (upd_ok (upd_ok (upd_ok (none0_ok _) s15) s16) s17) s18) s20) s21) s28) s29) s30) mixed (by kernel_rfl)
def b33x0 : AC := (.seq (.seq (.ops [⟨(some 12), none, (.mv (.tmp 3))⟩, ⟨(some 13), none, (.len (.tmp 12))⟩, ⟨(some 14), none, (.mv (.tmp 5))⟩, ⟨(some 15), none, (.conv .i64 (.tmp 14))⟩, ⟨(some 16), none, (.bin .leq (.tmp 13) (.tmp 15))⟩]) (.cond (.tmp 16) .skip (.exit 2))) (.block 3 (.ops [⟨(some 17), none, (.mv (.tmp 3))⟩, ⟨(some 18), none, (.bslice (.ints .i64 []) [(.int .i64 0)] 1 [(0, (.const (.one (.int .i64 0))))])⟩, ⟨(some 19), none, (.append (.ints .i64 []) 8 (.tmp 17) (.tmp 18))⟩, ⟨(some 3), none, (.mv (.tmp 19))⟩])))
def b33x1 : AC := (.seq (.ops [⟨(some 9), none, (.bin .lss (.tmp 8) (.tmp 7))⟩]) (.seq (.cond (.tmp 9) .skip (.exit 0)) (.seq (.block 1 (.seq (.ops [⟨(some 10), none, (.iadrR 1 (.tmp 6) (.tmp 8))⟩, ⟨(some 11), none, (.load none (.tmp 10))⟩, ⟨(some 5), none, (.mv (.tmp 11))⟩]) (.seq (.block 2 (.loop [3, 5, 6, 7, 8] b33x0)) (.ops [⟨(some 20), none, (.mv (.tmp 3))⟩, ⟨(some 21), none, (.mv (.tmp 5))⟩, ⟨(some 22), none, (.iadrR 1 (.tmp 20) (.tmp 21))⟩, ⟨(some 23), none, (.load none (.tmp 22))⟩, ⟨(some 24), none, (.bin .add (.tmp 23) (.const (.one (.int .i64 1))))⟩, ⟨(some 25), none, (.iadrR 1 (.tmp 20) (.tmp 21))⟩, ⟨none, none, (.store 1 (.tmp 25) (.tmp 24))⟩])))) (.ops [⟨(some 26), none, (.bin .add (.tmp 8) (.const (.one (.int .i64 1))))⟩, ⟨(some 8), none, (.mv (.tmp 26))⟩]))))
def c33 : AF := ⟨[(2, none)],
  (.seq (.ops [⟨(some 2), none, (.newNil (.ints .i64 []))⟩]) (.seq (.ops [⟨(some 3), none, (.newNil (.ints .i64 []))⟩]) (.seq (.seq (.ops [⟨(some 6), none, (.mv (.tmp 0))⟩, ⟨(some 7), none, (.len (.tmp 6))⟩, ⟨(some 8), none, (.mv (.const (.one (.int .i64 0))))⟩]) (.block 0 (.loop [3, 6, 7, 8] b33x1))) (.seq (.ops [⟨(some 27), none, (.mv (.tmp 3))⟩, ⟨(some 2), none, (.mv (.tmp 27))⟩]) .ret))))⟩
abbrev T33 : Nat → Callee := none0
def F33 : Callee := evF T33 KK c33
theorem s33 : Sound Go.Proofs.Try.prog 33 F33 := fn_ok (none0_ok _) mixed (by kernel_rfl)
def b74x0 : AC := (.seq (.ops [⟨(some 9), none, (.bin .lss (.tmp 8) (.tmp 7))⟩]) (.seq (.cond (.tmp 9) .skip (.exit 0)) (.seq (.block 1 (.seq (.ops [⟨(some 10), none, (.iadrR 1 (.tmp 6) (.tmp 8))⟩, ⟨(some 11), none, (.load none (.tmp 10))⟩, ⟨(some 5), none, (.mv (.tmp 11))⟩]) (.ops [⟨(some 12), none, (.mv (.tmp 3))⟩, ⟨(some 13), none, (.mv (.tmp 5))⟩, ⟨(some 14), none, (.bin .add (.tmp 12) (.tmp 13))⟩, ⟨(some 3), none, (.mv (.tmp 14))⟩]))) (.ops [⟨(some 15), none, (.bin .add (.tmp 8) (.const (.one (.int .i64 1))))⟩, ⟨(some 8), none, (.mv (.tmp 15))⟩]))))
def c74 : AF := ⟨[(2, none)],
  (.seq (.ops [⟨(some 2), none, (.mv (.const (.one (.int .i64 0))))⟩]) (.seq (.ops [⟨(some 3), none, (.mv (.const (.one (.int .i64 0))))⟩]) (.seq (.seq (.ops [⟨(some 6), none, (.mv (.tmp 0))⟩, ⟨(some 7), none, (.len (.tmp 6))⟩, ⟨(some 8), none, (.mv (.const (.one (.int .i64 0))))⟩]) (.block 0 (.loop [3, 6, 7, 8] b74x0))) (.seq (.ops [⟨(some 16), none, (.mv (.tmp 3))⟩, ⟨(some 2), none, (.mv (.tmp 16))⟩]) .ret))))⟩
abbrev T74 : Nat → Callee := none0
def F74 : Callee := evF T74 KK c74
theorem s74 : Sound Go.Proofs.Try.prog 74 F74 := fn_ok (none0_ok _) mixed (by kernel_rfl)
def b72x0 : AC := (.seq (.ops [⟨(some 11), none, (.bin .lss (.tmp 10) (.tmp 9))⟩]) (.seq (.cond (.tmp 11) .skip (.exit 0)) (.seq (.block 1 (.seq (.ops [⟨(some 12), none, (.iadrR 1 (.tmp 8) (.tmp 10))⟩, ⟨(some 13), none, (.load none (.tmp 12))⟩, ⟨(some 4), none, (.mv (.tmp 13))⟩]) (.seq (.ops [⟨(some 14), none, (.mv (.tmp 4))⟩, ⟨(some 15), none, (.bin .lss (.tmp 14) (.const (.one (.int .i64 0))))⟩, ⟨(some 16), none, (.mv (.tmp 15))⟩, ⟨(some 17), (some (16, false)), (.mv (.tmp 4))⟩, ⟨(some 18), (some (16, false)), (.bin .gtr (.tmp 17) (.const (.one (.int .i64 1048576))))⟩, ⟨(some 19), none, (.pick (.tmp 16) (.const (.one (.bool true))) (.tmp 18))⟩]) (.cond (.tmp 19) (.seq (.ops [⟨(some 2), none, (.mv (.const (.one (.bool false))))⟩]) .ret) .skip)))) (.ops [⟨(some 20), none, (.bin .add (.tmp 10) (.const (.one (.int .i64 1))))⟩, ⟨(some 10), none, (.mv (.tmp 20))⟩]))))
def c72 : AF := ⟨[(2, none)],
  (.seq (.ops [⟨(some 2), none, (.mv (.const (.one (.bool false))))⟩]) (.seq (.seq (.ops [⟨(some 5), none, (.mv (.tmp 0))⟩, ⟨(some 6), none, (.len (.tmp 5))⟩, ⟨(some 7), none, (.bin .gtr (.tmp 6) (.const (.one (.int .i64 256))))⟩]) (.cond (.tmp 7) (.seq (.ops [⟨(some 2), none, (.mv (.const (.one (.bool false))))⟩]) .ret) .skip)) (.seq (.seq (.ops [⟨(some 8), none, (.mv (.tmp 0))⟩, ⟨(some 9), none, (.len (.tmp 8))⟩, ⟨(some 10), none, (.mv (.const (.one (.int .i64 0))))⟩]) (.block 0 (.loop [0, 8, 9, 10] b72x0))) (.seq (.ops [⟨(some 21), none, (.mv (.tmp 0))⟩, ⟨(some 22), none, (.call 74 [(.tmp 21)])⟩, ⟨(some 23), none, (.bin .gtr (.tmp 22) (.const (.one (.int .i64 0))))⟩, ⟨(some 2), none, (.mv (.tmp 23))⟩]) .ret))))⟩
abbrev T72 : Nat → Callee := (upd none0 74 F74)
def F72 : Callee := evF T72 KK c72
theorem s72 : Sound Go.Proofs.Try.prog 72 F72 := fn_ok (upd_ok (none0_ok _) s74) mixed (by kernel_rfl)
def b73x0 : AC := (.seq (.ops [⟨(some 9), none, (.bin .lss (.tmp 8) (.tmp 7))⟩]) (.seq (.cond (.tmp 9) .skip (.exit 0)) (.seq (.block 1 (.seq (.ops [⟨(some 10), none, (.iadrR 1 (.tmp 6) (.tmp 8))⟩, ⟨(some 11), none, (.load none (.tmp 10))⟩, ⟨(some 5), none, (.mv (.tmp 11))⟩]) (.seq (.ops [⟨(some 12), none, (.mv (.tmp 5))⟩, ⟨(some 13), none, (.bin .gtr (.tmp 12) (.const (.one (.int .i64 0))))⟩]) (.cond (.tmp 13) (.ops [⟨(some 14), none, (.mv (.tmp 3))⟩, ⟨(some 15), none, (.bin .add (.tmp 14) (.const (.one (.int .i64 1))))⟩, ⟨(some 3), none, (.mv (.tmp 15))⟩]) .skip)))) (.ops [⟨(some 16), none, (.bin .add (.tmp 8) (.const (.one (.int .i64 1))))⟩, ⟨(some 8), none, (.mv (.tmp 16))⟩]))))
def c73 : AF := ⟨[(2, none)],
  (.seq (.ops [⟨(some 2), none, (.mv (.const (.one (.int .i64 0))))⟩]) (.seq (.ops [⟨(some 3), none, (.mv (.const (.one (.int .i64 0))))⟩]) (.seq (.seq (.ops [⟨(some 6), none, (.mv (.tmp 0))⟩, ⟨(some 7), none, (.len (.tmp 6))⟩, ⟨(some 8), none, (.mv (.const (.one (.int .i64 0))))⟩]) (.block 0 (.loop [3, 6, 7, 8] b73x0))) (.seq (.ops [⟨(some 17), none, (.mv (.tmp 3))⟩, ⟨(some 2), none, (.mv (.tmp 17))⟩]) .ret))))⟩
abbrev T73 : Nat → Callee := none0
def F73 : Callee := evF T73 KK c73
theorem s73 : Sound Go.Proofs.Try.prog 73 F73 := fn_ok (none0_ok _) mixed (by kernel_rfl)
def b34x0 : AC := (.seq (.seq (.opsD [(⟨(some 7), none, (.mv (.tmp 3))⟩, false), (⟨(some 8), none, (.bin .lss (.tmp 7) (.const (.one (.int .i64 9))))⟩, false), (⟨(some 9), none, (.mv (.tmp 8))⟩, false), (⟨(some 10), (some (9, true)), (.mv (.tmp 3))⟩, false), (⟨(some 11), (some (9, true)), (.bin .shl (.const (.one (.int .i64 1))) (.tmp 10))⟩, false), (⟨(some 12), (some (9, true)), (.mv (.tmp 0))⟩, false), (⟨(some 13), (some (9, true)), (.call 73 [(.tmp 12)])⟩, true), (⟨(some 14), (some (9, true)), (.bin .mul (.const (.one (.int .i64 4))) (.tmp 13))⟩, false), (⟨(some 15), (some (9, true)), (.bin .lss (.tmp 11) (.tmp 14))⟩, false), (⟨(some 16), (some (9, true)), (.mv (.tmp 15))⟩, false), (⟨(some 17), (some (16, false)), (.mv (.tmp 3))⟩, false), (⟨(some 18), (some (16, false)), (.bin .shl (.const (.one (.int .i64 1))) (.tmp 17))⟩, false), (⟨(some 19), (some (16, false)), (.mv (.tmp 0))⟩, false), (⟨(some 20), (some (16, false)), (.call 74 [(.tmp 19)])⟩, true), (⟨(some 21), (some (16, false)), (.bin .quo (.tmp 20) (.const (.one (.int .i64 8))))⟩, false), (⟨(some 22), (some (16, false)), (.bin .lss (.tmp 18) (.tmp 21))⟩, false), (⟨(some 23), (some (9, true)), (.pick (.tmp 16) (.const (.one (.bool true))) (.tmp 22))⟩, false), (⟨(some 24), none, (.pick (.tmp 9) (.tmp 23) (.const (.one (.bool false))))⟩, false)] []) (.cond (.tmp 24) .skip (.exit 0))) (.block 1 (.ops [⟨(some 25), none, (.mv (.tmp 3))⟩, ⟨(some 26), none, (.bin .add (.tmp 25) (.const (.one (.int .i64 1))))⟩, ⟨(some 3), none, (.mv (.tmp 26))⟩])))
def c34 : AF := ⟨[(2, none)],
  (.seq (.ops [⟨(some 2), none, (.mv (.const (.one (.int .i64 0))))⟩]) (.seq (.seq (.ops [⟨(some 4), none, (.mv (.tmp 0))⟩, ⟨(some 5), none, (.call 72 [(.tmp 4)])⟩, ⟨(some 6), none, (.un .not (.tmp 5))⟩]) (.cond (.tmp 6) (.seq (.ops [⟨(some 2), none, (.mv (.const (.one (.int .i64 0))))⟩]) .ret) .skip)) (.seq (.ops [⟨(some 3), none, (.mv (.const (.one (.int .i64 5))))⟩]) (.seq (.block 0 (.loop [0, 3] b34x0)) (.seq (.ops [⟨(some 27), none, (.mv (.tmp 3))⟩, ⟨(some 2), none, (.mv (.tmp 27))⟩]) .ret)))))⟩
abbrev T34 : Nat → Callee := (upd (upd (upd none0 72 F72) 73 F73) 74 F74)
def F34 : Callee := evF T34 KK c34
theorem s34 : Sound Go.Proofs.Try.prog 34 F34 := fn_ok (upd_ok (upd_ok (upd_ok (none0_ok _) s72) s73) s74) mixed (by kernel_rfl)
def b76x0 : AC := (.seq (.ops [⟨(some 17), none, (.bin .lss (.tmp 16) (.tmp 15))⟩]) (.seq (.cond (.tmp 17) .skip (.exit 0)) (.seq (.block 1 (.seq (.ops [⟨(some 18), none, (.mv (.tmp 16))⟩, ⟨(some 19), none, (.iadrR 1 (.tmp 14) (.tmp 16))⟩, ⟨(some 20), none, (.load none (.tmp 19))⟩, ⟨(some 7), none, (.mv (.tmp 18))⟩, ⟨(some 8), none, (.mv (.tmp 20))⟩]) (.seq (.ops [⟨(some 21), none, (.mv (.tmp 8))⟩, ⟨(some 22), none, (.bin .gtr (.tmp 21) (.const (.one (.int .i64 0))))⟩]) (.cond (.tmp 22) (.ops [⟨(some 23), none, (.mv (.tmp 6))⟩, ⟨(some 24), none, (.mv (.tmp 7))⟩, ⟨(some 25), none, (.mv (.tmp 8))⟩, ⟨(some 26), none, (.mv (.tmp 1))⟩, ⟨(some 27), none, (.bin .mul (.tmp 25) (.tmp 26))⟩, ⟨(some 28), none, (.mv (.tmp 5))⟩, ⟨(some 29), none, (.bin .quo (.tmp 27) (.tmp 28))⟩, ⟨(some 30), none, (.max [(.tmp 29), (.const (.one (.int .i64 1)))])⟩, ⟨(some 31), none, (.iadrR 1 (.tmp 23) (.tmp 24))⟩, ⟨none, none, (.store 1 (.tmp 31) (.tmp 30))⟩]) .skip)))) (.ops [⟨(some 32), none, (.bin .add (.tmp 16) (.const (.one (.int .i64 1))))⟩, ⟨(some 16), none, (.mv (.tmp 32))⟩]))))
def c76 : AF := ⟨[(4, none)],
  (.seq (.ops [⟨(some 4), none, (.newNil (.ints .i64 []))⟩]) (.seq (.ops [⟨(some 9), none, (.mv (.tmp 0))⟩, ⟨(some 10), none, (.call 74 [(.tmp 9)])⟩, ⟨(some 5), none, (.mv (.tmp 10))⟩]) (.seq (.ops [⟨(some 11), none, (.mv (.tmp 0))⟩, ⟨(some 12), none, (.len (.tmp 11))⟩, ⟨(some 13), none, (.mks (.ints .i64 []) [(.int .i64 0)] 8 (.tmp 12) (.tmp 12))⟩, ⟨(some 6), none, (.mv (.tmp 13))⟩]) (.seq (.seq (.ops [⟨(some 14), none, (.mv (.tmp 0))⟩, ⟨(some 15), none, (.len (.tmp 14))⟩, ⟨(some 16), none, (.mv (.const (.one (.int .i64 0))))⟩]) (.block 0 (.loop [1, 5, 6, 14, 15, 16] b76x0))) (.seq (.ops [⟨(some 33), none, (.mv (.tmp 6))⟩, ⟨(some 4), none, (.mv (.tmp 33))⟩]) .ret)))))⟩
abbrev T76 : Nat → Callee := (upd none0 74 F74)
def F76 : Callee := evF T76 KK c76
theorem s76 : Sound Go.Proofs.Try.prog 76 F76 := fn_ok (upd_ok (none0_ok _) s74) mixed (by kernel_rfl)
def b96x0 : AC := (.seq (.ops [⟨(some 9), none, (.bin .lss (.tmp 8) (.tmp 7))⟩]) (.seq (.cond (.tmp 9) .skip (.exit 0)) (.seq (.block 1 (.seq (.ops [⟨(some 10), none, (.mv (.tmp 8))⟩, ⟨(some 5), none, (.mv (.tmp 10))⟩]) (.seq (.ops [⟨(some 11), none, (.mv (.tmp 1))⟩, ⟨(some 12), none, (.mv (.tmp 0))⟩, ⟨(some 13), none, (.mv (.tmp 5))⟩, ⟨(some 14), none, (.iadrR 1 (.tmp 12) (.tmp 13))⟩, ⟨(some 15), none, (.load none (.tmp 14))⟩, ⟨(some 16), none, (.bin .eql (.tmp 11) (.tmp 15))⟩]) (.cond (.tmp 16) (.seq (.ops [⟨(some 17), none, (.mv (.tmp 5))⟩, ⟨(some 4), none, (.mv (.tmp 17))⟩]) .ret) .skip)))) (.ops [⟨(some 18), none, (.bin .add (.tmp 8) (.const (.one (.int .i64 1))))⟩, ⟨(some 8), none, (.mv (.tmp 18))⟩]))))
def c96 : AF := ⟨[(4, none)],
  (.seq (.ops [⟨(some 4), none, (.mv (.const (.one (.int .i64 0))))⟩]) (.seq (.seq (.ops [⟨(some 6), none, (.mv (.tmp 0))⟩, ⟨(some 7), none, (.len (.tmp 6))⟩, ⟨(some 8), none, (.mv (.const (.one (.int .i64 0))))⟩]) (.block 0 (.loop [0, 1, 7, 8] b96x0))) (.seq (.ops [⟨(some 4), none, (.mv (.const (.one (.int .i64 (-1)))))⟩]) .ret)))⟩
abbrev T96 : Nat → Callee := none0
def F96 : Callee := evF T96 KK c96
theorem s96 : Sound Go.Proofs.Try.prog 96 F96 := fn_ok (none0_ok _) mixed (by kernel_rfl)
def b97x0 : AC := (.seq (.seq (.ops [⟨(some 12), none, (.mv (.tmp 4))⟩, ⟨(some 13), none, (.mv (.tmp 0))⟩, ⟨(some 14), none, (.len (.tmp 13))⟩, ⟨(some 15), none, (.bin .lss (.tmp 12) (.tmp 14))⟩]) (.cond (.tmp 15) .skip (.exit 0))) (.seq (.block 1 (.ops [⟨(some 18), none, (.mv (.tmp 3))⟩, ⟨(some 19), none, (.mv (.tmp 0))⟩, ⟨(some 20), none, (.mv (.tmp 4))⟩, ⟨(some 21), none, (.iadrR 1 (.tmp 19) (.tmp 20))⟩, ⟨(some 22), none, (.load none (.tmp 21))⟩, ⟨(some 23), none, (.max [(.tmp 18), (.tmp 22)])⟩, ⟨(some 3), none, (.mv (.tmp 23))⟩])) (.ops [⟨(some 16), none, (.mv (.tmp 4))⟩, ⟨(some 17), none, (.bin .add (.tmp 16) (.const (.one (.int .i64 1))))⟩, ⟨(some 4), none, (.mv (.tmp 17))⟩])))
def c97 : AF := ⟨[(2, none)],
  (.seq (.ops [⟨(some 2), none, (.mv (.const (.one (.int .i64 0))))⟩]) (.seq (.seq (.ops [⟨(some 5), none, (.mv (.tmp 0))⟩, ⟨(some 6), none, (.len (.tmp 5))⟩, ⟨(some 7), none, (.bin .lss (.tmp 6) (.const (.one (.int .i64 1))))⟩]) (.cond (.tmp 7) (.ops [⟨(some 8), none, .bad⟩, ⟨none, none, .bad⟩]) .skip)) (.seq (.ops [⟨(some 9), none, (.mv (.tmp 0))⟩, ⟨(some 10), none, (.iadrR 1 (.tmp 9) (.const (.one (.int .i64 0))))⟩, ⟨(some 11), none, (.load none (.tmp 10))⟩, ⟨(some 3), none, (.mv (.tmp 11))⟩]) (.seq (.seq (.ops [⟨(some 4), none, (.mv (.const (.one (.int .i64 1))))⟩]) (.block 0 (.loop [0, 3, 4] b97x0))) (.seq (.ops [⟨(some 24), none, (.mv (.tmp 3))⟩, ⟨(some 2), none, (.mv (.tmp 24))⟩]) .ret)))))⟩
abbrev T97 : Nat → Callee := none0
def F97 : Callee := evF T97 KK c97
theorem s97 : Sound Go.Proofs.Try.prog 97 F97 := fn_ok (none0_ok _) mixed (by kernel_rfl)
def c77 : AF := ⟨[(2, none)],
  (.seq (.ops [⟨(some 2), none, (.mv (.const (.one (.int .i64 0))))⟩]) (.seq (.ops [⟨(some 3), none, (.mv (.tmp 0))⟩, ⟨(some 4), none, (.mv (.tmp 0))⟩, ⟨(some 5), none, (.call 97 [(.tmp 4)])⟩, ⟨(some 6), none, (.call 96 [(.tmp 3), (.tmp 5)])⟩, ⟨(some 2), none, (.mv (.tmp 6))⟩]) .ret))⟩
abbrev T77 : Nat → Callee := (upd (upd none0 96 F96) 97 F97)
def F77 : Callee := evF T77 0 c77
theorem s77 : Sound Go.Proofs.Try.prog 77 F77 := fn_ok (upd_ok (upd_ok (none0_ok _) s96) s97) mixed (by kernel_rfl)
def b35x0 : AC := (.seq (.seq (.ops [⟨(some 43), none, (.mv (.tmp 8))⟩, ⟨(some 44), none, (.bin .lss (.tmp 43) (.const (.one (.int .i64 0))))⟩]) (.cond (.tmp 44) .skip (.exit 0))) (.seq (.block 1 (.ops [⟨(some 47), none, (.mv (.tmp 7))⟩, ⟨(some 48), none, (.mv (.tmp 7))⟩, ⟨(some 49), none, (.call 77 [(.tmp 48)])⟩, ⟨(some 50), none, (.iadrR 1 (.tmp 47) (.tmp 49))⟩, ⟨(some 51), none, (.load none (.tmp 50))⟩, ⟨(some 52), none, (.bin .sub (.tmp 51) (.const (.one (.int .i64 1))))⟩, ⟨(some 53), none, (.iadrR 1 (.tmp 47) (.tmp 49))⟩, ⟨none, none, (.store 1 (.tmp 53) (.tmp 52))⟩])) (.ops [⟨(some 45), none, (.mv (.tmp 8))⟩, ⟨(some 46), none, (.bin .add (.tmp 45) (.const (.one (.int .i64 1))))⟩, ⟨(some 8), none, (.mv (.tmp 46))⟩])))
def c35 : AF := ⟨[(4, none), (5, none)],
  (.seq (.ops [⟨(some 4), none, (.newNil (.ints .i64 []))⟩, ⟨(some 5), none, (.mv (.const (.one (.bool false))))⟩]) (.seq (.seq (.opsD [(⟨(some 9), none, (.mv (.tmp 0))⟩, false), (⟨(some 10), none, (.call 72 [(.tmp 9)])⟩, true), (⟨(some 11), none, (.un .not (.tmp 10))⟩, false), (⟨(some 12), none, (.mv (.tmp 11))⟩, false), (⟨(some 13), (some (12, false)), (.mv (.tmp 1))⟩, false), (⟨(some 14), (some (12, false)), (.call 75 [(.tmp 13)])⟩, true), (⟨(some 15), (some (12, false)), (.un .not (.tmp 14))⟩, false), (⟨(some 16), none, (.pick (.tmp 12) (.const (.one (.bool true))) (.tmp 15))⟩, false), (⟨(some 17), none, (.mv (.tmp 16))⟩, false), (⟨(some 18), (some (17, false)), (.mv (.tmp 0))⟩, false), (⟨(some 19), (some (17, false)), (.call 73 [(.tmp 18)])⟩, true), (⟨(some 20), (some (17, false)), (.mv (.tmp 1))⟩, false), (⟨(some 21), (some (17, false)), (.bin .shl (.const (.one (.int .i64 1))) (.tmp 20))⟩, false), (⟨(some 22), (some (17, false)), (.bin .gtr (.tmp 19) (.tmp 21))⟩, false), (⟨(some 23), none, (.pick (.tmp 17) (.const (.one (.bool true))) (.tmp 22))⟩, false)] []) (.cond (.tmp 23) (.seq (.ops [⟨(some 4), none, (.newNil (.ints .i64 []))⟩, ⟨(some 5), none, (.mv (.const (.one (.bool false))))⟩]) .ret) .skip)) (.seq (.ops [⟨(some 24), none, (.mv (.tmp 1))⟩, ⟨(some 25), none, (.bin .shl (.const (.one (.int .i64 1))) (.tmp 24))⟩, ⟨(some 6), none, (.mv (.tmp 25))⟩]) (.seq (.ops [⟨(some 26), none, (.mv (.tmp 0))⟩, ⟨(some 27), none, (.mv (.tmp 6))⟩, ⟨(some 28), none, (.call 76 [(.tmp 26), (.tmp 27)])⟩, ⟨(some 7), none, (.mv (.tmp 28))⟩]) (.seq (.ops [⟨(some 29), none, (.mv (.tmp 6))⟩, ⟨(some 30), none, (.mv (.tmp 7))⟩, ⟨(some 31), none, (.call 74 [(.tmp 30)])⟩, ⟨(some 32), none, (.bin .sub (.tmp 29) (.tmp 31))⟩, ⟨(some 8), none, (.mv (.tmp 32))⟩]) (.seq (.seq (.ops [⟨(some 33), none, (.mv (.tmp 8))⟩, ⟨(some 34), none, (.bin .gtr (.tmp 33) (.const (.one (.int .i64 0))))⟩]) (.cond (.tmp 34) (.ops [⟨(some 35), none, (.mv (.tmp 7))⟩, ⟨(some 36), none, (.mv (.tmp 0))⟩, ⟨(some 37), none, (.call 77 [(.tmp 36)])⟩, ⟨(some 38), none, (.iadrR 1 (.tmp 35) (.tmp 37))⟩, ⟨(some 39), none, (.load none (.tmp 38))⟩, ⟨(some 40), none, (.mv (.tmp 8))⟩, ⟨(some 41), none, (.bin .add (.tmp 39) (.tmp 40))⟩, ⟨(some 42), none, (.iadrR 1 (.tmp 35) (.tmp 37))⟩, ⟨none, none, (.store 1 (.tmp 42) (.tmp 41))⟩]) .skip)) (.seq (.block 0 (.loop [7, 8] b35x0)) (.seq (.ops [⟨(some 54), none, (.mv (.tmp 7))⟩, ⟨(some 4), none, (.mv (.tmp 54))⟩, ⟨(some 5), none, (.mv (.const (.one (.bool true))))⟩]) .ret))))))))⟩
abbrev T35 : Nat → Callee := (upd (upd (upd (upd (upd (upd none0 72 F72) 73 F73) 74 F74) 75 F75) 76 F76) 77 F77)
def F35 : Callee := evF T35 KK c35
theorem s35 : Sound Go.Proofs.Try.prog 35 F35 := fn_ok (upd_ok (upd_ok (upd_ok (upd_ok (upd_ok (upd_ok (none0_ok _) s72) s73) s74) s75) s76) s77) mixed (by kernel_rfl)
def c8 : AF := ⟨[(2, none)],
  (.seq (.ops [⟨(some 2), none, (.mv (.const (.one (.bool false))))⟩]) (.seq (.seq (.ops [⟨(some 20), none, (.call 15 [])⟩, ⟨(some 21), none, (.un .not (.tmp 20))⟩]) (.cond (.tmp 21) (.seq (.ops [⟨(some 2), none, (.mv (.const (.one (.bool false))))⟩]) .ret) .skip)) (.seq (.seq (.ops [⟨(some 22), none, (.mv (.tmp 0))⟩, ⟨(some 23), none, (.len (.tmp 22))⟩, ⟨(some 24), none, (.bin .gtr (.tmp 23) (.const (.one (.int .i64 150))))⟩, ⟨(some 25), none, (.mv (.tmp 24))⟩, ⟨(some 26), (some (25, false)), (.mv (.tmp 0))⟩, ⟨(some 27), (some (25, false)), (.len (.tmp 26))⟩, ⟨(some 28), (some (25, false)), (.bin .eql (.tmp 27) (.const (.one (.int .i64 0))))⟩, ⟨(some 29), none, (.pick (.tmp 25) (.const (.one (.bool true))) (.tmp 28))⟩]) (.cond (.tmp 29) (.seq (.ops [⟨(some 2), none, (.mv (.const (.one (.bool true))))⟩]) .ret) .skip)) (.seq (.ops [⟨(some 30), none, (.mv (.tmp 0))⟩, ⟨(some 31), none, (.call 33 [(.tmp 30)])⟩, ⟨(some 3), none, (.mv (.tmp 31))⟩]) (.seq (.ops [⟨(some 32), none, (.mv (.tmp 3))⟩, ⟨(some 33), none, (.call 34 [(.tmp 32)])⟩, ⟨(some 4), none, (.mv (.tmp 33))⟩]) (.seq (.ops [⟨(some 35), none, (.mv (.tmp 3))⟩, ⟨(some 36), none, (.mv (.tmp 4))⟩, ⟨(some 37), none, (.call 35 [(.tmp 35), (.tmp 36)])⟩, ⟨(some 34), none, (.mv (.tmp 37))⟩, ⟨(some 38), none, (.extract 0 (.tmp 34))⟩, ⟨(some 39), none, (.extract 1 (.tmp 34))⟩, ⟨(some 5), none, (.mv (.tmp 38))⟩, ⟨(some 6), none, (.mv (.tmp 39))⟩]) (.seq (.ops [⟨(some 41), none, (.mv (.tmp 5))⟩, ⟨(some 42), none, (.mv (.tmp 4))⟩, ⟨(some 43), none, (.call 17 [(.tmp 41), (.tmp 42)])⟩, ⟨(some 40), none, (.mv (.tmp 43))⟩, ⟨(some 44), none, (.extract 0 (.tmp 40))⟩, ⟨(some 45), none, (.extract 1 (.tmp 40))⟩, ⟨(some 7), none, (.mv (.tmp 44))⟩, ⟨(some 8), none, (.mv (.tmp 45))⟩]) (.seq (.ops [⟨(some 47), none, (.mv (.tmp 7))⟩, ⟨(some 48), none, (.mv (.tmp 0))⟩, ⟨(some 49), none, (.call 29 [(.tmp 47), (.tmp 48)])⟩, ⟨(some 46), none, (.mv (.tmp 49))⟩, ⟨(some 50), none, (.extract 0 (.tmp 46))⟩, ⟨(some 51), none, (.extract 1 (.tmp 46))⟩, ⟨(some 9), none, (.mv (.tmp 50))⟩, ⟨(some 10), none, (.mv (.tmp 51))⟩]) (.seq (.ops [⟨(some 53), none, (.mv (.tmp 7))⟩, ⟨(some 54), none, (.mv (.tmp 0))⟩, ⟨(some 55), none, (.call 21 [(.tmp 53), (.tmp 54)])⟩, ⟨(some 52), none, (.mv (.tmp 55))⟩, ⟨(some 56), none, (.extract 0 (.tmp 52))⟩, ⟨(some 57), none, (.extract 1 (.tmp 52))⟩, ⟨(some 11), none, (.mv (.tmp 56))⟩, ⟨(some 12), none, (.mv (.tmp 57))⟩]) (.seq (.ops [⟨(some 59), none, (.mv (.tmp 7))⟩, ⟨(some 60), none, (.mv (.tmp 11))⟩, ⟨(some 61), none, (.mv (.tmp 0))⟩, ⟨(some 62), none, (.len (.tmp 61))⟩, ⟨(some 63), none, (.call 18 [(.tmp 59), (.tmp 60), (.tmp 62)])⟩, ⟨(some 58), none, (.mv (.tmp 63))⟩, ⟨(some 64), none, (.extract 0 (.tmp 58))⟩, ⟨(some 65), none, (.extract 1 (.tmp 58))⟩, ⟨(some 13), none, (.mv (.tmp 64))⟩, ⟨(some 14), none, (.mv (.tmp 65))⟩]) (.seq (.ops [⟨(some 15), none, (.mv (.const (.one .nilp)))⟩]) (.seq (.ops [⟨(some 67), none, (.mv (.tmp 15))⟩, ⟨(some 68), none, (.call 21 [(.tmp 67), (.const (.one (.nils (.ints .u8 []))))])⟩, ⟨(some 66), none, (.mv (.tmp 68))⟩, ⟨(some 69), none, (.extract 0 (.tmp 66))⟩, ⟨(some 70), none, (.extract 1 (.tmp 66))⟩, ⟨(some 16), none, (.mv (.tmp 69))⟩, ⟨(some 17), none, (.mv (.tmp 70))⟩]) (.seq (.ops [⟨(some 72), none, (.mv (.tmp 15))⟩, ⟨(some 73), none, (.mv (.tmp 11))⟩, ⟨(some 74), none, (.call 18 [(.tmp 72), (.tmp 73), (.const (.one (.int .i64 0)))])⟩, ⟨(some 71), none, (.mv (.tmp 74))⟩, ⟨(some 75), none, (.extract 0 (.tmp 71))⟩, ⟨(some 76), none, (.extract 1 (.tmp 71))⟩, ⟨(some 18), none, (.mv (.tmp 75))⟩, ⟨(some 19), none, (.mv (.tmp 76))⟩]) (.seq (.ops [⟨(some 77), none, (.mv (.tmp 6))⟩, ⟨(some 78), none, (.mv (.tmp 77))⟩, ⟨(some 79), (some (78, true)), (.mv (.tmp 8))⟩, ⟨(some 80), none, (.pick (.tmp 78) (.tmp 79) (.const (.one (.bool false))))⟩, ⟨(some 81), none, (.mv (.tmp 80))⟩, ⟨(some 82), (some (81, true)), (.mv (.tmp 10))⟩, ⟨(some 83), none, (.pick (.tmp 81) (.tmp 82) (.const (.one (.bool false))))⟩, ⟨(some 84), none, (.mv (.tmp 83))⟩, ⟨(some 85), (some (84, true)), (.mv (.tmp 12))⟩, ⟨(some 86), none, (.pick (.tmp 84) (.tmp 85) (.const (.one (.bool false))))⟩, ⟨(some 87), none, (.mv (.tmp 86))⟩, ⟨(some 88), (some (87, true)), (.mv (.tmp 14))⟩, ⟨(some 89), none, (.pick (.tmp 87) (.tmp 88) (.const (.one (.bool false))))⟩, ⟨(some 90), none, (.mv (.tmp 89))⟩, ⟨(some 91), (some (90, true)), (.mv (.tmp 9))⟩, ⟨(some 92), (some (90, true)), (.mv (.tmp 4))⟩, ⟨(some 93), (some (90, true)), (.mv (.tmp 0))⟩, ⟨(some 94), (some (90, true)), (.len (.tmp 93))⟩, ⟨(some 95), (some (90, true)), (.bin .add (.tmp 94) (.const (.one (.int .i64 1))))⟩, ⟨(some 96), (some (90, true)), (.bin .mul (.tmp 92) (.tmp 95))⟩, ⟨(some 97), (some (90, true)), (.bin .leq (.tmp 91) (.tmp 96))⟩, ⟨(some 98), none, (.pick (.tmp 90) (.tmp 97) (.const (.one (.bool false))))⟩, ⟨(some 99), none, (.mv (.tmp 98))⟩, ⟨(some 100), (some (99, true)), (.mv (.tmp 11))⟩, ⟨(some 101), (some (99, true)), (.len (.tmp 100))⟩, ⟨(some 102), (some (99, true)), (.mv (.tmp 9))⟩, ⟨(some 103), (some (99, true)), (.bin .quo (.tmp 102) (.const (.one (.int .i64 8))))⟩, ⟨(some 104), (some (99, true)), (.bin .add (.tmp 103) (.const (.one (.int .i64 1))))⟩, ⟨(some 105), (some (99, true)), (.bin .eql (.tmp 101) (.tmp 104))⟩, ⟨(some 106), none, (.pick (.tmp 99) (.tmp 105) (.const (.one (.bool false))))⟩, ⟨(some 107), none, (.mv (.tmp 106))⟩, ⟨(some 108), (some (107, true)), (.mv (.tmp 13))⟩, ⟨(some 109), (some (107, true)), (.b2s (.tmp 108))⟩, ⟨(some 110), (some (107, true)), (.mv (.tmp 0))⟩, ⟨(some 111), (some (107, true)), (.b2s (.tmp 110))⟩, ⟨(some 112), (some (107, true)), (.bin .eql (.tmp 109) (.tmp 111))⟩, ⟨(some 113), none, (.pick (.tmp 107) (.tmp 112) (.const (.one (.bool false))))⟩, ⟨(some 114), none, (.mv (.tmp 113))⟩, ⟨(some 115), (some (114, true)), (.mv (.tmp 17))⟩, ⟨(some 116), (some (114, true)), (.un .not (.tmp 115))⟩, ⟨(some 117), none, (.pick (.tmp 114) (.tmp 116) (.const (.one (.bool false))))⟩, ⟨(some 118), none, (.mv (.tmp 117))⟩, ⟨(some 119), (some (118, true)), (.mv (.tmp 19))⟩, ⟨(some 120), (some (118, true)), (.un .not (.tmp 119))⟩, ⟨(some 121), none, (.pick (.tmp 118) (.tmp 120) (.const (.one (.bool false))))⟩, ⟨(some 2), none, (.mv (.tmp 121))⟩]) .ret))))))))))))))⟩
abbrev T8 : Nat → Callee := (upd (upd (upd (upd (upd (upd (upd (upd none0 15 F15) 17 F17) 18 F18) 21 F21) 29 F29) 33 F33) 34 F34) 35 F35)
def F8 : Callee := evF T8 0 c8
theorem s8 : Sound Go.Proofs.Try.prog 8 F8 := fn_ok (upd_ok (upd_ok (upd_ok (upd_ok (upd_ok (upd_ok (upd_ok (upd_ok (none0_ok _) s15) s17) s18) s21) s29) s33) s34) s35) mixed (by kernel_rfl)
end Go.X.Try
/- The rules by which an abstract run is reckoned: each a step of simp. -/
set_option linter.unusedVariables false
set_option linter.unusedSimpArgs false
namespace Go.X
/-! What is reckoned first: what decides the way. -/
@[congr] theorem guardI_cg {b : Bool} {x y : Option St} {v v' : AV} (h : v = v') : guardI b x y v = guardI b x y v' := by rw [h]
@[congr] theorem stepG_cg {b : Bool} {r : Res} {hp : List Ob} {v v' : AV} (h : v = v') : stepG b r hp v = stepG b r hp v' := by rw [h]
@[congr] theorem thenI_cg {env : Env} {rts : List SV} {d : Option Nat} {f : St → Option St} {r r' : Res} (h : r = r') : thenI env rts d f r = thenI env rts d f r' := by rw [h]
@[congr] theorem thenD_cg {d : Option Nat} {b : Bool} {f : Env → List Ob → List (List Ob) → ResD} {env : Env} {hs : List (List Ob)} {r r' : Res} (h : r = r') : thenD d b f env hs r = thenD d b f env hs r' := by rw [h]
@[congr] theorem passN_cg {d : Option Nat} {f : Env → List Ob → Option (List RC)} {env : Env} {r r' : Res} (h : r = r') : passN d f env r = passN d f env r' := by rw [h]
@[congr] theorem passR_cg {d : Option Nat} {s : Nat} {f : Env → List Ob → Option (List RC)} {env : Env} {hp : List Ob} {r r' : Option RC} (h : r = r') : passR d s f env hp r = passR d s f env hp r' := by rw [h]
@[congr] theorem secF_cg {Γ : Nat → Callee} {l : List (AI × Bool × Option Nat)} {ck cf : List (Nat × List Nat)} {env : Env} {rts : List SV} {hp : List Ob} {r r' : Option (List RC)} (h : r = r') : secF Γ l ck cf env rts hp r = secF Γ l ck cf env rts hp r' := by rw [h]
@[congr] theorem finF_cg {Γ : Nat → Callee} {l : List (AI × Bool × Option Nat)} {n0 : Nat} {cs : List RC} {cf : List (Nat × List Nat)} {r r' : ResD} (h : r = r') : finF Γ l n0 cs cf r = finF Γ l n0 cs cf r' := by rw [h]
@[congr] theorem thenC_cg {f : St → Option (Ex × St)} {r r' : Option (Ex × St)} (h : r = r') : thenC f r = thenC f r' := by rw [h]
@[congr] theorem blockC_cg {i : Nat} {r r' : Option (Ex × St)} (h : r = r') : blockC i r = blockC i r' := by rw [h]
@[congr] theorem branchC_cg {f g : St → Option (Ex × St)} {st : St} {v v' : AV} (h : v = v') : branchC f g st v = branchC f g st v' := by rw [h]
@[congr] theorem resC_cg {rs : List (Nat × Option (Option Nat))} {r r' : Option (Ex × St)} (h : r = r') : resC rs r = resC rs r' := by rw [h]
@[congr] theorem finD_cg {Γ : Nat → Callee} {l : List (AI × Bool)} {ck : List (Nat × List Nat)} {rts : List SV} {r r' : ResD} (h : r = r') : finD Γ l ck rts r = finD Γ l ck rts r' := by rw [h]
attribute [simp] AV.same_refl SV.same_refl sameL_refl getT evDs ckKs ckAll finD finF ckFs ckSl rowsOf deads evC zcells putAt eqScs argEnv keep fillAll setScs reachSV reachOb reachL SV.ren renL AV.ren renT Env.ren Ob.ren pick avCells avsCells SV.strip stripL Ob.strip handed lendL lendArgs tagAll backKeys killAll layBack backL Ob.back argCells intsOf rcCells cviewAt AV.back backT scsOf partAt bsFrom getPs getPP getL getSL envCells resL pos
@[simp] theorem posPtr_some (o : Nat) (j : Nat) : posPtr o (some j) = .ptr j o := rfl
@[simp] theorem posPtr_none (o : Nat) : posPtr o none = .undef := rfl
@[simp] theorem posEptr_some (i o : Nat) (j : Nat) : posEptr i o (some j) = .eptr j i o := rfl
@[simp] theorem posEptr_none (i o : Nat) : posEptr i o none = .undef := rfl
@[simp] theorem posRow_some  (j : Nat) : posRow (some j) = .row j := rfl
@[simp] theorem posRow_none  : posRow none = .undef := rfl
@[simp] theorem posView_some (o n : Nat) (j : Nat) : posView o n (some j) = .view j o n := rfl
@[simp] theorem posView_none (o n : Nat) : posView o n none = .undef := rfl
@[simp] theorem posCview_some (o n : Nat) (j : Nat) : posCview o n (some j) = .cview j o n := rfl
@[simp] theorem posCview_none (o n : Nat) : posCview o n none = .undef := rfl
@[simp] theorem posF_def (ks : List Nat) (k : Nat) : posF ks k = pos k ks := rfl
@[simp] theorem ofOpt_some (o : Ob) : Ob.ofOpt (some o) = o := rfl
@[simp] theorem ofOpt_none  : Ob.ofOpt none = .dead := rfl
@[simp] theorem roOf_some (t : Nat) (v : SV) (c : RC) : roOf t v (some c) = .ro t c := rfl
@[simp] theorem lend_row (hp : List Ob) (ks : List Nat) (t : Nat) (k : Nat) : SV.lend hp ks t (.row k) = if ks.elem k then .row k else roOf t .undef (rowAt hp[k]?) := by simp [SV.lend, SV.strip]
@[simp] theorem back_row (args : List SV) (k : Nat) : SV.back args (.row k) = .row k := by simp [SV.back, SV.strip]
@[simp] theorem lend_view (hp : List Ob) (ks : List Nat) (t : Nat) (k o n : Nat) : SV.lend hp ks t (.view k o n) = if ks.elem k then .view k o n else roOf t .undef (cutAt o n hp[k]?) := by simp [SV.lend, SV.strip]
@[simp] theorem back_view (args : List SV) (k o n : Nat) : SV.back args (.view k o n) = .view k o n := by simp [SV.back, SV.strip]
@[simp] theorem lend_ro (hp : List Ob) (ks : List Nat) (t : Nat) (u : Nat) (c : RC) : SV.lend hp ks t (.ro u c) = .ro t c := by simp [SV.lend, SV.strip]
@[simp] theorem lend_rptr (hp : List Ob) (ks : List Nat) (t : Nat) (u : Nat) (c : RC) (i o : Nat) : SV.lend hp ks t (.rptr u c i o) = .rptr t c i o := by simp [SV.lend, SV.strip]
@[simp] theorem lend_eptr (hp : List Ob) (ks : List Nat) (t : Nat) (k i o : Nat) : SV.lend hp ks t (.eptr k i o) = if ks.elem k then .eptr k i o else .undef := by simp [SV.lend, SV.strip]
@[simp] theorem back_eptr (args : List SV) (k i o : Nat) : SV.back args (.eptr k i o) = .eptr k i o := by simp [SV.back, SV.strip]
@[simp] theorem lend_cview (hp : List Ob) (ks : List Nat) (t : Nat) (k o n : Nat) : SV.lend hp ks t (.cview k o n) = if ks.elem k then .cview k o n else roOf t .undef (cviewAt o n hp[k]?) := by simp [SV.lend, SV.strip]
@[simp] theorem back_cview (args : List SV) (k o n : Nat) : SV.back args (.cview k o n) = .cview k o n := by simp [SV.back, SV.strip]
@[simp] theorem lend_undef (hp : List Ob) (ks : List Nat) (t : Nat)  : SV.lend hp ks t .undef = .undef := by simp [SV.lend, SV.strip]
@[simp] theorem back_undef (args : List SV)  : SV.back args .undef = .undef := by simp [SV.back, SV.strip]
@[simp] theorem lend_int (hp : List Ob) (ks : List Nat) (t : Nat) (k : IntKind) (x : Int) : SV.lend hp ks t (.int k x) = .int k x := by simp [SV.lend, SV.strip]
@[simp] theorem back_int (args : List SV) (k : IntKind) (x : Int) : SV.back args (.int k x) = .int k x := by simp [SV.back, SV.strip]
@[simp] theorem lend_bool (hp : List Ob) (ks : List Nat) (t : Nat) (b : Bool) : SV.lend hp ks t (.bool b) = .bool b := by simp [SV.lend, SV.strip]
@[simp] theorem back_bool (args : List SV) (b : Bool) : SV.back args (.bool b) = .bool b := by simp [SV.back, SV.strip]
@[simp] theorem lend_str (hp : List Ob) (ks : List Nat) (t : Nat) (s : ByteArray) : SV.lend hp ks t (.str s) = .str s := by simp [SV.lend, SV.strip]
@[simp] theorem back_str (args : List SV) (s : ByteArray) : SV.back args (.str s) = .str s := by simp [SV.back, SV.strip]
@[simp] theorem lend_nilp (hp : List Ob) (ks : List Nat) (t : Nat)  : SV.lend hp ks t .nilp = .nilp := by simp [SV.lend, SV.strip]
@[simp] theorem back_nilp (args : List SV)  : SV.back args .nilp = .nilp := by simp [SV.back, SV.strip]
@[simp] theorem lend_ptr (hp : List Ob) (ks : List Nat) (t : Nat) (k o : Nat) : SV.lend hp ks t (.ptr k o) = .ptr k o := by simp [SV.lend, SV.strip]
@[simp] theorem back_ptr (args : List SV) (k o : Nat) : SV.back args (.ptr k o) = .ptr k o := by simp [SV.back, SV.strip]
@[simp] theorem lend_nils (hp : List Ob) (ks : List Nat) (t : Nat) (c : RC) : SV.lend hp ks t (.nils c) = .nils c := by simp [SV.lend, SV.strip]
@[simp] theorem back_nils (args : List SV) (c : RC) : SV.back args (.nils c) = .nils c := by simp [SV.back, SV.strip]
@[simp] theorem lend_fn (hp : List Ob) (ks : List Nat) (t : Nat) (f : Nat) (caps : List SV) : SV.lend hp ks t (.fn f caps) = .fn f (stripL caps) := by simp [SV.lend, SV.strip]
@[simp] theorem back_fn (args : List SV) (f : Nat) (caps : List SV) : SV.back args (.fn f caps) = .fn f (stripL caps) := by simp [SV.back, SV.strip]
@[simp] theorem lend_nilf (hp : List Ob) (ks : List Nat) (t : Nat)  : SV.lend hp ks t .nilf = .nilf := by simp [SV.lend, SV.strip]
@[simp] theorem back_nilf (args : List SV)  : SV.back args .nilf = .nilf := by simp [SV.back, SV.strip]
@[simp] theorem back_ro (args : List SV) (t : Nat) (c : RC) : SV.back args (.ro t c) = roArg t c args[t]? := rfl
@[simp] theorem roArg_ro (t u : Nat) (c d : RC) : roArg t c (some (.ro u d)) = .ro u c := rfl
@[simp] theorem avlend_one (hp : List Ob) (ks : List Nat) (t : Nat) (v : SV) : AV.lend hp ks t (.one v) = .one (v.lend hp ks t) := rfl
@[simp] theorem avlend_agg (hp : List Ob) (ks : List Nat) (t : Nat) (l : List SV) : AV.lend hp ks t (.agg l) = .agg (lendL hp ks t l) := rfl
@[simp] theorem tag_cells (i : Nat) (g : Option Nat) (l : List SV) : Ob.tag i (.cells g l) = .cells (some i) l := rfl
@[simp] theorem tag_rows (i : Nat) (c : RC) : Ob.tag i (.rows c) = .rows c := rfl
@[simp] theorem tag_dead (i : Nat) : Ob.tag i .dead = .dead := rfl
@[simp] theorem orgOf_cells (g : Option Nat) (l : List SV) : orgOf (some (.cells g l)) = g := rfl
@[simp] theorem backF_def (ks : List Nat) (n : Nat) (os : List Ob) (j : Nat) : backF ks n os j = (backKeys ks n os)[j]? := rfl
@[simp] theorem comeBack_none (hp : List Ob) (ks : List Nat) (args : List AV) : comeBack hp ks args none = none := rfl
@[simp] theorem comeBack_some (hp : List Ob) (ks : List Nat) (args : List AV) (r : AV) (os : List Ob) : comeBack hp ks args (some (r, os)) = some ((r.back (argCells args)).ren (backF ks hp.length os), layBack hp ks (backF ks hp.length os) (argCells args) os (killAll hp ks)) := rfl
@[simp] theorem callKs_def (Γ : Nat → Callee) (hp : List Ob) (f : Nat) (args : List AV) (ks : List Nat) : callKs Γ hp f args ks = comeBack hp ks args (Γ f (lendArgs hp ks 0 args) (tagAll 0 (Go.X.pick hp (posF ks) ks))) := rfl
@[simp] theorem pureCall_def (Γ : Nat → Callee) (hp : List Ob) (f : Nat) (args : List AV) : pureCall Γ hp f args = if plainArgs args = true then plainOut hp (Γ f args []) else none := rfl
@[simp] theorem plainOut_some (hp : List Ob) (r : AV) : plainOut hp (some (r, [])) = if r.plain = true then some (r, hp) else none := rfl
@[simp] theorem plainArgs_nil  : plainArgs [] = true := rfl
@[simp] theorem plainArgs_one (v : SV) (l : List AV) : plainArgs (.one v :: l) = (v.plain && plainArgs l) := rfl
@[simp] theorem plainArgs_agg (m : List SV) (l : List AV) : plainArgs (.agg m :: l) = (plainL m && plainArgs l) := rfl
@[simp] theorem plainL_nil  : plainL [] = true := rfl
@[simp] theorem plainL_cons (v : SV) (l : List SV) : plainL (v :: l) = (v.plain && plainL l) := rfl
@[simp] theorem plainT_nil  : plainT [] = true := rfl
@[simp] theorem plainT_cons (v : AV) (l : List AV) : plainT (v :: l) = (v.plain && plainT l) := rfl
@[simp] theorem plain_int (k : IntKind) (x : Int) : SV.plain (.int k x) = true := rfl
@[simp] theorem plain_bool (b : Bool) : SV.plain (.bool b) = true := rfl
@[simp] theorem plain_str (s : ByteArray) : SV.plain (.str s) = true := rfl
@[simp] theorem plain_one (v : SV) : AV.plain (.one v) = v.plain := rfl
@[simp] theorem plain_agg (l : List SV) : AV.plain (.agg l) = plainL l := rfl
@[simp] theorem plain_tup (l : List AV) : AV.plain (.tup l) = plainT l := rfl
@[simp] theorem callee_def (Γ : Nat → Callee) (hp : List Ob) (f : Nat) (args : List AV) : callee Γ hp f args = callKs Γ hp f args (handKs hp args) := rfl
@[simp] theorem handKs_def (hp : List Ob) (args : List AV) : handKs hp args = reachL hp 64 (handed (avsCells args)) [] := rfl
@[simp] theorem tidyKs_def (env : Env) (rts : List SV) (hp : List Ob) (ks : List Nat) : tidyKs env rts hp ks = ⟨env.ren (posF ks), renL (posF ks) rts, Go.X.pick hp (posF ks) ks⟩ := rfl
@[simp] theorem tidy_def (env : Env) (rts : List SV) (hp : List Ob) : tidy env rts hp = tidyKs env rts hp (reachL hp 64 (rts ++ envCells env) []) := rfl
@[simp] theorem head_def (live : List Nat) (env : Env) (rts : List SV) (hp : List Ob) : St.head live ⟨env, rts, hp⟩ = tidy (keep env live) rts hp := rfl
@[simp] theorem giveKs_def (v : AV) (hp : List Ob) (ks : List Nat) : giveKs v hp ks = some (v.ren (posF ks), Go.X.pick hp (posF ks) ks) := rfl
@[simp] theorem give_none (rts : List SV) (hp : List Ob) : give rts hp none = none := rfl
@[simp] theorem give_some (rts : List SV) (hp : List Ob) (l : List AV) : give rts hp (some l) = giveKs (tupOf l) hp (reachL hp 64 (rts ++ avCells (tupOf l)) []) := rfl
@[simp] theorem getO_tmp (env : Env) (t : Nat) : getO env (.tmp t) = getT t env := rfl
@[simp] theorem getO_const (env : Env) (v : AV) : getO env (.const v) = v := rfl
@[simp] theorem getS_def (env : Env) (x : AO) : getS env x = (getO env x).sv := rfl
@[simp] theorem getSo_none (env : Env) : getSo env none = none := rfl
@[simp] theorem getSo_some (env : Env) (x : AO) : getSo env (some x) = some (getS env x) := rfl
@[simp] theorem putE_some (env : Env) (d : Nat) (v : AV) : putE env (some d) v = (d, v) :: env := rfl
@[simp] theorem putE_none (env : Env) (v : AV) : putE env none v = env := rfl
@[simp] theorem sv_one (v : SV) : AV.sv (.one v) = v := rfl
@[simp] theorem sv_agg (l : List SV) : AV.sv (.agg l) = .undef := rfl
@[simp] theorem cells_one (v : SV) : AV.cells (.one v) = [v] := rfl
@[simp] theorem cells_agg (l : List SV) : AV.cells (.agg l) = l := rfl
@[simp] theorem thenC_norm (f : St → Option (Ex × St)) (st : St) : thenC f (some (.norm, st)) = f st := rfl
@[simp] theorem thenC_exit (f : St → Option (Ex × St)) (st : St) (i : Nat) : thenC f (some (.exit i, st)) = some (.exit i, st) := rfl
@[simp] theorem thenC_ret (f : St → Option (Ex × St)) (st : St) : thenC f (some (.ret, st)) = some (.ret, st) := rfl
@[simp] theorem blockC_norm (i : Nat) (st : St) : blockC i (some (.norm, st)) = some (.norm, st) := rfl
@[simp] theorem blockC_exit (i j : Nat) (st : St) : blockC i (some (.exit j, st)) = if i = j then some (.norm, st) else some (.exit j, st) := rfl
@[simp] theorem blockC_ret (i : Nat) (st : St) : blockC i (some (.ret, st)) = some (.ret, st) := rfl
@[simp] theorem normC_some (st : St) : normC (some st) = some (.norm, st) := rfl
@[simp] theorem branchC_bool (f g : St → Option (Ex × St)) (st : St) (t : Bool) : branchC f g st (.one (.bool t)) = if t = true then f st else g st := rfl
@[simp] theorem thenI_none (env : Env) (rts : List SV) (d : Option Nat) (f : St → Option St) : thenI env rts d f none = none := rfl
@[simp] theorem thenI_some (env : Env) (rts : List SV) (d : Option Nat) (f : St → Option St) (v : AV) (hp : List Ob) : thenI env rts d f (some (v, hp)) = f ⟨putE env d v, rts, hp⟩ := rfl
@[simp] theorem evIs_nil (Γ : Nat → Callee) (st : St) : evIs Γ [] st = some st := rfl
@[simp] theorem evIs_plain (Γ : Nat → Callee) (env : Env) (rts : List SV) (hp : List Ob) (dst : Option Nat) (op : AOp) (l : List AI) : evIs Γ (⟨dst, none, op⟩ :: l) ⟨env, rts, hp⟩ = thenI env rts dst (evIs Γ l) (evOp Γ env hp op) := rfl
@[simp] theorem evIs_guard (Γ : Nat → Callee) (env : Env) (rts : List SV) (hp : List Ob) (dst : Option Nat) (t : Nat) (b : Bool) (op : AOp) (l : List AI) : evIs Γ (⟨dst, some (t, b), op⟩ :: l) ⟨env, rts, hp⟩ = guardI b (thenI env rts dst (evIs Γ l) (evOp Γ env hp op)) (evIs Γ l ⟨putE env dst (.tup []), rts, hp⟩) (getT t env) := rfl
@[simp] theorem stepI_plain (Γ : Nat → Callee) (env : Env) (hp : List Ob) (d : Option Nat) (op : AOp) : stepI Γ env hp ⟨d, none, op⟩ = evOp Γ env hp op := rfl
@[simp] theorem stepI_guard (Γ : Nat → Callee) (env : Env) (hp : List Ob) (d : Option Nat) (t : Nat) (b : Bool) (op : AOp) : stepI Γ env hp ⟨d, some (t, b), op⟩ = stepG b (evOp Γ env hp op) hp (getT t env) := rfl
@[simp] theorem stepG_bool (b c : Bool) (r : Res) (hp : List Ob) : stepG b r hp (.one (.bool c)) = if c = b then r else some (.tup [], hp) := rfl
@[simp] theorem stepG_skip (b : Bool) (r : Res) (hp : List Ob) : stepG b r hp (.tup []) = some (.tup [], hp) := rfl
@[simp] theorem thenD_none (d : Option Nat) (b : Bool) (f : Env → List Ob → List (List Ob) → ResD) (env : Env) (hs : List (List Ob)) : thenD d b f env hs none = none := rfl
@[simp] theorem thenD_some (d : Option Nat) (b : Bool) (f : Env → List Ob → List (List Ob) → ResD) (env : Env) (hs : List (List Ob)) (v : AV) (hp : List Ob) : thenD d b f env hs (some (v, hp)) = f (putE env d v) hp (if b = true then hs ++ [hp] else hs) := rfl
@[simp] theorem ckAt_some (Γ : Nat → Callee) (env : Env) (hs : List (List Ob)) (ks : List Nat) (d : Nat) (g : Option (Nat × Bool)) (op : AOp) (b : Bool) : ckAt Γ env hs ks (some (⟨some d, g, op⟩, b)) = ckKs Γ env hs ⟨some d, g, op⟩ (getT d env) ks := rfl
@[simp] theorem ckR_none (v : AV) : ckR v none = false := rfl
@[simp] theorem ckR_some (v u : AV) (hp : List Ob) : ckR v (some (u, hp)) = u.same v := rfl
@[simp] theorem finD_none (Γ : Nat → Callee) (l : List (AI × Bool)) (ck : List (Nat × List Nat)) (rts : List SV) : finD Γ l ck rts none = none := rfl
@[simp] theorem oAppZ_int (hp : List Ob) (c0 : RC) (zero : List Sc) (bytes : Nat) (s : SV) (k : IntKind) (l : Int) : oAppZ hp c0 zero bytes s (.one (.int k l)) = if 0 ≤ l ∧ l * bytes ≤ 140737488355328 then app1 hp c0 bytes s .undef (RC.ofElems c0 (List.replicate l.toNat zero)) else none := rfl
@[simp] theorem repl1_none (n0 : Nat) (ai : AI) (b : Bool) : repl1 n0 (ai, b, none) = (ai, b) := rfl
@[simp] theorem repl1_some (n0 j : Nat) (d : Option Nat) (g : Option (Nat × Bool)) (op : AOp) (b : Bool) : repl1 n0 (⟨d, g, op⟩, b, some j) = (⟨d, none, .mv (.const (.one (.row (n0 + j))))⟩, false) := rfl
@[simp] theorem rowOf_some (c : RC) : rowOf (some (.one (.row 0), [.rows c])) = some c := rfl
@[simp] theorem consO_some (c : RC) (l : List RC) : consO c (some l) = some (c :: l) := rfl
@[simp] theorem passN_some (d : Option Nat) (f : Env → List Ob → Option (List RC)) (env : Env) (v : AV) (hp : List Ob) : passN d f env (some (v, hp)) = f (putE env d v) hp := rfl
@[simp] theorem passR_some (d : Option Nat) (s : Nat) (f : Env → List Ob → Option (List RC)) (env : Env) (hp : List Ob) (c : RC) : passR d s f env hp (some c) = consO c (f (putE env d (.one (.row s))) (hp.set s (.rows c))) := rfl
@[simp] theorem passF_nil (Γ : Nat → Callee) (n0 : Nat) (env : Env) (hp : List Ob) : passF Γ n0 [] env hp = some [] := rfl
@[simp] theorem passF_none (Γ : Nat → Callee) (n0 : Nat) (d : Option Nat) (g : Option (Nat × Bool)) (op : AOp) (b : Bool) (l : List (AI × Bool × Option Nat)) (env : Env) (hp : List Ob) : passF Γ n0 ((⟨d, g, op⟩, b, none) :: l) env hp = passN d (passF Γ n0 l) env (stepI Γ env hp ⟨d, g, op⟩) := rfl
@[simp] theorem passF_some (Γ : Nat → Callee) (n0 j : Nat) (d : Option Nat) (g : Option (Nat × Bool)) (op : AOp) (b : Bool) (l : List (AI × Bool × Option Nat)) (env : Env) (hp : List Ob) : passF Γ n0 ((⟨d, g, op⟩, b, some j) :: l) env hp = passR d (n0 + j) (passF Γ n0 l) env hp (rowOf (evOp Γ env [] op)) := rfl
@[simp] theorem obIs_some (c d : RC) : obIs c (some (.rows d)) = decide (d = c) := rfl
@[simp] theorem rcIs_some (c d : RC) : rcIs c (some d) = decide (d = c) := rfl
@[simp] theorem ckF1_some (Γ : Nat → Callee) (env : Env) (c : RC) (d : Option Nat) (g : Option (Nat × Bool)) (op : AOp) (b : Bool × Option Nat) : ckF1 Γ env c (some (⟨d, g, op⟩, b)) = rcIs c (rowOf (evOp Γ env [] op)) := rfl
@[simp] theorem finF_none (Γ : Nat → Callee) (l : List (AI × Bool × Option Nat)) (n0 : Nat) (cs : List RC) (cf : List (Nat × List Nat)) : finF Γ l n0 cs cf none = none := rfl
@[simp] theorem secF_some (Γ : Nat → Callee) (l : List (AI × Bool × Option Nat)) (ck cf : List (Nat × List Nat)) (env : Env) (rts : List SV) (hp : List Ob) (cs : List RC) : secF Γ l ck cf env rts hp (some cs) = finD Γ (l.map (repl1 hp.length)) ck rts (finF Γ l hp.length cs cf (evDs Γ (l.map (repl1 hp.length)) env (hp ++ rowsOf cs) [hp ++ rowsOf cs])) := rfl
@[simp] theorem tupOf_nil  : tupOf [] = .tup [] := rfl
@[simp] theorem thenC_none (f : St → Option (Ex × St)) : thenC f none = none := rfl
@[simp] theorem blockC_none (i : Nat) : blockC i none = none := rfl
@[simp] theorem normC_none  : normC none = none := rfl
@[simp] theorem guardI_skip (b : Bool) (x y : Option St) : guardI b x y (.tup []) = y := rfl
@[simp] theorem guardI_bool (b c : Bool) (x y : Option St) : guardI b x y (.one (.bool c)) = if c = b then x else y := rfl
@[simp] theorem put1_none (hp : List Ob) : put1 hp none = none := rfl
@[simp] theorem put1_some (hp : List Ob) (v : SV) : put1 hp (some v) = some (.one v, hp) := rfl
@[simp] theorem putA_none (hp : List Ob) : putA hp none = none := rfl
@[simp] theorem putA_some (hp : List Ob) (v : AV) : putA hp (some v) = some (v, hp) := rfl
@[simp] theorem putL_none (hp : List Ob) : putL hp none = none := rfl
@[simp] theorem putL_some (hp : List Ob) (v : List SV) : putL hp (some v) = some (.agg v, hp) := rfl
@[simp] theorem putR_none (hp : List Ob) : putR hp none = none := rfl
@[simp] theorem putR_some (hp : List Ob) (v : RC) : putR hp (some v) = newRow hp v := rfl
@[simp] theorem putH_none  : putH none = none := rfl
@[simp] theorem putH_some (h : List Ob) : putH (some h) = some (.one .undef, h) := rfl
@[simp] theorem putB_none (hp : List Ob) (n : Bool) : putB hp n none = none := rfl
@[simp] theorem putB_some (hp : List Ob) (n b : Bool) : putB hp n (some b) = some (.one (.bool (if n = true then !b else b)), hp) := rfl
@[simp] theorem evOp_mv (Γ : Nat → Callee) (env : Env) (hp : List Ob) (x : AO) : evOp Γ env hp (.mv x) = some (getO env x, hp) := rfl
@[simp] theorem evOp_newNil (Γ : Nat → Callee) (env : Env) (hp : List Ob) (c0 : RC) : evOp Γ env hp (.newNil c0) = newRow hp c0 := rfl
@[simp] theorem evOp_pick (Γ : Nat → Callee) (env : Env) (hp : List Ob) (a b c : AO) : evOp Γ env hp (.pick c a b) = oPick hp (getO env a) (getO env b) (getO env c) := rfl
@[simp] theorem evOp_alloc (Γ : Nat → Callee) (env : Env) (hp : List Ob) (z : List ZV) : evOp Γ env hp (.alloc z) = some (.one (.ptr (zcells z hp).2.length 0), (zcells z hp).2 ++ [.cells none (zcells z hp).1]) := rfl
@[simp] theorem evOp_box (Γ : Nat → Callee) (env : Env) (hp : List Ob) (x : AO) : evOp Γ env hp (.box x) = if (getO env x).cells.all okCell = true then some (.one (.ptr hp.length 0), hp ++ [.cells none (getO env x).cells]) else none := rfl
@[simp] theorem evOp_build (Γ : Nat → Callee) (env : Env) (hp : List Ob) (z : List ZV) (ps : List ((Nat × Nat) × AO)) : evOp Γ env hp (.build z ps) = if (getPP env ps).all (fun q => q.2.cells.all okCell) = true then putL (zcells z hp).2 (fillAll (zcells z hp).1 (getPP env ps)) else none := rfl
@[simp] theorem evOp_bslice (Γ : Nat → Callee) (env : Env) (hp : List Ob) (c0 : RC) (zero : List Sc) (len : Nat) (ps : List (Nat × AO)) : evOp Γ env hp (.bslice c0 zero len ps) = putR hp (ofElemsO c0 (bsFrom zero (getPs env ps) 0 len)) := rfl
@[simp] theorem evOp_load (Γ : Nat → Callee) (env : Env) (hp : List Ob) (x : AO) : evOp Γ env hp (.load none x) = put1 hp (loadOne hp (getS env x)) := rfl
@[simp] theorem evOp_load1 (Γ : Nat → Callee) (env : Env) (hp : List Ob) (n : Nat) (x : AO) : evOp Γ env hp (.load (some n) x) = putL hp (loadN hp n (getS env x)) := rfl
@[simp] theorem evOp_store (Γ : Nat → Callee) (env : Env) (hp : List Ob) (n : Nat) (x v : AO) : evOp Γ env hp (.store n x v) = if (getO env v).cells.length = n then putH (storeCells hp (getO env v).cells (getS env x)) else none := rfl
@[simp] theorem evOp_storeNil (Γ : Nat → Callee) (env : Env) (hp : List Ob) (c0 : RC) (x : AO) : evOp Γ env hp (.storeNil c0 x) = putH (storeCells (hp ++ [.rows c0]) [.row hp.length] (getS env x)) := rfl
@[simp] theorem evOp_nilCheck (Γ : Nat → Callee) (env : Env) (hp : List Ob) (x : AO) : evOp Γ env hp (.nilCheck x) = oNilCheck hp (getO env x) := rfl
@[simp] theorem evOp_bin (Γ : Nat → Callee) (env : Env) (hp : List Ob) (op : BinOp) (x y : AO) : evOp Γ env hp (.bin op x y) = put1 hp (Go.X.bin op (getS env x) (getS env y)) := rfl
@[simp] theorem evOp_eqNil (Γ : Nat → Callee) (env : Env) (hp : List Ob) (neq : Bool) (x : AO) : evOp Γ env hp (.eqNil neq x) = oEqNil hp neq (getO env x) := rfl
@[simp] theorem evOp_eqAgg (Γ : Nat → Callee) (env : Env) (hp : List Ob) (neq : Bool) (z : List Sc) (x y : AO) : evOp Γ env hp (.eqAgg neq z x y) = oEqAgg hp neq z (getO env x) (getO env y) := rfl
@[simp] theorem evOp_eqB (Γ : Nat → Callee) (env : Env) (hp : List Ob) (neq : Bool) (x y : AO) : evOp Γ env hp (.eqB neq x y) = oEqB hp neq (getO env x) (getO env y) := rfl
@[simp] theorem evOp_un (Γ : Nat → Callee) (env : Env) (hp : List Ob) (op : UnOp) (x : AO) : evOp Γ env hp (.un op x) = put1 hp (Go.X.un op (getS env x)) := rfl
@[simp] theorem evOp_conv (Γ : Nat → Callee) (env : Env) (hp : List Ob) (k : IntKind) (x : AO) : evOp Γ env hp (.conv k x) = oConv hp k (getO env x) := rfl
@[simp] theorem evOp_sconv (Γ : Nat → Callee) (env : Env) (hp : List Ob) (x : AO) : evOp Γ env hp (.sconv x) = oSconv hp (getO env x) := rfl
@[simp] theorem evOp_s2b (Γ : Nat → Callee) (env : Env) (hp : List Ob) (x : AO) : evOp Γ env hp (.s2b x) = oS2b hp (getO env x) := rfl
@[simp] theorem evOp_b2s (Γ : Nat → Callee) (env : Env) (hp : List Ob) (x : AO) : evOp Γ env hp (.b2s x) = oB2s hp (content hp (getS env x)) := rfl
@[simp] theorem evOp_cutS (Γ : Nat → Callee) (env : Env) (hp : List Ob) (x : AO) (lo hi : Option AO) : evOp Γ env hp (.cutS x lo hi) = oCutS hp (getSo env lo) (getSo env hi) (getO env x) := rfl
@[simp] theorem evOp_cutR (Γ : Nat → Callee) (env : Env) (hp : List Ob) (size : Nat) (x : AO) (lo hi : Option AO) : evOp Γ env hp (.cutR size x lo hi) = if Go.X.sizeOf hp (getS env x) = some size then oCutR hp (getSo env lo) (getSo env hi) (getS env x) (lenOf hp (getS env x)) else none := rfl
@[simp] theorem evOp_cutA (Γ : Nat → Callee) (env : Env) (hp : List Ob) (n : Nat) (x : AO) (lo hi : Option AO) : evOp Γ env hp (.cutA n x lo hi) = oCutA hp n (getSo env lo) (getSo env hi) (getO env x) := rfl
@[simp] theorem evOp_fadr (Γ : Nat → Callee) (env : Env) (hp : List Ob) (off : Nat) (x : AO) : evOp Γ env hp (.fadr off x) = oFadr hp off (getO env x) := rfl
@[simp] theorem evOp_fld (Γ : Nat → Callee) (env : Env) (hp : List Ob) (off : Nat) (n : Option Nat) (x : AO) : evOp Γ env hp (.fld off n x) = oFld hp off n (getO env x) := rfl
@[simp] theorem evOp_iadrR (Γ : Nat → Callee) (env : Env) (hp : List Ob) (size : Nat) (x i : AO) : evOp Γ env hp (.iadrR size x i) = if Go.X.sizeOf hp (getS env x) = some size then oIadrR hp (getS env x) (lenOf hp (getS env x)) (getO env i) else none := rfl
@[simp] theorem evOp_iadrA (Γ : Nat → Callee) (env : Env) (hp : List Ob) (len size : Nat) (x i : AO) : evOp Γ env hp (.iadrA len size x i) = oIadrA hp len size (getO env x) (getO env i) := rfl
@[simp] theorem evOp_idxA (Γ : Nat → Callee) (env : Env) (hp : List Ob) (len size : Nat) (n : Option Nat) (x i : AO) : evOp Γ env hp (.idxA len size n x i) = oIdxA hp len size n (getO env x) (getO env i) := rfl
@[simp] theorem evOp_idxS (Γ : Nat → Callee) (env : Env) (hp : List Ob) (x i : AO) : evOp Γ env hp (.idxS x i) = oIdxS hp (getO env x) (getO env i) := rfl
@[simp] theorem evOp_extract (Γ : Nat → Callee) (env : Env) (hp : List Ob) (i : Nat) (x : AO) : evOp Γ env hp (.extract i x) = oExtract hp i (getO env x) := rfl
@[simp] theorem evOp_call (Γ : Nat → Callee) (env : Env) (hp : List Ob) (f : Nat) (args : List AO) : evOp Γ env hp (.call f args) = callee Γ hp f (getL env args) := rfl
@[simp] theorem evOp_pcall (Γ : Nat → Callee) (env : Env) (hp : List Ob) (f : Nat) (args : List AO) : evOp Γ env hp (.pcall f args) = pureCall Γ hp f (getL env args) := rfl
@[simp] theorem evOp_callv (Γ : Nat → Callee) (env : Env) (hp : List Ob) (x : AO) (args : List AO) : evOp Γ env hp (.callv x args) = oCallv Γ hp (getL env args) (getO env x) := rfl
@[simp] theorem evOp_lenS (Γ : Nat → Callee) (env : Env) (hp : List Ob) (x : AO) : evOp Γ env hp (.lenS x) = oLenS hp (getO env x) := rfl
@[simp] theorem evOp_len (Γ : Nat → Callee) (env : Env) (hp : List Ob) (x : AO) : evOp Γ env hp (.len x) = oLen hp (lenOf hp (getS env x)) := rfl
@[simp] theorem evOp_append (Γ : Nat → Callee) (env : Env) (hp : List Ob) (c0 : RC) (bytes : Nat) (s x : AO) : evOp Γ env hp (.append c0 bytes s x) = Go.X.append hp c0 bytes (getS env s) (getS env x) := rfl
@[simp] theorem evOp_min (Γ : Nat → Callee) (env : Env) (hp : List Ob) (l : List AO) : evOp Γ env hp (.min l) = oMin hp (getL env l) := rfl
@[simp] theorem evOp_max (Γ : Nat → Callee) (env : Env) (hp : List Ob) (l : List AO) : evOp Γ env hp (.max l) = oMax hp (getL env l) := rfl
@[simp] theorem evOp_mkfn (Γ : Nat → Callee) (env : Env) (hp : List Ob) (f : Nat) (caps : List AO) : evOp Γ env hp (.mkfn f caps) = some (.one (.fn f (getSL env caps)), hp) := rfl
@[simp] theorem evOp_appZ (Γ : Nat → Callee) (env : Env) (hp : List Ob) (c0 : RC) (zero : List Sc) (bytes : Nat) (s x : AO) : evOp Γ env hp (.appZ c0 zero bytes s x) = oAppZ hp c0 zero bytes (getS env s) (getO env x) := rfl
@[simp] theorem evOp_mks (Γ : Nat → Callee) (env : Env) (hp : List Ob) (c0 : RC) (zero : List Sc) (bytes : Nat) (len cap : AO) : evOp Γ env hp (.mks c0 zero bytes len cap) = oMks hp c0 zero bytes (getO env len) (getO env cap) := rfl
@[simp] theorem evOp_copy (Γ : Nat → Callee) (env : Env) (hp : List Ob) (d s : AO) : evOp Γ env hp (.copy d s) = oCopy hp (getS env d) (getS env s) := rfl
@[simp] theorem evOp_bad (Γ : Nat → Callee) (env : Env) (hp : List Ob) : evOp Γ env hp .bad = none := rfl
@[simp] theorem oCopy_cview (hp : List Ob) (k o n j p m : Nat) : oCopy hp (.cview k o n) (.cview j p m) = copyV hp k o (Nat.min m n) (loadPN (hp[j]?) (Nat.min m n) p) := rfl
@[simp] theorem copyV_none (hp : List Ob) (k o n : Nat) : copyV hp k o n none = none := rfl
@[simp] theorem copyV_some (hp : List Ob) (k o n : Nat) (vs : List SV) : copyV hp k o n (some vs) = copyR n (storeP hp k vs o (hp[k]?)) := rfl
@[simp] theorem copyR_none (n : Nat) : copyR n none = none := rfl
@[simp] theorem copyR_some (n : Nat) (h : List Ob) : copyR n (some h) = some (.one (.int .i64 n), h) := rfl
@[simp] theorem newRow_def (hp : List Ob) (c : RC) : newRow hp c = some (.one (.row hp.length), hp ++ [.rows c]) := rfl
@[simp] theorem append_def (hp : List Ob) (c0 : RC) (bytes : Nat) (s x : SV) : Go.X.append hp c0 bytes s x = app1 hp c0 bytes s x (source hp c0 x) := rfl
@[simp] theorem app1_some (hp : List Ob) (c0 : RC) (bytes : Nat) (s x : SV) (y : RC) : app1 hp c0 bytes s x (some y) = app2 hp c0 bytes s x y := rfl
@[simp] theorem app2_nils (hp : List Ob) (c0 c : RC) (bytes : Nat) (x : SV) (y : RC) : app2 hp c0 bytes (.nils c) x y = if y.len * bytes ≤ 140737488355328 ∧ y.size = c0.size then putR hp (RC.app c0 y) else none := rfl
@[simp] theorem app2_row (hp : List Ob) (c0 : RC) (bytes k : Nat) (x : SV) (y : RC) : app2 hp c0 bytes (.row k) x y = if keyOf x = some k then none else app3 hp c0 bytes k y (rowAt (hp[k]?)) := rfl
@[simp] theorem app2_view (hp : List Ob) (c0 : RC) (bytes k o n : Nat) (x : SV) (y : RC) : app2 hp c0 bytes (.view k o n) x y = if keyOf x = some k then none else app3 hp c0 bytes k y (cutAt o n (hp[k]?)) := rfl
@[simp] theorem app3_some (hp : List Ob) (c0 : RC) (bytes k : Nat) (y c : RC) : app3 hp c0 bytes k y (some c) = if (c.len + y.len) * bytes ≤ 140737488355328 ∧ c.size = c0.size ∧ y.size = c0.size then putR (hp.set k .dead) (c.app y) else none := rfl
@[simp] theorem ofElemsO_some (c0 : RC) (l : List (List Sc)) : ofElemsO c0 (some l) = RC.ofElems c0 l := rfl
@[simp] theorem resC_norm (rs : List (Nat × Option (Option Nat))) (env : Env) (rts : List SV) (hp : List Ob) : resC rs (some (.norm, ⟨env, rts, hp⟩)) = give rts hp (resL env hp rs) := rfl
@[simp] theorem resC_ret (rs : List (Nat × Option (Option Nat))) (env : Env) (rts : List SV) (hp : List Ob) : resC rs (some (.ret, ⟨env, rts, hp⟩)) = give rts hp (resL env hp rs) := rfl
@[simp] theorem resC_none (rs : List (Nat × Option (Option Nat))) : resC rs none = none := rfl
@[simp] theorem resOf_tmp (env : Env) (hp : List Ob) (t : Nat) : resOf env hp (t, none) = some (getT t env) := rfl
@[simp] theorem resOf_one (env : Env) (hp : List Ob) (t : Nat) : resOf env hp (t, some none) = oneAV (loadOne hp (getT t env).sv) := rfl
@[simp] theorem resOf_agg (env : Env) (hp : List Ob) (t n : Nat) : resOf env hp (t, some (some n)) = aggAV (loadN hp n (getT t env).sv) := rfl
@[simp] theorem evF_def (Γ : Nat → Callee) (K : Nat) (f : AF) (args : List AV) (hp : List Ob) : evF Γ K f args hp = resC f.results (evC Γ K f.body ⟨argEnv 0 args, handed (avsCells args), hp⟩) := rfl
@[simp] theorem oPick_bool (hp : List Ob) (a b : AV) (t : Bool) : oPick hp a b (.one (.bool t)) = some (if t = true then a else b, hp) := rfl
@[simp] theorem oNilCheck_ptr (hp : List Ob) (k o : Nat) : oNilCheck hp (.one (.ptr k o)) = some (.one (.ptr k o), hp) := rfl
@[simp] theorem oNilCheck_eptr (hp : List Ob) (k i o : Nat) : oNilCheck hp (.one (.eptr k i o)) = some (.one (.eptr k i o), hp) := rfl
@[simp] theorem oNilCheck_rptr (hp : List Ob) (t : Nat) (c : RC) (i o : Nat) : oNilCheck hp (.one (.rptr t c i o)) = some (.one (.rptr t c i o), hp) := rfl
@[simp] theorem oNilCheck_fn (hp : List Ob) (f : Nat) (caps : List SV) : oNilCheck hp (.one (.fn f caps)) = some (.one (.fn f caps), hp) := rfl
@[simp] theorem oNilCheck_nilp (hp : List Ob) : oNilCheck hp (.one .nilp) = none := rfl
@[simp] theorem oEqNil_nilp (hp : List Ob) (neq : Bool) : oEqNil hp neq (.one .nilp) = some (.one (.bool (!neq)), hp) := rfl
@[simp] theorem oEqNil_ptr (hp : List Ob) (neq : Bool) (k o : Nat) : oEqNil hp neq (.one (.ptr k o)) = some (.one (.bool neq), hp) := rfl
@[simp] theorem oEqNil_eptr (hp : List Ob) (neq : Bool) (k i o : Nat) : oEqNil hp neq (.one (.eptr k i o)) = some (.one (.bool neq), hp) := rfl
@[simp] theorem oEqAgg_agg (hp : List Ob) (neq : Bool) (z : List Sc) (l m : List SV) : oEqAgg hp neq z (.agg l) (.agg m) = putB hp neq (eqScs z l m) := rfl
@[simp] theorem oConv_int (hp : List Ob) (k j : IntKind) (n : Int) : oConv hp k (.one (.int j n)) = some (.one (.int k (k.wrap n)), hp) := rfl
@[simp] theorem oSconv_str (hp : List Ob) (s : ByteArray) : oSconv hp (.one (.str s)) = some (.one (.str s), hp) := rfl
@[simp] theorem oS2b_str (hp : List Ob) (s : ByteArray) : oS2b hp (.one (.str s)) = if s.size ≤ 140737488355328 then newRow hp (.ints .u8 (toBytes s)) else none := rfl
@[simp] theorem oB2s_ints (hp : List Ob) (xs : List Int) : oB2s hp (some (.ints .u8 xs)) = some (.one (.str (ofBytes xs)), hp) := rfl
@[simp] theorem optInt_none (d : Nat) : optInt d none = some (d : Int) := rfl
@[simp] theorem optInt_int (d : Nat) (k : IntKind) (z : Int) : optInt d (some (.int k z)) = some z := rfl
@[simp] theorem oCutS_str (hp : List Ob) (lo hi : Option SV) (s : ByteArray) : oCutS hp lo hi (.one (.str s)) = cutS2 hp s (optInt 0 lo) (optInt s.size hi) := rfl
@[simp] theorem cutS2_some (hp : List Ob) (s : ByteArray) (a b : Int) : cutS2 hp s (some a) (some b) = if 0 ≤ a ∧ a ≤ b ∧ b ≤ s.size then some (.one (.str (s.extract a.toNat b.toNat)), hp) else none := rfl
@[simp] theorem oCutR_some (hp : List Ob) (lo hi : Option SV) (x : SV) (n : Nat) : oCutR hp lo hi x (some n) = cutR2 hp x n (optInt 0 lo) (optInt n hi) := rfl
@[simp] theorem cutR2_some (hp : List Ob) (x : SV) (n : Nat) (a b : Int) : cutR2 hp x n (some a) (some b) = if 0 ≤ a ∧ a ≤ b ∧ b ≤ n then put1 hp (cutSV a.toNat (b.toNat - a.toNat) x) else none := rfl
@[simp] theorem cutSV_row (a n k : Nat) : cutSV a n (.row k) = some (.view k a n) := rfl
@[simp] theorem cutSV_view (a n k o m : Nat) : cutSV a n (.view k o m) = some (.view k (o + a) n) := rfl
@[simp] theorem cutSV_cview (a n k o m : Nat) : cutSV a n (.cview k o m) = some (.cview k (o + a) n) := rfl
@[simp] theorem cutSV_ro (a n t : Nat) (c : RC) : cutSV a n (.ro t c) = some (.ro t (c.cut a n)) := rfl
@[simp] theorem cutSV_nils (a n : Nat) (c : RC) : cutSV a n (.nils c) = some (.nils c) := rfl
@[simp] theorem oCutA_ptr (hp : List Ob) (n : Nat) (lo hi : Option SV) (k o : Nat) : oCutA hp n lo hi (.one (.ptr k o)) = cutA2 hp n k o (optInt 0 lo) (optInt n hi) := rfl
@[simp] theorem cutA2_some (hp : List Ob) (n k o : Nat) (a b : Int) : cutA2 hp n k o (some a) (some b) = if 0 ≤ a ∧ a ≤ b ∧ b ≤ n then some (.one (.cview k (o + a.toNat) (b.toNat - a.toNat)), hp) else none := rfl
@[simp] theorem oFadr_ptr (hp : List Ob) (off k o : Nat) : oFadr hp off (.one (.ptr k o)) = some (.one (.ptr k (o + off)), hp) := rfl
@[simp] theorem oFadr_eptr (hp : List Ob) (off k i o : Nat) : oFadr hp off (.one (.eptr k i o)) = some (.one (.eptr k i (o + off)), hp) := rfl
@[simp] theorem oFadr_rptr (hp : List Ob) (off t : Nat) (c : RC) (i o : Nat) : oFadr hp off (.one (.rptr t c i o)) = some (.one (.rptr t c i (o + off)), hp) := rfl
@[simp] theorem oFld_agg (hp : List Ob) (off : Nat) (n : Option Nat) (l : List SV) : oFld hp off n (.agg l) = putA hp (takeAV l off n) := rfl
@[simp] theorem takeAV_none (l : List SV) (off : Nat) : takeAV l off none = (l[off]?).map AV.one := rfl
@[simp] theorem takeAV_some (l : List SV) (off n : Nat) : takeAV l off (some n) = if off + n ≤ l.length then some (.agg ((l.drop off).take n)) else none := rfl
@[simp] theorem elemPtr_row (i k : Nat) : elemPtr i (.row k) = some (.eptr k i 0) := rfl
@[simp] theorem elemPtr_view (i k o n : Nat) : elemPtr i (.view k o n) = some (.eptr k (o + i) 0) := rfl
@[simp] theorem elemPtr_cview (i k o n : Nat) : elemPtr i (.cview k o n) = some (.ptr k (o + i)) := rfl
@[simp] theorem elemPtr_ro (i t : Nat) (c : RC) : elemPtr i (.ro t c) = some (.rptr t c i 0) := rfl
@[simp] theorem oIadrR_some (hp : List Ob) (x : SV) (n : Nat) (k : IntKind) (i : Int) : oIadrR hp x (some n) (.one (.int k i)) = if inBounds i n = true then put1 hp (elemPtr i.toNat x) else none := rfl
@[simp] theorem oIadrA_ptr (hp : List Ob) (len size k o : Nat) (j : IntKind) (i : Int) : oIadrA hp len size (.one (.ptr k o)) (.one (.int j i)) = if inBounds i len = true then some (.one (.ptr k (o + i.toNat * size)), hp) else none := rfl
@[simp] theorem oIdxA_agg (hp : List Ob) (len size : Nat) (n : Option Nat) (l : List SV) (j : IntKind) (i : Int) : oIdxA hp len size n (.agg l) (.one (.int j i)) = if inBounds i len = true then putA hp (takeAV l (i.toNat * size) n) else none := rfl
@[simp] theorem oIdxS_str (hp : List Ob) (s : ByteArray) (j : IntKind) (i : Int) : oIdxS hp (.one (.str s)) (.one (.int j i)) = if inBounds i s.size = true then some (.one (.int .u8 ((toBytes s).getD i.toNat 0)), hp) else none := rfl
@[simp] theorem oExtract_tup (hp : List Ob) (i : Nat) (l : List AV) : oExtract hp i (.tup l) = putA hp l[i]? := rfl
@[simp] theorem oCallv_fn (Γ : Nat → Callee) (hp : List Ob) (args : List AV) (f : Nat) (caps : List SV) : oCallv Γ hp args (.one (.fn f caps)) = callee Γ hp f (args ++ caps.map AV.one) := rfl
@[simp] theorem oLen_some (hp : List Ob) (n : Nat) : oLen hp (some n) = some (.one (.int .i64 n), hp) := rfl
@[simp] theorem oMin_two (hp : List Ob) (k j : IntKind) (x y : Int) : oMin hp [.one (.int k x), .one (.int j y)] = some (.one (.int k (if y < x then y else x)), hp) := rfl
@[simp] theorem oMax_two (hp : List Ob) (k j : IntKind) (x y : Int) : oMax hp [.one (.int k x), .one (.int j y)] = some (.one (.int k (if x < y then y else x)), hp) := rfl
@[simp] theorem oMks_int (hp : List Ob) (c0 : RC) (zero : List Sc) (bytes : Nat) (k j : IntKind) (n c : Int) : oMks hp c0 zero bytes (.one (.int k n)) (.one (.int j c)) = if 0 ≤ n ∧ n ≤ c ∧ c * bytes ≤ 140737488355328 then putR hp (RC.ofElems c0 (List.replicate n.toNat zero)) else none := rfl
@[simp] theorem loadOne_eptr (hp : List Ob) (k i o : Nat) : loadOne hp (.eptr k i o) = loadE (hp[k]?) i o := rfl
@[simp] theorem loadOne_ptr (hp : List Ob) (k o : Nat) : loadOne hp (.ptr k o) = loadP (hp[k]?) o := rfl
@[simp] theorem loadOne_rptr (hp : List Ob) (t : Nat) (c : RC) (i o : Nat) : loadOne hp (.rptr t c i o) = scSV (c.get i o) := rfl
@[simp] theorem loadP_cells (g : Option Nat) (l : List SV) (o : Nat) : loadP (some (.cells g l)) o = l[o]? := rfl
@[simp] theorem loadE_rows (c : RC) (i o : Nat) : loadE (some (.rows c)) i o = scSV (c.get i o) := rfl
@[simp] theorem scSV_none  : scSV none = none := rfl
@[simp] theorem scSV_some (c : Sc) : scSV (some c) = some c.sv := rfl
@[simp] theorem loadN_ptr (hp : List Ob) (n k o : Nat) : loadN hp n (.ptr k o) = loadPN (hp[k]?) n o := rfl
@[simp] theorem loadN_eptr (hp : List Ob) (n k i o : Nat) : loadN hp n (.eptr k i o) = loadEN (hp[k]?) n i o := rfl
@[simp] theorem loadN_rptr (hp : List Ob) (n t : Nat) (c : RC) (i o : Nat) : loadN hp n (.rptr t c i o) = takeE c n i o := rfl
@[simp] theorem loadPN_cells (g : Option Nat) (l : List SV) (n o : Nat) : loadPN (some (.cells g l)) n o = if o + n ≤ l.length then some ((l.drop o).take n) else none := rfl
@[simp] theorem loadEN_rows (c : RC) (n i o : Nat) : loadEN (some (.rows c)) n i o = takeE c n i o := rfl
@[simp] theorem storeCells_ptr (hp : List Ob) (vs : List SV) (k o : Nat) : storeCells hp vs (.ptr k o) = storeP hp k vs o (hp[k]?) := rfl
@[simp] theorem storeCells_eptr (hp : List Ob) (vs : List SV) (k i o : Nat) : storeCells hp vs (.eptr k i o) = storeE hp k vs i o (hp[k]?) := rfl
@[simp] theorem storeP_cells (hp : List Ob) (g : Option Nat) (k : Nat) (vs : List SV) (o : Nat) (l : List SV) : storeP hp k vs o (some (.cells g l)) = if o + vs.length ≤ l.length ∧ vs.all okCell = true then some (hp.set k (.cells g (putAt l o vs))) else none := rfl
@[simp] theorem storeE_rows (hp : List Ob) (k : Nat) (vs : List SV) (i o : Nat) (c : RC) : storeE hp k vs i o (some (.rows c)) = rowsH hp k (setScs c i o vs) := rfl
@[simp] theorem rowsH_some (hp : List Ob) (k : Nat) (c : RC) : rowsH hp k (some c) = some (hp.set k (.rows c)) := rfl
@[simp] theorem rowsH_none (hp : List Ob) (k : Nat) : rowsH hp k none = none := rfl
@[simp] theorem sc_int (k : IntKind) (x : Int) : SV.sc (.int k x) = some (.int k x) := rfl
@[simp] theorem svsc_int (k : IntKind) (x : Int) : Sc.sv (.int k x) = .int k x := rfl
@[simp] theorem sc_bool (b : Bool) : SV.sc (.bool b) = some (.bool b) := rfl
@[simp] theorem svsc_bool (b : Bool) : Sc.sv (.bool b) = .bool b := rfl
@[simp] theorem sc_str (s : ByteArray) : SV.sc (.str s) = some (.str s) := rfl
@[simp] theorem svsc_str (s : ByteArray) : Sc.sv (.str s) = .str s := rfl
@[simp] theorem okCell_undef  : okCell .undef = false := rfl
@[simp] theorem okCell_int (k : IntKind) (x : Int) : okCell (.int k x) = true := rfl
@[simp] theorem okCell_bool (b : Bool) : okCell (.bool b) = true := rfl
@[simp] theorem okCell_str (s : ByteArray) : okCell (.str s) = true := rfl
@[simp] theorem okCell_nilp  : okCell .nilp = true := rfl
@[simp] theorem okCell_ptr (k o : Nat) : okCell (.ptr k o) = true := rfl
@[simp] theorem okCell_row (k : Nat) : okCell (.row k) = true := rfl
@[simp] theorem okCell_view (k o n : Nat) : okCell (.view k o n) = true := rfl
@[simp] theorem okCell_ro (t : Nat) (c : RC) : okCell (.ro t c) = true := rfl
@[simp] theorem okCell_fn (f : Nat) (caps : List SV) : okCell (.fn f caps) = true := rfl
@[simp] theorem okCell_nilf  : okCell .nilf = true := rfl
@[simp] theorem len_ints (k : IntKind) (xs : List (Int)) : RC.len (.ints k xs) = xs.length := rfl
@[simp] theorem size_ints (k : IntKind) (xs : List (Int)) : RC.size (.ints k xs) = 1 := rfl
@[simp] theorem cut_ints (k : IntKind) (xs : List (Int)) (a m : Nat) : RC.cut (.ints k xs) a m = .ints k ((xs.drop a).take m) := rfl
@[simp] theorem len_strs (xs : List (ByteArray)) : RC.len (.strs xs) = xs.length := rfl
@[simp] theorem size_strs (xs : List (ByteArray)) : RC.size (.strs xs) = 1 := rfl
@[simp] theorem cut_strs (xs : List (ByteArray)) (a m : Nat) : RC.cut (.strs xs) a m = .strs ((xs.drop a).take m) := rfl
@[simp] theorem len_bools (xs : List (Bool)) : RC.len (.bools xs) = xs.length := rfl
@[simp] theorem size_bools (xs : List (Bool)) : RC.size (.bools xs) = 1 := rfl
@[simp] theorem cut_bools (xs : List (Bool)) (a m : Nat) : RC.cut (.bools xs) a m = .bools ((xs.drop a).take m) := rfl
@[simp] theorem len_recs (n : Nat) (xs : List (List Sc)) : RC.len (.recs n xs) = xs.length := rfl
@[simp] theorem size_recs (n : Nat) (xs : List (List Sc)) : RC.size (.recs n xs) = n := rfl
@[simp] theorem cut_recs (n : Nat) (xs : List (List Sc)) (a m : Nat) : RC.cut (.recs n xs) a m = .recs n ((xs.drop a).take m) := rfl
@[simp] theorem get_ints (k : IntKind) (xs : List Int) (i off : Nat) : RC.get (.ints k xs) i off = if off = 0 then some (.int k (xs.getD i 0)) else none := rfl
@[simp] theorem get_strs (xs : List ByteArray) (i off : Nat) : RC.get (.strs xs) i off = if off = 0 then some (.str (xs.getD i .empty)) else none := rfl
@[simp] theorem get_bools (xs : List Bool) (i off : Nat) : RC.get (.bools xs) i off = if off = 0 then some (.bool (xs.getD i false)) else none := rfl
@[simp] theorem get_recs (n : Nat) (xs : List (List Sc)) (i off : Nat) : RC.get (.recs n xs) i off = (xs.getD i [])[off]? := rfl
@[simp] theorem elem_ints (k : IntKind) (xs : List Int) (i : Nat) : RC.elem (.ints k xs) i = [.int k (xs.getD i 0)] := rfl
@[simp] theorem elem_recs (n : Nat) (xs : List (List Sc)) (i : Nat) : RC.elem (.recs n xs) i = xs.getD i [] := rfl
@[simp] theorem set_ints (k j : IntKind) (xs : List Int) (i off : Nat) (x : Int) : RC.set (.ints k xs) i off (.int j x) = if off = 0 ∧ k = j then some (.ints k (xs.set i x)) else none := rfl
@[simp] theorem set_recs (n : Nat) (xs : List (List Sc)) (i off : Nat) (c : Sc) : RC.set (.recs n xs) i off c = if off < n then some (.recs n (xs.set i ((xs.getD i []).set off c))) else none := rfl
@[simp] theorem app_ints (k j : IntKind) (xs ys : List Int) : RC.app (.ints k xs) (.ints j ys) = if k = j then some (.ints k (xs ++ ys)) else none := rfl
@[simp] theorem app_strs (xs ys : List ByteArray) : RC.app (.strs xs) (.strs ys) = some (.strs (xs ++ ys)) := rfl
@[simp] theorem app_bools (xs ys : List Bool) : RC.app (.bools xs) (.bools ys) = some (.bools (xs ++ ys)) := rfl
@[simp] theorem app_recs (n m : Nat) (xs ys : List (List Sc)) : RC.app (.recs n xs) (.recs m ys) = if n = m then some (.recs n (xs ++ ys)) else none := rfl
@[simp] theorem content_row (hp : List Ob) (k : Nat) : content hp (.row k) = rowAt (hp[k]?) := rfl
@[simp] theorem content_view (hp : List Ob) (k o n : Nat) : content hp (.view k o n) = cutAt o n (hp[k]?) := rfl
@[simp] theorem content_ro (hp : List Ob) (t : Nat) (c : RC) : content hp (.ro t c) = some c := rfl
@[simp] theorem content_nils (hp : List Ob) (c : RC) : content hp (.nils c) = some c := rfl
@[simp] theorem rowAt_rows (c : RC) : rowAt (some (.rows c)) = some c := rfl
@[simp] theorem cutAt_rows (o n : Nat) (c : RC) : cutAt o n (some (.rows c)) = some (c.cut o n) := rfl
@[simp] theorem sizeAt_rows (c : RC) : sizeAt (some (.rows c)) = some c.size := rfl
@[simp] theorem sizeOf_row (hp : List Ob) (k : Nat) : Go.X.sizeOf hp (.row k) = sizeAt (hp[k]?) := rfl
@[simp] theorem sizeOf_view (hp : List Ob) (k o n : Nat) : Go.X.sizeOf hp (.view k o n) = sizeAt (hp[k]?) := rfl
@[simp] theorem sizeOf_cview (hp : List Ob) (k o n : Nat) : Go.X.sizeOf hp (.cview k o n) = some 1 := rfl
@[simp] theorem sizeOf_ro (hp : List Ob) (t : Nat) (c : RC) : Go.X.sizeOf hp (.ro t c) = some c.size := rfl
@[simp] theorem sizeOf_nils (hp : List Ob) (c : RC) : Go.X.sizeOf hp (.nils c) = some c.size := rfl
@[simp] theorem lenOf_row (hp : List Ob) (k : Nat) : lenOf hp (.row k) = lenAt (hp[k]?) := rfl
@[simp] theorem lenAt_rows (c : RC) : lenAt (some (.rows c)) = some c.len := rfl
@[simp] theorem lenOf_view (hp : List Ob) (k o n : Nat) : lenOf hp (.view k o n) = some n := rfl
@[simp] theorem lenOf_cview (hp : List Ob) (k o n : Nat) : lenOf hp (.cview k o n) = some n := rfl
@[simp] theorem lenOf_ro (hp : List Ob) (t : Nat) (c : RC) : lenOf hp (.ro t c) = some c.len := rfl
@[simp] theorem lenOf_nils (hp : List Ob) (c : RC) : lenOf hp (.nils c) = some 0 := rfl
@[simp] theorem oLenS_str (hp : List Ob) (s : ByteArray) : oLenS hp (.one (.str s)) = some (.one (.int .i64 s.size), hp) := rfl
@[simp] theorem source_str (hp : List Ob) (l : List Int) (s : ByteArray) : source hp (.ints .u8 l) (.str s) = some (.ints .u8 (toBytes s)) := rfl
@[simp] theorem source_row (hp : List Ob) (c0 : RC) (k : Nat) : source hp c0 (.row k) = content hp (.row k) := rfl
@[simp] theorem keyOf_row (k : Nat) : keyOf (.row k) = some k := rfl
@[simp] theorem source_view (hp : List Ob) (c0 : RC) (k o n : Nat) : source hp c0 (.view k o n) = content hp (.view k o n) := rfl
@[simp] theorem keyOf_view (k o n : Nat) : keyOf (.view k o n) = some k := rfl
@[simp] theorem source_ro (hp : List Ob) (c0 : RC) (t : Nat) (c : RC) : source hp c0 (.ro t c) = content hp (.ro t c) := rfl
@[simp] theorem keyOf_ro (t : Nat) (c : RC) : keyOf (.ro t c) = none := rfl
@[simp] theorem source_nils (hp : List Ob) (c0 : RC) (c : RC) : source hp c0 (.nils c) = content hp (.nils c) := rfl
@[simp] theorem keyOf_nils (c : RC) : keyOf (.nils c) = none := rfl
@[simp] theorem keyOf_undef  : keyOf .undef = none := rfl
@[simp] theorem takeE_def (c : RC) (n i o : Nat) : takeE c n i o = if o + n ≤ c.size then some ((((c.elem i).drop o).take n).map Sc.sv) else none := rfl
@[simp] theorem keyOf_str (s : ByteArray) : keyOf (.str s) = none := rfl
@[simp] theorem bin_add (k j : IntKind) (x y : Int) : Go.X.bin .add (.int k x) (.int j y) = if k = j then some (.int k (k.wrap (x + y))) else none := rfl
@[simp] theorem bin_sub (k j : IntKind) (x y : Int) : Go.X.bin .sub (.int k x) (.int j y) = if k = j then some (.int k (k.wrap (x - y))) else none := rfl
@[simp] theorem bin_mul (k j : IntKind) (x y : Int) : Go.X.bin .mul (.int k x) (.int j y) = if k = j then some (.int k (k.wrap (x * y))) else none := rfl
@[simp] theorem bin_and (k j : IntKind) (x y : Int) : Go.X.bin .and (.int k x) (.int j y) = if k = j then some (.int k (bitsI .and k x y)) else none := rfl
@[simp] theorem bin_or (k j : IntKind) (x y : Int) : Go.X.bin .or (.int k x) (.int j y) = if k = j then some (.int k (bitsI .or k x y)) else none := rfl
@[simp] theorem bin_xor (k j : IntKind) (x y : Int) : Go.X.bin .xor (.int k x) (.int j y) = if k = j then some (.int k (bitsI .xor k x y)) else none := rfl
@[simp] theorem bin_andNot (k j : IntKind) (x y : Int) : Go.X.bin .andNot (.int k x) (.int j y) = if k = j then some (.int k (bitsI .andNot k x y)) else none := rfl
@[simp] theorem bin_quo (k j : IntKind) (x y : Int) : Go.X.bin .quo (.int k x) (.int j y) = if k = j then (if y = 0 then none else some (.int k (k.wrap (x.tdiv y)))) else none := rfl
@[simp] theorem bin_rem (k j : IntKind) (x y : Int) : Go.X.bin .rem (.int k x) (.int j y) = if k = j then (if y = 0 then none else some (.int k (x.tmod y))) else none := rfl
@[simp] theorem bin_shl (k j : IntKind) (x y : Int) : Go.X.bin .shl (.int k x) (.int j y) = if y < 0 then none else some (.int k (shlI k x y)) := rfl
@[simp] theorem bin_shr (k j : IntKind) (x y : Int) : Go.X.bin .shr (.int k x) (.int j y) = if y < 0 then none else some (.int k (shrI k x y)) := rfl
@[simp] theorem bin_eql (k j : IntKind) (x y : Int) : Go.X.bin .eql (.int k x) (.int j y) = if k = j then some (.bool (x == y)) else none := rfl
@[simp] theorem bin_neq (k j : IntKind) (x y : Int) : Go.X.bin .neq (.int k x) (.int j y) = if k = j then some (.bool (x != y)) else none := rfl
@[simp] theorem bin_lss (k j : IntKind) (x y : Int) : Go.X.bin .lss (.int k x) (.int j y) = if k = j then some (.bool (decide (x < y))) else none := rfl
@[simp] theorem bin_leq (k j : IntKind) (x y : Int) : Go.X.bin .leq (.int k x) (.int j y) = if k = j then some (.bool (decide (x ≤ y))) else none := rfl
@[simp] theorem bin_gtr (k j : IntKind) (x y : Int) : Go.X.bin .gtr (.int k x) (.int j y) = if k = j then some (.bool (decide (y < x))) else none := rfl
@[simp] theorem bin_geq (k j : IntKind) (x y : Int) : Go.X.bin .geq (.int k x) (.int j y) = if k = j then some (.bool (decide (y ≤ x))) else none := rfl
@[simp] theorem oEqB_bool (hp : List Ob) (neq x y : Bool) : oEqB hp neq (.one (.bool x)) (.one (.bool y)) = putB hp neq (some (x == y)) := rfl
@[simp] theorem bin_sadd (x y : ByteArray) : Go.X.bin .add (.str x) (.str y) = if x.size + y.size ≤ 9223372036854775807 then some (.str (x ++ y)) else none := rfl
@[simp] theorem bin_seql (x y : ByteArray) : Go.X.bin .eql (.str x) (.str y) = some (.bool (x.toList == y.toList)) := rfl
@[simp] theorem bin_sneq (x y : ByteArray) : Go.X.bin .neq (.str x) (.str y) = some (.bool (!(x.toList == y.toList))) := rfl
@[simp] theorem un_neg (k : IntKind) (x : Int) : Go.X.un .neg (.int k x) = some (.int k (k.wrap (0 - x))) := rfl
@[simp] theorem un_xor (k : IntKind) (x : Int) : Go.X.un .xor (.int k x) = some (.int k (bitsI .xor k (if k.signed then -1 else k.max) x)) := rfl
@[simp] theorem un_not (b : Bool) : Go.X.un .not (.bool b) = some (.bool (!b)) := rfl
@[simp] theorem eqSc_int (k0 k j : IntKind) (x0 x y : Int) : eqSc (.int k0 x0) (.int k x) (.int j y) = if k = j then some (x == y) else none := rfl
@[simp] theorem eqSc_bool (x0 x y : Bool) : eqSc (.bool x0) (.bool x) (.bool y) = some (x == y) := rfl
@[simp] theorem eqSc_str (x0 x y : ByteArray) : eqSc (.str x0) (.str x) (.str y) = some (x == y) := rfl
@[simp] theorem oneAV_some (v : SV) : oneAV (some v) = some (.one v) := rfl
@[simp] theorem aggAV_some (l : List SV) : aggAV (some l) = some (.agg l) := rfl
@[simp] theorem tupOf_one (v : AV) : tupOf [v] = v := rfl
@[simp] theorem tupOf_two (v u : AV) (l : List AV) : tupOf (v :: u :: l) = .tup (v :: u :: l) := rfl
@[simp] theorem thenC_ite (f : St → Option (Ex × St)) (c : Prop) [Decidable c] (a b : Option (Ex × St)) : thenC f (if c then a else b) = if c then thenC f a else thenC f b := by split <;> rfl
@[simp] theorem thenI_ite (env : Env) (rts : List SV) (d : Option Nat) (f : St → Option St) (c : Prop) [Decidable c] (a b : Res) : thenI env rts d f (if c then a else b) = if c then thenI env rts d f a else thenI env rts d f b := by split <;> rfl
@[simp] theorem blockC_ite (i : Nat) (c : Prop) [Decidable c] (a b : Option (Ex × St)) : blockC i (if c then a else b) = if c then blockC i a else blockC i b := by split <;> rfl
@[simp] theorem normC_ite  (c : Prop) [Decidable c] (a b : Option St) : normC  (if c then a else b) = if c then normC  a else normC  b := by split <;> rfl
@[simp] theorem put1_ite (hp : List Ob) (c : Prop) [Decidable c] (a b : Option SV) : put1 hp (if c then a else b) = if c then put1 hp a else put1 hp b := by split <;> rfl
@[simp] theorem putA_ite (hp : List Ob) (c : Prop) [Decidable c] (a b : Option AV) : putA hp (if c then a else b) = if c then putA hp a else putA hp b := by split <;> rfl
@[simp] theorem putL_ite (hp : List Ob) (c : Prop) [Decidable c] (a b : Option (List SV)) : putL hp (if c then a else b) = if c then putL hp a else putL hp b := by split <;> rfl
@[simp] theorem putH_ite  (c : Prop) [Decidable c] (a b : Option (List Ob)) : putH  (if c then a else b) = if c then putH  a else putH  b := by split <;> rfl
@[simp] theorem putR_ite (hp : List Ob) (c : Prop) [Decidable c] (a b : Option RC) : putR hp (if c then a else b) = if c then putR hp a else putR hp b := by split <;> rfl
@[simp] theorem ofElemsO_ite (c0 : RC) (c : Prop) [Decidable c] (a b : Option (List (List Sc))) : ofElemsO c0 (if c then a else b) = if c then ofElemsO c0 a else ofElemsO c0 b := by split <;> rfl
@[simp] theorem putB_ite (hp : List Ob) (n : Bool) (c : Prop) [Decidable c] (a b : Option Bool) : putB hp n (if c then a else b) = if c then putB hp n a else putB hp n b := by split <;> rfl
@[simp] theorem resC_ite (rs : List (Nat × Option (Option Nat))) (c : Prop) [Decidable c] (a b : Option (Ex × St)) : resC rs (if c then a else b) = if c then resC rs a else resC rs b := by split <;> rfl
@[simp] theorem rowsH_ite (hp : List Ob) (k : Nat) (c : Prop) [Decidable c] (a b : Option RC) : rowsH hp k (if c then a else b) = if c then rowsH hp k a else rowsH hp k b := by split <;> rfl
@[simp] theorem scSV_ite  (c : Prop) [Decidable c] (a b : Option Sc) : scSV  (if c then a else b) = if c then scSV  a else scSV  b := by split <;> rfl
@[simp] theorem give_ite (rts : List SV) (hp : List Ob) (c : Prop) [Decidable c] (a b : Option (List AV)) : give rts hp (if c then a else b) = if c then give rts hp a else give rts hp b := by split <;> rfl
@[simp] theorem comeBack_ite (hp : List Ob) (ks : List Nat) (args : List AV) (c : Prop) [Decidable c] (a b : Res) : comeBack hp ks args (if c then a else b) = if c then comeBack hp ks args a else comeBack hp ks args b := by split <;> rfl
@[simp] theorem inBounds_nat (i : Int) (n : Nat) : (inBounds i n = true) = (0 ≤ i ∧ i < n) := by simp [inBounds]
end Go.X
set_option linter.unusedVariables false
namespace Go.X
/-! ### plain numbers -/
theorem shrI_eq (k : IntKind) (x y : Int) : shrI k x y = x / ((2 ^ Nat.min y.toNat k.bits : Nat) : Int) := by
  unfold shrI
  have h : ((2 ^ Nat.min y.toNat k.bits : Nat) : Int) = (2 : Int) ^ Nat.min y.toNat k.bits := by simp
  rw [← h, Int.fdiv_eq_ediv_of_nonneg _ (Int.natCast_nonneg _)]
/-- How many bits a number has. -/
def bl (n : Nat) : Nat := if n = 0 then 0 else Nat.log2 n + 1
theorem bl_pos {n : Nat} (h : 0 < n) : 2 ^ (bl n - 1) ≤ n ∧ n < 2 ^ bl n ∧ 0 < bl n := by
  have h' : n ≠ 0 := by omega
  simp only [bl, if_neg h', Nat.add_sub_cancel]
  exact ⟨Nat.log2_self_le h', Nat.lt_log2_self, by omega⟩
theorem bl_unique {n k : Nat} (h1 : 2 ^ k ≤ n) (h2 : n < 2 ^ (k + 1)) : bl n = k + 1 := by
  have h' : n ≠ 0 := by have := Nat.two_pow_pos k; omega
  simp only [bl, if_neg h']
  have h3 := (Nat.le_log2 h').2 h1
  have h4 := (Nat.log2_lt h').2 h2
  omega
theorem bl_div {n : Nat} (k : Nat) (h : 2 ^ k ≤ n) : bl n = k + bl (n / 2 ^ k) := by
  have hp := Nat.two_pow_pos k
  have hq : 0 < n / 2 ^ k := Nat.div_pos h hp
  obtain ⟨h1, h2, h3⟩ := bl_pos hq
  generalize bl (n / 2 ^ k) = b at *
  obtain ⟨c, rfl⟩ : ∃ c, b = c + 1 := ⟨b - 1, by omega⟩
  simp only [Nat.add_sub_cancel] at h1
  rw [show k + (c + 1) = (k + c) + 1 by omega]
  refine bl_unique ?_ ?_
  · rw [Nat.pow_add, Nat.mul_comm]
    exact (Nat.le_div_iff_mul_le hp).1 h1
  · rw [show k + c + 1 = (c + 1) + k by omega, Nat.pow_add]
    exact (Nat.div_lt_iff_lt_mul hp).1 h2
theorem bl_zero : bl 0 = 0 := rfl
theorem bl_le {n k : Nat} (h : n < 2 ^ k) : bl n ≤ k := by
  rcases Nat.eq_zero_or_pos n with e | e
  · subst e; simp [bl]
  · obtain ⟨h1, _, h3⟩ := bl_pos e
    have : 2 ^ (bl n - 1) < 2 ^ k := by omega
    have := (Nat.pow_lt_pow_iff_right (by omega : 1 < 2)).1 this
    omega
theorem bl_half {n : Nat} (h : 0 < n) : bl n = bl (n / 2) + 1 := by
  rcases Nat.lt_or_ge n 2 with h2 | h2
  · obtain rfl : n = 1 := by omega
    rfl
  · have := bl_div (n := n) 1 (by simpa using h2)
    simp at this; omega
end Go.X
set_option maxRecDepth 100000
namespace Go.X
/-! ### loops by their heads -/
def loopH (body : St → Option (Ex × St)) (live : List Nat) (k : Nat) (st : St) : Option (Ex × St) := thenC (loopN body live (k - 1)) (body st)
theorem loop_head {body : St → Option (Ex × St)} {live : List Nat} {k : Nat} (st : St) (h : k ≠ 0) : loopN body live k st = loopH body live k (st.head live) := by
  cases k with
  | zero => exact absurd rfl h
  | succ k => rfl
@[simp] theorem loop_KK (body : St → Option (Ex × St)) (live : List Nat) (st : St) : loopN body live KK st = loopH body live KK (st.head live) := loop_head st (by rw [KK_eq]; omega)
theorem loopH_norm {body : St → Option (Ex × St)} {live : List Nat} {k : Nat} {st st1 : St} (h : body st = some (.norm, st1)) (hk : 1 < k) : loopH body live k st = loopH body live (k - 1) (st1.head live) := by
  rw [loopH, h]; exact loop_head st1 (by omega)
theorem loopH_exit {body : St → Option (Ex × St)} {live : List Nat} {k : Nat} {st st1 : St} {i : Nat} (h : body st = some (.exit i, st1)) : loopH body live k st = some (.exit i, st1) := by
  rw [loopH, h]; rfl
theorem loopH_ret {body : St → Option (Ex × St)} {live : List Nat} {k : Nat} {st st1 : St} (h : body st = some (.ret, st1)) : loopH body live k st = some (.ret, st1) := by
  rw [loopH, h]; rfl
/-- A loop whose every round leads from a state told by a to one told by another, of less measure, or out of it. -/
theorem loopH_ind {α : Type} {body : St → Option (Ex × St)} {live : List Nat} (canon : α → St) (I : α → Prop) (P : α → Ex × St → Prop) (m : α → Nat)
    (hs : ∀ a, I a → (∃ r, body (canon a) = some r ∧ r.1 ≠ .norm ∧ P a r) ∨ (∃ st1 a', body (canon a) = some (.norm, st1) ∧ St.head live st1 = canon a' ∧ I a' ∧ m a' < m a ∧ ∀ r, P a' r → P a r)) :
    ∀ (k : Nat) (a : α), I a → m a < k → ∃ r, loopH body live k (canon a) = some r ∧ P a r
  | 0, a, _, hk => by omega
  | k + 1, a, ha, hk => by
    rcases hs a ha with ⟨r, h1, h2, h3⟩ | ⟨st1, a', h1, h2, h3, h4, h5⟩
    · obtain ⟨x, st1⟩ := r
      cases x with
      | norm => exact absurd rfl h2
      | exit i => exact ⟨_, loopH_exit h1, h3⟩
      | ret => exact ⟨_, loopH_ret h1, h3⟩
    · cases k with
      | zero => omega
      | succ k =>
        obtain ⟨r, e, hp⟩ := loopH_ind canon I P m hs (k + 1) a' h3 (by omega)
        exact ⟨r, by rw [loopH_norm h1 (by omega), h2]; exact e, h5 r hp⟩
/-! ### concrete runs: a loop turned round by round (simp with loop_go0, loop_go1) -/
def loopG (body : St → Option (Ex × St)) (live : List Nat) (n : Nat) (st : St) : Option (Ex × St) := loopH body live (KK - n) st
@[congr] theorem loopG_cg {body : St → Option (Ex × St)} {live : List Nat} {n : Nat} {st st' : St} (h : st = st') : loopG body live n st = loopG body live n st' := by rw [h]
@[congr] theorem loopH_cg {body : St → Option (Ex × St)} {live : List Nat} {k : Nat} {st st' : St} (h : st = st') : loopH body live k st = loopH body live k st' := by rw [h]
theorem loop_go0 (body : St → Option (Ex × St)) (live : List Nat) (st : St) : loopH body live KK st = loopG body live 0 st := rfl
theorem loop_go1 {body : St → Option (Ex × St)} {live : List Nat} {n : Nat} {st : St} (hn : n < 1000) : loopG body live n st = thenC (fun st => loopG body live (n + 1) (st.head live)) (body st) := by
  have hK := KK_eq
  unfold loopG loopH
  cases hb : body st with
  | none => rfl
  | some p =>
    obtain ⟨x, st1⟩ := p
    cases x with
    | norm =>
      have h1 : KK - n - 1 = KK - (n + 1) := by omega
      rw [h1]
      exact loop_head st1 (by omega)
    | exit i => rfl
    | ret => rfl

/-! ### a slice at a key: all of a row, or a part -/
def slv (k : Nat) : Option (Nat × Nat) → SV
  | none => .row k
  | some (o, n) => .view k o n
def slvO (s : Option (Nat × Nat)) : Option Nat → SV
  | some j => slv j s
  | none => .undef
@[simp] theorem slvO_some (s : Option (Nat × Nat)) (j : Nat) : slvO s (some j) = slv j s := rfl
@[simp ↓ high] theorem reachSV_slv (hp : List Ob) (f k : Nat) (s : Option (Nat × Nat)) (ks : List Nat) : reachSV hp (f + 1) (slv k s) ks = if ks.elem k then ks else reachOb hp f hp[k]? k ks := by
  cases s <;> simp only [slv, reachSV]
@[simp ↓ high] theorem ren_slv (f : Nat → Option Nat) (k : Nat) (s : Option (Nat × Nat)) : SV.ren f (slv k s) = slvO s (f k) := by
  cases s <;> simp only [slv, SV.ren, slvO] <;> cases f k <;> rfl
@[simp ↓ high] theorem back_slv (cs : List SV) (k : Nat) (s : Option (Nat × Nat)) : SV.back cs (slv k s) = slv k s := by
  cases s <;> simp [slv]
@[simp ↓ high] theorem strip_slv (k : Nat) (s : Option (Nat × Nat)) : SV.strip (slv k s) = slv k s := by
  cases s <;> simp [slv]
@[simp ↓ high] theorem okCell_slv (k : Nat) (s : Option (Nat × Nat)) : okCell (slv k s) = true := by
  cases s <;> simp [slv]
@[simp ↓ high] theorem handed_slv (k : Nat) (s : Option (Nat × Nat)) (l : List SV) : handed (slv k s :: l) = handed l := by
  cases s <;> simp [slv]
def vw {α : Type} (X : List α) : Option (Nat × Nat) → List α
  | none => X
  | some (o, n) => (X.drop o).take n
def vwn {α : Type} (X : List α) : Option (Nat × Nat) → Nat
  | none => X.length
  | some (_, n) => n
def vok {α : Type} (X : List α) : Option (Nat × Nat) → Prop
  | none => True
  | some (o, n) => o + n ≤ X.length
theorem vw_len {α : Type} (X : List α) (s : Option (Nat × Nat)) (h : vok X s) : (vw X s).length = vwn X s := by
  cases s with
  | none => rfl
  | some p =>
    obtain ⟨o, n⟩ := p
    simp only [vok] at h
    simp only [vw, vwn, List.length_take, List.length_drop]
    omega
@[simp ↓ high] theorem reachSV_sc (hp : List Ob) (f : Nat) (c : Sc) (ks : List Nat) : reachSV hp f c.sv ks = ks := by cases f <;> cases c <;> rfl
@[simp ↓ high] theorem ren_sc (f : Nat → Option Nat) (c : Sc) : SV.ren f c.sv = c.sv := by cases c <;> rfl
@[simp ↓ high] theorem back_sc (cs : List SV) (c : Sc) : SV.back cs c.sv = c.sv := by cases c <;> rfl
@[simp ↓ high] theorem okCell_sc (c : Sc) : okCell c.sv = true := by cases c <;> rfl
end Go.X
set_option maxRecDepth 100000
set_option linter.unusedVariables false
namespace Go.X
open Go.IntWalk
/-! ### bits as plain numbers -/
theorem bitsI_and {k : IntKind} {x y : Nat} (h : k.signed = false) (hx : x < 2 ^ k.bits) (hy : y < 2 ^ k.bits) : bitsI .and k (x : Int) (y : Int) = ((x &&& y : Nat) : Int) := by
  have e : ((BitVec.ofInt k.bits (x : Int) &&& BitVec.ofInt k.bits (y : Int)).toNat : Int) = ((x &&& y : Nat) : Int) := by
    rw [BitVec.toNat_and, BitVec.ofInt_natCast, BitVec.ofInt_natCast, BitVec.toNat_ofNat, BitVec.toNat_ofNat, Nat.mod_eq_of_lt hx, Nat.mod_eq_of_lt hy]
  have hlt : x &&& y < 2 ^ k.bits := Nat.lt_of_le_of_lt Nat.and_le_left hx
  show k.wrap _ = _
  rw [e]
  cases k <;> first | (exact absurd h (by decide)) | (simp only [IntKind.bits] at hlt; first | exact u8_in _ (by omega) | exact u16_in _ (by omega) | exact u32_in _ (by omega) | exact u64_in _ (by omega))
theorem bitsI_or {k : IntKind} {x y : Nat} (h : k.signed = false) (hx : x < 2 ^ k.bits) (hy : y < 2 ^ k.bits) : bitsI .or k (x : Int) (y : Int) = ((x ||| y : Nat) : Int) := by
  have e : ((BitVec.ofInt k.bits (x : Int) ||| BitVec.ofInt k.bits (y : Int)).toNat : Int) = ((x ||| y : Nat) : Int) := by
    rw [BitVec.toNat_or, BitVec.ofInt_natCast, BitVec.ofInt_natCast, BitVec.toNat_ofNat, BitVec.toNat_ofNat, Nat.mod_eq_of_lt hx, Nat.mod_eq_of_lt hy]
  have hlt : x ||| y < 2 ^ k.bits := Nat.or_lt_two_pow hx hy
  show k.wrap _ = _
  rw [e]
  cases k <;> first | (exact absurd h (by decide)) | (simp only [IntKind.bits] at hlt; first | exact u8_in _ (by omega) | exact u16_in _ (by omega) | exact u32_in _ (by omega) | exact u64_in _ (by omega))
theorem bitsI_and_i64 {x y : Nat} (hx : x < 2 ^ 63) (hy : y < 2 ^ 63) : bitsI .and .i64 (x : Int) (y : Int) = ((x &&& y : Nat) : Int) := by
  have e : ((BitVec.ofInt 64 (x : Int) &&& BitVec.ofInt 64 (y : Int)).toNat : Int) = ((x &&& y : Nat) : Int) := by
    rw [BitVec.toNat_and, BitVec.ofInt_natCast, BitVec.ofInt_natCast, BitVec.toNat_ofNat, BitVec.toNat_ofNat, Nat.mod_eq_of_lt (by omega), Nat.mod_eq_of_lt (by omega)]
  have hlt : x &&& y < 2 ^ 63 := Nat.lt_of_le_of_lt Nat.and_le_left hx
  show IntKind.i64.wrap _ = _
  have e2 : ((BitVec.ofInt IntKind.i64.bits (x : Int) &&& BitVec.ofInt IntKind.i64.bits (y : Int)).toNat : Int) = ((x &&& y : Nat) : Int) := e
  rw [e2]
  exact i64_in _ (by omega)
/-- The lowest bits of an index. -/
theorem and7_i64 {x : Nat} (hx : x < 2 ^ 63) : bitsI .and .i64 (x : Int) 7 = ((x % 8 : Nat) : Int) := by
  have := bitsI_and_i64 (y := 7) hx (by omega)
  rw [show ((7 : Nat) : Int) = 7 from rfl] at this
  rw [this, show (7 : Nat) = 2 ^ 3 - 1 from rfl, Nat.and_two_pow_sub_one_eq_mod]
/-- A number's lowest bits by a mask. -/
theorem mask_and {k : IntKind} {x n : Nat} (h : k.signed = false) (hx : x < 2 ^ k.bits) (hn : n ≤ k.bits) : bitsI .and k (x : Int) (((2 ^ n - 1 : Nat)) : Int) = ((x % 2 ^ n : Nat) : Int) := by
  have hp := Nat.pow_le_pow_right (n := 2) (by omega) hn
  have := Nat.two_pow_pos n
  rw [bitsI_and h hx (by omega), Nat.and_two_pow_sub_one_eq_mod]
/-- Bits laid above others. -/
theorem or_add {k : IntKind} {x y n : Nat} (h : k.signed = false) (hx : x < 2 ^ n) (hn : x + y * 2 ^ n < 2 ^ k.bits) : bitsI .or k (x : Int) ((y * 2 ^ n : Nat) : Int) = ((x + y * 2 ^ n : Nat) : Int) := by
  rw [bitsI_or h (by omega) (by omega)]
  have := Nat.shiftLeft_add_eq_or_of_lt hx y
  rw [Nat.shiftLeft_eq] at this
  rw [Nat.or_comm, ← this, Nat.add_comm]
theorem shl_in {k : IntKind} {x n : Nat} (h : k.signed = false) (hn : n ≤ k.bits) (hlt : x * 2 ^ n < 2 ^ k.bits) : shlI k (x : Int) (n : Int) = ((x * 2 ^ n : Nat) : Int) := by
  have e : (x : Int) * 2 ^ Nat.min (n : Int).toNat k.bits = ((x * 2 ^ n : Nat) : Int) := by
    rw [Int.toNat_natCast, show Nat.min n k.bits = n from Nat.min_eq_left hn]
    simp
  show k.wrap _ = _
  rw [e]
  cases k <;> first | (exact absurd h (by decide)) | (simp only [IntKind.bits] at hlt; first | exact u8_in _ (by omega) | exact u16_in _ (by omega) | exact u32_in _ (by omega) | exact u64_in _ (by omega))
theorem shr_in {k : IntKind} {x n : Nat} (hn : n ≤ k.bits) : shrI k (x : Int) (n : Int) = ((x / 2 ^ n : Nat) : Int) := by
  rw [shrI_eq, Int.toNat_natCast, show Nat.min n k.bits = n from Nat.min_eq_left hn]
  simp
/-! ### bytes as one number, the first one lowest -/
def leB : List Int → Nat
  | [] => 0
  | b :: l => b.toNat + 256 * leB l
def isB (l : List Int) : Prop := ∀ b ∈ l, 0 ≤ b ∧ b < 256
theorem isB.tail {b : Int} {l : List Int} (h : isB (b :: l)) : isB l := fun x hx => h x (List.mem_cons_of_mem _ hx)
theorem leB_lt : ∀ {l : List Int}, isB l → leB l < 2 ^ (8 * l.length)
  | [], _ => by simp [leB]
  | b :: l, h => by
    have h1 := leB_lt h.tail
    have h2 := h b (by simp)
    have e : 2 ^ (8 * (l.length + 1)) = 256 * 2 ^ (8 * l.length) := by rw [Nat.mul_add, Nat.pow_add]; omega
    simp only [leB, List.length_cons]
    rw [e]
    omega
theorem leB_at : ∀ {l : List Int} {i : Nat} {b : Int}, isB l → l[i]? = some b → leB l / 2 ^ (8 * i) % 256 = b.toNat
  | [], i, b, _, h => by simp at h
  | c :: l, 0, b, hB, h => by
    simp only [List.getElem?_cons_zero, Option.some.injEq] at h
    subst h
    have := hB c (by simp)
    simp only [leB, Nat.mul_zero, Nat.pow_zero, Nat.div_one]
    omega
  | c :: l, i + 1, b, hB, h => by
    simp only [List.getElem?_cons_succ] at h
    have := hB c (by simp)
    rw [← leB_at hB.tail h, show 8 * (i + 1) = 8 + 8 * i by omega, Nat.pow_add, ← Nat.div_div_eq_div_mul]
    congr 2
    simp only [leB]
    omega
theorem leB_append : ∀ (l m : List Int), leB (l ++ m) = leB l + 2 ^ (8 * l.length) * leB m
  | [], m => by simp [leB]
  | b :: l, m => by
    have e : 2 ^ (8 * (l.length + 1)) = 256 * 2 ^ (8 * l.length) := by rw [Nat.mul_add, Nat.pow_add]; omega
    simp only [List.cons_append, leB, List.length_cons, leB_append l m]
    rw [e, Nat.mul_assoc]
    generalize 2 ^ (8 * l.length) * leB m = Q
    omega
theorem leB_set : ∀ {l : List Int} {i : Nat} {b : Int} {d : Nat}, isB l → l[i]? = some b → leB (l.set i (b + d)) = leB l + d * 2 ^ (8 * i)
  | [], i, b, d, _, h => by simp at h
  | c :: l, 0, b, d, hB, h => by
    simp only [List.getElem?_cons_zero, Option.some.injEq] at h
    subst h
    have := hB c (by simp)
    simp only [List.set_cons_zero, leB, Nat.mul_zero, Nat.pow_zero]
    omega
  | c :: l, i + 1, b, d, hB, h => by
    simp only [List.getElem?_cons_succ] at h
    have e : 2 ^ (8 * (i + 1)) = 256 * 2 ^ (8 * i) := by rw [Nat.mul_add, Nat.pow_add]; omega
    simp only [List.set_cons_succ, leB, leB_set hB.tail h]
    rw [e, Nat.mul_left_comm]
    generalize d * 2 ^ (8 * i) = Q
    omega
theorem leB_inj : ∀ {l m : List Int}, isB l → isB m → l.length = m.length → leB l = leB m → l = m
  | [], [], _, _, _, _ => rfl
  | [], _ :: _, _, _, h, _ => by simp at h
  | _ :: _, [], _, _, h, _ => by simp at h
  | b :: l, c :: m, hl, hm, h, e => by
    have h1 := hl b (by simp)
    have h2 := hm c (by simp)
    simp only [leB] at e
    have e1 : b = c := by omega
    subst e1
    rw [leB_inj hl.tail hm.tail (by simpa using h) (by omega)]
/-- Bits out of a byte. -/
theorem byte_bits {N i a k : Nat} (h : a + k ≤ 8) : N / 2 ^ (8 * i) % 256 / 2 ^ a % 2 ^ k = N / 2 ^ (8 * i + a) % 2 ^ k := by
  rw [Nat.pow_add, ← Nat.div_div_eq_div_mul]
  generalize N / 2 ^ (8 * i) = M
  have e : (256 : Nat) = 2 ^ a * 2 ^ (8 - a) := by rw [← Nat.pow_add, show a + (8 - a) = 8 by omega]
  rw [e, Nat.mod_mul_right_div_self, Nat.mod_mod_of_dvd _ (Nat.pow_dvd_pow 2 (by omega))]
/-- More bits above. -/
theorem mod_more (N g k : Nat) : N % 2 ^ (g + k) = N % 2 ^ g + N / 2 ^ g % 2 ^ k * 2 ^ g := by
  rw [Nat.pow_add, Nat.mod_mul, Nat.mul_comm (2 ^ g)]
/-! ### noughts and ones, the lowest one first -/
def leN : List Int → Nat
  | [] => 0
  | b :: l => b.toNat + 2 * leN l
def isN (l : List Int) : Prop := ∀ b ∈ l, b = 0 ∨ b = 1
theorem isN.tail {b : Int} {l : List Int} (h : isN (b :: l)) : isN l := fun x hx => h x (List.mem_cons_of_mem _ hx)
theorem leN_lt : ∀ {l : List Int}, isN l → leN l < 2 ^ l.length
  | [], _ => by simp [leN]
  | b :: l, h => by
    have h1 := leN_lt h.tail
    have h2 := h b (by simp)
    simp only [leN, List.length_cons, Nat.pow_succ]
    omega
theorem leN_append : ∀ (l m : List Int), leN (l ++ m) = leN l + 2 ^ l.length * leN m
  | [], m => by simp [leN]
  | b :: l, m => by
    simp only [List.cons_append, leN, List.length_cons, leN_append l m, Nat.pow_succ]
    rw [Nat.mul_comm (2 ^ l.length) 2, Nat.mul_assoc]
    generalize 2 ^ l.length * leN m = Q
    omega
theorem leN_take : ∀ {l : List Int} (n : Nat), isN l → leN (l.take n) = leN l % 2 ^ n
  | [], n, _ => by simp [leN]
  | b :: l, 0, _ => by simp [leN, Nat.mod_one]
  | b :: l, n + 1, h => by
    have h2 := h b (by simp)
    have e : (b.toNat + 2 * leN l) / 2 = leN l := by omega
    simp only [List.take_succ_cons, leN, leN_take n h.tail, Nat.pow_succ]
    rw [Nat.mul_comm (2 ^ n) 2, Nat.mod_mul, e]
    generalize leN l % 2 ^ n = Q
    omega
theorem leN_drop : ∀ {l : List Int} (n : Nat), isN l → leN (l.drop n) = leN l / 2 ^ n
  | [], n, _ => by simp [leN]
  | b :: l, 0, _ => by simp
  | b :: l, n + 1, h => by
    have h2 := h b (by simp)
    simp only [List.drop_succ_cons, leN, leN_drop n h.tail, Nat.pow_succ]
    rw [Nat.mul_comm (2 ^ n) 2, ← Nat.div_div_eq_div_mul]
    congr 1
    omega
theorem leN_at {l : List Int} {i : Nat} {b : Int} (hN : isN l) (h : l[i]? = some b) : leN l / 2 ^ i % 2 = b.toNat := by
  obtain ⟨hlt, e⟩ := List.getElem?_eq_some_iff.1 h
  have hb := hN b (List.mem_of_getElem? h)
  rw [← leN_drop i hN, List.drop_eq_getElem_cons hlt, e]
  simp only [leN]
  omega
theorem leN_inj : ∀ {l m : List Int}, isN l → isN m → l.length = m.length → leN l = leN m → l = m
  | [], [], _, _, _, _ => rfl
  | [], _ :: _, _, _, h, _ => by simp at h
  | _ :: _, [], _, _, h, _ => by simp at h
  | b :: l, c :: m, hl, hm, h, e => by
    have h1 := hl b (by simp)
    have h2 := hm c (by simp)
    simp only [leN] at e
    have e1 : b = c := by omega
    subst e1
    rw [leN_inj hl.tail hm.tail (by simpa using h) (by omega)]
/-- The lowest n bits of v. -/
def ofN (v : Nat) : Nat → List Int
  | 0 => []
  | n + 1 => ((v % 2 : Nat) : Int) :: ofN (v / 2) n
theorem ofN_length : ∀ (n v : Nat), (ofN v n).length = n
  | 0, _ => rfl
  | n + 1, v => by simp [ofN, ofN_length n]
theorem ofN_isN : ∀ (n v : Nat), isN (ofN v n)
  | 0, _ => by simp [ofN, isN]
  | n + 1, v => fun b hb => by
    rcases List.mem_cons.1 hb with rfl | hb
    · omega
    · exact ofN_isN n _ b hb
theorem leN_ofN : ∀ (n v : Nat), leN (ofN v n) = v % 2 ^ n
  | 0, v => by simp [ofN, leN, Nat.mod_one]
  | n + 1, v => by
    simp only [ofN, leN, leN_ofN n, Nat.pow_succ]
    rw [Nat.mul_comm (2 ^ n) 2, Nat.mod_mul]
    omega
theorem ofN_snoc : ∀ (n v : Nat), ofN v (n + 1) = ofN v n ++ [((v / 2 ^ n % 2 : Nat) : Int)]
  | 0, v => by simp [ofN]
  | n + 1, v => by
    rw [ofN, ofN_snoc n (v / 2), ofN, List.cons_append, Nat.div_div_eq_div_mul, Nat.pow_succ, Nat.mul_comm 2]
end Go.X
set_option maxRecDepth 100000
set_option linter.unusedVariables false
namespace Go.X
open Go.IntWalk
/-! ### strings as lists of bytes -/
theorem size_toBytes (s : ByteArray) : (toBytes s).length = s.size := by
  unfold toBytes; rw [List.length_map, Array.length_toList]; rfl
theorem isB_toBytes (s : ByteArray) : isB (toBytes s) := fun b hb => by
  simp only [toBytes, List.mem_map] at hb
  obtain ⟨x, _, rfl⟩ := hb
  have := x.toNat_lt
  omega
theorem size_ofBytes (l : List Int) : (ofBytes l).size = l.length := by
  simp [ofBytes, ByteArray.size]
theorem ofBytes_nil : ofBytes [] = ⟨#[]⟩ := rfl
theorem toBytes_ofBytes {l : List Int} (h : isB l) : toBytes (ofBytes l) = l := by
  simp only [toBytes, ofBytes, List.map_map]
  induction l with
  | nil => rfl
  | cons b l ih =>
    have hb := h b (by simp)
    simp only [List.map_cons, Function.comp]
    rw [ih h.tail]
    congr 1
    simp only [UInt8.toNat_ofNat']
    omega
theorem ofBytes_toBytes (s : ByteArray) : ofBytes (toBytes s) = s := by
  obtain ⟨⟨l⟩⟩ := s
  simp only [toBytes, ofBytes, List.map_map]
  congr 2
  induction l with
  | nil => rfl
  | cons x l ih =>
    simp only [List.map_cons, Function.comp, ih]
    congr 1
    simp
theorem ofBytes_append (l m : List Int) : ofBytes l ++ ofBytes m = ofBytes (l ++ m) := by
  apply ByteArray.ext
  simp [ofBytes]
theorem ofBytes_extract (l : List Int) (a b : Nat) : (ofBytes l).extract a b = ofBytes ((l.drop a).take (b - a)) := by
  apply ByteArray.ext
  simp [ofBytes, ByteArray.data_extract, List.extract_eq_take_drop]
theorem ofBytes_inj {l m : List Int} (hl : isB l) (hm : isB m) : ofBytes l = ofBytes m ↔ l = m :=
  ⟨fun h => by rw [← toBytes_ofBytes hl, h, toBytes_ofBytes hm], fun h => by rw [h]⟩
theorem beqS (a b : ByteArray) : (a.toList == b.toList) = decide (a = b) := by
  rw [Bool.eq_iff_iff]
  simp only [beq_iff_eq, decide_eq_true_eq, ByteArray.toList_eq]
  constructor
  · intro h
    apply ByteArray.ext
    exact Array.toList_inj.1 h
  · intro h; rw [h]
theorem eqS {l m : List Int} (hl : isB l) (hm : isB m) : ((ofBytes l).toList == (ofBytes m).toList) = decide (l = m) := by
  rw [beqS]
  exact decide_eq_decide.2 (ofBytes_inj hl hm)
theorem eqS0 (l : List Int) : ((ofBytes l).toList == ({ data := #[] } : ByteArray).toList) = decide (l = []) := by
  rw [beqS]
  refine decide_eq_decide.2 ⟨fun h => ?_, fun h => by rw [h]; rfl⟩
  have := congrArg ByteArray.size h
  rw [size_ofBytes] at this
  exact List.eq_nil_of_length_eq_zero this
theorem emptyS (l : List Int) : (ofBytes l).toList.isEmpty = decide (l = []) := by
  rw [ByteArray.toList_eq]
  cases l <;> simp [ofBytes]
theorem empty_ofBytes : ByteArray.empty = ofBytes [] := rfl
theorem isB_append {l m : List Int} (hl : isB l) (hm : isB m) : isB (l ++ m) := fun b hb => by
  rcases List.mem_append.1 hb with h | h
  · exact hl b h
  · exact hm b h
theorem isB_take {l : List Int} (n : Nat) (hl : isB l) : isB (l.take n) := fun b hb => hl b (List.mem_of_mem_take hb)
theorem isB_drop {l : List Int} (n : Nat) (hl : isB l) : isB (l.drop n) := fun b hb => hl b (List.mem_of_mem_drop hb)
theorem isB_one {b : Int} (h : 0 ≤ b ∧ b < 256) : isB [b] := fun x hx => by
  simp only [List.mem_cons, List.not_mem_nil, or_false] at hx
  omega
end Go.X
set_option maxRecDepth 100000
set_option linter.unusedSimpArgs false
set_option linter.unusedVariables false
namespace Go.X.Try
open Go.IntWalk
/-! ### sums, symbols, and whether counts may be -/
def sumK : List Int → Int
  | [] => 0
  | x :: l => x + sumK l
def symK : List Int → Int
  | [] => 0
  | x :: l => (if 0 < x then 1 else 0) + symK l
theorem sumK_bound {B : Int} (hB : 0 ≤ B) : ∀ {l : List Int}, (∀ z ∈ l, -B ≤ z ∧ z ≤ B) → -(B * l.length) ≤ sumK l ∧ sumK l ≤ B * l.length
  | [], _ => by simp [sumK]
  | x :: l, h => by
    have h1 := h x (by simp)
    have h2 := sumK_bound hB (l := l) fun z hz => h z (by simp [hz])
    have e : B * ((x :: l).length : Int) = B * (l.length : Int) + B := by
      rw [List.length_cons, Int.natCast_add, Int.mul_add]; simp
    rw [e]
    simp only [sumK]
    omega
theorem symK_bound : ∀ (l : List Int), 0 ≤ symK l ∧ symK l ≤ l.length
  | [] => by simp [symK]
  | x :: l => by
    have := symK_bound l
    simp only [symK, List.length_cons]
    split <;> omega
def canonR (a b : Nat) (t : Nat) (l : List Int) (s i : Int) : St := ⟨[(3, .one (.int .i64 s)), (6, .one (.ro t (.ints .i64 l))), (7, .one (.int .i64 l.length)), (8, .one (.int .i64 i))], [.ro t (.ints .i64 l)], []⟩
theorem body74 (t : Nat) (l : List Int) (s n s' i' : Int) (i : Nat) (hi : i < l.length) (hn' : l[i] = n) (el : IntKind.i64.wrap (s + n) = s') (ei : IntKind.i64.wrap ((i : Int) + 1) = i') :
    ∃ st1, evC T74 KK b74x0 (canonR 0 0 t l s i) = some (.norm, st1) ∧ St.head [3, 6, 7, 8] st1 = canonR 0 0 t l s' i' := by
  have hi2 : (i : Int) < l.length := by omega
  have h0 : (0 : Int) ≤ i := by omega
  simp -implicitDefEqProofs [b74x0, canonR, upd, hi, hi2, h0, hn', el, ei, RC.len, RC.size, RC.get]
theorem end74 (t : Nat) (l : List Int) (s i : Int) (hi : ¬ i < l.length) :
    ∃ env, evC T74 KK b74x0 (canonR 0 0 t l s i) = some (.exit 0, ⟨env, [.ro t (.ints .i64 l)], []⟩) ∧ getT 3 env = .one (.int .i64 s) := by
  simp -implicitDefEqProofs [b74x0, canonR, upd, hi]
theorem loop74 (t : Nat) (l : List Int) (hl : l.length ≤ 300) (hB : ∀ z ∈ l, -2000000 ≤ z ∧ z ≤ 2000000) : ∀ (j i : Nat) (s : Int) (K : Nat), i + j = l.length → -(2000000 * i) ≤ s → s ≤ 2000000 * i → j < K →
    ∃ env, loopH (evC T74 KK b74x0) [3, 6, 7, 8] K (canonR 0 0 t l s i) = some (.exit 0, ⟨env, [.ro t (.ints .i64 l)], []⟩) ∧ getT 3 env = .one (.int .i64 (s + sumK (l.drop i)))
  | 0, i, s, K, hi, h0, h1, hK => by
    obtain ⟨env, e, g⟩ := end74 t l s i (by omega)
    exact ⟨env, loopH_exit e, by rw [List.drop_eq_nil_of_le (by omega), g]; simp [sumK]⟩
  | j + 1, i, s, K, hi, h0, h1, hK => by
    have hlt : i < l.length := by omega
    have hz := hB l[i] (List.getElem_mem hlt)
    obtain ⟨st1, e1, e2⟩ := body74 t l s l[i] (s + l[i]) (i + 1 : Nat) i hlt rfl (i64_in _ (by omega)) (by rw [i64_in _ (by omega)]; omega)
    obtain ⟨env, e, g⟩ := loop74 t l hl hB j (i + 1) (s + l[i]) (K - 1) (by omega) (by omega) (by omega) (by omega)
    refine ⟨env, by rw [loopH_norm e1 (by omega), e2]; exact e, ?_⟩
    rw [g, List.drop_eq_getElem_cons hlt]
    simp only [sumK]
    rw [Int.add_assoc]
theorem f74 (t : Nat) (l : List Int) (hl : l.length ≤ 300) (hB : ∀ z ∈ l, -2000000 ≤ z ∧ z ≤ 2000000) : F74 [.one (.ro t (.ints .i64 l))] [] = some (.one (.int .i64 (sumK l)), []) := by
  obtain ⟨env, e, g⟩ := loop74 t l hl hB l.length 0 0 KK (by omega) (by omega) (by omega) (by rw [KK_eq]; omega)
  have z : ((0 : Nat) : Int) = 0 := rfl
  rw [List.drop_zero, Int.zero_add] at g
  simp only [canonR, z] at e
  simp -implicitDefEqProofs [F74, c74, upd, e, g, RC.len]
theorem body73 (t : Nat) (l : List Int) (s n s' i' : Int) (i : Nat) (hi : i < l.length) (hn' : l[i] = n) (el : (if 0 < n then IntKind.i64.wrap (s + 1) else s) = s') (ei : IntKind.i64.wrap ((i : Int) + 1) = i') :
    ∃ st1, evC T73 KK b73x0 (canonR 0 0 t l s i) = some (.norm, st1) ∧ St.head [3, 6, 7, 8] st1 = canonR 0 0 t l s' i' := by
  have hi2 : (i : Int) < l.length := by omega
  have h0 : (0 : Int) ≤ i := by omega
  by_cases hp : 0 < n
  · rw [if_pos hp] at el
    simp -implicitDefEqProofs [b73x0, canonR, upd, hi, hi2, h0, hn', el, ei, hp, RC.len, RC.size, RC.get]
  · rw [if_neg hp] at el; subst el
    simp -implicitDefEqProofs [b73x0, canonR, upd, hi, hi2, h0, hn', ei, hp, RC.len, RC.size, RC.get]
theorem end73 (t : Nat) (l : List Int) (s i : Int) (hi : ¬ i < l.length) :
    ∃ env, evC T73 KK b73x0 (canonR 0 0 t l s i) = some (.exit 0, ⟨env, [.ro t (.ints .i64 l)], []⟩) ∧ getT 3 env = .one (.int .i64 s) := by
  simp -implicitDefEqProofs [b73x0, canonR, upd, hi]
theorem loop73 (t : Nat) (l : List Int) (hl : l.length ≤ 300) : ∀ (j i : Nat) (s : Int) (K : Nat), i + j = l.length → 0 ≤ s → s ≤ i → j < K →
    ∃ env, loopH (evC T73 KK b73x0) [3, 6, 7, 8] K (canonR 0 0 t l s i) = some (.exit 0, ⟨env, [.ro t (.ints .i64 l)], []⟩) ∧ getT 3 env = .one (.int .i64 (s + symK (l.drop i)))
  | 0, i, s, K, hi, h0, h1, hK => by
    obtain ⟨env, e, g⟩ := end73 t l s i (by omega)
    exact ⟨env, loopH_exit e, by rw [List.drop_eq_nil_of_le (by omega), g]; simp [symK]⟩
  | j + 1, i, s, K, hi, h0, h1, hK => by
    have hlt : i < l.length := by omega
    have w : IntKind.i64.wrap (s + 1) = s + 1 := i64_in _ (by omega)
    obtain ⟨st1, e1, e2⟩ := body73 t l s l[i] (s + (if 0 < l[i] then 1 else 0)) (i + 1 : Nat) i hlt rfl (by rw [w]; split <;> omega) (by rw [i64_in _ (by omega)]; omega)
    obtain ⟨env, e, g⟩ := loop73 t l hl j (i + 1) (s + (if 0 < l[i] then 1 else 0)) (K - 1) (by omega) (by split <;> omega) (by split <;> omega) (by omega)
    refine ⟨env, by rw [loopH_norm e1 (by omega), e2]; exact e, ?_⟩
    rw [g, List.drop_eq_getElem_cons hlt]
    simp only [symK]
    rw [Int.add_assoc]
theorem f73 (t : Nat) (l : List Int) (hl : l.length ≤ 300) : F73 [.one (.ro t (.ints .i64 l))] [] = some (.one (.int .i64 (symK l)), []) := by
  obtain ⟨env, e, g⟩ := loop73 t l hl l.length 0 0 KK (by omega) (by omega) (by omega) (by rw [KK_eq]; omega)
  have z : ((0 : Nat) : Int) = 0 := rfl
  rw [List.drop_zero, Int.zero_add] at g
  simp only [canonR, z] at e
  simp -implicitDefEqProofs [F73, c73, upd, e, g, RC.len]
def canon28K (t : Nat) (l : List Int) (s i : Int) : St := ⟨[(0, .one (.ro t (.ints .i64 l))), (3, .one (.int .i64 s)), (4, .one (.int .i64 i))], [.ro t (.ints .i64 l)], []⟩
def canon72 (t : Nat) (l : List Int) (i : Int) : St := ⟨[(0, .one (.ro t (.ints .i64 l))), (8, .one (.ro t (.ints .i64 l))), (9, .one (.int .i64 l.length)), (10, .one (.int .i64 i))], [.ro t (.ints .i64 l)], []⟩
theorem body72 (t : Nat) (l : List Int) (n i' : Int) (i : Nat) (hi : i < l.length) (hn' : l[i] = n) (h1 : ¬ n < 0) (h2 : ¬ 1048576 < n) (ei : IntKind.i64.wrap ((i : Int) + 1) = i') :
    ∃ st1, evC T72 KK b72x0 (canon72 t l i) = some (.norm, st1) ∧ St.head [0, 8, 9, 10] st1 = canon72 t l i' := by
  have hi2 : (i : Int) < l.length := by omega
  have h0 : (0 : Int) ≤ i := by omega
  simp -implicitDefEqProofs [b72x0, canon72, upd, hi, hi2, h0, hn', h1, h2, ei, RC.len, RC.size, RC.get]
theorem end72 (t : Nat) (l : List Int) (i : Int) (hi : ¬ i < l.length) :
    ∃ env, evC T72 KK b72x0 (canon72 t l i) = some (.exit 0, ⟨env, [.ro t (.ints .i64 l)], []⟩) ∧ getT 0 env = .one (.ro t (.ints .i64 l)) := by
  simp -implicitDefEqProofs [b72x0, canon72, upd, hi]
theorem loop72 (t : Nat) (l : List Int) (hl : l.length ≤ 300) (hB : ∀ z ∈ l, 0 ≤ z ∧ z ≤ 1048576) : ∀ (j i : Nat) (K : Nat), i + j = l.length → j < K →
    ∃ env, loopH (evC T72 KK b72x0) [0, 8, 9, 10] K (canon72 t l i) = some (.exit 0, ⟨env, [.ro t (.ints .i64 l)], []⟩) ∧ getT 0 env = .one (.ro t (.ints .i64 l))
  | 0, i, K, hi, hK => by
    obtain ⟨env, e, g⟩ := end72 t l i (by omega)
    exact ⟨env, loopH_exit e, g⟩
  | j + 1, i, K, hi, hK => by
    have hlt : i < l.length := by omega
    have hz := hB l[i] (List.getElem_mem hlt)
    obtain ⟨st1, e1, e2⟩ := body72 t l l[i] (i + 1 : Nat) i hlt rfl (by omega) (by omega) (by rw [i64_in _ (by omega)]; omega)
    obtain ⟨env, e, g⟩ := loop72 t l hl hB j (i + 1) (K - 1) (by omega) (by omega)
    exact ⟨env, by rw [loopH_norm e1 (by omega), e2]; exact e, g⟩
theorem f72 (t : Nat) (l : List Int) (hl : l.length ≤ 256) (hB : ∀ z ∈ l, 0 ≤ z ∧ z ≤ 1048576) : F72 [.one (.ro t (.ints .i64 l))] [] = some (.one (.bool (decide (0 < sumK l))), []) := by
  obtain ⟨env, e, g⟩ := loop72 t l (by omega) hB l.length 0 KK (by omega) (by rw [KK_eq]; omega)
  have z : ((0 : Nat) : Int) = 0 := rfl
  have e74 := fun t => f74 t l (by omega) fun z hz => by have := hB z hz; omega
  have n1 : ¬ (256 : Int) < l.length := by omega
  have n2 : ¬ 256 < l.length := by omega
  simp only [canon72, z] at e
  simp -implicitDefEqProofs [F72, c72, upd, e, g, e74, n1, n2, hl, RC.len]
end Go.X.Try
set_option maxRecDepth 100000
set_option linter.unusedSimpArgs false
set_option linter.unusedVariables false
namespace Go.X.Try
open Go.IntWalk
/-! ### the place of the greatest -/
def canon96 (t : Nat) (l : List Int) (x i : Int) : St := ⟨[(0, .one (.ro t (.ints .i64 l))), (1, .one (.int .i64 x)), (7, .one (.int .i64 l.length)), (8, .one (.int .i64 i))], [.ro t (.ints .i64 l), .int .i64 x], []⟩
theorem body96 (t : Nat) (l : List Int) (x n i' : Int) (i : Nat) (hi : i < l.length) (hn' : l[i] = n) (h1 : ¬ x = n) (ei : IntKind.i64.wrap ((i : Int) + 1) = i') :
    ∃ st1, evC T96 KK b96x0 (canon96 t l x i) = some (.norm, st1) ∧ St.head [0, 1, 7, 8] st1 = canon96 t l x i' := by
  have hi2 : (i : Int) < l.length := by omega
  have h0 : (0 : Int) ≤ i := by omega
  simp -implicitDefEqProofs [b96x0, canon96, upd, hi, hi2, h0, hn', h1, ei, RC.len, RC.size, RC.get]
theorem hit105 (t : Nat) (l : List Int) (x : Int) (i : Nat) (hi : i < l.length) (hn' : l[i] = x) :
    ∃ env, evC T96 KK b96x0 (canon96 t l x i) = some (.ret, ⟨env, [.ro t (.ints .i64 l), .int .i64 x], []⟩) ∧ getT 4 env = .one (.int .i64 i) := by
  have hi2 : (i : Int) < l.length := by omega
  have h0 : (0 : Int) ≤ i := by omega
  simp -implicitDefEqProofs [b96x0, canon96, upd, hi, hi2, h0, hn', RC.len, RC.size, RC.get]
theorem loop96 (t : Nat) (l : List Int) (x : Int) (hl : l.length ≤ 300) : ∀ (j i : Nat) (K : Nat), i + j = l.length → (∃ k, ∃ h : k < l.length, i ≤ k ∧ l[k] = x) → j < K →
    ∃ env g, ∃ hg : g < l.length, loopH (evC T96 KK b96x0) [0, 1, 7, 8] K (canon96 t l x i) = some (.ret, ⟨env, [.ro t (.ints .i64 l), .int .i64 x], []⟩) ∧ getT 4 env = .one (.int .i64 (g : Nat)) ∧ l[g] = x
  | 0, i, K, hi, ⟨k, hk, h1, _⟩, hK => by omega
  | j + 1, i, K, hi, ⟨k, hk, h1, h2⟩, hK => by
    have hlt : i < l.length := by omega
    by_cases he : l[i] = x
    · obtain ⟨env, e, g⟩ := hit105 t l x i hlt he
      exact ⟨env, i, hlt, loopH_ret e, g, he⟩
    · obtain ⟨st1, e1, e2⟩ := body96 t l x l[i] (i + 1 : Nat) i hlt rfl (fun e => he e.symm) (by rw [i64_in _ (by omega)]; omega)
      have hne : i ≠ k := fun e => by subst e; exact he h2
      obtain ⟨env, g, hg, e, q, r⟩ := loop96 t l x hl j (i + 1) (K - 1) (by omega) ⟨k, hk, by omega, h2⟩ (by omega)
      exact ⟨env, g, hg, by rw [loopH_norm e1 (by omega), e2]; exact e, q, r⟩
theorem f96 (t : Nat) (l : List Int) (x : Int) (hl : l.length ≤ 300) (hx : x ∈ l) : ∃ g, ∃ hg : g < l.length, F96 [.one (.ro t (.ints .i64 l)), .one (.int .i64 x)] [] = some (.one (.int .i64 (g : Nat)), []) ∧ l[g] = x := by
  obtain ⟨k, hk, e⟩ := List.getElem_of_mem hx
  obtain ⟨env, g, hg, e, q, r⟩ := loop96 t l x hl l.length 0 KK (by omega) ⟨k, hk, by omega, e⟩ (by rw [KK_eq]; omega)
  have z : ((0 : Nat) : Int) = 0 := rfl
  simp only [canon96, z] at e
  refine ⟨g, hg, ?_, r⟩
  simp -implicitDefEqProofs [F96, c96, upd, e, q, RC.len]
def canon97 (t : Nat) (l : List Int) (m i : Int) : St := ⟨[(0, .one (.ro t (.ints .i64 l))), (3, .one (.int .i64 m)), (4, .one (.int .i64 i))], [.ro t (.ints .i64 l)], []⟩
theorem body97 (t : Nat) (l : List Int) (m n m' i' : Int) (i : Nat) (hi : i < l.length) (hn' : l[i] = n) (hm : (if m < n then n else m) = m') (ei : IntKind.i64.wrap ((i : Int) + 1) = i') :
    ∃ st1, evC T97 KK b97x0 (canon97 t l m i) = some (.norm, st1) ∧ St.head [0, 3, 4] st1 = canon97 t l m' i' := by
  have hi2 : (i : Int) < l.length := by omega
  have h0 : (0 : Int) ≤ i := by omega
  by_cases hp : m < n
  · rw [if_pos hp] at hm; subst hm
    simp -implicitDefEqProofs [b97x0, canon97, upd, hi, hi2, h0, hn', hp, ei, RC.len, RC.size, RC.get]
  · rw [if_neg hp] at hm; subst hm
    simp -implicitDefEqProofs [b97x0, canon97, upd, hi, hi2, h0, hn', hp, ei, RC.len, RC.size, RC.get]
theorem end97 (t : Nat) (l : List Int) (m i : Int) (hi : ¬ i < l.length) :
    ∃ env, evC T97 KK b97x0 (canon97 t l m i) = some (.exit 0, ⟨env, [.ro t (.ints .i64 l)], []⟩) ∧ getT 3 env = .one (.int .i64 m) := by
  simp -implicitDefEqProofs [b97x0, canon97, upd, hi, RC.len]
theorem loop97 (t : Nat) (l : List Int) (hl : l.length ≤ 300) : ∀ (j i : Nat) (m : Int) (K : Nat), i + j = l.length → m ∈ l → (∀ k (h : k < l.length), k < i → l[k] ≤ m) → j < K →
    ∃ env M, loopH (evC T97 KK b97x0) [0, 3, 4] K (canon97 t l m i) = some (.exit 0, ⟨env, [.ro t (.ints .i64 l)], []⟩) ∧ getT 3 env = .one (.int .i64 M) ∧ M ∈ l ∧ ∀ z ∈ l, z ≤ M
  | 0, i, m, K, hi, hm, hle, hK => by
    obtain ⟨env, e, g⟩ := end97 t l m i (by omega)
    refine ⟨env, m, loopH_exit e, g, hm, fun z hz => ?_⟩
    obtain ⟨k, hk, e⟩ := List.getElem_of_mem hz
    rw [← e]; exact hle k hk (by omega)
  | j + 1, i, m, K, hi, hm, hle, hK => by
    have hlt : i < l.length := by omega
    obtain ⟨st1, e1, e2⟩ := body97 t l m l[i] (if m < l[i] then l[i] else m) (i + 1 : Nat) i hlt rfl rfl (by rw [i64_in _ (by omega)]; omega)
    obtain ⟨env, M, e, q, r, s⟩ := loop97 t l hl j (i + 1) (if m < l[i] then l[i] else m) (K - 1) (by omega) (by split; exact List.getElem_mem hlt; exact hm) (fun k h hk => by
      by_cases hki : k = i
      · subst hki; split <;> omega
      · have := hle k h (by omega)
        split <;> omega) (by omega)
    exact ⟨env, M, by rw [loopH_norm e1 (by omega), e2]; exact e, q, r, s⟩
theorem f97 (t : Nat) (l : List Int) (hl : l.length ≤ 300) (h0 : 0 < l.length) : ∃ M, F97 [.one (.ro t (.ints .i64 l))] [] = some (.one (.int .i64 M), []) ∧ M ∈ l ∧ ∀ z ∈ l, z ≤ M := by
  obtain ⟨env, M, e, q, r, s⟩ := loop97 t l hl (l.length - 1) 1 l[0] KK (by omega) (List.getElem_mem h0) (fun k h hk => by
    have : k = 0 := by omega
    subst this; omega) (by rw [KK_eq]; omega)
  have z : ((1 : Nat) : Int) = 1 := rfl
  simp only [canon97, z] at e
  refine ⟨M, ?_, r, s⟩
  have n1 : ¬ (l.length : Int) < 1 := by omega
  have n2 : (0 : Int) < l.length := by omega
  generalize hx : l[0] = x at e
  simp -implicitDefEqProofs [F97, c97, upd, e, q, n1, n2, h0, hx, RC.len, RC.size, RC.get]
theorem f77 (t : Nat) (l : List Int) (hl : l.length ≤ 300) (h0 : 0 < l.length) : ∃ g, ∃ hg : g < l.length, F77 [.one (.ro t (.ints .i64 l))] [] = some (.one (.int .i64 (g : Nat)), []) ∧ ∀ z ∈ l, z ≤ l[g] := by
  obtain ⟨M, e1, e2, e3⟩ := f97 0 l hl h0
  obtain ⟨g, hg, e4, e5⟩ := f96 0 l M hl e2
  refine ⟨g, hg, ?_, by rw [e5]; exact e3⟩
  simp -implicitDefEqProofs [F77, c77, upd, e1, e4]
end Go.X.Try
