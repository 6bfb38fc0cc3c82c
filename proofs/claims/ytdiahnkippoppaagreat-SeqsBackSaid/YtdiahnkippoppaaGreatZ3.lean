import Derived.IntWalk
import Derived.Test.YtdiahnkippoppaaGreatZ2
set_option linter.unusedVariables false
set_option linter.unusedSimpArgs false
set_option linter.unusedSectionVars false
set_option maxRecDepth 100000
namespace Go.X.Tryz
def zm (d t : Nat) : AI := ⟨some d, none, .mv (.tmp t)⟩
def zj (d : Nat) (o : AOp) : AI := ⟨some d, none, o⟩
def zg (d t : Nat) (b : Bool) (o : AOp) : AI := ⟨some d, some (t, b), o⟩
def zk (n : Int) : AO := .const (.one (.int .i64 n))
@[simp] theorem zm_def (d t : Nat) : zm d t = ⟨some d, none, .mv (.tmp t)⟩ := rfl
@[simp] theorem zj_def (d : Nat) (o : AOp) : zj d o = ⟨some d, none, o⟩ := rfl
@[simp] theorem zg_def (d t : Nat) (b : Bool) (o : AOp) : zg d t b o = ⟨some d, some (t, b), o⟩ := rfl
@[simp] theorem zk_def (n : Int) : zk n = .const (.one (.int .i64 n)) := rfl
theorem mixed : Go.Proofs.Tryz.prog.follows .mixedOrders = true := by kernel_rfl
def b13x0 : AC := (.seq (.seq (.ops [zm 7 1, zj 8 (.bin .gtr (.tmp 7) (.const (.one (.int .u64 127))))]) (.cond (.tmp 8) .skip (.exit 0))) (.block 1 (.seq (.ops [zm 9 0, zm 10 0, zj 11 (.nilCheck (.tmp 10)), zj 12 (.fadr 0 (.tmp 11)), zj 13 (.load none (.tmp 12)), zm 14 1, zj 15 (.conv .u8 (.tmp 14)), zj 16 (.bin .or (.tmp 15) (.const (.one (.int .u8 128)))), zj 17 (.bslice (.ints .u8 []) [(.int .u8 0)] 1 [(0, (.tmp 16))]), zj 18 (.append (.ints .u8 []) 1 (.tmp 13) (.tmp 17)), zj 19 (.nilCheck (.tmp 9)), zj 20 (.fadr 0 (.tmp 19)), ⟨none, none, (.store 1 (.tmp 20) (.tmp 18))⟩]) (.ops [zm 21 1, zj 22 (.bin .shr (.tmp 21) (.const (.one (.int .u64 7)))), zm 1 22]))))
def c13 : AF := ⟨[(4, none)],
  (.seq (.ops [zj 4 (.mv (.const (.one .nilp)))]) (.seq (.seq (.ops [zm 5 0, zj 6 (.eqNil false (.tmp 5))]) (.cond (.tmp 6) (.seq (.ops [zj 4 (.mv (.const (.one .nilp)))]) .ret) .skip)) (.seq (.block 0 (.loop [0, 1] b13x0)) (.seq (.ops [zm 23 0, zm 24 0, zj 25 (.nilCheck (.tmp 24)), zj 26 (.fadr 0 (.tmp 25)), zj 27 (.load none (.tmp 26)), zm 28 1, zj 29 (.conv .u8 (.tmp 28)), zj 30 (.bslice (.ints .u8 []) [(.int .u8 0)] 1 [(0, (.tmp 29))]), zj 31 (.append (.ints .u8 []) 1 (.tmp 27) (.tmp 30)), zj 32 (.nilCheck (.tmp 23)), zj 33 (.fadr 0 (.tmp 32)), ⟨none, none, (.store 1 (.tmp 33) (.tmp 31))⟩]) (.seq (.ops [zm 34 0, zm 4 34]) .ret)))))⟩
abbrev T13 : Nat → Callee := none0
def F13 : Callee := evF T13 KK c13
theorem s13 : Sound Go.Proofs.Tryz.prog 13 F13 := fn_ok (none0_ok _) mixed (by kernel_rfl)
def c14 : AF := ⟨[(2, none)],
  (.seq (.ops [⟨(some 2), none, (.mv (.const (.one (.str ⟨#[]⟩))))⟩]) (.seq (.seq (.ops [zm 3 0, zj 4 (.eqNil false (.tmp 3))]) (.cond (.tmp 4) (.seq (.ops [⟨(some 2), none, (.mv (.const (.one (.str ⟨#[]⟩))))⟩]) .ret) .skip)) (.seq (.ops [zm 5 0, zj 6 (.nilCheck (.tmp 5)), zj 7 (.fadr 0 (.tmp 6)), zj 8 (.load none (.tmp 7)), zj 9 (.b2s (.tmp 8)), zm 2 9]) .ret)))⟩
abbrev T14 : Nat → Callee := none0
def F14 : Callee := evF T14 0 c14
theorem s14 : Sound Go.Proofs.Tryz.prog 14 F14 := fn_ok (none0_ok _) mixed (by kernel_rfl)
def c15 : AF := ⟨[(0, (some (some 3)))],
  (.seq (.ops [zj 0 (.alloc [(.sv (.int .i64 0)), (.sv (.int .i64 0)), (.sv (.int .i64 0))])]) (.seq (.ops [zj 1 (.build [(.sv (.int .i64 0)), (.sv (.int .i64 0)), (.sv (.int .i64 0))] [((0, 1), (zk 1)), ((1, 1), (zk 2)), ((2, 1), (zk 4))]), ⟨none, none, (.store 3 (.tmp 0) (.tmp 1))⟩]) .ret))⟩
abbrev T15 : Nat → Callee := none0
def F15 : Callee := evF T15 0 c15
theorem s15 : Sound Go.Proofs.Tryz.prog 15 F15 := fn_ok (none0_ok _) mixed (by kernel_rfl)
def c63 : AF := ⟨[(2, none)],
  (.seq (.ops [zj 2 (.mv (.const (.one (.bool false))))]) (.seq (.ops [zm 3 0, zj 4 (.bin .geq (.tmp 3) (zk 1)), zm 5 4, zg 6 5 true (.mv (.tmp 0)), zg 7 5 true (.bin .leq (.tmp 6) (zk 65533)), zj 8 (.pick (.tmp 5) (.tmp 7) (.const (.one (.bool false)))), zm 2 8]) .ret))⟩
abbrev T63 : Nat → Callee := none0
def F63 : Callee := evF T63 0 c63
theorem s63 : Sound Go.Proofs.Tryz.prog 63 F63 := fn_ok (none0_ok _) mixed (by kernel_rfl)
def b64x0 : AC := (.seq (.ops [zj 9 (.bin .lss (.tmp 8) (.tmp 7))]) (.seq (.cond (.tmp 9) .skip (.exit 0)) (.seq (.block 1 (.seq (.ops [zm 10 8, zm 5 10]) (.seq (.ops [zm 11 1, zm 12 0, zm 13 5, zj 14 (.iadrR 1 (.tmp 12) (.tmp 13)), zj 15 (.load none (.tmp 14)), zj 16 (.bin .eql (.tmp 11) (.tmp 15))]) (.cond (.tmp 16) (.seq (.ops [zm 17 5, zm 4 17]) .ret) .skip)))) (.ops [zj 18 (.bin .add (.tmp 8) (zk 1)), zm 8 18]))))
def c64 : AF := ⟨[(4, none)],
  (.seq (.ops [zj 4 (.mv (zk 0))]) (.seq (.seq (.ops [zm 6 0, zj 7 (.len (.tmp 6)), zj 8 (.mv (zk 0))]) (.block 0 (.loop [0, 1, 7, 8] b64x0))) (.seq (.ops [zj 4 (.mv (.const (.one (.int .i64 (-1)))))]) .ret)))⟩
abbrev T64 : Nat → Callee := none0
def F64 : Callee := evF T64 KK c64
theorem s64 : Sound Go.Proofs.Tryz.prog 64 F64 := fn_ok (none0_ok _) mixed (by kernel_rfl)
def c65 : AF := ⟨[(6, (some (some 3)))],
  (.seq (.ops [zj 3 (.box (.tmp 0)), zj 6 (.alloc [(.sv (.int .i64 0)), (.sv (.int .i64 0)), (.sv (.int .i64 0))])]) (.seq (.ops [zj 8 (.load (some 3) (.tmp 3)), zj 7 (.alloc [(.sv (.int .i64 0)), (.sv (.int .i64 0)), (.sv (.int .i64 0))]), ⟨none, none, (.store 3 (.tmp 7) (.tmp 8))⟩]) (.seq (.opsD [(zj 9 (.cutA 3 (.tmp 7) (some (zk 1)) none), false), (zm 10 1, false), (zj 11 (.min [(.tmp 10), (zk 2)]), false), (zj 12 (.cutA 3 (.tmp 3) none (some (.tmp 11))), false), (zj 13 (.copy (.tmp 9) (.tmp 12)), true)] []) (.seq (.ops [zm 14 2, zj 15 (.iadrA 3 1 (.tmp 7) (zk 0)), ⟨none, none, (.store 1 (.tmp 15) (.tmp 14))⟩]) (.seq (.ops [zj 16 (.load (some 3) (.tmp 7)), ⟨none, none, (.store 3 (.tmp 6) (.tmp 16))⟩]) .ret)))))⟩
abbrev T65 : Nat → Callee := none0
def F65 : Callee := evF T65 0 c65
theorem s65 : Sound Go.Proofs.Tryz.prog 65 F65 := fn_ok (none0_ok _) mixed (by kernel_rfl)
def c41 : AF := ⟨[(4, none), (5, (some (some 3))), (6, none)],
  (.seq (.ops [zj 2 (.box (.tmp 0)), zj 4 (.mv (zk 0)), zj 5 (.alloc [(.sv (.int .i64 0)), (.sv (.int .i64 0)), (.sv (.int .i64 0))]), zj 6 (.mv (.const (.one (.bool false))))]) (.seq (.seq (.ops [zm 8 1, zj 9 (.call 63 [(.tmp 8)]), zj 10 (.un .not (.tmp 9))]) (.cond (.tmp 10) (.seq (.opsD [(zj 11 (.load (some 3) (.tmp 2)), false), (zj 4 (.mv (zk 0)), false), (⟨none, none, (.store 3 (.tmp 5) (.tmp 11))⟩, true), (zj 6 (.mv (.const (.one (.bool false)))), false)] []) .ret) .skip)) (.seq (.seq (.ops [zj 12 (.cutA 3 (.tmp 2) none none), zm 13 1, zj 14 (.call 64 [(.tmp 12), (.tmp 13)]), zm 7 14]) (.seq (.ops [zm 15 7, zj 16 (.bin .geq (.tmp 15) (zk 0))]) (.cond (.tmp 16) (.seq (.ops [zm 17 7, zj 18 (.load (some 3) (.tmp 2)), zm 19 7, zm 20 1, zj 21 (.call 65 [(.tmp 18), (.tmp 19), (.tmp 20)]), zm 4 17, ⟨none, none, (.store 3 (.tmp 5) (.tmp 21))⟩, zj 6 (.mv (.const (.one (.bool true))))]) .ret) .skip))) (.seq (.ops [zm 22 1, zj 23 (.bin .add (.tmp 22) (zk 3)), zj 24 (.bin .sub (.tmp 23) (zk 1)), zj 25 (.load (some 3) (.tmp 2)), zm 26 1, zj 27 (.call 65 [(.tmp 25), (zk 3), (.tmp 26)]), zm 4 24, ⟨none, none, (.store 3 (.tmp 5) (.tmp 27))⟩, zj 6 (.mv (.const (.one (.bool true))))]) .ret))))⟩
abbrev T41 : Nat → Callee := (upd (upd (upd none0 63 F63) 64 F64) 65 F65)
def F41 : Callee := evF T41 0 c41
theorem s41 : Sound Go.Proofs.Tryz.prog 41 F41 := fn_ok (upd_ok (upd_ok (upd_ok (none0_ok _) s63) s64) s65) mixed (by kernel_rfl)
def c16 : AF := ⟨[(4, (some (some 3))), (5, (some (some 3))), (6, none)],
  (.seq (.ops [zj 2 (.box (.tmp 0)), zj 3 (.box (.tmp 1)), zj 4 (.alloc [(.sv (.int .i64 0)), (.sv (.int .i64 0)), (.sv (.int .i64 0))]), zj 5 (.alloc [(.sv (.int .i64 0)), (.sv (.int .i64 0)), (.sv (.int .i64 0))]), zj 6 (.mv (.const (.one (.bool false))))]) (.seq (.ops [zj 11 (.load (some 3) (.tmp 3)), zj 12 (.fadr 2 (.tmp 2)), zj 13 (.load none (.tmp 12)), zj 14 (.call 41 [(.tmp 11), (.tmp 13)]), zm 10 14, zj 15 (.extract 0 (.tmp 10)), zj 16 (.extract 1 (.tmp 10)), zj 17 (.extract 2 (.tmp 10)), zj 8 (.alloc [(.sv (.int .i64 0)), (.sv (.int .i64 0)), (.sv (.int .i64 0))]), zm 7 15, ⟨none, none, (.store 3 (.tmp 8) (.tmp 16))⟩, zm 9 17]) (.seq (.opsD [(zj 18 (.fadr 0 (.tmp 2)), false), (zj 19 (.load none (.tmp 18)), false), (zj 20 (.fadr 1 (.tmp 2)), false), (zj 21 (.load none (.tmp 20)), false), (zj 22 (.bin .sub (.tmp 21) (zk 3)), false), (zm 23 7, false), (zj 24 (.build [(.sv (.int .i64 0)), (.sv (.int .i64 0)), (.sv (.int .i64 0))] [((0, 1), (.tmp 19)), ((1, 1), (.tmp 22)), ((2, 1), (.tmp 23))]), false), (zj 25 (.load (some 3) (.tmp 8)), false), (zm 26 9, false), (⟨none, none, (.store 3 (.tmp 4) (.tmp 24))⟩, true), (⟨none, none, (.store 3 (.tmp 5) (.tmp 25))⟩, true), (zm 6 26, false)] [(7, [1])]) .ret)))⟩
abbrev T16 : Nat → Callee := (upd none0 41 F41)
def F16 : Callee := evF T16 0 c16
theorem s16 : Sound Go.Proofs.Tryz.prog 16 F16 := fn_ok (upd_ok (none0_ok _) s41) mixed (by kernel_rfl)
def lit66x0 : ByteArray := ⟨#[0, 1, 2, 2, 3, 3, 3, 3, 4, 4, 4, 4, 4, 4, 4, 4, 5, 5, 5, 5, 5, 5, 5, 5, 5, 5, 5, 5, 5, 5, 5, 5, 6, 6, 6, 6, 6, 6, 6, 6, 6, 6, 6, 6, 6, 6, 6, 6, 6, 6, 6, 6, 6, 6, 6, 6, 6, 6, 6, 6, 6, 6, 6, 6, 7, 7, 7, 7, 7, 7, 7, 7, 7, 7, 7, 7, 7, 7, 7, 7, 7, 7, 7, 7, 7, 7, 7, 7, 7, 7, 7, 7, 7, 7, 7, 7, 7, 7, 7, 7, 7, 7, 7, 7, 7, 7, 7, 7, 7, 7, 7, 7, 7, 7, 7, 7, 7, 7, 7, 7, 7, 7, 7, 7, 7, 7, 7, 7, 8, 8, 8, 8, 8, 8, 8, 8, 8, 8, 8, 8, 8, 8, 8, 8, 8, 8, 8, 8, 8, 8, 8, 8, 8, 8, 8, 8, 8, 8, 8, 8, 8, 8, 8, 8, 8, 8, 8, 8, 8, 8, 8, 8, 8, 8, 8, 8, 8, 8, 8, 8, 8, 8, 8, 8, 8, 8, 8, 8, 8, 8, 8, 8, 8, 8, 8, 8, 8, 8, 8, 8, 8, 8, 8, 8, 8, 8, 8, 8, 8, 8, 8, 8, 8, 8, 8, 8, 8, 8, 8, 8, 8, 8, 8, 8, 8, 8, 8, 8, 8, 8, 8, 8, 8, 8, 8, 8, 8, 8, 8, 8, 8, 8, 8, 8, 8, 8, 8, 8, 8, 8, 8, 8, 8, 8, 8, 8]⟩
def c66 : AF := ⟨[(2, none)],
  (.seq (.ops [zj 2 (.mv (zk 0))]) (.seq (.seq (.ops [zm 3 0, zj 4 (.bin .geq (.tmp 3) (.const (.one (.int .u32 65536))))]) (.cond (.tmp 4) (.seq (.ops [zm 5 0, zj 6 (.bin .shr (.tmp 5) (.const (.one (.int .u64 16)))), zm 0 6]) (.ops [zj 2 (.mv (zk 16))])) .skip)) (.seq (.seq (.ops [zm 7 0, zj 8 (.bin .geq (.tmp 7) (.const (.one (.int .u32 256))))]) (.cond (.tmp 8) (.seq (.ops [zm 9 0, zj 10 (.bin .shr (.tmp 9) (.const (.one (.int .u64 8)))), zm 0 10]) (.ops [zm 11 2, zj 12 (.bin .add (.tmp 11) (zk 8)), zm 2 12])) .skip)) (.seq (.ops [zm 13 2, zm 14 0, zj 15 (.conv .u8 (.tmp 14)), zj 16 (.idxS (.const (.one (.str lit66x0))) (.tmp 15)), zj 17 (.conv .i64 (.tmp 16)), zj 18 (.bin .add (.tmp 13) (.tmp 17)), zm 2 18]) .ret))))⟩
abbrev T66 : Nat → Callee := none0
def F66 : Callee := evF T66 0 c66
theorem s66 : Sound Go.Proofs.Tryz.prog 66 F66 := fn_ok (none0_ok _) mixed (by kernel_rfl)
def c42 : AF := ⟨[(2, none)],
  (.seq (.ops [zj 2 (.mv (zk 0))]) (.seq (.ops [zm 3 0, zj 4 (.call 66 [(.tmp 3)]), zm 2 4]) .ret))⟩
abbrev T42 : Nat → Callee := (upd none0 66 F66)
def F42 : Callee := evF T42 0 c42
theorem s42 : Sound Go.Proofs.Tryz.prog 42 F42 := fn_ok (upd_ok (none0_ok _) s66) mixed (by kernel_rfl)
def c17 : AF := ⟨[(2, none), (3, none), (4, none), (5, none)],
  (.seq (.ops [zj 2 (.mv (.const (.one (.int .u8 0)))), zj 3 (.mv (zk 0)), zj 4 (.mv (zk 0)), zj 5 (.mv (.const (.one (.bool false))))]) (.seq (.seq (.ops [zm 7 0, zj 8 (.bin .lss (.tmp 7) (zk 0)), zm 9 8, zg 10 9 false (.mv (.tmp 0)), zg 11 9 false (.bin .gtr (.tmp 10) (zk 65535)), zj 12 (.pick (.tmp 9) (.const (.one (.bool true))) (.tmp 11))]) (.cond (.tmp 12) (.seq (.ops [zj 2 (.mv (.const (.one (.int .u8 0)))), zj 3 (.mv (zk 0)), zj 4 (.mv (zk 0)), zj 5 (.mv (.const (.one (.bool false))))]) .ret) .skip)) (.seq (.seq (.ops [zm 13 0, zj 14 (.bin .lss (.tmp 13) (zk 16))]) (.cond (.tmp 14) (.seq (.ops [zm 15 0, zj 16 (.conv .u8 (.tmp 15)), zm 2 16, zj 3 (.mv (zk 0)), zj 4 (.mv (zk 0)), zj 5 (.mv (.const (.one (.bool true))))]) .ret) .skip)) (.seq (.ops [zm 17 0, zj 18 (.conv .u32 (.tmp 17)), zj 19 (.call 42 [(.tmp 18)]), zj 20 (.bin .sub (.tmp 19) (zk 1)), zm 6 20]) (.seq (.opsD [(zm 21 6, false), (zj 22 (.bin .add (zk 11) (.tmp 21)), false), (zj 23 (.bin .add (.tmp 22) (zk 1)), false), (zj 24 (.conv .u8 (.tmp 23)), false), (zm 25 0, false), (zm 26 6, false), (zj 27 (.bin .shl (zk 1) (.tmp 26)), false), (zj 28 (.bin .sub (.tmp 25) (.tmp 27)), false), (zm 29 6, false), (zm 2 24, false), (zm 3 28, false), (zm 4 29, false), (zj 5 (.mv (.const (.one (.bool true)))), false)] []) .ret)))))⟩
abbrev T17 : Nat → Callee := (upd none0 42 F42)
def F17 : Callee := evF T17 0 c17
theorem s17 : Sound Go.Proofs.Tryz.prog 17 F17 := fn_ok (upd_ok (none0_ok _) s42) mixed (by kernel_rfl)
def c43 : AF := ⟨[(2, none)],
  (.seq (.ops [zj 2 (.mv (.const (.one (.bool false))))]) (.seq (.ops [zm 3 0, zj 4 (.bin .geq (.tmp 3) (zk 0)), zm 5 4, zg 6 5 true (.mv (.tmp 0)), zg 7 5 true (.bin .leq (.tmp 6) (zk 32)), zj 8 (.pick (.tmp 5) (.tmp 7) (.const (.one (.bool false)))), zm 2 8]) .ret))⟩
abbrev T43 : Nat → Callee := none0
def F43 : Callee := evF T43 0 c43
theorem s43 : Sound Go.Proofs.Tryz.prog 43 F43 := fn_ok (none0_ok _) mixed (by kernel_rfl)
def b18x0 : AC := (.seq (.seq (.ops [zm 16 2, zj 17 (.bin .gtr (.tmp 16) (zk 0))]) (.cond (.tmp 17) .skip (.exit 0))) (.block 1 (.seq (.ops [zm 18 0, zj 19 (.nilCheck (.tmp 18)), zj 20 (.fadr 1 (.tmp 19)), zj 21 (.load none (.tmp 20)), zj 22 (.bin .and (.tmp 21) (zk 7)), zm 7 22]) (.seq (.seq (.ops [zm 23 7, zj 24 (.bin .eql (.tmp 23) (zk 0))]) (.cond (.tmp 24) (.ops [zm 25 0, zm 26 0, zj 27 (.nilCheck (.tmp 26)), zj 28 (.fadr 0 (.tmp 27)), zj 29 (.load none (.tmp 28)), zj 30 (.bslice (.ints .u8 []) [(.int .u8 0)] 1 [(0, (.const (.one (.int .u8 0))))]), zj 31 (.append (.ints .u8 []) 1 (.tmp 29) (.tmp 30)), zj 32 (.nilCheck (.tmp 25)), zj 33 (.fadr 0 (.tmp 32)), ⟨none, none, (.store 1 (.tmp 33) (.tmp 31))⟩]) .skip)) (.seq (.ops [zm 34 2, zm 35 7, zj 36 (.bin .sub (zk 8) (.tmp 35)), zj 37 (.min [(.tmp 34), (.tmp 36)]), zm 8 37]) (.seq (.opsD [(zm 38 0, false), (zj 39 (.nilCheck (.tmp 38)), false), (zj 40 (.fadr 0 (.tmp 39)), false), (zj 41 (.load none (.tmp 40)), false), (zm 42 0, false), (zj 43 (.nilCheck (.tmp 42)), false), (zj 44 (.fadr 0 (.tmp 43)), false), (zj 45 (.load none (.tmp 44)), false), (zj 46 (.len (.tmp 45)), false), (zj 47 (.bin .sub (.tmp 46) (zk 1)), false), (zj 48 (.iadrR 1 (.tmp 41) (.tmp 47)), false), (zj 49 (.load none (.tmp 48)), false), (zm 50 1, false), (zm 51 8, false), (zj 52 (.bin .shl (.const (.one (.int .u32 1))) (.tmp 51)), false), (zj 53 (.bin .sub (.tmp 52) (.const (.one (.int .u32 1)))), false), (zj 54 (.bin .and (.tmp 50) (.tmp 53)), false), (zj 55 (.conv .u8 (.tmp 54)), false), (zm 56 7, false), (zj 57 (.bin .shl (.tmp 55) (.tmp 56)), false), (zj 58 (.bin .or (.tmp 49) (.tmp 57)), false), (zj 59 (.iadrR 1 (.tmp 41) (.tmp 47)), false), (⟨none, none, (.store 1 (.tmp 59) (.tmp 58))⟩, true)] []) (.seq (.ops [zm 60 1, zm 61 8, zj 62 (.bin .shr (.tmp 60) (.tmp 61)), zm 1 62]) (.seq (.ops [zm 63 0, zj 64 (.nilCheck (.tmp 63)), zj 65 (.fadr 1 (.tmp 64)), zj 66 (.load none (.tmp 65)), zm 67 8, zj 68 (.bin .add (.tmp 66) (.tmp 67)), zj 69 (.nilCheck (.tmp 63)), zj 70 (.fadr 1 (.tmp 69)), ⟨none, none, (.store 1 (.tmp 70) (.tmp 68))⟩]) (.ops [zm 71 2, zm 72 8, zj 73 (.bin .sub (.tmp 71) (.tmp 72)), zm 2 73])))))))))
def c18 : AF := ⟨[(6, none)],
  (.seq (.ops [zj 6 (.mv (.const (.one (.bool false))))]) (.seq (.seq (.ops [zm 9 0, zj 10 (.eqNil false (.tmp 9)), zm 11 10, zg 12 11 false (.mv (.tmp 2)), zg 13 11 false (.call 43 [(.tmp 12)]), zg 14 11 false (.un .not (.tmp 13)), zj 15 (.pick (.tmp 11) (.const (.one (.bool true))) (.tmp 14))]) (.cond (.tmp 15) (.seq (.ops [zj 6 (.mv (.const (.one (.bool false))))]) .ret) .skip)) (.seq (.block 0 (.loop [0, 1, 2] b18x0)) (.seq (.ops [zj 6 (.mv (.const (.one (.bool true))))]) .ret))))⟩
abbrev T18 : Nat → Callee := (upd none0 43 F43)
def F18 : Callee := evF T18 KK c18
theorem s18 : Sound Go.Proofs.Tryz.prog 18 F18 := fn_ok (upd_ok (none0_ok _) s43) mixed (by kernel_rfl)
def c19 : AF := ⟨[(4, none)],
  (.seq (.ops [zj 4 (.mv (.const (.one .nilp)))]) (.seq (.seq (.ops [zm 5 0, zj 6 (.eqNil false (.tmp 5))]) (.cond (.tmp 6) (.seq (.ops [zj 4 (.mv (.const (.one .nilp)))]) .ret) .skip)) (.seq (.ops [zm 7 0, zm 8 0, zj 9 (.nilCheck (.tmp 8)), zj 10 (.fadr 0 (.tmp 9)), zj 11 (.load none (.tmp 10)), zm 12 1, zj 13 (.append (.ints .u8 []) 1 (.tmp 11) (.tmp 12)), zj 14 (.nilCheck (.tmp 7)), zj 15 (.fadr 0 (.tmp 14)), ⟨none, none, (.store 1 (.tmp 15) (.tmp 13))⟩]) (.seq (.ops [zm 16 0, zm 4 16]) .ret))))⟩
abbrev T19 : Nat → Callee := none0
def F19 : Callee := evF T19 0 c19
theorem s19 : Sound Go.Proofs.Tryz.prog 19 F19 := fn_ok (none0_ok _) mixed (by kernel_rfl)
def c78 : AF := ⟨[(2, none)],
  (.seq (.ops [zj 2 (.mv (zk 0))]) (.seq (.ops [zm 3 0, zj 4 (.max [(.tmp 3), (zk 0)]), zj 5 (.min [(.tmp 4), (zk 8)]), zm 2 5]) .ret))⟩
abbrev T78 : Nat → Callee := none0
def F78 : Callee := evF T78 0 c78
theorem s78 : Sound Go.Proofs.Tryz.prog 78 F78 := fn_ok (none0_ok _) mixed (by kernel_rfl)
def b67x0 : AC := (.seq (.ops [zj 12 (.bin .lss (.tmp 11) (.tmp 10))]) (.seq (.cond (.tmp 12) .skip (.exit 0)) (.seq (.block 1 (.seq (.ops [zm 13 0, zm 14 0, zj 15 (.nilCheck (.tmp 14)), zj 16 (.fadr 0 (.tmp 15)), zj 17 (.load none (.tmp 16)), zm 18 1, zj 19 (.conv .u8 (.tmp 18)), zj 20 (.bslice (.ints .u8 []) [(.int .u8 0)] 1 [(0, (.tmp 19))]), zj 21 (.append (.ints .u8 []) 1 (.tmp 17) (.tmp 20)), zj 22 (.nilCheck (.tmp 13)), zj 23 (.fadr 0 (.tmp 22)), ⟨none, none, (.store 1 (.tmp 23) (.tmp 21))⟩]) (.ops [zm 24 1, zj 25 (.bin .shr (.tmp 24) (.const (.one (.int .u64 8)))), zm 1 25]))) (.ops [zj 26 (.bin .add (.tmp 11) (zk 1)), zm 11 26]))))
def c67 : AF := ⟨[(6, none)],
  (.seq (.ops [zj 6 (.mv (.const (.one .nilp)))]) (.seq (.seq (.ops [zm 7 0, zj 8 (.eqNil false (.tmp 7))]) (.cond (.tmp 8) (.seq (.ops [zj 6 (.mv (.const (.one .nilp)))]) .ret) .skip)) (.seq (.seq (.ops [zm 9 2, zj 10 (.call 78 [(.tmp 9)]), zj 11 (.mv (zk 0))]) (.block 0 (.loop [0, 1, 10, 11] b67x0))) (.seq (.ops [zm 27 0, zm 6 27]) .ret))))⟩
abbrev T67 : Nat → Callee := (upd none0 78 F78)
def F67 : Callee := evF T67 KK c67
theorem s67 : Sound Go.Proofs.Tryz.prog 67 F67 := fn_ok (upd_ok (none0_ok _) s78) mixed (by kernel_rfl)
def c44 : AF := ⟨[(2, none)],
  (.seq (.ops [zj 2 (.mv (.const (.one .nilp)))]) (.seq (.ops [zj 3 (.alloc [(.nil (.ints .u8 []))])]) (.seq (.ops [zm 4 0, zj 5 (.conv .u64 (.tmp 4)), zj 6 (.call 67 [(.tmp 3), (.tmp 5), (zk 1)]), zm 2 6]) .ret)))⟩
abbrev T44 : Nat → Callee := (upd none0 67 F67)
def F44 : Callee := evF T44 0 c44
theorem s44 : Sound Go.Proofs.Tryz.prog 44 F44 := fn_ok (upd_ok (none0_ok _) s67) mixed (by kernel_rfl)
def b45x0 : AC := (.seq (.seq (.ops [zm 12 4, zm 13 0, zj 14 (.len (.tmp 13)), zj 15 (.bin .lss (.tmp 12) (.tmp 14))]) (.cond (.tmp 15) .skip (.exit 0))) (.seq (.block 1 (.ops [zm 18 3, zm 19 0, zm 20 4, zj 21 (.iadrR 1 (.tmp 19) (.tmp 20)), zj 22 (.load none (.tmp 21)), zj 23 (.max [(.tmp 18), (.tmp 22)]), zm 3 23])) (.ops [zm 16 4, zj 17 (.bin .add (.tmp 16) (zk 1)), zm 4 17])))
def c45 : AF := ⟨[(2, none)],
  (.seq (.ops [zj 2 (.mv (.const (.one (.int .u8 0))))]) (.seq (.seq (.ops [zm 5 0, zj 6 (.len (.tmp 5)), zj 7 (.bin .lss (.tmp 6) (zk 1))]) (.cond (.tmp 7) (.ops [zj 8 .bad, ⟨none, none, .bad⟩]) .skip)) (.seq (.ops [zm 9 0, zj 10 (.iadrR 1 (.tmp 9) (zk 0)), zj 11 (.load none (.tmp 10)), zm 3 11]) (.seq (.seq (.ops [zj 4 (.mv (zk 1))]) (.block 0 (.loop [0, 3, 4] b45x0))) (.seq (.ops [zm 24 3, zm 2 24]) .ret)))))⟩
abbrev T45 : Nat → Callee := none0
def F45 : Callee := evF T45 KK c45
theorem s45 : Sound Go.Proofs.Tryz.prog 45 F45 := fn_ok (none0_ok _) mixed (by kernel_rfl)
def b46x0 : AC := (.seq (.seq (.ops [zm 12 4, zm 13 0, zj 14 (.len (.tmp 13)), zj 15 (.bin .lss (.tmp 12) (.tmp 14))]) (.cond (.tmp 15) .skip (.exit 0))) (.seq (.block 1 (.ops [zm 18 3, zm 19 0, zm 20 4, zj 21 (.iadrR 1 (.tmp 19) (.tmp 20)), zj 22 (.load none (.tmp 21)), zj 23 (.min [(.tmp 18), (.tmp 22)]), zm 3 23])) (.ops [zm 16 4, zj 17 (.bin .add (.tmp 16) (zk 1)), zm 4 17])))
def c46 : AF := ⟨[(2, none)],
  (.seq (.ops [zj 2 (.mv (.const (.one (.int .u8 0))))]) (.seq (.seq (.ops [zm 5 0, zj 6 (.len (.tmp 5)), zj 7 (.bin .lss (.tmp 6) (zk 1))]) (.cond (.tmp 7) (.ops [zj 8 .bad, ⟨none, none, .bad⟩]) .skip)) (.seq (.ops [zm 9 0, zj 10 (.iadrR 1 (.tmp 9) (zk 0)), zj 11 (.load none (.tmp 10)), zm 3 11]) (.seq (.seq (.ops [zj 4 (.mv (zk 1))]) (.block 0 (.loop [0, 3, 4] b46x0))) (.seq (.ops [zm 24 3, zm 2 24]) .ret)))))⟩
abbrev T46 : Nat → Callee := none0
def F46 : Callee := evF T46 KK c46
theorem s46 : Sound Go.Proofs.Tryz.prog 46 F46 := fn_ok (none0_ok _) mixed (by kernel_rfl)
def c21 : AF := ⟨[(4, none)],
  (.seq (.ops [zj 4 (.mv (.const (.one .nilp)))]) (.seq (.ops [zm 5 0, zm 6 1, zj 7 (.lenS (.tmp 6)), zj 8 (.conv .u64 (.tmp 7)), zj 9 (.call 13 [(.tmp 5), (.tmp 8)]), zm 10 1, zj 11 (.call 19 [(.tmp 9), (.tmp 10)]), zm 4 11]) .ret))⟩
abbrev T21 : Nat → Callee := (upd (upd none0 13 F13) 19 F19)
def F21 : Callee := evF T21 0 c21
theorem s21 : Sound Go.Proofs.Tryz.prog 21 F21 := fn_ok (upd_ok (upd_ok (none0_ok _) s13) s19) mixed (by kernel_rfl)
def c22 : AF := ⟨[(2, none)],
  (.seq (.ops [zj 2 (.newNil (.ints .u8 []))]) (.seq (.seq (.ops [zm 3 0, zj 4 (.eqNil false (.tmp 3))]) (.cond (.tmp 4) (.seq (.ops [zj 2 (.newNil (.ints .u8 []))]) .ret) .skip)) (.seq (.ops [zm 5 0, zj 6 (.nilCheck (.tmp 5)), zj 7 (.fadr 0 (.tmp 6)), zj 8 (.load none (.tmp 7)), zj 9 (.append (.ints .u8 []) 1 (.const (.one (.nils (.ints .u8 [])))) (.tmp 8)), zm 2 9]) .ret)))⟩
abbrev T22 : Nat → Callee := none0
def F22 : Callee := evF T22 0 c22
theorem s22 : Sound Go.Proofs.Tryz.prog 22 F22 := fn_ok (none0_ok _) mixed (by kernel_rfl)
def b68x0 : AC := (.seq (.seq (.ops [zm 12 3, zj 13 (.len (.tmp 12)), zm 14 5, zj 15 (.conv .i64 (.tmp 14)), zj 16 (.bin .leq (.tmp 13) (.tmp 15))]) (.cond (.tmp 16) .skip (.exit 2))) (.block 3 (.ops [zm 17 3, zj 18 (.bslice (.ints .i64 []) [(.int .i64 0)] 1 [(0, (zk 0))]), zj 19 (.append (.ints .i64 []) 8 (.tmp 17) (.tmp 18)), zm 3 19])))
def b68x1 : AC := (.seq (.ops [zj 9 (.bin .lss (.tmp 8) (.tmp 7))]) (.seq (.cond (.tmp 9) .skip (.exit 0)) (.seq (.block 1 (.seq (.ops [zj 10 (.iadrR 1 (.tmp 6) (.tmp 8)), zj 11 (.load none (.tmp 10)), zm 5 11]) (.seq (.block 2 (.loop [3, 5, 6, 7, 8] b68x0)) (.ops [zm 20 3, zm 21 5, zj 22 (.iadrR 1 (.tmp 20) (.tmp 21)), zj 23 (.load none (.tmp 22)), zj 24 (.bin .add (.tmp 23) (zk 1)), zj 25 (.iadrR 1 (.tmp 20) (.tmp 21)), ⟨none, none, (.store 1 (.tmp 25) (.tmp 24))⟩])))) (.ops [zj 26 (.bin .add (.tmp 8) (zk 1)), zm 8 26]))))
def c68 : AF := ⟨[(2, none)],
  (.seq (.ops [zj 2 (.newNil (.ints .i64 []))]) (.seq (.ops [zj 3 (.newNil (.ints .i64 []))]) (.seq (.seq (.ops [zm 6 0, zj 7 (.len (.tmp 6)), zj 8 (.mv (zk 0))]) (.block 0 (.loop [3, 6, 7, 8] b68x1))) (.seq (.ops [zm 27 3, zm 2 27]) .ret))))⟩
abbrev T68 : Nat → Callee := none0
def F68 : Callee := evF T68 KK c68
theorem s68 : Sound Go.Proofs.Tryz.prog 68 F68 := fn_ok (none0_ok _) mixed (by kernel_rfl)
def b87x0 : AC := (.seq (.ops [zj 9 (.bin .lss (.tmp 8) (.tmp 7))]) (.seq (.cond (.tmp 9) .skip (.exit 0)) (.seq (.block 1 (.seq (.ops [zj 10 (.iadrR 1 (.tmp 6) (.tmp 8)), zj 11 (.load none (.tmp 10)), zm 5 11]) (.ops [zm 12 3, zm 13 5, zj 14 (.bin .add (.tmp 12) (.tmp 13)), zm 3 14]))) (.ops [zj 15 (.bin .add (.tmp 8) (zk 1)), zm 8 15]))))
def c87 : AF := ⟨[(2, none)],
  (.seq (.ops [zj 2 (.mv (zk 0))]) (.seq (.ops [zj 3 (.mv (zk 0))]) (.seq (.seq (.ops [zm 6 0, zj 7 (.len (.tmp 6)), zj 8 (.mv (zk 0))]) (.block 0 (.loop [3, 6, 7, 8] b87x0))) (.seq (.ops [zm 16 3, zm 2 16]) .ret))))⟩
abbrev T87 : Nat → Callee := none0
def F87 : Callee := evF T87 KK c87
theorem s87 : Sound Go.Proofs.Tryz.prog 87 F87 := fn_ok (none0_ok _) mixed (by kernel_rfl)
def b85x0 : AC := (.seq (.ops [zj 11 (.bin .lss (.tmp 10) (.tmp 9))]) (.seq (.cond (.tmp 11) .skip (.exit 0)) (.seq (.block 1 (.seq (.ops [zj 12 (.iadrR 1 (.tmp 8) (.tmp 10)), zj 13 (.load none (.tmp 12)), zm 4 13]) (.seq (.ops [zm 14 4, zj 15 (.bin .lss (.tmp 14) (zk 0)), zm 16 15, zg 17 16 false (.mv (.tmp 4)), zg 18 16 false (.bin .gtr (.tmp 17) (zk 1048576)), zj 19 (.pick (.tmp 16) (.const (.one (.bool true))) (.tmp 18))]) (.cond (.tmp 19) (.seq (.ops [zj 2 (.mv (.const (.one (.bool false))))]) .ret) .skip)))) (.ops [zj 20 (.bin .add (.tmp 10) (zk 1)), zm 10 20]))))
def c85 : AF := ⟨[(2, none)],
  (.seq (.ops [zj 2 (.mv (.const (.one (.bool false))))]) (.seq (.seq (.ops [zm 5 0, zj 6 (.len (.tmp 5)), zj 7 (.bin .gtr (.tmp 6) (zk 256))]) (.cond (.tmp 7) (.seq (.ops [zj 2 (.mv (.const (.one (.bool false))))]) .ret) .skip)) (.seq (.seq (.ops [zm 8 0, zj 9 (.len (.tmp 8)), zj 10 (.mv (zk 0))]) (.block 0 (.loop [0, 8, 9, 10] b85x0))) (.seq (.ops [zm 21 0, zj 22 (.call 87 [(.tmp 21)]), zj 23 (.bin .gtr (.tmp 22) (zk 0)), zm 2 23]) .ret))))⟩
abbrev T85 : Nat → Callee := (upd none0 87 F87)
def F85 : Callee := evF T85 KK c85
theorem s85 : Sound Go.Proofs.Tryz.prog 85 F85 := fn_ok (upd_ok (none0_ok _) s87) mixed (by kernel_rfl)
def b86x0 : AC := (.seq (.ops [zj 9 (.bin .lss (.tmp 8) (.tmp 7))]) (.seq (.cond (.tmp 9) .skip (.exit 0)) (.seq (.block 1 (.seq (.ops [zj 10 (.iadrR 1 (.tmp 6) (.tmp 8)), zj 11 (.load none (.tmp 10)), zm 5 11]) (.seq (.ops [zm 12 5, zj 13 (.bin .gtr (.tmp 12) (zk 0))]) (.cond (.tmp 13) (.ops [zm 14 3, zj 15 (.bin .add (.tmp 14) (zk 1)), zm 3 15]) .skip)))) (.ops [zj 16 (.bin .add (.tmp 8) (zk 1)), zm 8 16]))))
def c86 : AF := ⟨[(2, none)],
  (.seq (.ops [zj 2 (.mv (zk 0))]) (.seq (.ops [zj 3 (.mv (zk 0))]) (.seq (.seq (.ops [zm 6 0, zj 7 (.len (.tmp 6)), zj 8 (.mv (zk 0))]) (.block 0 (.loop [3, 6, 7, 8] b86x0))) (.seq (.ops [zm 17 3, zm 2 17]) .ret))))⟩
abbrev T86 : Nat → Callee := none0
def F86 : Callee := evF T86 KK c86
theorem s86 : Sound Go.Proofs.Tryz.prog 86 F86 := fn_ok (none0_ok _) mixed (by kernel_rfl)
def b69x0 : AC := (.seq (.seq (.opsD [(zm 7 3, false), (zj 8 (.bin .lss (.tmp 7) (zk 9)), false), (zm 9 8, false), (zg 10 9 true (.mv (.tmp 3)), false), (zg 11 9 true (.bin .shl (zk 1) (.tmp 10)), false), (zg 12 9 true (.mv (.tmp 0)), false), (zg 13 9 true (.call 86 [(.tmp 12)]), true), (zg 14 9 true (.bin .mul (zk 4) (.tmp 13)), false), (zg 15 9 true (.bin .lss (.tmp 11) (.tmp 14)), false), (zg 16 9 true (.mv (.tmp 15)), false), (zg 17 16 false (.mv (.tmp 3)), false), (zg 18 16 false (.bin .shl (zk 1) (.tmp 17)), false), (zg 19 16 false (.mv (.tmp 0)), false), (zg 20 16 false (.call 87 [(.tmp 19)]), true), (zg 21 16 false (.bin .quo (.tmp 20) (zk 8)), false), (zg 22 16 false (.bin .lss (.tmp 18) (.tmp 21)), false), (zg 23 9 true (.pick (.tmp 16) (.const (.one (.bool true))) (.tmp 22)), false), (zj 24 (.pick (.tmp 9) (.tmp 23) (.const (.one (.bool false)))), false)] []) (.cond (.tmp 24) .skip (.exit 0))) (.block 1 (.ops [zm 25 3, zj 26 (.bin .add (.tmp 25) (zk 1)), zm 3 26])))
def c69 : AF := ⟨[(2, none)],
  (.seq (.ops [zj 2 (.mv (zk 0))]) (.seq (.seq (.ops [zm 4 0, zj 5 (.call 85 [(.tmp 4)]), zj 6 (.un .not (.tmp 5))]) (.cond (.tmp 6) (.seq (.ops [zj 2 (.mv (zk 0))]) .ret) .skip)) (.seq (.ops [zj 3 (.mv (zk 5))]) (.seq (.block 0 (.loop [0, 3] b69x0)) (.seq (.ops [zm 27 3, zm 2 27]) .ret)))))⟩
abbrev T69 : Nat → Callee := (upd (upd (upd none0 85 F85) 86 F86) 87 F87)
def F69 : Callee := evF T69 KK c69
theorem s69 : Sound Go.Proofs.Tryz.prog 69 F69 := fn_ok (upd_ok (upd_ok (upd_ok (none0_ok _) s85) s86) s87) mixed (by kernel_rfl)
def c88 : AF := ⟨[(2, none)],
  (.seq (.ops [zj 2 (.mv (.const (.one (.bool false))))]) (.seq (.ops [zm 3 0, zj 4 (.bin .geq (.tmp 3) (zk 5)), zm 5 4, zg 6 5 true (.mv (.tmp 0)), zg 7 5 true (.bin .leq (.tmp 6) (zk 9)), zj 8 (.pick (.tmp 5) (.tmp 7) (.const (.one (.bool false)))), zm 2 8]) .ret))⟩
abbrev T88 : Nat → Callee := none0
def F88 : Callee := evF T88 0 c88
theorem s88 : Sound Go.Proofs.Tryz.prog 88 F88 := fn_ok (none0_ok _) mixed (by kernel_rfl)
def b89x0 : AC := (.seq (.ops [zj 17 (.bin .lss (.tmp 16) (.tmp 15))]) (.seq (.cond (.tmp 17) .skip (.exit 0)) (.seq (.block 1 (.seq (.ops [zm 18 16, zj 19 (.iadrR 1 (.tmp 14) (.tmp 16)), zj 20 (.load none (.tmp 19)), zm 7 18, zm 8 20]) (.seq (.ops [zm 21 8, zj 22 (.bin .gtr (.tmp 21) (zk 0))]) (.cond (.tmp 22) (.ops [zm 23 6, zm 24 7, zm 25 8, zm 26 1, zj 27 (.bin .mul (.tmp 25) (.tmp 26)), zm 28 5, zj 29 (.bin .quo (.tmp 27) (.tmp 28)), zj 30 (.max [(.tmp 29), (zk 1)]), zj 31 (.iadrR 1 (.tmp 23) (.tmp 24)), ⟨none, none, (.store 1 (.tmp 31) (.tmp 30))⟩]) .skip)))) (.ops [zj 32 (.bin .add (.tmp 16) (zk 1)), zm 16 32]))))
def c89 : AF := ⟨[(4, none)],
  (.seq (.ops [zj 4 (.newNil (.ints .i64 []))]) (.seq (.ops [zm 9 0, zj 10 (.call 87 [(.tmp 9)]), zm 5 10]) (.seq (.ops [zm 11 0, zj 12 (.len (.tmp 11)), zj 13 (.mks (.ints .i64 []) [(.int .i64 0)] 8 (.tmp 12) (.tmp 12)), zm 6 13]) (.seq (.seq (.ops [zm 14 0, zj 15 (.len (.tmp 14)), zj 16 (.mv (zk 0))]) (.block 0 (.loop [1, 5, 6, 14, 15, 16] b89x0))) (.seq (.ops [zm 33 6, zm 4 33]) .ret)))))⟩
abbrev T89 : Nat → Callee := (upd none0 87 F87)
def F89 : Callee := evF T89 KK c89
theorem s89 : Sound Go.Proofs.Tryz.prog 89 F89 := fn_ok (upd_ok (none0_ok _) s87) mixed (by kernel_rfl)
def b108x0 : AC := (.seq (.seq (.ops [zm 12 4, zm 13 0, zj 14 (.len (.tmp 13)), zj 15 (.bin .lss (.tmp 12) (.tmp 14))]) (.cond (.tmp 15) .skip (.exit 0))) (.seq (.block 1 (.ops [zm 18 3, zm 19 0, zm 20 4, zj 21 (.iadrR 1 (.tmp 19) (.tmp 20)), zj 22 (.load none (.tmp 21)), zj 23 (.max [(.tmp 18), (.tmp 22)]), zm 3 23])) (.ops [zm 16 4, zj 17 (.bin .add (.tmp 16) (zk 1)), zm 4 17])))
def c108 : AF := ⟨[(2, none)],
  (.seq (.ops [zj 2 (.mv (zk 0))]) (.seq (.seq (.ops [zm 5 0, zj 6 (.len (.tmp 5)), zj 7 (.bin .lss (.tmp 6) (zk 1))]) (.cond (.tmp 7) (.ops [zj 8 .bad, ⟨none, none, .bad⟩]) .skip)) (.seq (.ops [zm 9 0, zj 10 (.iadrR 1 (.tmp 9) (zk 0)), zj 11 (.load none (.tmp 10)), zm 3 11]) (.seq (.seq (.ops [zj 4 (.mv (zk 1))]) (.block 0 (.loop [0, 3, 4] b108x0))) (.seq (.ops [zm 24 3, zm 2 24]) .ret)))))⟩
abbrev T108 : Nat → Callee := none0
def F108 : Callee := evF T108 KK c108
theorem s108 : Sound Go.Proofs.Tryz.prog 108 F108 := fn_ok (none0_ok _) mixed (by kernel_rfl)
def c90 : AF := ⟨[(2, none)],
  (.seq (.ops [zj 2 (.mv (zk 0))]) (.seq (.ops [zm 3 0, zm 4 0, zj 5 (.call 108 [(.tmp 4)]), zj 6 (.call 64 [(.tmp 3), (.tmp 5)]), zm 2 6]) .ret))⟩
abbrev T90 : Nat → Callee := (upd (upd none0 64 F64) 108 F108)
def F90 : Callee := evF T90 0 c90
theorem s90 : Sound Go.Proofs.Tryz.prog 90 F90 := fn_ok (upd_ok (upd_ok (none0_ok _) s64) s108) mixed (by kernel_rfl)
def b70x0 : AC := (.seq (.seq (.ops [zm 43 8, zj 44 (.bin .lss (.tmp 43) (zk 0))]) (.cond (.tmp 44) .skip (.exit 0))) (.seq (.block 1 (.ops [zm 47 7, zm 48 7, zj 49 (.call 90 [(.tmp 48)]), zj 50 (.iadrR 1 (.tmp 47) (.tmp 49)), zj 51 (.load none (.tmp 50)), zj 52 (.bin .sub (.tmp 51) (zk 1)), zj 53 (.iadrR 1 (.tmp 47) (.tmp 49)), ⟨none, none, (.store 1 (.tmp 53) (.tmp 52))⟩])) (.ops [zm 45 8, zj 46 (.bin .add (.tmp 45) (zk 1)), zm 8 46])))
def c70 : AF := ⟨[(4, none), (5, none)],
  (.seq (.ops [zj 4 (.newNil (.ints .i64 [])), zj 5 (.mv (.const (.one (.bool false))))]) (.seq (.seq (.opsD [(zm 9 0, false), (zj 10 (.call 85 [(.tmp 9)]), true), (zj 11 (.un .not (.tmp 10)), false), (zm 12 11, false), (zg 13 12 false (.mv (.tmp 1)), false), (zg 14 12 false (.call 88 [(.tmp 13)]), true), (zg 15 12 false (.un .not (.tmp 14)), false), (zj 16 (.pick (.tmp 12) (.const (.one (.bool true))) (.tmp 15)), false), (zm 17 16, false), (zg 18 17 false (.mv (.tmp 0)), false), (zg 19 17 false (.call 86 [(.tmp 18)]), true), (zg 20 17 false (.mv (.tmp 1)), false), (zg 21 17 false (.bin .shl (zk 1) (.tmp 20)), false), (zg 22 17 false (.bin .gtr (.tmp 19) (.tmp 21)), false), (zj 23 (.pick (.tmp 17) (.const (.one (.bool true))) (.tmp 22)), false)] []) (.cond (.tmp 23) (.seq (.ops [zj 4 (.newNil (.ints .i64 [])), zj 5 (.mv (.const (.one (.bool false))))]) .ret) .skip)) (.seq (.ops [zm 24 1, zj 25 (.bin .shl (zk 1) (.tmp 24)), zm 6 25]) (.seq (.ops [zm 26 0, zm 27 6, zj 28 (.call 89 [(.tmp 26), (.tmp 27)]), zm 7 28]) (.seq (.ops [zm 29 6, zm 30 7, zj 31 (.call 87 [(.tmp 30)]), zj 32 (.bin .sub (.tmp 29) (.tmp 31)), zm 8 32]) (.seq (.seq (.ops [zm 33 8, zj 34 (.bin .gtr (.tmp 33) (zk 0))]) (.cond (.tmp 34) (.ops [zm 35 7, zm 36 0, zj 37 (.call 90 [(.tmp 36)]), zj 38 (.iadrR 1 (.tmp 35) (.tmp 37)), zj 39 (.load none (.tmp 38)), zm 40 8, zj 41 (.bin .add (.tmp 39) (.tmp 40)), zj 42 (.iadrR 1 (.tmp 35) (.tmp 37)), ⟨none, none, (.store 1 (.tmp 42) (.tmp 41))⟩]) .skip)) (.seq (.block 0 (.loop [7, 8] b70x0)) (.seq (.ops [zm 54 7, zm 4 54, zj 5 (.mv (.const (.one (.bool true))))]) .ret))))))))⟩
abbrev T70 : Nat → Callee := (upd (upd (upd (upd (upd (upd none0 85 F85) 86 F86) 87 F87) 88 F88) 89 F89) 90 F90)
def F70 : Callee := evF T70 KK c70
theorem s70 : Sound Go.Proofs.Tryz.prog 70 F70 := fn_ok (upd_ok (upd_ok (upd_ok (upd_ok (upd_ok (upd_ok (none0_ok _) s85) s86) s87) s88) s89) s90) mixed (by kernel_rfl)
def b91x0 : AC := (.seq (.ops [zj 21 (.bin .lss (.tmp 20) (.tmp 19))]) (.seq (.cond (.tmp 21) .skip (.exit 0)) (.seq (.block 1 (.seq (.ops [zj 22 (.iadrR 1 (.tmp 18) (.tmp 20)), zj 23 (.load none (.tmp 22)), zm 7 23]) (.seq (.seq (.ops [zm 24 7, zj 25 (.bin .lss (.tmp 24) (zk 0)), zm 26 25, zg 27 26 false (.mv (.tmp 7)), zg 28 26 false (.mv (.tmp 5)), zg 29 26 false (.bin .gtr (.tmp 27) (.tmp 28)), zj 30 (.pick (.tmp 26) (.const (.one (.bool true))) (.tmp 29))]) (.cond (.tmp 30) (.seq (.ops [zj 4 (.mv (.const (.one (.bool false))))]) .ret) .skip)) (.ops [zm 31 5, zm 32 7, zj 33 (.bin .sub (.tmp 31) (.tmp 32)), zm 5 33])))) (.ops [zj 34 (.bin .add (.tmp 20) (zk 1)), zm 20 34]))))
def c91 : AF := ⟨[(4, none)],
  (.seq (.ops [zj 4 (.mv (.const (.one (.bool false))))]) (.seq (.seq (.ops [zm 8 1, zj 9 (.call 88 [(.tmp 8)]), zj 10 (.un .not (.tmp 9)), zm 11 10, zg 12 11 false (.mv (.tmp 0)), zg 13 11 false (.len (.tmp 12)), zg 14 11 false (.bin .gtr (.tmp 13) (zk 256)), zj 15 (.pick (.tmp 11) (.const (.one (.bool true))) (.tmp 14))]) (.cond (.tmp 15) (.seq (.ops [zj 4 (.mv (.const (.one (.bool false))))]) .ret) .skip)) (.seq (.ops [zm 16 1, zj 17 (.bin .shl (zk 1) (.tmp 16)), zm 5 17]) (.seq (.seq (.ops [zm 18 0, zj 19 (.len (.tmp 18)), zj 20 (.mv (zk 0))]) (.block 0 (.loop [5, 18, 19, 20] b91x0))) (.seq (.ops [zm 35 5, zj 36 (.bin .eql (.tmp 35) (zk 0)), zm 4 36]) .ret)))))⟩
abbrev T91 : Nat → Callee := (upd none0 88 F88)
def F91 : Callee := evF T91 KK c91
theorem s91 : Sound Go.Proofs.Tryz.prog 91 F91 := fn_ok (upd_ok (none0_ok _) s88) mixed (by kernel_rfl)
def c58 : AF := ⟨[(2, none)],
  (.seq (.ops [zj 2 (.mv (.const (.one (.bool false))))]) (.seq (.ops [zm 3 0, zj 4 (.bin .geq (.tmp 3) (.const (.one (.int .u8 28)))), zm 2 4]) .ret))⟩
abbrev T58 : Nat → Callee := none0
def F58 : Callee := evF T58 0 c58
theorem s58 : Sound Go.Proofs.Tryz.prog 58 F58 := fn_ok (none0_ok _) mixed (by kernel_rfl)
def c93 : AF := ⟨[],
  (.ops [zj 5 (.load none (.tmp 2)), zm 6 0, zj 7 (.conv .u32 (.tmp 6)), zm 8 1, zj 9 (.call 18 [(.tmp 5), (.tmp 7), (.tmp 8)])])⟩
abbrev T93 : Nat → Callee := (upd none0 18 F18)
def F93 : Callee := evF T93 0 c93
theorem s93 : Sound Go.Proofs.Tryz.prog 93 F93 := fn_ok (upd_ok (none0_ok _) s18) mixed (by kernel_rfl)
def c96 : AF := ⟨[],
  (.ops [zm 5 0, zj 6 (.conv .u32 (.tmp 5)), zm 7 1, zj 8 (.call 18 [(.tmp 2), (.tmp 6), (.tmp 7)])])⟩
abbrev T96 : Nat → Callee := (upd none0 18 F18)
def F96 : Callee := evF T96 0 c96
theorem s96 : Sound Go.Proofs.Tryz.prog 96 F96 := fn_ok (upd_ok (none0_ok _) s18) mixed (by kernel_rfl)
def b92x0 : AC := (.seq (.ops [zj 18 (.bin .lss (.tmp 17) (.tmp 16))]) (.seq (.cond (.tmp 18) .skip (.exit 0)) (.seq (.block 1 (.seq (.ops [zj 19 (.iadrR 1 (.tmp 15) (.tmp 17)), zj 20 (.load none (.tmp 19)), zm 8 20]) (.seq (.seq (.ops [zm 21 6, zj 22 (.bin .eql (.tmp 21) (zk 0))]) (.cond (.tmp 22) .ret .skip)) (.seq (.ops [zm 23 2, zm 24 8, zm 25 6, zj 26 (.conv .u32 (.tmp 25)), zj 27 (.call 42 [(.tmp 26)]), zj 28 (.callv (.tmp 23) [(.tmp 24), (.tmp 27)])]) (.ops [zm 29 6, zm 30 8, zj 31 (.bin .sub (.tmp 29) (.tmp 30)), zm 6 31]))))) (.ops [zj 32 (.bin .add (.tmp 17) (zk 1)), zm 17 32]))))
def c92 : AF := ⟨[],
  (.seq (.ops [zm 9 2, zm 10 1, zj 11 (.bin .sub (.tmp 10) (zk 5)), zj 12 (.callv (.tmp 9) [(.tmp 11), (zk 3)])]) (.seq (.ops [zm 13 1, zj 14 (.bin .shl (zk 1) (.tmp 13)), zm 6 14]) (.seq (.ops [zm 15 0, zj 16 (.len (.tmp 15)), zj 17 (.mv (zk 0))]) (.block 0 (.loop [2, 6, 15, 16, 17] b92x0)))))⟩
abbrev T92 : Nat → Callee := (upd (upd (upd (upd none0 42 F42) 58 F58) 93 F93) 96 F96)
def F92 : Callee := evF T92 KK c92
theorem s92 : Sound Go.Proofs.Tryz.prog 92 F92 := fn_ok (upd_ok (upd_ok (upd_ok (upd_ok (none0_ok _) s42) s58) s93) s96) mixed (by kernel_rfl)
def c71 : AF := ⟨[(6, none)],
  (.seq (.ops [zj 3 (.box (.tmp 0)), zj 6 (.mv (.const (.one (.bool false))))]) (.seq (.seq (.ops [zj 7 (.load none (.tmp 3)), zj 8 (.eqNil false (.tmp 7)), zm 9 8, zg 10 9 false (.mv (.tmp 1)), zg 11 9 false (.mv (.tmp 2)), zg 12 9 false (.call 91 [(.tmp 10), (.tmp 11)]), zg 13 9 false (.un .not (.tmp 12)), zj 14 (.pick (.tmp 9) (.const (.one (.bool true))) (.tmp 13))]) (.cond (.tmp 14) (.seq (.ops [zj 6 (.mv (.const (.one (.bool false))))]) .ret) .skip)) (.seq (.ops [zm 15 1, zm 16 2, zj 17 (.mkfn 93 [(.tmp 3)]), zj 18 (.call 92 [(.tmp 15), (.tmp 16), (.tmp 17)])]) (.seq (.ops [zj 6 (.mv (.const (.one (.bool true))))]) .ret))))⟩
abbrev T71 : Nat → Callee := (upd (upd (upd none0 91 F91) 92 F92) 93 F93)
def F71 : Callee := evF T71 0 c71
theorem s71 : Sound Go.Proofs.Tryz.prog 71 F71 := fn_ok (upd_ok (upd_ok (upd_ok (none0_ok _) s91) s92) s93) mixed (by kernel_rfl)
def b94x0 : AC := (.seq (.ops [zj 27 (.bin .lss (.tmp 26) (.tmp 25))]) (.seq (.cond (.tmp 27) .skip (.exit 2)) (.seq (.block 3 (.seq (.ops [zm 28 5, zm 29 7, zm 30 8, zj 31 (.conv .u8 (.tmp 30)), zj 32 (.iadrR 1 (.tmp 28) (.tmp 29)), ⟨none, none, (.store 1 (.tmp 32) (.tmp 31))⟩]) (.ops [zm 33 7, zm 34 6, zj 35 (.bin .add (.tmp 33) (.tmp 34)), zm 36 1, zj 37 (.bin .sub (.tmp 36) (zk 1)), zj 38 (.bin .and (.tmp 35) (.tmp 37)), zm 7 38]))) (.ops [zj 39 (.bin .add (.tmp 26) (zk 1)), zm 26 39]))))
def b94x1 : AC := (.seq (.ops [zj 21 (.bin .lss (.tmp 20) (.tmp 19))]) (.seq (.cond (.tmp 21) .skip (.exit 0)) (.seq (.block 1 (.seq (.ops [zm 22 20, zj 23 (.iadrR 1 (.tmp 18) (.tmp 20)), zj 24 (.load none (.tmp 23)), zm 8 22, zm 9 24]) (.seq (.ops [zm 25 9, zj 26 (.mv (zk 0))]) (.block 2 (.loop [1, 5, 6, 7, 8, 18, 19, 20, 25, 26] b94x0))))) (.ops [zj 40 (.bin .add (.tmp 20) (zk 1)), zm 20 40]))))
def c94 : AF := ⟨[(4, none)],
  (.seq (.ops [zj 4 (.newNil (.ints .u8 []))]) (.seq (.ops [zm 10 1, zj 11 (.mks (.ints .u8 []) [(.int .u8 0)] 1 (.tmp 10) (.tmp 10)), zm 5 11]) (.seq (.ops [zm 12 1, zj 13 (.bin .shr (.tmp 12) (.const (.one (.int .u64 1)))), zm 14 1, zj 15 (.bin .shr (.tmp 14) (.const (.one (.int .u64 3)))), zj 16 (.bin .add (.tmp 13) (.tmp 15)), zj 17 (.bin .add (.tmp 16) (zk 3)), zm 6 17]) (.seq (.ops [zj 7 (.mv (zk 0))]) (.seq (.seq (.ops [zm 18 0, zj 19 (.len (.tmp 18)), zj 20 (.mv (zk 0))]) (.block 0 (.loop [1, 5, 6, 7, 18, 19, 20] b94x1))) (.seq (.ops [zm 41 5, zm 4 41]) .ret))))))⟩
abbrev T94 : Nat → Callee := none0
def F94 : Callee := evF T94 KK c94
theorem s94 : Sound Go.Proofs.Tryz.prog 94 F94 := fn_ok (none0_ok _) mixed (by kernel_rfl)
def b72x0 : AC := (.seq (.ops [zj 37 (.bin .lss (.tmp 36) (.tmp 35))]) (.seq (.cond (.tmp 37) .skip (.exit 0)) (.seq (.block 1 (.seq (.ops [zm 38 36, zj 39 (.iadrR 1 (.tmp 34) (.tmp 36)), zj 40 (.load none (.tmp 39)), zm 9 38, zm 10 40]) (.seq (.ops [zm 41 7, zj 42 (.nilCheck (.tmp 41)), zj 43 (.fadr 3 (.tmp 42)), zj 44 (.load none (.tmp 43)), zm 45 9, zm 46 8, zj 47 (.iadrR 1 (.tmp 44) (.tmp 45)), ⟨none, none, (.store 1 (.tmp 47) (.tmp 46))⟩]) (.ops [zm 48 8, zm 49 10, zj 50 (.bin .add (.tmp 48) (.tmp 49)), zm 8 50])))) (.ops [zj 51 (.bin .add (.tmp 36) (zk 1)), zm 36 51]))))
def b72x1 : AC := (.seq (.ops [zj 60 (.bin .lss (.tmp 59) (.tmp 58))]) (.seq (.cond (.tmp 60) .skip (.exit 2)) (.seq (.block 3 (.seq (.ops [zm 61 59, zj 62 (.iadrR 1 (.tmp 57) (.tmp 59)), zj 63 (.load none (.tmp 62)), zm 12 61, zm 13 63]) (.seq (.opsD [(zm 64 0, false), (zm 65 13, false), (zj 66 (.iadrR 1 (.tmp 64) (.tmp 65)), false), (zj 67 (.load none (.tmp 66)), false), (zm 68 11, false), (zm 69 13, false), (zj 70 (.iadrR 1 (.tmp 68) (.tmp 69)), false), (zj 71 (.load none (.tmp 70)), false), (zj 72 (.bin .add (.tmp 67) (.tmp 71)), false), (zm 14 72, false)] []) (.seq (.opsD [(zm 73 7, false), (zj 74 (.nilCheck (.tmp 73)), false), (zj 75 (.fadr 4 (.tmp 74)), false), (zj 76 (.load none (.tmp 75)), false), (zm 77 7, false), (zj 78 (.nilCheck (.tmp 77)), false), (zj 79 (.fadr 3 (.tmp 78)), false), (zj 80 (.load none (.tmp 79)), false), (zm 81 13, false), (zj 82 (.iadrR 1 (.tmp 80) (.tmp 81)), false), (zj 83 (.load none (.tmp 82)), false), (zm 84 11, false), (zm 85 13, false), (zj 86 (.iadrR 1 (.tmp 84) (.tmp 85)), false), (zj 87 (.load none (.tmp 86)), false), (zj 88 (.bin .add (.tmp 83) (.tmp 87)), false), (zm 89 12, false), (zj 90 (.iadrR 1 (.tmp 76) (.tmp 88)), false), (⟨none, none, (.store 1 (.tmp 90) (.tmp 89))⟩, true)] []) (.seq (.ops [zm 91 11, zm 92 13, zj 93 (.iadrR 1 (.tmp 91) (.tmp 92)), zj 94 (.load none (.tmp 93)), zj 95 (.bin .add (.tmp 94) (zk 1)), zj 96 (.iadrR 1 (.tmp 91) (.tmp 92)), ⟨none, none, (.store 1 (.tmp 96) (.tmp 95))⟩]) (.seq (.ops [zm 97 1, zm 98 14, zj 99 (.conv .u32 (.tmp 98)), zj 100 (.call 42 [(.tmp 99)]), zj 101 (.bin .sub (.tmp 97) (.tmp 100)), zj 102 (.bin .add (.tmp 101) (zk 1)), zm 15 102]) (.opsD [(zm 103 7, false), (zj 104 (.nilCheck (.tmp 103)), false), (zj 105 (.fadr 1 (.tmp 104)), false), (zj 106 (.load none (.tmp 105)), false), (zm 107 12, false), (zm 108 13, false), (zm 109 15, false), (zm 110 14, false), (zm 111 15, false), (zj 112 (.bin .shl (.tmp 110) (.tmp 111)), false), (zm 113 6, false), (zj 114 (.bin .sub (.tmp 112) (.tmp 113)), false), (zj 115 (.build [(.sv (.int .u8 0)), (.sv (.int .i64 0)), (.sv (.int .i64 0))] [((0, 1), (.tmp 108)), ((1, 1), (.tmp 109)), ((2, 1), (.tmp 114))]), false), (zj 116 (.iadrR 3 (.tmp 106) (.tmp 107)), false), (⟨none, none, (.store 3 (.tmp 116) (.tmp 115))⟩, true)] []))))))) (.ops [zj 117 (.bin .add (.tmp 59) (zk 1)), zm 59 117]))))
def c72 : AF := ⟨[(4, none), (5, none)],
  (.seq (.ops [zj 4 (.mv (.const (.one .nilp))), zj 5 (.mv (.const (.one (.bool false))))]) (.seq (.seq (.ops [zm 16 0, zm 17 1, zj 18 (.call 91 [(.tmp 16), (.tmp 17)]), zj 19 (.un .not (.tmp 18))]) (.cond (.tmp 19) (.seq (.ops [zj 4 (.mv (.const (.one .nilp))), zj 5 (.mv (.const (.one (.bool false))))]) .ret) .skip)) (.seq (.ops [zm 20 1, zj 21 (.bin .shl (zk 1) (.tmp 20)), zm 6 21]) (.seq (.opsF [(zm 22 1, (false, none)), (zm 23 6, (false, none)), (zj 24 (.mks (.recs 3 []) [(.int .u8 0), (.int .i64 0), (.int .i64 0)] 24 (.tmp 23) (.tmp 23)), (false, (some 0))), (zm 25 0, (false, none)), (zj 26 (.append (.ints .i64 []) 8 (.const (.one (.nils (.ints .i64 [])))) (.tmp 25)), (false, (some 1))), (zm 27 0, (false, none)), (zj 28 (.len (.tmp 27)), (false, none)), (zj 29 (.mks (.ints .i64 []) [(.int .i64 0)] 8 (.tmp 28) (.tmp 28)), (false, (some 2))), (zm 30 6, (false, none)), (zj 31 (.mks (.ints .i64 []) [(.int .i64 0)] 8 (.tmp 30) (.tmp 30)), (false, (some 3))), (zj 32 (.build [(.sv (.int .i64 0)), (.nil (.recs 3 [])), (.nil (.ints .i64 [])), (.nil (.ints .i64 [])), (.nil (.ints .i64 []))] [((0, 1), (.tmp 22)), ((1, 1), (.tmp 24)), ((2, 1), (.tmp 26)), ((3, 1), (.tmp 29)), ((4, 1), (.tmp 31))]), (true, none)), (zj 33 (.box (.tmp 32)), (true, none)), (zm 7 33, (false, none))] [] [(2, [0]), (4, [0]), (7, [0]), (9, [0])]) (.seq (.ops [zj 8 (.mv (zk 0))]) (.seq (.seq (.ops [zm 34 0, zj 35 (.len (.tmp 34)), zj 36 (.mv (zk 0))]) (.block 0 (.loop [0, 1, 6, 7, 8, 34, 35, 36] b72x0))) (.seq (.ops [zm 52 0, zj 53 (.len (.tmp 52)), zj 54 (.mks (.ints .i64 []) [(.int .i64 0)] 8 (.tmp 53) (.tmp 53)), zm 11 54]) (.seq (.seq (.ops [zm 55 0, zm 56 6, zj 57 (.call 94 [(.tmp 55), (.tmp 56)]), zj 58 (.len (.tmp 57)), zj 59 (.mv (zk 0))]) (.block 2 (.loop [0, 1, 6, 7, 11, 57, 58, 59] b72x1))) (.seq (.ops [zm 118 7, zm 4 118, zj 5 (.mv (.const (.one (.bool true))))]) .ret)))))))))⟩
abbrev T72 : Nat → Callee := (upd (upd (upd none0 42 F42) 91 F91) 94 F94)
def F72 : Callee := evF T72 KK c72
theorem s72 : Sound Go.Proofs.Tryz.prog 72 F72 := fn_ok (upd_ok (upd_ok (upd_ok (none0_ok _) s42) s91) s94) mixed (by kernel_rfl)
def b114x0 : AC := (.seq (.seq (.ops [zm 7 3, zj 8 (.bin .geq (.tmp 7) (zk 0))]) (.cond (.tmp 8) .skip (.exit 0))) (.seq (.block 1 (.seq (.ops [zm 11 0, zm 12 3, zj 13 (.load none (.tmp 1)), zm 14 3, zj 15 (.iadrR 1 (.tmp 13) (.tmp 14)), zj 16 (.load none (.tmp 15)), zj 17 (.callv (.tmp 11) [(.tmp 12), (.tmp 16)]), zj 18 (.un .not (.tmp 17))]) (.cond (.tmp 18) .ret .skip))) (.ops [zm 9 3, zj 10 (.bin .sub (.tmp 9) (zk 1)), zm 3 10])))
def c114 : AF := ⟨[],
  (.seq (.ops [zj 4 (.load none (.tmp 1)), zj 5 (.len (.tmp 4)), zj 6 (.bin .sub (.tmp 5) (zk 1)), zm 3 6]) (.block 0 (.loop [0, 1, 3] b114x0)))⟩
abbrev T114 : Nat → Callee := (upd (upd (upd none0 58 F58) 93 F93) 96 F96)
def F114 : Callee := evF T114 KK c114
theorem s114 : Sound Go.Proofs.Tryz.prog 114 F114 := fn_ok (upd_ok (upd_ok (upd_ok (none0_ok _) s58) s93) s96) mixed (by kernel_rfl)
def c109 : AF := ⟨[(2, none)],
  (.seq (.ops [zj 1 (.box (.tmp 0)), zj 2 (.mv (.const (.one .nilf)))]) (.seq (.ops [zj 3 (.mkfn 114 [(.tmp 1)]), zm 2 3]) .ret))⟩
abbrev T109 : Nat → Callee := (upd none0 114 F114)
def F109 : Callee := evF T109 0 c109
theorem s109 : Sound Go.Proofs.Tryz.prog 109 F109 := fn_ok (upd_ok (none0_ok _) s114) mixed (by kernel_rfl)
def c115 : AF := ⟨[(2, none)],
  (.seq (.ops [zj 2 (.mv (zk 0))]) (.seq (.seq (.ops [zm 3 0, zj 4 (.eqNil false (.tmp 3))]) (.cond (.tmp 4) (.seq (.ops [zj 2 (.mv (zk 0))]) .ret) .skip)) (.seq (.ops [zm 5 0, zj 6 (.nilCheck (.tmp 5)), zj 7 (.fadr 1 (.tmp 6)), zj 8 (.load none (.tmp 7)), zj 9 (.len (.tmp 8)), zm 2 9]) .ret)))⟩
abbrev T115 : Nat → Callee := none0
def F115 : Callee := evF T115 0 c115
theorem s115 : Sound Go.Proofs.Tryz.prog 115 F115 := fn_ok (none0_ok _) mixed (by kernel_rfl)
def c113 : AF := ⟨[(4, none)],
  (.seq (.ops [zj 4 (.mv (.const (.one (.bool false))))]) (.seq (.ops [zm 5 1, zj 6 (.bin .geq (.tmp 5) (zk 0)), zm 7 6, zg 8 7 true (.mv (.tmp 1)), zg 9 7 true (.mv (.tmp 0)), zg 10 7 true (.call 115 [(.tmp 9)]), zg 11 7 true (.bin .lss (.tmp 8) (.tmp 10)), zj 12 (.pick (.tmp 7) (.tmp 11) (.const (.one (.bool false)))), zm 4 12]) .ret))⟩
abbrev T113 : Nat → Callee := (upd none0 115 F115)
def F113 : Callee := evF T113 0 c113
theorem s113 : Sound Go.Proofs.Tryz.prog 113 F113 := fn_ok (upd_ok (none0_ok _) s115) mixed (by kernel_rfl)
def b110x0 : AC := (.seq (.seq (.ops [zm 51 11, zm 52 12, zj 53 (.bin .shr (.tmp 51) (.tmp 52)), zm 54 10, zj 55 (.bin .mul (zk 2) (.tmp 54)), zj 56 (.bin .geq (.tmp 53) (.tmp 55))]) (.cond (.tmp 56) .skip (.exit 0))) (.block 1 (.ops [zm 57 12, zj 58 (.bin .add (.tmp 57) (zk 1)), zm 12 58])))
def c110 : AF := ⟨[(6, none), (7, none), (8, none), (9, none)],
  (.seq (.ops [zj 6 (.mv (zk 0)), zj 7 (.mv (zk 0)), zj 8 (.mv (zk 0)), zj 9 (.mv (.const (.one (.bool false))))]) (.seq (.seq (.ops [zm 13 0, zm 14 1, zj 15 (.call 113 [(.tmp 13), (.tmp 14)]), zj 16 (.un .not (.tmp 15)), zm 17 16, zg 18 17 false (.mv (.tmp 2)), zg 19 17 false (.conv .i64 (.tmp 18)), zg 20 17 false (.mv (.tmp 0)), zg 21 17 false (.nilCheck (.tmp 20)), zg 22 17 false (.fadr 2 (.tmp 21)), zg 23 17 false (.load none (.tmp 22)), zg 24 17 false (.len (.tmp 23)), zg 25 17 false (.bin .geq (.tmp 19) (.tmp 24)), zj 26 (.pick (.tmp 17) (.const (.one (.bool true))) (.tmp 25)), zm 27 26, zg 28 27 false (.mv (.tmp 0)), zg 29 27 false (.nilCheck (.tmp 28)), zg 30 27 false (.fadr 2 (.tmp 29)), zg 31 27 false (.load none (.tmp 30)), zg 32 27 false (.mv (.tmp 2)), zg 33 27 false (.iadrR 1 (.tmp 31) (.tmp 32)), zg 34 27 false (.load none (.tmp 33)), zg 35 27 false (.bin .eql (.tmp 34) (zk 0)), zj 36 (.pick (.tmp 27) (.const (.one (.bool true))) (.tmp 35))]) (.cond (.tmp 36) (.seq (.ops [zj 6 (.mv (zk 0)), zj 7 (.mv (zk 0)), zj 8 (.mv (zk 0)), zj 9 (.mv (.const (.one (.bool false))))]) .ret) .skip)) (.seq (.opsD [(zm 37 0, false), (zj 38 (.nilCheck (.tmp 37)), false), (zj 39 (.fadr 2 (.tmp 38)), false), (zj 40 (.load none (.tmp 39)), false), (zm 41 2, false), (zj 42 (.iadrR 1 (.tmp 40) (.tmp 41)), false), (zj 43 (.load none (.tmp 42)), false), (zm 44 1, false), (zm 45 0, false), (zj 46 (.nilCheck (.tmp 45)), false), (zj 47 (.fadr 1 (.tmp 46)), false), (zj 48 (.load none (.tmp 47)), false), (zj 49 (.len (.tmp 48)), false), (zj 50 (.bin .add (.tmp 44) (.tmp 49)), false), (zm 10 43, false), (zm 11 50, false)] []) (.seq (.ops [zj 12 (.mv (zk 0))]) (.seq (.block 0 (.loop [0, 2, 10, 11, 12] b110x0)) (.seq (.opsD [(zm 59 0, false), (zj 60 (.nilCheck (.tmp 59)), false), (zj 61 (.fadr 4 (.tmp 60)), false), (zj 62 (.load none (.tmp 61)), false), (zm 63 0, false), (zj 64 (.nilCheck (.tmp 63)), false), (zj 65 (.fadr 3 (.tmp 64)), false), (zj 66 (.load none (.tmp 65)), false), (zm 67 2, false), (zj 68 (.iadrR 1 (.tmp 66) (.tmp 67)), false), (zj 69 (.load none (.tmp 68)), false), (zm 70 11, false), (zm 71 12, false), (zj 72 (.bin .shr (.tmp 70) (.tmp 71)), false), (zj 73 (.bin .add (.tmp 69) (.tmp 72)), false), (zm 74 10, false), (zj 75 (.bin .sub (.tmp 73) (.tmp 74)), false), (zj 76 (.iadrR 1 (.tmp 62) (.tmp 75)), false), (zj 77 (.load none (.tmp 76)), false), (zm 78 11, false), (zm 79 12, false), (zj 80 (.bin .shl (zk 1) (.tmp 79)), false), (zj 81 (.bin .sub (.tmp 80) (zk 1)), false), (zj 82 (.bin .and (.tmp 78) (.tmp 81)), false), (zm 83 12, false), (zm 6 77, false), (zm 7 82, false), (zm 8 83, false), (zj 9 (.mv (.const (.one (.bool true)))), false)] []) .ret))))))⟩
abbrev T110 : Nat → Callee := (upd none0 113 F113)
def F110 : Callee := evF T110 KK c110
theorem s110 : Sound Go.Proofs.Tryz.prog 110 F110 := fn_ok (upd_ok (none0_ok _) s113) mixed (by kernel_rfl)
def pA95 : AC := (.ops [zj 3 (.box (.tmp 0)), zj 5 (.box (.tmp 2)), zj 6 (.alloc [(.sv (.int .i64 0))]), zj 7 (.alloc [(.sv (.bool false))])])
def pB95 : AC := (.ops [zj 8 (.alloc [(.sv (.int .i64 0))]), ⟨none, none, (.store 1 (.tmp 8) (zk 0))⟩])
def pC95 : AC := (.ops [zm 15 1, zj 16 (.call 109 [(.tmp 15)])])
def bd95 : AC := (.block 1 (.seq (.ops [zj 20 (.load none (.tmp 3)), zj 21 (.load none (.tmp 8)), zm 22 10, zj 23 (.call 110 [(.tmp 20), (.tmp 21), (.tmp 22)]), zm 19 23, zj 24 (.extract 0 (.tmp 19)), zj 25 (.extract 1 (.tmp 19)), zj 26 (.extract 2 (.tmp 19)), zj 27 (.extract 3 (.tmp 19)), zm 11 24, zm 12 25, zm 13 26, zm 14 27]) (.seq (.seq (.ops [zm 28 14, zj 29 (.un .not (.tmp 28))]) (.cond (.tmp 29) (.seq (.ops [⟨none, none, (.store 1 (.tmp 6) (zk 0))⟩, ⟨none, none, (.store 1 (.tmp 7) (.const (.one (.bool false))))⟩]) .ret) .skip)) (.seq (.ops [zj 30 (.load none (.tmp 5)), zm 31 12, zm 32 13, zj 33 (.callv (.tmp 30) [(.tmp 31), (.tmp 32)])]) (.ops [zm 34 11, ⟨none, none, (.store 1 (.tmp 8) (.tmp 34))⟩])))))
def z95 : AC := (.seq (.opsD [(zj 35 (.load none (.tmp 8)), false), (zj 36 (.load none (.tmp 3)), false), (zj 37 (.eqNil true (.tmp 36)), false), (⟨none, none, (.store 1 (.tmp 6) (.tmp 35))⟩, true), (⟨none, none, (.store 1 (.tmp 7) (.tmp 37))⟩, true)] [(1, [1])]) .ret)
abbrev T95 : Nat → Callee := (upd (upd (upd none0 96 F96) 109 F109) 110 F110)
def F95 : Callee := evR T95 0 pA95 pB95 pC95 114 16 [3, 5, 6, 7, 8, 16] [3, 5, 6, 7, 8] 10 bd95 [3, 6, 7, 8] z95 [(6, some none), (7, some none)]
theorem s95 : Sound Go.Proofs.Tryz.prog 95 F95 :=
  fnR_ok (upd_ok (upd_ok (upd_ok (none0_ok _) s96) s109) s110) mixed Go.Proofs.Tryz.func95 rfl (by kernel_rfl) (by decide) (by kernel_rfl) (by kernel_rfl) (by kernel_rfl) (by kernel_rfl) (by kernel_rfl) (by kernel_rfl) (by kernel_rfl) (by decide) (by decide) (by decide) (by decide) (asn_ok rfl rfl rfl) (by kernel_rfl) Go.Proofs.Tryz.it114
def c97 : AF := ⟨[(2, none)],
  (.seq (.ops [zj 2 (.mv (zk 0))]) (.seq (.seq (.ops [zm 3 0, zj 4 (.eqNil false (.tmp 3))]) (.cond (.tmp 4) (.seq (.ops [zj 2 (.mv (zk 0))]) .ret) .skip)) (.seq (.ops [zm 5 0, zj 6 (.nilCheck (.tmp 5)), zj 7 (.fadr 0 (.tmp 6)), zj 8 (.load none (.tmp 7)), zm 2 8]) .ret)))⟩
abbrev T97 : Nat → Callee := none0
def F97 : Callee := evF T97 0 c97
theorem s97 : Sound Go.Proofs.Tryz.prog 97 F97 := fn_ok (none0_ok _) mixed (by kernel_rfl)
def c111 : AF := ⟨[(2, none)],
  (.seq (.ops [zj 2 (.mv (zk 0))]) (.seq (.seq (.ops [zm 3 0, zj 4 (.eqNil false (.tmp 3))]) (.cond (.tmp 4) (.seq (.ops [zj 2 (.mv (zk 0))]) .ret) .skip)) (.seq (.ops [zm 5 0, zj 6 (.nilCheck (.tmp 5)), zj 7 (.fadr 1 (.tmp 6)), zj 8 (.load none (.tmp 7)), zm 2 8]) .ret)))⟩
abbrev T111 : Nat → Callee := none0
def F111 : Callee := evF T111 0 c111
theorem s111 : Sound Go.Proofs.Tryz.prog 111 F111 := fn_ok (none0_ok _) mixed (by kernel_rfl)
def c98 : AF := ⟨[(2, none)],
  (.seq (.ops [zj 2 (.newNil (.ints .u8 []))]) (.seq (.ops [zm 5 0, zj 6 (.call 22 [(.tmp 5)]), zm 7 0, zj 8 (.call 111 [(.tmp 7)]), zm 3 6, zm 4 8]) (.seq (.seq (.ops [zm 9 4, zj 10 (.bin .and (.tmp 9) (zk 7)), zj 11 (.bin .eql (.tmp 10) (zk 0))]) (.cond (.tmp 11) (.ops [zm 12 3, zj 13 (.bslice (.ints .u8 []) [(.int .u8 0)] 1 [(0, (.const (.one (.int .u8 0))))]), zj 14 (.append (.ints .u8 []) 1 (.tmp 12) (.tmp 13)), zm 3 14]) .skip)) (.seq (.opsD [(zm 15 3, false), (zm 16 4, false), (zj 17 (.bin .shr (.tmp 16) (.const (.one (.int .u64 3)))), false), (zj 18 (.iadrR 1 (.tmp 15) (.tmp 17)), false), (zj 19 (.load none (.tmp 18)), false), (zm 20 4, false), (zj 21 (.bin .and (.tmp 20) (zk 7)), false), (zj 22 (.bin .shl (.const (.one (.int .u8 1))) (.tmp 21)), false), (zj 23 (.bin .or (.tmp 19) (.tmp 22)), false), (zj 24 (.iadrR 1 (.tmp 15) (.tmp 17)), false), (⟨none, none, (.store 1 (.tmp 24) (.tmp 23))⟩, true)] []) (.seq (.ops [zm 25 3, zm 2 25]) .ret)))))⟩
abbrev T98 : Nat → Callee := (upd (upd none0 22 F22) 111 F111)
def F98 : Callee := evF T98 0 c98
theorem s98 : Sound Go.Proofs.Tryz.prog 98 F98 := fn_ok (upd_ok (upd_ok (none0_ok _) s22) s111) mixed (by kernel_rfl)
def c73 : AF := ⟨[(4, none), (5, none)],
  (.seq (.ops [zj 4 (.newNil (.ints .u8 [])), zj 5 (.mv (.const (.one (.bool false))))]) (.seq (.ops [zj 6 (.alloc [(.nil (.ints .u8 [])), (.sv (.int .i64 0))])]) (.seq (.ops [zm 10 0, zm 11 1, zj 12 (.mkfn 96 [(.tmp 6)]), zj 13 (.call 95 [(.tmp 10), (.tmp 11), (.tmp 12)]), zm 9 13, zj 14 (.extract 0 (.tmp 9)), zj 15 (.extract 1 (.tmp 9)), zm 7 14, zm 8 15]) (.seq (.seq (.ops [zm 16 8, zj 17 (.un .not (.tmp 16))]) (.cond (.tmp 17) (.seq (.ops [zj 4 (.newNil (.ints .u8 [])), zj 5 (.mv (.const (.one (.bool false))))]) .ret) .skip)) (.seq (.ops [zm 18 7, zj 19 (.conv .u32 (.tmp 18)), zm 20 0, zj 21 (.call 97 [(.tmp 20)]), zj 22 (.call 18 [(.tmp 6), (.tmp 19), (.tmp 21)])]) (.seq (.ops [zj 23 (.call 98 [(.tmp 6)]), zm 4 23, zj 5 (.mv (.const (.one (.bool true))))]) .ret))))))⟩
abbrev T73 : Nat → Callee := (upd (upd (upd (upd (upd none0 18 F18) 95 F95) 96 F96) 97 F97) 98 F98)
def F73 : Callee := evF T73 0 c73
theorem s73 : Sound Go.Proofs.Tryz.prog 73 F73 := fn_ok (upd_ok (upd_ok (upd_ok (upd_ok (upd_ok (none0_ok _) s18) s95) s96) s97) s98) mixed (by kernel_rfl)
def c47 : AF := ⟨[(2, none), (3, none)],
  (.seq (.ops [⟨(some 2), none, (.mv (.const (.one (.str ⟨#[]⟩))))⟩, zj 3 (.mv (.const (.one (.bool false))))]) (.seq (.ops [zm 12 0, zj 13 (.call 68 [(.tmp 12)]), zm 4 13]) (.seq (.ops [zm 14 4, zj 15 (.call 69 [(.tmp 14)]), zm 5 15]) (.seq (.ops [zm 17 4, zm 18 5, zj 19 (.call 70 [(.tmp 17), (.tmp 18)]), zm 16 19, zj 20 (.extract 0 (.tmp 16)), zj 21 (.extract 1 (.tmp 16)), zm 6 20, zm 7 21]) (.seq (.seq (.ops [zm 22 7, zj 23 (.un .not (.tmp 22))]) (.cond (.tmp 23) (.seq (.ops [⟨(some 2), none, (.mv (.const (.one (.str ⟨#[]⟩))))⟩, zj 3 (.mv (.const (.one (.bool false))))]) .ret) .skip)) (.seq (.ops [zj 8 (.alloc [(.nil (.ints .u8 [])), (.sv (.int .i64 0))])]) (.seq (.ops [zm 24 6, zm 25 5, zj 26 (.call 71 [(.tmp 8), (.tmp 24), (.tmp 25)])]) (.seq (.ops [zm 28 6, zm 29 5, zj 30 (.call 72 [(.tmp 28), (.tmp 29)]), zm 27 30, zj 31 (.extract 0 (.tmp 27)), zj 32 (.extract 1 (.tmp 27)), zm 9 31, zm 10 32]) (.seq (.ops [zm 34 9, zm 35 0, zj 36 (.call 73 [(.tmp 34), (.tmp 35)]), zm 33 36, zj 37 (.extract 0 (.tmp 33)), zj 38 (.extract 1 (.tmp 33)), zm 11 37, zm 7 38]) (.seq (.opsD [(zj 39 (.call 44 [(zk 2)]), true), (zj 40 (.call 22 [(.tmp 8)]), true), (zj 41 (.b2s (.tmp 40)), false), (zj 42 (.call 21 [(.tmp 39), (.tmp 41)]), true), (zm 43 11, false), (zj 44 (.b2s (.tmp 43)), false), (zj 45 (.call 21 [(.tmp 42), (.tmp 44)]), true), (zj 46 (.call 14 [(.tmp 45)]), true), (zm 47 7, false), (zm 2 46, false), (zm 3 47, false)] [(5, [2, 1, 0])]) .ret))))))))))⟩
abbrev T47 : Nat → Callee := (upd (upd (upd (upd (upd (upd (upd (upd (upd (upd none0 14 F14) 21 F21) 22 F22) 44 F44) 68 F68) 69 F69) 70 F70) 71 F71) 72 F72) 73 F73)
def F47 : Callee := evF T47 0 c47
theorem s47 : Sound Go.Proofs.Tryz.prog 47 F47 := fn_ok (upd_ok (upd_ok (upd_ok (upd_ok (upd_ok (upd_ok (upd_ok (upd_ok (upd_ok (upd_ok (none0_ok _) s14) s21) s22) s44) s68) s69) s70) s71) s72) s73) mixed (by kernel_rfl)
def c20 : AF := ⟨[(2, none)],
  (.seq (.ops [⟨(some 2), none, (.mv (.const (.one (.str ⟨#[]⟩))))⟩]) (.seq (.opsD [(zj 7 (.call 44 [(zk 0)]), true), (zm 8 0, false), (zj 9 (.b2s (.tmp 8)), false), (zj 10 (.call 19 [(.tmp 7), (.tmp 9)]), true), (zj 11 (.call 14 [(.tmp 10)]), true), (zm 3 11, false)] [(2, [0])]) (.seq (.seq (.ops [zm 12 0, zj 13 (.len (.tmp 12)), zj 14 (.bin .gtr (.tmp 13) (zk 0)), zm 15 14, zg 16 15 true (.mv (.tmp 0)), zg 17 15 true (.call 45 [(.tmp 16)]), zg 18 15 true (.mv (.tmp 0)), zg 19 15 true (.call 46 [(.tmp 18)]), zg 20 15 true (.bin .eql (.tmp 17) (.tmp 19)), zj 21 (.pick (.tmp 15) (.tmp 20) (.const (.one (.bool false))))]) (.cond (.tmp 21) (.seq (.opsD [(zj 22 (.call 44 [(zk 1)]), true), (zm 23 0, false), (zj 24 (.cutR 1 (.tmp 23) none (some (zk 1))), false), (zj 25 (.b2s (.tmp 24)), false), (zj 26 (.call 19 [(.tmp 22), (.tmp 25)]), true), (zj 27 (.call 14 [(.tmp 26)]), true), (zm 4 27, false)] [(2, [0]), (3, [0])]) (.seq (.ops [zm 28 4, zj 29 (.lenS (.tmp 28)), zm 30 3, zj 31 (.lenS (.tmp 30)), zj 32 (.bin .lss (.tmp 29) (.tmp 31))]) (.cond (.tmp 32) (.ops [zm 33 4, zm 3 33]) .skip))) .skip)) (.seq (.seq (.ops [zm 35 0, zj 36 (.call 47 [(.tmp 35)]), zm 34 36, zj 37 (.extract 0 (.tmp 34)), zj 38 (.extract 1 (.tmp 34)), zm 5 37, zm 6 38]) (.seq (.ops [zm 39 6, zm 40 39, zg 41 40 true (.mv (.tmp 5)), zg 42 40 true (.lenS (.tmp 41)), zg 43 40 true (.mv (.tmp 3)), zg 44 40 true (.lenS (.tmp 43)), zg 45 40 true (.bin .lss (.tmp 42) (.tmp 44)), zj 46 (.pick (.tmp 40) (.tmp 45) (.const (.one (.bool false))))]) (.cond (.tmp 46) (.ops [zm 47 5, zm 3 47]) .skip))) (.seq (.ops [zm 48 3, zm 2 48]) .ret)))))⟩
abbrev T20 : Nat → Callee := (upd (upd (upd (upd (upd (upd none0 14 F14) 19 F19) 44 F44) 45 F45) 46 F46) 47 F47)
def F20 : Callee := evF T20 0 c20
theorem s20 : Sound Go.Proofs.Tryz.prog 20 F20 := fn_ok (upd_ok (upd_ok (upd_ok (upd_ok (upd_ok (upd_ok (none0_ok _) s14) s19) s44) s45) s46) s47) mixed (by kernel_rfl)
def b6x0 : AC := (.seq (.ops [zj 50 (.bin .lss (.tmp 49) (zk 3))]) (.seq (.cond (.tmp 50) .skip (.exit 2)) (.seq (.block 3 (.seq (.ops [zm 51 49, zj 52 (.idxA 3 1 none (.tmp 48) (.tmp 49)), zm 13 51, zm 14 52]) (.seq (.ops [zm 54 14, zj 55 (.call 17 [(.tmp 54)]), zm 53 55, zj 56 (.extract 0 (.tmp 53)), zj 57 (.extract 1 (.tmp 53)), zj 58 (.extract 2 (.tmp 53)), zj 59 (.extract 3 (.tmp 53)), zm 15 56, zm 16 57, zm 17 58, zm 18 59]) (.seq (.seq (.ops [zm 60 18, zj 61 (.un .not (.tmp 60))]) (.cond (.tmp 61) (.seq (.ops [⟨(some 2), none, (.mv (.const (.one (.str ⟨#[]⟩))))⟩, zj 3 (.mv (.const (.one (.bool false))))]) .ret) .skip)) (.seq (.ops [zm 62 13, zm 63 13, zj 64 (.iadrA 3 1 (.tmp 5) (.tmp 63)), zj 65 (.load none (.tmp 64)), zm 66 15, zj 67 (.bslice (.ints .u8 []) [(.int .u8 0)] 1 [(0, (.tmp 66))]), zj 68 (.append (.ints .u8 []) 1 (.tmp 65) (.tmp 67)), zj 69 (.iadrA 3 1 (.tmp 5) (.tmp 62)), ⟨none, none, (.store 1 (.tmp 69) (.tmp 68))⟩]) (.ops [zm 70 16, zj 71 (.conv .u32 (.tmp 70)), zm 72 17, zj 73 (.call 18 [(.tmp 6), (.tmp 71), (.tmp 72)])])))))) (.ops [zj 74 (.bin .add (.tmp 49) (zk 1)), zm 49 74]))))
def b6x1 : AC := (.seq (.ops [zj 36 (.bin .lss (.tmp 35) (.tmp 34))]) (.seq (.cond (.tmp 36) .skip (.exit 0)) (.seq (.block 1 (.seq (.ops [zj 37 (.iadrR 3 (.tmp 33) (.tmp 35)), zj 38 (.load (some 3) (.tmp 37)), zj 9 (.alloc [(.sv (.int .i64 0)), (.sv (.int .i64 0)), (.sv (.int .i64 0))]), ⟨none, none, (.store 3 (.tmp 9) (.tmp 38))⟩]) (.seq (.ops [zj 40 (.load (some 3) (.tmp 9)), zj 41 (.load (some 3) (.tmp 7)), zj 42 (.call 16 [(.tmp 40), (.tmp 41)]), zm 39 42, zj 43 (.extract 0 (.tmp 39)), zj 44 (.extract 1 (.tmp 39)), zj 45 (.extract 2 (.tmp 39)), zj 10 (.alloc [(.sv (.int .i64 0)), (.sv (.int .i64 0)), (.sv (.int .i64 0))]), zj 11 (.alloc [(.sv (.int .i64 0)), (.sv (.int .i64 0)), (.sv (.int .i64 0))]), ⟨none, none, (.store 3 (.tmp 10) (.tmp 43))⟩, ⟨none, none, (.store 3 (.tmp 11) (.tmp 44))⟩, zm 12 45]) (.seq (.seq (.ops [zm 46 12, zj 47 (.un .not (.tmp 46))]) (.cond (.tmp 47) (.seq (.ops [⟨(some 2), none, (.mv (.const (.one (.str ⟨#[]⟩))))⟩, zj 3 (.mv (.const (.one (.bool false))))]) .ret) .skip)) (.seq (.seq (.ops [zj 48 (.load (some 3) (.tmp 10)), zj 49 (.mv (zk 0))]) (.block 2 (.loop [4, 5, 6, 7, 11, 33, 34, 35, 48, 49] b6x0))) (.ops [zj 75 (.load (some 3) (.tmp 11)), ⟨none, none, (.store 3 (.tmp 7) (.tmp 75))⟩])))))) (.ops [zj 76 (.bin .add (.tmp 35) (zk 1)), zm 35 76]))))
def b6x2 : AC := (.seq (.ops [zj 79 (.bin .lss (.tmp 78) (zk 3))]) (.seq (.cond (.tmp 79) .skip (.exit 4)) (.seq (.block 5 (.seq (.ops [zj 80 (.idxA 3 1 none (.tmp 77) (.tmp 78)), zm 20 80]) (.ops [zm 81 20, zj 82 (.call 20 [(.tmp 81)]), zj 83 (.call 19 [(.tmp 4), (.tmp 82)])]))) (.ops [zj 84 (.bin .add (.tmp 78) (zk 1)), zm 78 84]))))
def c6 : AF := ⟨[(2, none), (3, none)],
  (.seq (.ops [⟨(some 2), none, (.mv (.const (.one (.str ⟨#[]⟩))))⟩, zj 3 (.mv (.const (.one (.bool false))))]) (.seq (.seq (.ops [zm 21 0, zj 22 (.len (.tmp 21)), zj 23 (.bin .gtr (.tmp 22) (zk 1000))]) (.cond (.tmp 23) (.seq (.ops [⟨(some 2), none, (.mv (.const (.one (.str ⟨#[]⟩))))⟩, zj 3 (.mv (.const (.one (.bool false))))]) .ret) .skip)) (.seq (.ops [zj 4 (.alloc [(.nil (.ints .u8 []))])]) (.seq (.ops [zm 24 0, zj 25 (.len (.tmp 24)), zj 26 (.conv .u64 (.tmp 25)), zj 27 (.call 13 [(.tmp 4), (.tmp 26)])]) (.seq (.seq (.ops [zm 28 0, zj 29 (.len (.tmp 28)), zj 30 (.bin .eql (.tmp 29) (zk 0))]) (.cond (.tmp 30) (.seq (.ops [zj 31 (.call 14 [(.tmp 4)]), zm 2 31, zj 3 (.mv (.const (.one (.bool true))))]) .ret) .skip)) (.seq (.ops [zj 5 (.alloc [(.nil (.ints .u8 [])), (.nil (.ints .u8 [])), (.nil (.ints .u8 []))])]) (.seq (.ops [zj 6 (.alloc [(.nil (.ints .u8 [])), (.sv (.int .i64 0))])]) (.seq (.ops [zj 32 (.call 15 []), zj 7 (.alloc [(.sv (.int .i64 0)), (.sv (.int .i64 0)), (.sv (.int .i64 0))]), ⟨none, none, (.store 3 (.tmp 7) (.tmp 32))⟩]) (.seq (.seq (.ops [zm 33 0, zj 34 (.len (.tmp 33)), zj 35 (.mv (zk 0))]) (.block 0 (.loop [4, 5, 6, 7, 33, 34, 35] b6x1))) (.seq (.seq (.ops [zj 77 (.load (some 3) (.tmp 5)), zj 78 (.mv (zk 0))]) (.block 4 (.loop [4, 6, 77, 78] b6x2))) (.seq (.ops [zj 85 (.call 22 [(.tmp 6)]), zj 86 (.b2s (.tmp 85)), zj 87 (.call 21 [(.tmp 4), (.tmp 86)]), zj 88 (.call 14 [(.tmp 87)]), zm 2 88, zj 3 (.mv (.const (.one (.bool true))))]) .ret)))))))))))⟩
abbrev T6 : Nat → Callee := (upd (upd (upd (upd (upd (upd (upd (upd (upd (upd none0 13 F13) 14 F14) 15 F15) 16 F16) 17 F17) 18 F18) 19 F19) 20 F20) 21 F21) 22 F22)
def F6 : Callee := evF T6 KK c6
theorem s6 : Sound Go.Proofs.Tryz.prog 6 F6 := fn_ok (upd_ok (upd_ok (upd_ok (upd_ok (upd_ok (upd_ok (upd_ok (upd_ok (upd_ok (upd_ok (none0_ok _) s13) s14) s15) s16) s17) s18) s19) s20) s21) s22) mixed (by kernel_rfl)
def c9 : AF := ⟨[(2, none)],
  (.seq (.ops [zj 2 (.mv (.const (.one .nilp)))]) (.seq (.ops [zm 3 0, ⟨(some 4), none, (.build [(.sv (.str ⟨#[]⟩)), (.sv (.bool false))] [((0, 1), (.tmp 3))])⟩, zj 5 (.box (.tmp 4)), zm 2 5]) .ret))⟩
abbrev T9 : Nat → Callee := none0
def F9 : Callee := evF T9 0 c9
theorem s9 : Sound Go.Proofs.Tryz.prog 9 F9 := fn_ok (none0_ok _) mixed (by kernel_rfl)
def c34 : AF := ⟨[(2, none)],
  (.seq (.ops [zj 2 (.mv (.const (.one (.bool false))))]) (.seq (.ops [zm 3 0, zj 4 (.eqNil false (.tmp 3)), zm 5 4, zg 6 5 false (.mv (.tmp 0)), zg 7 5 false (.nilCheck (.tmp 6)), zg 8 5 false (.fadr 1 (.tmp 7)), zg 9 5 false (.load none (.tmp 8)), zj 10 (.pick (.tmp 5) (.const (.one (.bool true))) (.tmp 9)), zm 2 10]) .ret))⟩
abbrev T34 : Nat → Callee := none0
def F34 : Callee := evF T34 0 c34
theorem s34 : Sound Go.Proofs.Tryz.prog 34 F34 := fn_ok (none0_ok _) mixed (by kernel_rfl)
def c53 : AF := ⟨[],
  (.seq (.ops [zm 2 0, zj 3 (.eqNil true (.tmp 2))]) (.cond (.tmp 3) (.ops [zm 4 0, zm 5 0, zj 6 (.nilCheck (.tmp 4)), zj 7 (.fadr 0 (.tmp 6)), ⟨none, none, (.store 1 (.tmp 7) (.const (.one (.str ⟨#[]⟩))))⟩, zj 8 (.nilCheck (.tmp 5)), zj 9 (.fadr 1 (.tmp 8)), ⟨none, none, (.store 1 (.tmp 9) (.const (.one (.bool true))))⟩]) .skip))⟩
abbrev T53 : Nat → Callee := none0
def F53 : Callee := evF T53 0 c53
theorem s53 : Sound Go.Proofs.Tryz.prog 53 F53 := fn_ok (none0_ok _) mixed (by kernel_rfl)
def c40 : AF := ⟨[(4, none)],
  (.seq (.ops [⟨(some 4), none, (.mv (.const (.one (.str ⟨#[]⟩))))⟩]) (.seq (.ops [zm 6 1, zj 7 (.max [(.tmp 6), (zk 0)]), zm 1 7]) (.seq (.seq (.ops [zm 8 0, zj 9 (.call 34 [(.tmp 8)]), zm 10 9, zg 11 10 false (.mv (.tmp 0)), zg 12 10 false (.nilCheck (.tmp 11)), zg 13 10 false (.fadr 0 (.tmp 12)), zg 14 10 false (.load none (.tmp 13)), zg 15 10 false (.lenS (.tmp 14)), zg 16 10 false (.mv (.tmp 1)), zg 17 10 false (.bin .lss (.tmp 15) (.tmp 16)), zj 18 (.pick (.tmp 10) (.const (.one (.bool true))) (.tmp 17))]) (.cond (.tmp 18) (.seq (.ops [zm 19 0, zj 20 (.call 53 [(.tmp 19)])]) (.seq (.ops [⟨(some 4), none, (.mv (.const (.one (.str ⟨#[]⟩))))⟩]) .ret)) .skip)) (.seq (.ops [zm 21 0, zj 22 (.nilCheck (.tmp 21)), zj 23 (.fadr 0 (.tmp 22)), zj 24 (.load none (.tmp 23)), zm 25 1, zj 26 (.cutS (.tmp 24) none (some (.tmp 25))), zm 5 26]) (.seq (.ops [zm 27 0, zm 28 0, zj 29 (.nilCheck (.tmp 28)), zj 30 (.fadr 0 (.tmp 29)), zj 31 (.load none (.tmp 30)), zm 32 1, zj 33 (.cutS (.tmp 31) (some (.tmp 32)) none), zj 34 (.nilCheck (.tmp 27)), zj 35 (.fadr 0 (.tmp 34)), ⟨none, none, (.store 1 (.tmp 35) (.tmp 33))⟩]) (.seq (.ops [zm 36 5, zm 4 36]) .ret))))))⟩
abbrev T40 : Nat → Callee := (upd (upd none0 34 F34) 53 F53)
def F40 : Callee := evF T40 0 c40
theorem s40 : Sound Go.Proofs.Tryz.prog 40 F40 := fn_ok (upd_ok (upd_ok (none0_ok _) s34) s53) mixed (by kernel_rfl)
def b52x0 : AC := (.seq (.ops [zj 8 (.bin .lss (.tmp 7) (zk 10))]) (.seq (.cond (.tmp 8) .skip (.exit 0)) (.seq (.block 1 (.seq (.ops [zm 9 7, zm 4 9]) (.seq (.ops [zm 10 0, zj 11 (.call 40 [(.tmp 10), (zk 1)]), zm 5 11]) (.seq (.seq (.ops [zm 12 5, ⟨(some 13), none, (.bin .eql (.tmp 12) (.const (.one (.str ⟨#[]⟩))))⟩]) (.cond (.tmp 13) (.seq (.ops [zj 2 (.mv (.const (.one (.int .u64 0))))]) .ret) .skip)) (.seq (.ops [zm 14 5, zj 15 (.idxS (.tmp 14) (zk 0)), zj 16 (.conv .u64 (.tmp 15)), zm 6 16]) (.seq (.seq (.ops [zm 17 4, zj 18 (.bin .eql (.tmp 17) (zk 9)), zm 19 18, zg 20 19 true (.mv (.tmp 6)), zg 21 19 true (.bin .gtr (.tmp 20) (.const (.one (.int .u64 1)))), zj 22 (.pick (.tmp 19) (.tmp 21) (.const (.one (.bool false)))), zm 23 22, zg 24 23 false (.mv (.tmp 4)), zg 25 23 false (.bin .gtr (.tmp 24) (zk 0)), zg 26 23 false (.mv (.tmp 25)), zg 27 26 true (.mv (.tmp 6)), zg 28 26 true (.bin .eql (.tmp 27) (.const (.one (.int .u64 0)))), zg 29 23 false (.pick (.tmp 26) (.tmp 28) (.const (.one (.bool false)))), zj 30 (.pick (.tmp 23) (.const (.one (.bool true))) (.tmp 29))]) (.cond (.tmp 30) (.exit 0) .skip)) (.seq (.ops [zm 31 3, zm 32 6, zj 33 (.bin .and (.tmp 32) (.const (.one (.int .u64 127)))), zm 34 4, zj 35 (.bin .mul (zk 7) (.tmp 34)), zj 36 (.bin .shl (.tmp 33) (.tmp 35)), zj 37 (.bin .or (.tmp 31) (.tmp 36)), zm 3 37]) (.seq (.ops [zm 38 6, zj 39 (.bin .lss (.tmp 38) (.const (.one (.int .u64 128))))]) (.cond (.tmp 39) (.seq (.ops [zm 40 3, zm 2 40]) .ret) .skip))))))))) (.ops [zj 41 (.bin .add (.tmp 7) (zk 1)), zm 7 41]))))
def c52 : AF := ⟨[(2, none)],
  (.seq (.ops [zj 2 (.mv (.const (.one (.int .u64 0))))]) (.seq (.ops [zj 3 (.mv (.const (.one (.int .u64 0))))]) (.seq (.seq (.ops [zj 7 (.mv (zk 0))]) (.block 0 (.loop [0, 3, 7] b52x0))) (.seq (.ops [zm 42 0, zj 43 (.call 53 [(.tmp 42)])]) (.seq (.ops [zj 2 (.mv (.const (.one (.int .u64 0))))]) .ret)))))⟩
abbrev T52 : Nat → Callee := (upd (upd none0 40 F40) 53 F53)
def F52 : Callee := evF T52 KK c52
theorem s52 : Sound Go.Proofs.Tryz.prog 52 F52 := fn_ok (upd_ok (upd_ok (none0_ok _) s40) s53) mixed (by kernel_rfl)
def c33 : AF := ⟨[(4, none)],
  (.seq (.ops [zj 4 (.mv (zk 0))]) (.seq (.ops [zm 6 0, zj 7 (.call 52 [(.tmp 6)]), zm 5 7]) (.seq (.seq (.ops [zm 8 0, zj 9 (.call 34 [(.tmp 8)]), zm 10 9, zg 11 10 false (.mv (.tmp 1)), zg 12 10 false (.bin .lss (.tmp 11) (zk 0)), zj 13 (.pick (.tmp 10) (.const (.one (.bool true))) (.tmp 12)), zm 14 13, zg 15 14 false (.mv (.tmp 5)), zg 16 14 false (.mv (.tmp 1)), zg 17 14 false (.conv .u64 (.tmp 16)), zg 18 14 false (.bin .gtr (.tmp 15) (.tmp 17)), zj 19 (.pick (.tmp 14) (.const (.one (.bool true))) (.tmp 18))]) (.cond (.tmp 19) (.seq (.ops [zm 20 0, zj 21 (.call 53 [(.tmp 20)])]) (.seq (.ops [zj 4 (.mv (zk 0))]) .ret)) .skip)) (.seq (.ops [zm 22 5, zj 23 (.conv .i64 (.tmp 22)), zm 4 23]) .ret))))⟩
abbrev T33 : Nat → Callee := (upd (upd (upd none0 34 F34) 52 F52) 53 F53)
def F33 : Callee := evF T33 0 c33
theorem s33 : Sound Go.Proofs.Tryz.prog 33 F33 := fn_ok (upd_ok (upd_ok (upd_ok (none0_ok _) s34) s52) s53) mixed (by kernel_rfl)
def b54x0 : AC := (.seq (.ops [zj 15 (.bin .lss (.tmp 14) (.tmp 13))]) (.seq (.cond (.tmp 15) .skip (.exit 0)) (.seq (.block 1 (.seq (.ops [zm 16 14, zj 17 (.iadrR 1 (.tmp 12) (.tmp 14)), zj 18 (.load none (.tmp 17)), zm 6 16, zm 7 18]) (.ops [zm 19 5, zm 20 7, zj 21 (.conv .u64 (.tmp 20)), zm 22 6, zj 23 (.bin .mul (zk 8) (.tmp 22)), zj 24 (.bin .shl (.tmp 21) (.tmp 23)), zj 25 (.bin .or (.tmp 19) (.tmp 24)), zm 5 25]))) (.ops [zj 26 (.bin .add (.tmp 14) (zk 1)), zm 14 26]))))
def c54 : AF := ⟨[(4, none)],
  (.seq (.ops [zj 4 (.mv (.const (.one (.int .u64 0))))]) (.seq (.ops [zj 5 (.mv (.const (.one (.int .u64 0))))]) (.seq (.seq (.ops [zm 8 0, zm 9 1, zj 10 (.call 78 [(.tmp 9)]), zj 11 (.call 40 [(.tmp 8), (.tmp 10)]), zj 12 (.s2b (.tmp 11)), zj 13 (.len (.tmp 12)), zj 14 (.mv (zk 0))]) (.block 0 (.loop [5, 12, 13, 14] b54x0))) (.seq (.ops [zm 27 5, zm 4 27]) .ret))))⟩
abbrev T54 : Nat → Callee := (upd (upd none0 40 F40) 78 F78)
def F54 : Callee := evF T54 KK c54
theorem s54 : Sound Go.Proofs.Tryz.prog 54 F54 := fn_ok (upd_ok (upd_ok (none0_ok _) s40) s78) mixed (by kernel_rfl)
def c101 : AF := ⟨[(4, none), (5, none)],
  (.seq (.ops [zj 4 (.mv (.const (.one (.int .u32 0)))), zj 5 (.mv (.const (.one (.int .u32 0))))]) (.seq (.ops [zm 7 0, zj 8 (.conv .u64 (.tmp 7)), zm 9 1, zj 10 (.conv .u64 (.tmp 9)), zj 11 (.bin .mul (.tmp 8) (.tmp 10)), zm 6 11]) (.seq (.ops [zm 12 6, zj 13 (.bin .shr (.tmp 12) (.const (.one (.int .u64 32)))), zj 14 (.conv .u32 (.tmp 13)), zm 15 6, zj 16 (.conv .u32 (.tmp 15)), zm 4 14, zm 5 16]) .ret)))⟩
abbrev T101 : Nat → Callee := none0
def F101 : Callee := evF T101 0 c101
theorem s101 : Sound Go.Proofs.Tryz.prog 101 F101 := fn_ok (none0_ok _) mixed (by kernel_rfl)
def c102 : AF := ⟨[(4, none), (5, none)],
  (.seq (.ops [zj 4 (.mv (.const (.one (.int .u64 0)))), zj 5 (.mv (.const (.one (.int .u64 0))))]) (.seq (.ops [zm 14 0, zj 15 (.bin .and (.tmp 14) (.const (.one (.int .u64 4294967295)))), zm 6 15]) (.seq (.ops [zm 16 0, zj 17 (.bin .shr (.tmp 16) (.const (.one (.int .u64 32)))), zm 7 17]) (.seq (.ops [zm 18 1, zj 19 (.bin .and (.tmp 18) (.const (.one (.int .u64 4294967295)))), zm 8 19]) (.seq (.ops [zm 20 1, zj 21 (.bin .shr (.tmp 20) (.const (.one (.int .u64 32)))), zm 9 21]) (.seq (.ops [zm 22 6, zm 23 8, zj 24 (.bin .mul (.tmp 22) (.tmp 23)), zm 10 24]) (.seq (.ops [zm 25 7, zm 26 8, zj 27 (.bin .mul (.tmp 25) (.tmp 26)), zm 28 10, zj 29 (.bin .shr (.tmp 28) (.const (.one (.int .u64 32)))), zj 30 (.bin .add (.tmp 27) (.tmp 29)), zm 11 30]) (.seq (.ops [zm 31 11, zj 32 (.bin .and (.tmp 31) (.const (.one (.int .u64 4294967295)))), zm 12 32]) (.seq (.ops [zm 33 11, zj 34 (.bin .shr (.tmp 33) (.const (.one (.int .u64 32)))), zm 13 34]) (.seq (.ops [zm 35 12, zm 36 6, zm 37 9, zj 38 (.bin .mul (.tmp 36) (.tmp 37)), zj 39 (.bin .add (.tmp 35) (.tmp 38)), zm 12 39]) (.seq (.ops [zm 40 7, zm 41 9, zj 42 (.bin .mul (.tmp 40) (.tmp 41)), zm 43 13, zj 44 (.bin .add (.tmp 42) (.tmp 43)), zm 45 12, zj 46 (.bin .shr (.tmp 45) (.const (.one (.int .u64 32)))), zj 47 (.bin .add (.tmp 44) (.tmp 46)), zm 4 47]) (.seq (.ops [zm 48 0, zm 49 1, zj 50 (.bin .mul (.tmp 48) (.tmp 49)), zm 5 50]) .ret))))))))))))⟩
abbrev T102 : Nat → Callee := none0
def F102 : Callee := evF T102 0 c102
theorem s102 : Sound Go.Proofs.Tryz.prog 102 F102 := fn_ok (none0_ok _) mixed (by kernel_rfl)
def c79 : AF := ⟨[(4, none), (5, none)],
  (.seq (.ops [zj 4 (.mv (.const (.one (.int .u64 0)))), zj 5 (.mv (.const (.one (.int .u64 0))))]) (.seq (.cond (.const (.one (.bool false))) (.seq (.ops [zm 11 0, zj 12 (.conv .u32 (.tmp 11)), zm 13 1, zj 14 (.conv .u32 (.tmp 13)), zj 15 (.call 101 [(.tmp 12), (.tmp 14)]), zm 10 15, zj 16 (.extract 0 (.tmp 10)), zj 17 (.extract 1 (.tmp 10)), zm 6 16, zm 7 17]) (.seq (.ops [zm 18 6, zj 19 (.conv .u64 (.tmp 18)), zm 20 7, zj 21 (.conv .u64 (.tmp 20)), zm 4 19, zm 5 21]) .ret)) .skip) (.seq (.ops [zm 23 0, zm 24 1, zj 25 (.call 102 [(.tmp 23), (.tmp 24)]), zm 22 25, zj 26 (.extract 0 (.tmp 22)), zj 27 (.extract 1 (.tmp 22)), zm 8 26, zm 9 27]) (.seq (.ops [zm 28 8, zm 29 9, zm 4 28, zm 5 29]) .ret))))⟩
abbrev T79 : Nat → Callee := (upd (upd none0 101 F101) 102 F102)
def F79 : Callee := evF T79 0 c79
theorem s79 : Sound Go.Proofs.Tryz.prog 79 F79 := fn_ok (upd_ok (upd_ok (none0_ok _) s101) s102) mixed (by kernel_rfl)
def b55x0 : AC := (.seq (.seq (.ops [zm 34 8, zm 35 7, zj 36 (.len (.tmp 35)), zj 37 (.bin .lss (.tmp 34) (.tmp 36))]) (.cond (.tmp 37) .skip (.exit 0))) (.block 1 (.opsD [(zm 38 8, false), (zm 39 7, false), (zm 40 8, false), (zj 41 (.cutR 1 (.tmp 39) (some (.tmp 40)) none), false), (zm 42 7, false), (zm 43 8, false), (zj 44 (.cutR 1 (.tmp 42) none (some (.tmp 43))), false), (zj 45 (.copy (.tmp 41) (.tmp 44)), true), (zj 46 (.bin .add (.tmp 38) (.tmp 45)), false), (zm 8 46, false)] [])))
def c55 : AF := ⟨[(4, none)],
  (.seq (.ops [zj 4 (.newNil (.ints .u8 []))]) (.seq (.seq (.ops [zm 9 1, zj 10 (.bin .lss (.tmp 9) (zk 0))]) (.cond (.tmp 10) (.ops [zj 11 .bad, ⟨none, none, .bad⟩]) .skip)) (.seq (.ops [zm 13 0, zj 14 (.len (.tmp 13)), zj 15 (.conv .u64 (.tmp 14)), zm 16 1, zj 17 (.conv .u64 (.tmp 16)), zj 18 (.call 79 [(.tmp 15), (.tmp 17)]), zm 12 18, zj 19 (.extract 0 (.tmp 12)), zj 20 (.extract 1 (.tmp 12)), zm 5 19, zm 6 20]) (.seq (.seq (.ops [zm 21 5, zj 22 (.bin .gtr (.tmp 21) (.const (.one (.int .u64 0)))), zm 23 22, zg 24 23 false (.mv (.tmp 6)), zg 25 23 false (.bin .gtr (.tmp 24) (.const (.one (.int .u64 9223372036854775807)))), zj 26 (.pick (.tmp 23) (.const (.one (.bool true))) (.tmp 25))]) (.cond (.tmp 26) (.ops [zj 27 .bad, ⟨none, none, .bad⟩]) .skip)) (.seq (.ops [zm 28 6, zj 29 (.conv .i64 (.tmp 28)), zj 30 (.mks (.ints .u8 []) [(.int .u8 0)] 1 (.tmp 29) (.tmp 29)), zm 7 30]) (.seq (.ops [zm 31 7, zm 32 0, zj 33 (.copy (.tmp 31) (.tmp 32)), zm 8 33]) (.seq (.block 0 (.loop [7, 8] b55x0)) (.seq (.ops [zm 47 7, zm 4 47]) .ret))))))))⟩
abbrev T55 : Nat → Callee := (upd none0 79 F79)
def F55 : Callee := evF T55 KK c55
theorem s55 : Sound Go.Proofs.Tryz.prog 55 F55 := fn_ok (upd_ok (none0_ok _) s79) mixed (by kernel_rfl)
def c36 : AF := ⟨[(2, none)],
  (.seq (.ops [zj 2 (.mv (.const (.one .nilp)))]) (.seq (.ops [zm 3 0, zj 4 (.append (.ints .u8 []) 1 (.const (.one (.nils (.ints .u8 [])))) (.tmp 3)), zj 5 (.build [(.nil (.ints .u8 [])), (.sv (.int .i64 0))] [((0, 1), (.tmp 4))]), zj 6 (.box (.tmp 5)), zm 2 6]) .ret))⟩
abbrev T36 : Nat → Callee := none0
def F36 : Callee := evF T36 0 c36
theorem s36 : Sound Go.Proofs.Tryz.prog 36 F36 := fn_ok (none0_ok _) mixed (by kernel_rfl)
def c37 : AF := ⟨[(4, none)],
  (.seq (.ops [⟨(some 4), none, (.mv (.const (.one (.str ⟨#[]⟩))))⟩]) (.seq (.ops [zm 5 0, zm 6 0, zm 7 1, zj 8 (.call 33 [(.tmp 6), (.tmp 7)]), zj 9 (.call 40 [(.tmp 5), (.tmp 8)]), zm 4 9]) .ret))⟩
abbrev T37 : Nat → Callee := (upd (upd none0 33 F33) 40 F40)
def F37 : Callee := evF T37 0 c37
theorem s37 : Sound Go.Proofs.Tryz.prog 37 F37 := fn_ok (upd_ok (upd_ok (none0_ok _) s33) s40) mixed (by kernel_rfl)
def c61 : AF := ⟨[(2, none)],
  (.seq (.ops [zj 2 (.mv (zk 0))]) (.seq (.seq (.ops [zm 3 0, zj 4 (.eqNil false (.tmp 3))]) (.cond (.tmp 4) (.seq (.ops [zj 2 (.mv (zk 0))]) .ret) .skip)) (.seq (.opsD [(zm 5 0, false), (zj 6 (.nilCheck (.tmp 5)), false), (zj 7 (.fadr 0 (.tmp 6)), false), (zj 8 (.load none (.tmp 7)), false), (zj 9 (.len (.tmp 8)), false), (zj 10 (.bin .mul (zk 8) (.tmp 9)), false), (zm 11 0, false), (zj 12 (.nilCheck (.tmp 11)), false), (zj 13 (.fadr 1 (.tmp 12)), false), (zj 14 (.load none (.tmp 13)), false), (zj 15 (.bin .sub (.tmp 10) (.tmp 14)), false), (zm 2 15, false)] []) .ret)))⟩
abbrev T61 : Nat → Callee := none0
def F61 : Callee := evF T61 0 c61
theorem s61 : Sound Go.Proofs.Tryz.prog 61 F61 := fn_ok (none0_ok _) mixed (by kernel_rfl)
def b62x0 : AC := (.seq (.seq (.ops [zm 24 7, zm 25 1, zj 26 (.bin .lss (.tmp 24) (.tmp 25))]) (.cond (.tmp 26) .skip (.exit 0))) (.block 1 (.seq (.ops [zm 27 0, zj 28 (.nilCheck (.tmp 27)), zj 29 (.fadr 1 (.tmp 28)), zj 30 (.load none (.tmp 29)), zj 31 (.bin .and (.tmp 30) (zk 7)), zm 8 31]) (.seq (.ops [zm 32 1, zm 33 7, zj 34 (.bin .sub (.tmp 32) (.tmp 33)), zm 35 8, zj 36 (.bin .sub (zk 8) (.tmp 35)), zj 37 (.min [(.tmp 34), (.tmp 36)]), zm 9 37]) (.seq (.opsD [(zm 38 0, false), (zj 39 (.nilCheck (.tmp 38)), false), (zj 40 (.fadr 0 (.tmp 39)), false), (zj 41 (.load none (.tmp 40)), false), (zm 42 0, false), (zj 43 (.nilCheck (.tmp 42)), false), (zj 44 (.fadr 1 (.tmp 43)), false), (zj 45 (.load none (.tmp 44)), false), (zj 46 (.bin .shr (.tmp 45) (.const (.one (.int .u64 3)))), false), (zj 47 (.iadrR 1 (.tmp 41) (.tmp 46)), false), (zj 48 (.load none (.tmp 47)), false), (zm 49 8, false), (zj 50 (.bin .shr (.tmp 48) (.tmp 49)), false), (zj 51 (.conv .u32 (.tmp 50)), false), (zm 52 9, false), (zj 53 (.bin .shl (.const (.one (.int .u32 1))) (.tmp 52)), false), (zj 54 (.bin .sub (.tmp 53) (.const (.one (.int .u32 1)))), false), (zj 55 (.bin .and (.tmp 51) (.tmp 54)), false), (zm 10 55, false)] []) (.seq (.ops [zm 56 6, zm 57 10, zm 58 7, zj 59 (.bin .shl (.tmp 57) (.tmp 58)), zj 60 (.bin .or (.tmp 56) (.tmp 59)), zm 6 60]) (.seq (.ops [zm 61 7, zm 62 9, zj 63 (.bin .add (.tmp 61) (.tmp 62)), zm 7 63]) (.ops [zm 64 0, zj 65 (.nilCheck (.tmp 64)), zj 66 (.fadr 1 (.tmp 65)), zj 67 (.load none (.tmp 66)), zm 68 9, zj 69 (.bin .add (.tmp 67) (.tmp 68)), zj 70 (.nilCheck (.tmp 64)), zj 71 (.fadr 1 (.tmp 70)), ⟨none, none, (.store 1 (.tmp 71) (.tmp 69))⟩]))))))))
def c62 : AF := ⟨[(4, none), (5, none)],
  (.seq (.ops [zj 4 (.mv (.const (.one (.int .u32 0)))), zj 5 (.mv (.const (.one (.bool false))))]) (.seq (.seq (.ops [zm 11 0, zj 12 (.eqNil false (.tmp 11)), zm 13 12, zg 14 13 false (.mv (.tmp 1)), zg 15 13 false (.call 43 [(.tmp 14)]), zg 16 13 false (.un .not (.tmp 15)), zj 17 (.pick (.tmp 13) (.const (.one (.bool true))) (.tmp 16)), zm 18 17, zg 19 18 false (.mv (.tmp 1)), zg 20 18 false (.mv (.tmp 0)), zg 21 18 false (.call 61 [(.tmp 20)]), zg 22 18 false (.bin .gtr (.tmp 19) (.tmp 21)), zj 23 (.pick (.tmp 18) (.const (.one (.bool true))) (.tmp 22))]) (.cond (.tmp 23) (.seq (.ops [zj 4 (.mv (.const (.one (.int .u32 0)))), zj 5 (.mv (.const (.one (.bool false))))]) .ret) .skip)) (.seq (.ops [zj 6 (.mv (.const (.one (.int .u32 0))))]) (.seq (.seq (.ops [zj 7 (.mv (zk 0))]) (.block 0 (.loop [0, 1, 6, 7] b62x0))) (.seq (.ops [zm 72 6, zm 4 72, zj 5 (.mv (.const (.one (.bool true))))]) .ret)))))⟩
abbrev T62 : Nat → Callee := (upd (upd none0 43 F43) 61 F61)
def F62 : Callee := evF T62 KK c62
theorem s62 : Sound Go.Proofs.Tryz.prog 62 F62 := fn_ok (upd_ok (upd_ok (none0_ok _) s43) s61) mixed (by kernel_rfl)
def c39 : AF := ⟨[(2, none)],
  (.seq (.ops [zj 2 (.mv (.const (.one (.bool false))))]) (.seq (.ops [zm 6 0, zj 7 (.call 61 [(.tmp 6)]), zm 3 7]) (.seq (.ops [zm 9 0, zm 10 3, zj 11 (.min [(.tmp 10), (zk 8)]), zj 12 (.call 62 [(.tmp 9), (.tmp 11)]), zm 8 12, zj 13 (.extract 0 (.tmp 8)), zj 14 (.extract 1 (.tmp 8)), zm 4 13, zm 5 14]) (.seq (.ops [zm 15 3, zj 16 (.bin .lss (.tmp 15) (zk 8)), zm 17 16, zg 18 17 true (.mv (.tmp 4)), zg 19 17 true (.bin .eql (.tmp 18) (.const (.one (.int .u32 0)))), zj 20 (.pick (.tmp 17) (.tmp 19) (.const (.one (.bool false)))), zm 2 20]) .ret))))⟩
abbrev T39 : Nat → Callee := (upd (upd none0 61 F61) 62 F62)
def F39 : Callee := evF T39 0 c39
theorem s39 : Sound Go.Proofs.Tryz.prog 39 F39 := fn_ok (upd_ok (upd_ok (none0_ok _) s61) s62) mixed (by kernel_rfl)
def b80x0 : AC := (.seq (.seq (.ops [zm 28 9, zj 29 (.bin .gtr (.tmp 28) (zk 0))]) (.cond (.tmp 29) .skip (.exit 0))) (.block 1 (.seq (.ops [zm 31 0, zm 32 9, zj 33 (.conv .u32 (.tmp 32)), zj 34 (.call 42 [(.tmp 33)]), zj 35 (.call 62 [(.tmp 31), (.tmp 34)]), zm 30 35, zj 36 (.extract 0 (.tmp 30)), zj 37 (.extract 1 (.tmp 30)), zm 10 36, zm 11 37]) (.seq (.seq (.ops [zm 38 11, zj 39 (.un .not (.tmp 38)), zm 40 39, zg 41 40 false (.mv (.tmp 10)), zg 42 40 false (.conv .i64 (.tmp 41)), zg 43 40 false (.mv (.tmp 9)), zg 44 40 false (.bin .gtr (.tmp 42) (.tmp 43)), zj 45 (.pick (.tmp 40) (.const (.one (.bool true))) (.tmp 44)), zm 46 45, zg 47 46 false (.mv (.tmp 8)), zg 48 46 false (.len (.tmp 47)), zg 49 46 false (.bin .eql (.tmp 48) (zk 256)), zj 50 (.pick (.tmp 46) (.const (.one (.bool true))) (.tmp 49))]) (.cond (.tmp 50) (.seq (.ops [zj 2 (.newNil (.ints .i64 [])), zj 3 (.mv (zk 0)), zj 4 (.mv (.const (.one (.bool false))))]) .ret) .skip)) (.seq (.ops [zm 51 8, zm 52 10, zj 53 (.conv .i64 (.tmp 52)), zj 54 (.bslice (.ints .i64 []) [(.int .i64 0)] 1 [(0, (.tmp 53))]), zj 55 (.append (.ints .i64 []) 8 (.tmp 51) (.tmp 54)), zm 8 55]) (.ops [zm 56 9, zm 57 10, zj 58 (.conv .i64 (.tmp 57)), zj 59 (.bin .sub (.tmp 56) (.tmp 58)), zm 9 59]))))))
def c80 : AF := ⟨[(2, none), (3, none), (4, none)],
  (.seq (.ops [zj 2 (.newNil (.ints .i64 [])), zj 3 (.mv (zk 0)), zj 4 (.mv (.const (.one (.bool false))))]) (.seq (.ops [zm 13 0, zj 14 (.call 62 [(.tmp 13), (zk 3)]), zm 12 14, zj 15 (.extract 0 (.tmp 12)), zj 16 (.extract 1 (.tmp 12)), zm 5 15, zm 6 16]) (.seq (.ops [zm 17 5, zj 18 (.conv .i64 (.tmp 17)), zj 19 (.bin .add (zk 5) (.tmp 18)), zm 7 19]) (.seq (.seq (.ops [zm 20 6, zj 21 (.un .not (.tmp 20)), zm 22 21, zg 23 22 false (.mv (.tmp 7)), zg 24 22 false (.bin .gtr (.tmp 23) (zk 9)), zj 25 (.pick (.tmp 22) (.const (.one (.bool true))) (.tmp 24))]) (.cond (.tmp 25) (.seq (.ops [zj 2 (.newNil (.ints .i64 [])), zj 3 (.mv (zk 0)), zj 4 (.mv (.const (.one (.bool false))))]) .ret) .skip)) (.seq (.ops [zj 8 (.newNil (.ints .i64 []))]) (.seq (.seq (.ops [zm 26 7, zj 27 (.bin .shl (zk 1) (.tmp 26)), zm 9 27]) (.block 0 (.loop [0, 7, 8, 9] b80x0))) (.seq (.ops [zm 60 8, zm 61 7, zm 2 60, zm 3 61, zj 4 (.mv (.const (.one (.bool true))))]) .ret)))))))⟩
abbrev T80 : Nat → Callee := (upd (upd none0 42 F42) 62 F62)
def F80 : Callee := evF T80 KK c80
theorem s80 : Sound Go.Proofs.Tryz.prog 80 F80 := fn_ok (upd_ok (upd_ok (none0_ok _) s42) s62) mixed (by kernel_rfl)
def c103 : AF := ⟨[(2, none), (3, none)],
  (.seq (.ops [zj 2 (.mv (.const (.one .nilp))), zj 3 (.mv (.const (.one (.bool false))))]) (.seq (.seq (.ops [zm 5 0, zj 6 (.len (.tmp 5)), zj 7 (.bin .eql (.tmp 6) (zk 0)), zm 8 7, zg 9 8 false (.mv (.tmp 0)), zg 10 8 false (.mv (.tmp 0)), zg 11 8 false (.len (.tmp 10)), zg 12 8 false (.bin .sub (.tmp 11) (zk 1)), zg 13 8 false (.iadrR 1 (.tmp 9) (.tmp 12)), zg 14 8 false (.load none (.tmp 13)), zg 15 8 false (.bin .eql (.tmp 14) (.const (.one (.int .u8 0)))), zj 16 (.pick (.tmp 8) (.const (.one (.bool true))) (.tmp 15))]) (.cond (.tmp 16) (.seq (.ops [zj 2 (.mv (.const (.one .nilp))), zj 3 (.mv (.const (.one (.bool false))))]) .ret) .skip)) (.seq (.ops [zm 17 0, zm 18 0, zj 19 (.len (.tmp 18)), zj 20 (.bin .sub (.tmp 19) (zk 1)), zj 21 (.iadrR 1 (.tmp 17) (.tmp 20)), zj 22 (.load none (.tmp 21)), zj 23 (.conv .u32 (.tmp 22)), zj 24 (.call 42 [(.tmp 23)]), zj 25 (.bin .sub (.tmp 24) (zk 1)), zm 4 25]) (.seq (.ops [zm 26 0, zj 27 (.append (.ints .u8 []) 1 (.const (.one (.nils (.ints .u8 [])))) (.tmp 26)), zm 28 0, zj 29 (.len (.tmp 28)), zj 30 (.bin .sub (.tmp 29) (zk 1)), zj 31 (.bin .mul (zk 8) (.tmp 30)), zm 32 4, zj 33 (.bin .add (.tmp 31) (.tmp 32)), zj 34 (.build [(.nil (.ints .u8 [])), (.sv (.int .i64 0))] [((0, 1), (.tmp 27)), ((1, 1), (.tmp 33))]), zj 35 (.box (.tmp 34)), zm 2 35, zj 3 (.mv (.const (.one (.bool true))))]) .ret))))⟩
abbrev T103 : Nat → Callee := (upd none0 42 F42)
def F103 : Callee := evF T103 0 c103
theorem s103 : Sound Go.Proofs.Tryz.prog 103 F103 := fn_ok (upd_ok (none0_ok _) s42) mixed (by kernel_rfl)
def c112 : AF := ⟨[(4, none)],
  (.seq (.ops [zj 4 (.mv (.const (.one (.int .u32 0))))]) (.seq (.ops [zm 5 0, zj 6 (.nilCheck (.tmp 5)), zj 7 (.fadr 0 (.tmp 6)), zj 8 (.load none (.tmp 7)), zm 9 1, zj 10 (.bin .shr (.tmp 9) (.const (.one (.int .u64 3)))), zj 11 (.iadrR 1 (.tmp 8) (.tmp 10)), zj 12 (.load none (.tmp 11)), zm 13 1, zj 14 (.bin .and (.tmp 13) (zk 7)), zj 15 (.bin .shr (.tmp 12) (.tmp 14)), zj 16 (.conv .u32 (.tmp 15)), zj 17 (.bin .and (.tmp 16) (.const (.one (.int .u32 1)))), zm 4 17]) .ret))⟩
abbrev T112 : Nat → Callee := none0
def F112 : Callee := evF T112 0 c112
theorem s112 : Sound Go.Proofs.Tryz.prog 112 F112 := fn_ok (none0_ok _) mixed (by kernel_rfl)
def b104x0 : AC := (.seq (.ops [zj 27 (.bin .lss (.tmp 26) (.tmp 25))]) (.seq (.cond (.tmp 27) .skip (.exit 0)) (.seq (.block 1 (.seq (.ops [zm 28 0, zj 29 (.nilCheck (.tmp 28)), zj 30 (.fadr 1 (.tmp 29)), zj 31 (.load none (.tmp 30)), zj 32 (.bin .sub (.tmp 31) (zk 1)), zj 33 (.nilCheck (.tmp 28)), zj 34 (.fadr 1 (.tmp 33)), ⟨none, none, (.store 1 (.tmp 34) (.tmp 32))⟩]) (.ops [zm 35 6, zj 36 (.bin .shl (.tmp 35) (.const (.one (.int .u64 1)))), zm 37 0, zm 38 0, zj 39 (.nilCheck (.tmp 38)), zj 40 (.fadr 1 (.tmp 39)), zj 41 (.load none (.tmp 40)), zj 42 (.call 112 [(.tmp 37), (.tmp 41)]), zj 43 (.bin .or (.tmp 36) (.tmp 42)), zm 6 43]))) (.ops [zj 44 (.bin .add (.tmp 26) (zk 1)), zm 26 44]))))
def c104 : AF := ⟨[(4, none), (5, none)],
  (.seq (.ops [zj 4 (.mv (.const (.one (.int .u32 0)))), zj 5 (.mv (.const (.one (.bool false))))]) (.seq (.seq (.ops [zm 7 0, zj 8 (.eqNil false (.tmp 7)), zm 9 8, zg 10 9 false (.mv (.tmp 1)), zg 11 9 false (.bin .lss (.tmp 10) (zk 0)), zj 12 (.pick (.tmp 9) (.const (.one (.bool true))) (.tmp 11)), zm 13 12, zg 14 13 false (.mv (.tmp 1)), zg 15 13 false (.bin .gtr (.tmp 14) (zk 32)), zj 16 (.pick (.tmp 13) (.const (.one (.bool true))) (.tmp 15)), zm 17 16, zg 18 17 false (.mv (.tmp 1)), zg 19 17 false (.mv (.tmp 0)), zg 20 17 false (.nilCheck (.tmp 19)), zg 21 17 false (.fadr 1 (.tmp 20)), zg 22 17 false (.load none (.tmp 21)), zg 23 17 false (.bin .gtr (.tmp 18) (.tmp 22)), zj 24 (.pick (.tmp 17) (.const (.one (.bool true))) (.tmp 23))]) (.cond (.tmp 24) (.seq (.ops [zj 4 (.mv (.const (.one (.int .u32 0)))), zj 5 (.mv (.const (.one (.bool false))))]) .ret) .skip)) (.seq (.ops [zj 6 (.mv (.const (.one (.int .u32 0))))]) (.seq (.seq (.ops [zm 25 1, zj 26 (.mv (zk 0))]) (.block 0 (.loop [0, 6, 25, 26] b104x0))) (.seq (.ops [zm 45 6, zm 4 45, zj 5 (.mv (.const (.one (.bool true))))]) .ret)))))⟩
abbrev T104 : Nat → Callee := (upd none0 112 F112)
def F104 : Callee := evF T104 KK c104
theorem s104 : Sound Go.Proofs.Tryz.prog 104 F104 := fn_ok (upd_ok (none0_ok _) s112) mixed (by kernel_rfl)
def c105 : AF := ⟨[(4, (some (some 3))), (5, none)],
  (.seq (.ops [zj 4 (.alloc [(.sv (.int .u8 0)), (.sv (.int .i64 0)), (.sv (.int .i64 0))]), zj 5 (.mv (.const (.one (.bool false))))]) (.seq (.seq (.ops [zm 6 0, zm 7 1, zj 8 (.call 113 [(.tmp 6), (.tmp 7)]), zj 9 (.un .not (.tmp 8))]) (.cond (.tmp 9) (.seq (.ops [zj 10 (.build [(.sv (.int .u8 0)), (.sv (.int .i64 0)), (.sv (.int .i64 0))] []), ⟨none, none, (.store 3 (.tmp 4) (.tmp 10))⟩, zj 5 (.mv (.const (.one (.bool false))))]) .ret) .skip)) (.seq (.ops [zm 11 0, zj 12 (.nilCheck (.tmp 11)), zj 13 (.fadr 1 (.tmp 12)), zj 14 (.load none (.tmp 13)), zm 15 1, zj 16 (.iadrR 3 (.tmp 14) (.tmp 15)), zj 17 (.load (some 3) (.tmp 16)), ⟨none, none, (.store 3 (.tmp 4) (.tmp 17))⟩, zj 5 (.mv (.const (.one (.bool true))))]) .ret)))⟩
abbrev T105 : Nat → Callee := (upd none0 113 F113)
def F105 : Callee := evF T105 0 c105
theorem s105 : Sound Go.Proofs.Tryz.prog 105 F105 := fn_ok (upd_ok (none0_ok _) s113) mixed (by kernel_rfl)
def c106 : AF := ⟨[(6, none), (7, none)],
  (.seq (.ops [zj 6 (.mv (zk 0)), zj 7 (.mv (.const (.one (.bool false))))]) (.seq (.ops [zm 11 0, zm 12 1, zj 13 (.call 105 [(.tmp 11), (.tmp 12)]), zm 10 13, zj 14 (.extract 0 (.tmp 10)), zj 15 (.extract 1 (.tmp 10)), zj 8 (.alloc [(.sv (.int .u8 0)), (.sv (.int .i64 0)), (.sv (.int .i64 0))]), ⟨none, none, (.store 3 (.tmp 8) (.tmp 14))⟩, zm 9 15]) (.seq (.seq (.ops [zm 16 9, zj 17 (.un .not (.tmp 16)), zm 18 17, zg 19 18 false (.mv (.tmp 2)), zg 20 18 false (.bin .lss (.tmp 19) (zk 0)), zj 21 (.pick (.tmp 18) (.const (.one (.bool true))) (.tmp 20)), zm 22 21, zg 23 22 false (.mv (.tmp 2)), zg 24 22 false (.fadr 1 (.tmp 8)), zg 25 22 false (.load none (.tmp 24)), zg 26 22 false (.bin .shl (zk 1) (.tmp 25)), zg 27 22 false (.bin .geq (.tmp 23) (.tmp 26)), zj 28 (.pick (.tmp 22) (.const (.one (.bool true))) (.tmp 27))]) (.cond (.tmp 28) (.seq (.ops [zj 6 (.mv (zk 0)), zj 7 (.mv (.const (.one (.bool false))))]) .ret) .skip)) (.seq (.ops [zj 29 (.fadr 2 (.tmp 8)), zj 30 (.load none (.tmp 29)), zm 31 2, zj 32 (.bin .add (.tmp 30) (.tmp 31)), zm 6 32, zj 7 (.mv (.const (.one (.bool true))))]) .ret))))⟩
abbrev T106 : Nat → Callee := (upd none0 105 F105)
def F106 : Callee := evF T106 0 c106
theorem s106 : Sound Go.Proofs.Tryz.prog 106 F106 := fn_ok (upd_ok (none0_ok _) s105) mixed (by kernel_rfl)
def c107 : AF := ⟨[(2, none)],
  (.seq (.ops [zj 2 (.mv (zk 0))]) (.seq (.seq (.ops [zm 3 0, zj 4 (.eqNil false (.tmp 3))]) (.cond (.tmp 4) (.seq (.ops [zj 2 (.mv (zk 0))]) .ret) .skip)) (.seq (.ops [zm 5 0, zj 6 (.nilCheck (.tmp 5)), zj 7 (.fadr 1 (.tmp 6)), zj 8 (.load none (.tmp 7)), zm 2 8]) .ret)))⟩
abbrev T107 : Nat → Callee := none0
def F107 : Callee := evF T107 0 c107
theorem s107 : Sound Go.Proofs.Tryz.prog 107 F107 := fn_ok (none0_ok _) mixed (by kernel_rfl)
def b81x0 : AC := (.seq (.ops [zj 49 (.bin .lss (.tmp 48) (.tmp 47))]) (.seq (.cond (.tmp 49) .skip (.exit 0)) (.seq (.block 1 (.seq (.ops [zm 51 0, zm 52 11, zj 53 (.call 105 [(.tmp 51), (.tmp 52)]), zm 50 53, zj 54 (.extract 0 (.tmp 50)), zj 55 (.extract 1 (.tmp 50)), zj 13 (.alloc [(.sv (.int .u8 0)), (.sv (.int .i64 0)), (.sv (.int .i64 0))]), ⟨none, none, (.store 3 (.tmp 13) (.tmp 54))⟩, zm 14 55]) (.seq (.ops [zm 57 8, zj 58 (.fadr 1 (.tmp 13)), zj 59 (.load none (.tmp 58)), zj 60 (.call 104 [(.tmp 57), (.tmp 59)]), zm 56 60, zj 61 (.extract 0 (.tmp 56)), zj 62 (.extract 1 (.tmp 56)), zm 15 61, zm 16 62]) (.seq (.seq (.ops [zm 63 16, zj 64 (.un .not (.tmp 63))]) (.cond (.tmp 64) (.seq (.ops [zj 6 (.newNil (.ints .u8 [])), zj 7 (.mv (.const (.one (.bool false))))]) .ret) .skip)) (.seq (.ops [zm 65 12, zj 66 (.fadr 0 (.tmp 13)), zj 67 (.load none (.tmp 66)), zj 68 (.bslice (.ints .u8 []) [(.int .u8 0)] 1 [(0, (.tmp 67))]), zj 69 (.append (.ints .u8 []) 1 (.tmp 65) (.tmp 68)), zm 12 69]) (.ops [zm 71 0, zm 72 11, zm 73 15, zj 74 (.conv .i64 (.tmp 73)), zj 75 (.call 106 [(.tmp 71), (.tmp 72), (.tmp 74)]), zm 70 75, zj 76 (.extract 0 (.tmp 70)), zj 77 (.extract 1 (.tmp 70)), zm 11 76])))))) (.ops [zj 78 (.bin .add (.tmp 48) (zk 1)), zm 48 78]))))
def c81 : AF := ⟨[(6, none), (7, none)],
  (.seq (.ops [zj 6 (.newNil (.ints .u8 [])), zj 7 (.mv (.const (.one (.bool false))))]) (.seq (.ops [zm 18 1, zj 19 (.call 103 [(.tmp 18)]), zm 17 19, zj 20 (.extract 0 (.tmp 17)), zj 21 (.extract 1 (.tmp 17)), zm 8 20, zm 9 21]) (.seq (.seq (.ops [zm 22 9, zj 23 (.un .not (.tmp 22)), zm 24 23, zg 25 24 false (.mv (.tmp 0)), zg 26 24 false (.eqNil false (.tmp 25)), zj 27 (.pick (.tmp 24) (.const (.one (.bool true))) (.tmp 26)), zm 28 27, zg 29 28 false (.mv (.tmp 2)), zg 30 28 false (.bin .lss (.tmp 29) (zk 0)), zj 31 (.pick (.tmp 28) (.const (.one (.bool true))) (.tmp 30)), zm 32 31, zg 33 32 false (.mv (.tmp 2)), zg 34 32 false (.bin .gtr (.tmp 33) (zk 1048576)), zj 35 (.pick (.tmp 32) (.const (.one (.bool true))) (.tmp 34))]) (.cond (.tmp 35) (.seq (.ops [zj 6 (.newNil (.ints .u8 [])), zj 7 (.mv (.const (.one (.bool false))))]) .ret) .skip)) (.seq (.ops [zm 37 8, zm 38 0, zj 39 (.call 97 [(.tmp 38)]), zj 40 (.call 104 [(.tmp 37), (.tmp 39)]), zm 36 40, zj 41 (.extract 0 (.tmp 36)), zj 42 (.extract 1 (.tmp 36)), zm 10 41, zm 9 42]) (.seq (.seq (.ops [zm 43 9, zj 44 (.un .not (.tmp 43))]) (.cond (.tmp 44) (.seq (.ops [zj 6 (.newNil (.ints .u8 [])), zj 7 (.mv (.const (.one (.bool false))))]) .ret) .skip)) (.seq (.ops [zm 45 10, zj 46 (.conv .i64 (.tmp 45)), zm 11 46]) (.seq (.ops [zj 12 (.newNil (.ints .u8 []))]) (.seq (.seq (.ops [zm 47 2, zj 48 (.mv (zk 0))]) (.block 0 (.loop [0, 8, 11, 12, 47, 48] b81x0))) (.seq (.seq (.ops [zm 79 11, zj 80 (.bin .neq (.tmp 79) (zk 0)), zm 81 80, zg 82 81 false (.mv (.tmp 8)), zg 83 81 false (.call 107 [(.tmp 82)]), zg 84 81 false (.bin .gtr (.tmp 83) (zk 0)), zj 85 (.pick (.tmp 81) (.const (.one (.bool true))) (.tmp 84))]) (.cond (.tmp 85) (.seq (.ops [zj 6 (.newNil (.ints .u8 [])), zj 7 (.mv (.const (.one (.bool false))))]) .ret) .skip)) (.seq (.ops [zm 86 12, zm 6 86, zj 7 (.mv (.const (.one (.bool true))))]) .ret))))))))))⟩
abbrev T81 : Nat → Callee := (upd (upd (upd (upd (upd (upd none0 97 F97) 103 F103) 104 F104) 105 F105) 106 F106) 107 F107)
def F81 : Callee := evF T81 KK c81
theorem s81 : Sound Go.Proofs.Tryz.prog 81 F81 := fn_ok (upd_ok (upd_ok (upd_ok (upd_ok (upd_ok (upd_ok (none0_ok _) s97) s103) s104) s105) s106) s107) mixed (by kernel_rfl)
def c56 : AF := ⟨[(4, none), (5, none)],
  (.seq (.ops [zj 4 (.newNil (.ints .u8 [])), zj 5 (.mv (.const (.one (.bool false))))]) (.seq (.ops [zm 14 0, zj 15 (.call 37 [(.tmp 14), (zk 4096)]), zm 16 0, zj 17 (.call 37 [(.tmp 16), (zk 4096)]), zm 6 15, zm 7 17]) (.seq (.seq (.ops [zm 18 0, zj 19 (.call 34 [(.tmp 18)])]) (.cond (.tmp 19) (.seq (.ops [zj 4 (.newNil (.ints .u8 [])), zj 5 (.mv (.const (.one (.bool false))))]) .ret) .skip)) (.seq (.ops [zm 20 6, zj 21 (.s2b (.tmp 20)), zj 22 (.call 36 [(.tmp 21)]), zm 8 22]) (.seq (.ops [zm 24 8, zj 25 (.call 80 [(.tmp 24)]), zm 23 25, zj 26 (.extract 0 (.tmp 23)), zj 27 (.extract 1 (.tmp 23)), zj 28 (.extract 2 (.tmp 23)), zm 9 26, zm 10 27, zm 11 28]) (.seq (.seq (.ops [zm 29 11, zj 30 (.un .not (.tmp 29)), zm 31 30, zg 32 31 false (.mv (.tmp 8)), zg 33 31 false (.call 39 [(.tmp 32)]), zg 34 31 false (.un .not (.tmp 33)), zj 35 (.pick (.tmp 31) (.const (.one (.bool true))) (.tmp 34))]) (.cond (.tmp 35) (.seq (.ops [zj 4 (.newNil (.ints .u8 [])), zj 5 (.mv (.const (.one (.bool false))))]) .ret) .skip)) (.seq (.ops [zm 37 9, zm 38 10, zj 39 (.call 72 [(.tmp 37), (.tmp 38)]), zm 36 39, zj 40 (.extract 0 (.tmp 36)), zj 41 (.extract 1 (.tmp 36)), zm 12 40, zm 13 41]) (.seq (.ops [zm 42 12, zm 43 7, zj 44 (.s2b (.tmp 43)), zm 45 1, zj 46 (.call 81 [(.tmp 42), (.tmp 44), (.tmp 45)]), zj 47 (.extract 0 (.tmp 46)), zj 48 (.extract 1 (.tmp 46)), zm 4 47, zm 5 48]) .ret))))))))⟩
abbrev T56 : Nat → Callee := (upd (upd (upd (upd (upd (upd (upd none0 34 F34) 36 F36) 37 F37) 39 F39) 72 F72) 80 F80) 81 F81)
def F56 : Callee := evF T56 0 c56
theorem s56 : Sound Go.Proofs.Tryz.prog 56 F56 := fn_ok (upd_ok (upd_ok (upd_ok (upd_ok (upd_ok (upd_ok (upd_ok (none0_ok _) s34) s36) s37) s39) s72) s80) s81) mixed (by kernel_rfl)
def b82x0 : AC := (.seq (.ops [zj 9 (.bin .lss (.tmp 8) (.tmp 7))]) (.seq (.cond (.tmp 9) .skip (.exit 0)) (.seq (.block 1 (.seq (.ops [zm 10 8, zm 5 10]) (.seq (.ops [zm 11 1, zm 12 0, zm 13 5, zj 14 (.iadrR 1 (.tmp 12) (.tmp 13)), zj 15 (.load none (.tmp 14)), zj 16 (.callv (.tmp 11) [(.tmp 15)])]) (.cond (.tmp 16) (.seq (.ops [zm 17 5, zm 4 17]) .ret) .skip)))) (.ops [zj 18 (.bin .add (.tmp 8) (zk 1)), zm 8 18]))))
def c82 : AF := ⟨[(4, none)],
  (.seq (.ops [zj 4 (.mv (zk 0))]) (.seq (.seq (.ops [zm 6 0, zj 7 (.len (.tmp 6)), zj 8 (.mv (zk 0))]) (.block 0 (.loop [0, 1, 7, 8] b82x0))) (.seq (.ops [zj 4 (.mv (.const (.one (.int .i64 (-1)))))]) .ret)))⟩
abbrev T82 : Nat → Callee := (upd (upd (upd none0 58 F58) 93 F93) 96 F96)
def F82 : Callee := evF T82 KK c82
theorem s82 : Sound Go.Proofs.Tryz.prog 82 F82 := fn_ok (upd_ok (upd_ok (upd_ok (none0_ok _) s58) s93) s96) mixed (by kernel_rfl)
def c57 : AF := ⟨[(4, none)],
  (.seq (.ops [zj 4 (.mv (.const (.one (.bool false))))]) (.seq (.ops [zm 5 0, zm 6 1, zj 7 (.call 82 [(.tmp 5), (.tmp 6)]), zj 8 (.bin .geq (.tmp 7) (zk 0)), zm 4 8]) .ret))⟩
abbrev T57 : Nat → Callee := (upd none0 82 F82)
def F57 : Callee := evF T57 0 c57
theorem s57 : Sound Go.Proofs.Tryz.prog 57 F57 := fn_ok (upd_ok (none0_ok _) s82) mixed (by kernel_rfl)
def c35 : AF := ⟨[(4, none), (5, none)],
  (.seq (.ops [zj 4 (.newNil (.ints .u8 [])), zj 5 (.mv (.const (.one (.bool false))))]) (.seq (.ops [zm 9 0, zj 10 (.call 54 [(.tmp 9), (zk 1)]), zm 6 10]) (.seq (.seq (.ops [zm 11 0, zj 12 (.call 34 [(.tmp 11)]), zm 13 12, zg 14 13 false (.mv (.tmp 1)), zg 15 13 false (.bin .lss (.tmp 14) (zk 0)), zj 16 (.pick (.tmp 13) (.const (.one (.bool true))) (.tmp 15)), zm 17 16, zg 18 17 false (.mv (.tmp 1)), zg 19 17 false (.bin .gtr (.tmp 18) (zk 4096)), zj 20 (.pick (.tmp 17) (.const (.one (.bool true))) (.tmp 19))]) (.cond (.tmp 20) (.seq (.ops [zj 4 (.newNil (.ints .u8 [])), zj 5 (.mv (.const (.one (.bool false))))]) .ret) .skip)) (.seq (.ops [zj 7 (.newNil (.ints .u8 []))]) (.seq (.ops [zj 8 (.mv (.const (.one (.bool true))))]) (.seq (.seq (.ops [zm 21 6]) (.block 0 (.seq (.ops [zj 23 (.bin .eql (.tmp 21) (.const (.one (.int .u64 0)))), zm 22 23]) (.cond (.tmp 22) (.ops [zm 24 0, zm 25 1, zj 26 (.call 40 [(.tmp 24), (.tmp 25)]), zj 27 (.s2b (.tmp 26)), zm 7 27]) (.seq (.ops [zj 29 (.bin .eql (.tmp 21) (.const (.one (.int .u64 1)))), zm 28 29]) (.cond (.tmp 28) (.seq (.ops [zm 30 0, zj 31 (.call 40 [(.tmp 30), (zk 1)]), zj 32 (.s2b (.tmp 31)), zm 7 32]) (.seq (.ops [zm 33 7, zj 34 (.len (.tmp 33)), zj 35 (.bin .eql (.tmp 34) (zk 1)), zm 36 35, zg 37 36 true (.mv (.tmp 7)), zg 38 36 true (.iadrR 1 (.tmp 37) (zk 0)), zg 39 36 true (.load none (.tmp 38)), zg 40 36 true (.bin .lss (.tmp 39) (.const (.one (.int .u8 28)))), zj 41 (.pick (.tmp 36) (.tmp 40) (.const (.one (.bool false)))), zm 8 41]) (.seq (.ops [zm 42 8]) (.cond (.tmp 42) (.ops [zm 43 7, zm 44 1, zj 45 (.call 55 [(.tmp 43), (.tmp 44)]), zm 7 45]) .skip)))) (.seq (.ops [zj 47 (.bin .eql (.tmp 21) (.const (.one (.int .u64 2)))), zm 46 47]) (.cond (.tmp 46) (.ops [zm 49 0, zm 50 1, zj 51 (.call 56 [(.tmp 49), (.tmp 50)]), zm 48 51, zj 52 (.extract 0 (.tmp 48)), zj 53 (.extract 1 (.tmp 48)), zm 7 52, zm 8 53]) (.seq (.ops [zj 4 (.newNil (.ints .u8 [])), zj 5 (.mv (.const (.one (.bool false))))]) .ret))))))))) (.seq (.seq (.ops [zm 54 0, zj 55 (.call 34 [(.tmp 54)]), zm 56 55, zg 57 56 false (.mv (.tmp 8)), zg 58 56 false (.un .not (.tmp 57)), zj 59 (.pick (.tmp 56) (.const (.one (.bool true))) (.tmp 58)), zm 60 59, zg 61 60 false (.mv (.tmp 7)), zg 62 60 false (.call 57 [(.tmp 61), (.const (.one (.fn 58 [])))]), zj 63 (.pick (.tmp 60) (.const (.one (.bool true))) (.tmp 62))]) (.cond (.tmp 63) (.seq (.ops [zj 4 (.newNil (.ints .u8 [])), zj 5 (.mv (.const (.one (.bool false))))]) .ret) .skip)) (.seq (.ops [zm 64 7, zm 4 64, zj 5 (.mv (.const (.one (.bool true))))]) .ret))))))))⟩
abbrev T35 : Nat → Callee := (upd (upd (upd (upd (upd (upd (upd none0 34 F34) 40 F40) 54 F54) 55 F55) 56 F56) 57 F57) 58 F58)
def F35 : Callee := evF T35 0 c35
theorem s35 : Sound Go.Proofs.Tryz.prog 35 F35 := fn_ok (upd_ok (upd_ok (upd_ok (upd_ok (upd_ok (upd_ok (upd_ok (none0_ok _) s34) s40) s54) s55) s56) s57) s58) mixed (by kernel_rfl)
def c83 : AF := ⟨[(2, none), (3, none)],
  (.seq (.ops [zj 2 (.mv (zk 0)), zj 3 (.mv (.const (.one (.bool false))))]) (.seq (.block 0 (.seq (.ops [zm 5 0, zj 6 (.bin .lss (.tmp 5) (.const (.one (.int .u8 16)))), zm 4 6]) (.cond (.tmp 4) (.seq (.ops [zj 2 (.mv (zk 0)), zj 3 (.mv (.const (.one (.bool true))))]) .ret) (.seq (.ops [zm 8 0, zj 9 (.bin .leq (.tmp 8) (.const (.one (.int .u8 27)))), zm 7 9]) (.cond (.tmp 7) (.seq (.ops [zm 10 0, zj 11 (.conv .i64 (.tmp 10)), zj 12 (.bin .sub (.tmp 11) (zk 11)), zj 13 (.bin .sub (.tmp 12) (zk 1)), zm 2 13, zj 3 (.mv (.const (.one (.bool true))))]) .ret) .skip))))) (.seq (.ops [zj 2 (.mv (zk 0)), zj 3 (.mv (.const (.one (.bool false))))]) .ret)))⟩
abbrev T83 : Nat → Callee := none0
def F83 : Callee := evF T83 0 c83
theorem s83 : Sound Go.Proofs.Tryz.prog 83 F83 := fn_ok (none0_ok _) mixed (by kernel_rfl)
def c84 : AF := ⟨[(4, none), (5, none)],
  (.seq (.ops [zj 4 (.mv (zk 0)), zj 5 (.mv (.const (.one (.bool false))))]) (.seq (.ops [zm 9 0, zj 10 (.call 83 [(.tmp 9)]), zm 8 10, zj 11 (.extract 0 (.tmp 8)), zj 12 (.extract 1 (.tmp 8)), zm 6 11, zm 7 12]) (.seq (.seq (.ops [zm 13 7, zj 14 (.un .not (.tmp 13)), zm 15 14, zg 16 15 false (.mv (.tmp 1)), zg 17 15 false (.call 42 [(.tmp 16)]), zg 18 15 false (.mv (.tmp 6)), zg 19 15 false (.bin .gtr (.tmp 17) (.tmp 18)), zj 20 (.pick (.tmp 15) (.const (.one (.bool true))) (.tmp 19))]) (.cond (.tmp 20) (.seq (.ops [zj 4 (.mv (zk 0)), zj 5 (.mv (.const (.one (.bool false))))]) .ret) .skip)) (.seq (.seq (.ops [zm 21 0, zj 22 (.bin .lss (.tmp 21) (.const (.one (.int .u8 16))))]) (.cond (.tmp 22) (.seq (.ops [zm 23 0, zj 24 (.conv .i64 (.tmp 23)), zm 4 24, zj 5 (.mv (.const (.one (.bool true))))]) .ret) .skip)) (.seq (.ops [zm 25 6, zj 26 (.bin .shl (zk 1) (.tmp 25)), zm 27 1, zj 28 (.conv .i64 (.tmp 27)), zj 29 (.bin .add (.tmp 26) (.tmp 28)), zm 4 29, zj 5 (.mv (.const (.one (.bool true))))]) .ret)))))⟩
abbrev T84 : Nat → Callee := (upd (upd none0 42 F42) 83 F83)
def F84 : Callee := evF T84 0 c84
theorem s84 : Sound Go.Proofs.Tryz.prog 84 F84 := fn_ok (upd_ok (upd_ok (none0_ok _) s42) s83) mixed (by kernel_rfl)
def c59 : AF := ⟨[(4, none), (5, none)],
  (.seq (.ops [zj 4 (.mv (zk 0)), zj 5 (.mv (.const (.one (.bool false))))]) (.seq (.ops [zm 10 0, zj 11 (.call 83 [(.tmp 10)]), zm 9 11, zj 12 (.extract 0 (.tmp 9)), zj 13 (.extract 1 (.tmp 9)), zm 6 12, zm 7 13]) (.seq (.seq (.ops [zm 14 7, zj 15 (.un .not (.tmp 14))]) (.cond (.tmp 15) (.seq (.ops [zj 4 (.mv (zk 0)), zj 5 (.mv (.const (.one (.bool false))))]) .ret) .skip)) (.seq (.ops [zm 17 1, zm 18 6, zj 19 (.call 62 [(.tmp 17), (.tmp 18)]), zm 16 19, zj 20 (.extract 0 (.tmp 16)), zj 21 (.extract 1 (.tmp 16)), zm 8 20, zm 7 21]) (.seq (.seq (.ops [zm 22 7, zj 23 (.un .not (.tmp 22))]) (.cond (.tmp 23) (.seq (.ops [zj 4 (.mv (zk 0)), zj 5 (.mv (.const (.one (.bool false))))]) .ret) .skip)) (.seq (.ops [zm 24 0, zm 25 8, zj 26 (.call 84 [(.tmp 24), (.tmp 25)]), zj 27 (.extract 0 (.tmp 26)), zj 28 (.extract 1 (.tmp 26)), zm 4 27, zm 5 28]) .ret))))))⟩
abbrev T59 : Nat → Callee := (upd (upd (upd none0 62 F62) 83 F83) 84 F84)
def F59 : Callee := evF T59 0 c59
theorem s59 : Sound Go.Proofs.Tryz.prog 59 F59 := fn_ok (upd_ok (upd_ok (upd_ok (none0_ok _) s62) s83) s84) mixed (by kernel_rfl)
def c60 : AF := ⟨[(4, none), (5, (some (some 3))), (6, none)],
  (.seq (.ops [zj 2 (.box (.tmp 0)), zj 4 (.mv (zk 0)), zj 5 (.alloc [(.sv (.int .i64 0)), (.sv (.int .i64 0)), (.sv (.int .i64 0))]), zj 6 (.mv (.const (.one (.bool false))))]) (.seq (.seq (.ops [zm 11 1, zj 12 (.bin .lss (.tmp 11) (zk 0)), zm 13 12, zg 14 13 false (.mv (.tmp 1)), zg 15 13 false (.bin .gtr (.tmp 14) (zk 65535)), zj 16 (.pick (.tmp 13) (.const (.one (.bool true))) (.tmp 15))]) (.cond (.tmp 16) (.seq (.opsD [(zj 17 (.load (some 3) (.tmp 2)), false), (zj 4 (.mv (zk 0)), false), (⟨none, none, (.store 3 (.tmp 5) (.tmp 17))⟩, true), (zj 6 (.mv (.const (.one (.bool false)))), false)] []) .ret) .skip)) (.seq (.ops [zm 18 1, zj 19 (.bin .sub (.tmp 18) (zk 3)), zj 20 (.bin .add (.tmp 19) (zk 1)), zm 7 20]) (.seq (.seq (.ops [zm 21 1, zj 22 (.bin .lss (.tmp 21) (zk 3))]) (.cond (.tmp 22) (.ops [zm 23 1, zj 24 (.iadrA 3 1 (.tmp 2) (.tmp 23)), zj 25 (.load none (.tmp 24)), zm 7 25]) .skip)) (.seq (.ops [zj 27 (.load (some 3) (.tmp 2)), zm 28 7, zj 29 (.call 41 [(.tmp 27), (.tmp 28)]), zm 26 29, zj 30 (.extract 0 (.tmp 26)), zj 31 (.extract 1 (.tmp 26)), zj 32 (.extract 2 (.tmp 26)), zj 9 (.alloc [(.sv (.int .i64 0)), (.sv (.int .i64 0)), (.sv (.int .i64 0))]), zm 8 30, ⟨none, none, (.store 3 (.tmp 9) (.tmp 31))⟩, zm 10 32]) (.seq (.seq (.ops [zm 33 10, zj 34 (.un .not (.tmp 33)), zm 35 34, zg 36 35 false (.mv (.tmp 8)), zg 37 35 false (.mv (.tmp 1)), zg 38 35 false (.bin .neq (.tmp 36) (.tmp 37)), zj 39 (.pick (.tmp 35) (.const (.one (.bool true))) (.tmp 38))]) (.cond (.tmp 39) (.seq (.opsD [(zj 40 (.load (some 3) (.tmp 2)), false), (zj 4 (.mv (zk 0)), false), (⟨none, none, (.store 3 (.tmp 5) (.tmp 40))⟩, true), (zj 6 (.mv (.const (.one (.bool false)))), false)] []) .ret) .skip)) (.seq (.opsD [(zm 41 7, false), (zj 42 (.load (some 3) (.tmp 9)), false), (zm 4 41, false), (⟨none, none, (.store 3 (.tmp 5) (.tmp 42))⟩, true), (zj 6 (.mv (.const (.one (.bool true)))), false)] []) .ret)))))))⟩
abbrev T60 : Nat → Callee := (upd none0 41 F41)
def F60 : Callee := evF T60 0 c60
theorem s60 : Sound Go.Proofs.Tryz.prog 60 F60 := fn_ok (upd_ok (none0_ok _) s41) mixed (by kernel_rfl)
def b38x0 : AC := (.seq (.ops [zj 17 (.bin .lss (.tmp 16) (zk 3))]) (.seq (.cond (.tmp 17) .skip (.exit 0)) (.seq (.block 1 (.seq (.ops [zm 18 16, zm 10 18]) (.seq (.ops [zm 20 10, zj 21 (.iadrA 3 1 (.tmp 3) (.tmp 20)), zj 22 (.load none (.tmp 21)), zm 23 1, zj 24 (.call 59 [(.tmp 22), (.tmp 23)]), zm 19 24, zj 25 (.extract 0 (.tmp 19)), zj 26 (.extract 1 (.tmp 19)), zm 11 25, zm 12 26]) (.seq (.seq (.ops [zm 27 12, zj 28 (.un .not (.tmp 27))]) (.cond (.tmp 28) (.seq (.opsD [(zj 29 (.build [(.sv (.int .i64 0)), (.sv (.int .i64 0)), (.sv (.int .i64 0))] []), false), (zj 30 (.load (some 3) (.tmp 5)), false), (⟨none, none, (.store 3 (.tmp 6) (.tmp 29))⟩, true), (⟨none, none, (.store 3 (.tmp 7) (.tmp 30))⟩, true), (zj 8 (.mv (.const (.one (.bool false)))), false)] [(1, [1])]) .ret) .skip)) (.ops [zm 31 10, zm 32 11, zj 33 (.iadrA 3 1 (.tmp 9) (.tmp 31)), ⟨none, none, (.store 1 (.tmp 33) (.tmp 32))⟩]))))) (.ops [zj 34 (.bin .add (.tmp 16) (zk 1)), zm 16 34]))))
def c38 : AF := ⟨[(6, (some (some 3))), (7, (some (some 3))), (8, none)],
  (.seq (.ops [zj 3 (.box (.tmp 0)), zj 5 (.box (.tmp 2)), zj 6 (.alloc [(.sv (.int .i64 0)), (.sv (.int .i64 0)), (.sv (.int .i64 0))]), zj 7 (.alloc [(.sv (.int .i64 0)), (.sv (.int .i64 0)), (.sv (.int .i64 0))]), zj 8 (.mv (.const (.one (.bool false))))]) (.seq (.ops [zj 9 (.alloc [(.sv (.int .i64 0)), (.sv (.int .i64 0)), (.sv (.int .i64 0))])]) (.seq (.seq (.ops [zj 16 (.mv (zk 0))]) (.block 0 (.loop [1, 3, 5, 6, 7, 9, 16] b38x0))) (.seq (.ops [zj 36 (.load (some 3) (.tmp 5)), zj 37 (.iadrA 3 1 (.tmp 9) (zk 2)), zj 38 (.load none (.tmp 37)), zj 39 (.call 60 [(.tmp 36), (.tmp 38)]), zm 35 39, zj 40 (.extract 0 (.tmp 35)), zj 41 (.extract 1 (.tmp 35)), zj 42 (.extract 2 (.tmp 35)), zj 14 (.alloc [(.sv (.int .i64 0)), (.sv (.int .i64 0)), (.sv (.int .i64 0))]), zm 13 40, ⟨none, none, (.store 3 (.tmp 14) (.tmp 41))⟩, zm 15 42]) (.seq (.opsD [(zj 43 (.iadrA 3 1 (.tmp 9) (zk 0)), false), (zj 44 (.load none (.tmp 43)), false), (zj 45 (.iadrA 3 1 (.tmp 9) (zk 1)), false), (zj 46 (.load none (.tmp 45)), false), (zj 47 (.bin .add (.tmp 46) (zk 3)), false), (zm 48 13, false), (zj 49 (.build [(.sv (.int .i64 0)), (.sv (.int .i64 0)), (.sv (.int .i64 0))] [((0, 1), (.tmp 44)), ((1, 1), (.tmp 47)), ((2, 1), (.tmp 48))]), false), (zj 50 (.load (some 3) (.tmp 14)), false), (zm 51 15, false), (⟨none, none, (.store 3 (.tmp 6) (.tmp 49))⟩, true), (⟨none, none, (.store 3 (.tmp 7) (.tmp 50))⟩, true), (zm 8 51, false)] [(7, [1])]) .ret)))))⟩
abbrev T38 : Nat → Callee := (upd (upd none0 59 F59) 60 F60)
def F38 : Callee := evF T38 KK c38
theorem s38 : Sound Go.Proofs.Tryz.prog 38 F38 := fn_ok (upd_ok (upd_ok (none0_ok _) s59) s60) mixed (by kernel_rfl)
def b10x0 : AC := (.seq (.ops [zj 32 (.bin .lss (.tmp 31) (zk 3))]) (.seq (.cond (.tmp 32) .skip (.exit 0)) (.seq (.block 1 (.seq (.ops [zm 33 31, zm 8 33]) (.seq (.ops [zm 35 0, zm 36 6, zj 37 (.call 35 [(.tmp 35), (.tmp 36)]), zm 34 37, zj 38 (.extract 0 (.tmp 34)), zj 39 (.extract 1 (.tmp 34)), zm 9 38, zm 10 39]) (.seq (.seq (.ops [zm 40 10, zj 41 (.un .not (.tmp 40))]) (.cond (.tmp 41) (.seq (.ops [zj 4 (.newNil (.recs 3 [])), zj 5 (.mv (.const (.one (.bool false))))]) .ret) .skip)) (.ops [zm 42 8, zm 43 9, zj 44 (.iadrA 3 1 (.tmp 7) (.tmp 42)), ⟨none, none, (.store 1 (.tmp 44) (.tmp 43))⟩]))))) (.ops [zj 45 (.bin .add (.tmp 31) (zk 1)), zm 31 45]))))
def b10x1 : AC := (.seq (.ops [zj 55 (.bin .lss (.tmp 54) (.tmp 53))]) (.seq (.cond (.tmp 55) .skip (.exit 2)) (.seq (.block 3 (.seq (.ops [zm 56 54, zm 14 56]) (.seq (.opsF [(zj 58 (.iadrA 3 1 (.tmp 7) (zk 0)), (false, none)), (zj 59 (.load none (.tmp 58)), (false, none)), (zm 60 14, (false, none)), (zj 61 (.iadrR 1 (.tmp 59) (.tmp 60)), (false, none)), (zj 62 (.load none (.tmp 61)), (false, none)), (zj 63 (.iadrA 3 1 (.tmp 7) (zk 1)), (false, none)), (zj 64 (.load none (.tmp 63)), (false, none)), (zm 65 14, (false, none)), (zj 66 (.iadrR 1 (.tmp 64) (.tmp 65)), (false, none)), (zj 67 (.load none (.tmp 66)), (false, none)), (zj 68 (.iadrA 3 1 (.tmp 7) (zk 2)), (false, none)), (zj 69 (.load none (.tmp 68)), (false, none)), (zm 70 14, (false, none)), (zj 71 (.iadrR 1 (.tmp 69) (.tmp 70)), (false, none)), (zj 72 (.load none (.tmp 71)), (false, none)), (zj 73 (.build [(.sv (.int .u8 0)), (.sv (.int .u8 0)), (.sv (.int .u8 0))] [((0, 1), (.tmp 62)), ((1, 1), (.tmp 67)), ((2, 1), (.tmp 72))]), (false, none)), (zm 74 11, (false, none)), (zj 75 (.load (some 3) (.tmp 13)), (false, none)), (zj 76 (.call 38 [(.tmp 73), (.tmp 74), (.tmp 75)]), (true, none)), (zm 57 76, (false, none)), (zj 77 (.extract 0 (.tmp 57)), (false, none)), (zj 78 (.extract 1 (.tmp 57)), (false, none)), (zj 79 (.extract 2 (.tmp 57)), (false, none)), (zj 15 (.alloc [(.sv (.int .i64 0)), (.sv (.int .i64 0)), (.sv (.int .i64 0))]), (false, (some 0))), (zj 16 (.alloc [(.sv (.int .i64 0)), (.sv (.int .i64 0)), (.sv (.int .i64 0))]), (false, (some 1))), (⟨none, none, (.store 3 (.tmp 15) (.tmp 77))⟩, (true, none)), (⟨none, none, (.store 3 (.tmp 16) (.tmp 78))⟩, (true, none)), (zm 17 79, (false, none))] [] [(23, [1, 0]), (24, [1, 0])]) (.seq (.seq (.ops [zm 80 17, zj 81 (.un .not (.tmp 80))]) (.cond (.tmp 81) (.seq (.ops [zj 4 (.newNil (.recs 3 [])), zj 5 (.mv (.const (.one (.bool false))))]) .ret) .skip)) (.opsD [(zm 82 12, false), (zj 83 (.load (some 3) (.tmp 15)), false), (zj 84 (.bslice (.recs 3 []) [(.int .i64 0), (.int .i64 0), (.int .i64 0)] 1 [(0, (.tmp 83))]), true), (zj 85 (.append (.recs 3 []) 24 (.tmp 82) (.tmp 84)), true), (zj 86 (.load (some 3) (.tmp 16)), false), (zm 12 85, false), (⟨none, none, (.store 3 (.tmp 13) (.tmp 86))⟩, true)] [(4, [1, 0])]))))) (.ops [zj 87 (.bin .add (.tmp 54) (zk 1)), zm 54 87]))))
def c10 : AF := ⟨[(4, none), (5, none)],
  (.seq (.ops [zj 4 (.newNil (.recs 3 [])), zj 5 (.mv (.const (.one (.bool false))))]) (.seq (.ops [zm 18 0, zm 19 1, zj 20 (.min [(.tmp 19), (zk 1000)]), zj 21 (.call 33 [(.tmp 18), (.tmp 20)]), zm 6 21]) (.seq (.seq (.ops [zm 22 0, zj 23 (.call 34 [(.tmp 22)]), zm 24 23, zg 25 24 false (.mv (.tmp 6)), zg 26 24 false (.bin .eql (.tmp 25) (zk 0)), zj 27 (.pick (.tmp 24) (.const (.one (.bool true))) (.tmp 26))]) (.cond (.tmp 27) (.seq (.ops [zm 28 0, zj 29 (.call 34 [(.tmp 28)]), zj 30 (.un .not (.tmp 29)), zj 4 (.newNil (.recs 3 [])), zm 5 30]) .ret) .skip)) (.seq (.ops [zj 7 (.alloc [(.nil (.ints .u8 [])), (.nil (.ints .u8 [])), (.nil (.ints .u8 []))])]) (.seq (.seq (.ops [zj 31 (.mv (zk 0))]) (.block 0 (.loop [0, 6, 7, 31] b10x0))) (.seq (.ops [zm 46 0, zj 47 (.call 37 [(.tmp 46), (zk 4096)]), zj 48 (.s2b (.tmp 47)), zj 49 (.call 36 [(.tmp 48)]), zm 11 49]) (.seq (.seq (.ops [zm 50 0, zj 51 (.call 34 [(.tmp 50)])]) (.cond (.tmp 51) (.seq (.ops [zj 4 (.newNil (.recs 3 [])), zj 5 (.mv (.const (.one (.bool false))))]) .ret) .skip)) (.seq (.ops [zj 12 (.newNil (.recs 3 []))]) (.seq (.ops [zj 52 (.call 15 []), zj 13 (.alloc [(.sv (.int .i64 0)), (.sv (.int .i64 0)), (.sv (.int .i64 0))]), ⟨none, none, (.store 3 (.tmp 13) (.tmp 52))⟩]) (.seq (.seq (.ops [zm 53 6, zj 54 (.mv (zk 0))]) (.block 2 (.loop [7, 11, 12, 13, 53, 54] b10x1))) (.seq (.seq (.ops [zm 88 11, zj 89 (.call 39 [(.tmp 88)]), zj 90 (.un .not (.tmp 89))]) (.cond (.tmp 90) (.seq (.ops [zj 4 (.newNil (.recs 3 [])), zj 5 (.mv (.const (.one (.bool false))))]) .ret) .skip)) (.seq (.ops [zm 91 12, zm 4 91, zj 5 (.mv (.const (.one (.bool true))))]) .ret))))))))))))⟩
abbrev T10 : Nat → Callee := (upd (upd (upd (upd (upd (upd (upd (upd none0 15 F15) 33 F33) 34 F34) 35 F35) 36 F36) 37 F37) 38 F38) 39 F39)
def F10 : Callee := evF T10 KK c10
theorem s10 : Sound Go.Proofs.Tryz.prog 10 F10 := fn_ok (upd_ok (upd_ok (upd_ok (upd_ok (upd_ok (upd_ok (upd_ok (upd_ok (none0_ok _) s15) s33) s34) s35) s36) s37) s38) s39) mixed (by kernel_rfl)
def c5 : AF := ⟨[(0, none)],
  (.seq (.ops [zj 0 (.mv (.const (.one (.bool false))))]) (.seq (.ops [zj 6 (.build [(.sv (.int .i64 0)), (.sv (.int .i64 0)), (.sv (.int .i64 0))] [((0, 1), (zk 2)), ((1, 1), (zk 3)), ((2, 1), (zk 1))]), zj 7 (.bslice (.recs 3 []) [(.int .i64 0), (.int .i64 0), (.int .i64 0)] 1 [(0, (.tmp 6))]), zm 1 7]) (.seq (.ops [zm 9 1, zj 10 (.call 6 [(.tmp 9)]), zm 8 10, zj 11 (.extract 0 (.tmp 8)), zj 12 (.extract 1 (.tmp 8)), zm 2 11, zm 3 12]) (.seq (.ops [zm 14 2, zj 15 (.call 9 [(.tmp 14)]), zj 16 (.call 10 [(.tmp 15), (zk 1)]), zm 13 16, zj 17 (.extract 0 (.tmp 13)), zj 18 (.extract 1 (.tmp 13)), zm 4 17, zm 5 18]) (.seq (.opsD [(zm 19 3, false), (zm 20 19, false), (zg 21 20 true (.mv (.tmp 5)), false), (zj 22 (.pick (.tmp 20) (.tmp 21) (.const (.one (.bool false)))), false), (zm 23 22, false), (zg 24 23 true (.mv (.tmp 2)), false), (⟨(some 25), (some (23, true)), (.bin .eql (.tmp 24) (.const (.one (.str ⟨#[1, 0, 2, 0, 0, 0, 0, 0]⟩))))⟩, false), (zj 26 (.pick (.tmp 23) (.tmp 25) (.const (.one (.bool false)))), false), (zm 27 26, false), (zg 28 27 true (.mv (.tmp 4)), false), (zg 29 27 true (.len (.tmp 28)), false), (zg 30 27 true (.bin .eql (.tmp 29) (zk 1)), false), (zj 31 (.pick (.tmp 27) (.tmp 30) (.const (.one (.bool false)))), false), (zm 32 31, false), (zg 33 32 true (.mv (.tmp 4)), false), (zg 34 32 true (.iadrR 3 (.tmp 33) (zk 0)), false), (zg 35 32 true (.load (some 3) (.tmp 34)), false), (zg 36 32 true (.mv (.tmp 1)), false), (zg 37 32 true (.iadrR 3 (.tmp 36) (zk 0)), false), (zg 38 32 true (.load (some 3) (.tmp 37)), false), (zg 39 32 true (.eqAgg false [(.int .i64 0), (.int .i64 0), (.int .i64 0)] (.tmp 35) (.tmp 38)), false), (zj 40 (.pick (.tmp 32) (.tmp 39) (.const (.one (.bool false)))), false), (zm 0 40, false)] []) .ret)))))⟩
abbrev T5 : Nat → Callee := (upd (upd (upd none0 6 F6) 9 F9) 10 F10)
def F5 : Callee := evF T5 0 c5
theorem s5 : Sound Go.Proofs.Tryz.prog 5 F5 := fn_ok (upd_ok (upd_ok (upd_ok (none0_ok _) s6) s9) s10) mixed (by kernel_rfl)
def b7x0 : AC := (.seq (.seq (.ops [zm 4 3, zm 5 0, zj 6 (.len (.tmp 5)), zj 7 (.bin .lss (.tmp 4) (.tmp 6))]) (.cond (.tmp 7) .skip (.exit 0))) (.seq (.block 1 (.seq (.ops [zm 10 0, zm 11 3, zj 12 (.iadrR 3 (.tmp 10) (.tmp 11)), zj 13 (.fadr 0 (.tmp 12)), zj 14 (.load none (.tmp 13)), zj 15 (.bin .lss (.tmp 14) (zk 0)), zm 16 15, zg 17 16 false (.mv (.tmp 0)), zg 18 16 false (.mv (.tmp 3)), zg 19 16 false (.iadrR 3 (.tmp 17) (.tmp 18)), zg 20 16 false (.fadr 0 (.tmp 19)), zg 21 16 false (.load none (.tmp 20)), zg 22 16 false (.bin .gtr (.tmp 21) (zk 65535)), zj 23 (.pick (.tmp 16) (.const (.one (.bool true))) (.tmp 22)), zm 24 23, zg 25 24 false (.mv (.tmp 0)), zg 26 24 false (.mv (.tmp 3)), zg 27 24 false (.iadrR 3 (.tmp 25) (.tmp 26)), zg 28 24 false (.fadr 1 (.tmp 27)), zg 29 24 false (.load none (.tmp 28)), zg 30 24 false (.bin .lss (.tmp 29) (zk 3)), zj 31 (.pick (.tmp 24) (.const (.one (.bool true))) (.tmp 30)), zm 32 31, zg 33 32 false (.mv (.tmp 0)), zg 34 32 false (.mv (.tmp 3)), zg 35 32 false (.iadrR 3 (.tmp 33) (.tmp 34)), zg 36 32 false (.fadr 1 (.tmp 35)), zg 37 32 false (.load none (.tmp 36)), zg 38 32 false (.bin .gtr (.tmp 37) (zk 65538)), zj 39 (.pick (.tmp 32) (.const (.one (.bool true))) (.tmp 38)), zm 40 39, zg 41 40 false (.mv (.tmp 0)), zg 42 40 false (.mv (.tmp 3)), zg 43 40 false (.iadrR 3 (.tmp 41) (.tmp 42)), zg 44 40 false (.fadr 2 (.tmp 43)), zg 45 40 false (.load none (.tmp 44)), zg 46 40 false (.bin .lss (.tmp 45) (zk 1)), zj 47 (.pick (.tmp 40) (.const (.one (.bool true))) (.tmp 46)), zm 48 47, zg 49 48 false (.mv (.tmp 0)), zg 50 48 false (.mv (.tmp 3)), zg 51 48 false (.iadrR 3 (.tmp 49) (.tmp 50)), zg 52 48 false (.fadr 2 (.tmp 51)), zg 53 48 false (.load none (.tmp 52)), zg 54 48 false (.bin .gtr (.tmp 53) (zk 65533)), zj 55 (.pick (.tmp 48) (.const (.one (.bool true))) (.tmp 54))]) (.cond (.tmp 55) (.seq (.ops [zj 2 (.mv (.const (.one (.bool false))))]) .ret) .skip))) (.ops [zm 8 3, zj 9 (.bin .add (.tmp 8) (zk 1)), zm 3 9])))
def c7 : AF := ⟨[(2, none)],
  (.seq (.ops [zj 2 (.mv (.const (.one (.bool false))))]) (.seq (.seq (.ops [zj 3 (.mv (zk 0))]) (.block 0 (.loop [0, 3] b7x0))) (.seq (.ops [zm 56 0, zj 57 (.len (.tmp 56)), zj 58 (.bin .leq (.tmp 57) (zk 1000)), zm 2 58]) .ret)))⟩
abbrev T7 : Nat → Callee := none0
def F7 : Callee := evF T7 KK c7
theorem s7 : Sound Go.Proofs.Tryz.prog 7 F7 := fn_ok (none0_ok _) mixed (by kernel_rfl)
def b48x0 : AC := (.seq (.seq (.ops [zm 4 0, zj 5 (.bin .geq (.tmp 4) (.const (.one (.int .u64 128))))]) (.cond (.tmp 5) .skip (.exit 0))) (.block 1 (.seq (.ops [zm 6 3, zm 7 0, zj 8 (.bin .rem (.tmp 7) (.const (.one (.int .u64 128)))), zj 9 (.bin .add (.tmp 8) (.const (.one (.int .u64 128)))), zj 10 (.conv .u8 (.tmp 9)), zj 11 (.bslice (.ints .u8 []) [(.int .u8 0)] 1 [(0, (.tmp 10))]), zj 12 (.b2s (.tmp 11)), zj 13 (.bin .add (.tmp 6) (.tmp 12)), zm 3 13]) (.ops [zm 14 0, zj 15 (.bin .quo (.tmp 14) (.const (.one (.int .u64 128)))), zm 0 15]))))
def c48 : AF := ⟨[(2, none)],
  (.seq (.ops [⟨(some 2), none, (.mv (.const (.one (.str ⟨#[]⟩))))⟩]) (.seq (.ops [⟨(some 3), none, (.mv (.const (.one (.str ⟨#[]⟩))))⟩]) (.seq (.block 0 (.loop [0, 3] b48x0)) (.seq (.ops [zm 16 3, zm 17 0, zj 18 (.conv .u8 (.tmp 17)), zj 19 (.bslice (.ints .u8 []) [(.int .u8 0)] 1 [(0, (.tmp 18))]), zj 20 (.b2s (.tmp 19)), zj 21 (.bin .add (.tmp 16) (.tmp 20)), zm 2 21]) .ret))))⟩
abbrev T48 : Nat → Callee := none0
def F48 : Callee := evF T48 KK c48
theorem s48 : Sound Go.Proofs.Tryz.prog 48 F48 := fn_ok (none0_ok _) mixed (by kernel_rfl)
def b23x0 : AC := (.seq (.seq (.ops [zm 7 4, zm 8 0, zj 9 (.lenS (.tmp 8)), zj 10 (.bin .lss (.tmp 7) (.tmp 9)), zm 11 10, zg 12 11 true (.mv (.tmp 0)), zg 13 11 true (.mv (.tmp 4)), zg 14 11 true (.idxS (.tmp 12) (.tmp 13)), zg 15 11 true (.bin .geq (.tmp 14) (.const (.one (.int .u8 128)))), zj 16 (.pick (.tmp 11) (.tmp 15) (.const (.one (.bool false))))]) (.cond (.tmp 16) .skip (.exit 0))) (.block 1 (.ops [zm 17 4, zj 18 (.bin .add (.tmp 17) (zk 1)), zm 4 18])))
def b23x1 : AC := (.seq (.seq (.ops [zm 28 6, zj 29 (.bin .geq (.tmp 28) (zk 0))]) (.cond (.tmp 29) .skip (.exit 2))) (.seq (.block 3 (.seq (.seq (.ops [zm 32 5, zj 33 (.bin .gtr (.tmp 32) (.const (.one (.int .u64 144115188075855871))))]) (.cond (.tmp 33) (.seq (.ops [zj 2 (.mv (.const (.one (.int .u64 0)))), zj 3 (.mv (zk 0))]) .ret) .skip)) (.ops [zm 34 5, zj 35 (.bin .mul (.tmp 34) (.const (.one (.int .u64 128)))), zm 36 0, zm 37 6, zj 38 (.idxS (.tmp 36) (.tmp 37)), zj 39 (.bin .rem (.tmp 38) (.const (.one (.int .u8 128)))), zj 40 (.conv .u64 (.tmp 39)), zj 41 (.bin .add (.tmp 35) (.tmp 40)), zm 5 41]))) (.ops [zm 30 6, zj 31 (.bin .sub (.tmp 30) (zk 1)), zm 6 31])))
def c23 : AF := ⟨[(2, none), (3, none)],
  (.seq (.ops [zj 2 (.mv (.const (.one (.int .u64 0)))), zj 3 (.mv (zk 0))]) (.seq (.ops [zj 4 (.mv (zk 0))]) (.seq (.block 0 (.loop [0, 4] b23x0)) (.seq (.seq (.ops [zm 19 4, zm 20 0, zj 21 (.lenS (.tmp 20)), zj 22 (.bin .eql (.tmp 19) (.tmp 21)), zm 23 22, zg 24 23 false (.mv (.tmp 4)), zg 25 23 false (.bin .gtr (.tmp 24) (zk 9)), zj 26 (.pick (.tmp 23) (.const (.one (.bool true))) (.tmp 25))]) (.cond (.tmp 26) (.seq (.ops [zj 2 (.mv (.const (.one (.int .u64 0)))), zj 3 (.mv (zk 0))]) .ret) .skip)) (.seq (.ops [zj 5 (.mv (.const (.one (.int .u64 0))))]) (.seq (.seq (.ops [zm 27 4, zm 6 27]) (.block 2 (.loop [0, 4, 5, 6] b23x1))) (.seq (.seq (.opsD [(zm 42 5, false), (zj 43 (.call 48 [(.tmp 42)]), true), (zm 44 0, false), (zm 45 4, false), (zj 46 (.bin .add (.tmp 45) (zk 1)), false), (zj 47 (.cutS (.tmp 44) none (some (.tmp 46))), false), (zj 48 (.bin .neq (.tmp 43) (.tmp 47)), false)] []) (.cond (.tmp 48) (.seq (.ops [zj 2 (.mv (.const (.one (.int .u64 0)))), zj 3 (.mv (zk 0))]) .ret) .skip)) (.seq (.ops [zm 49 5, zm 50 4, zj 51 (.bin .add (.tmp 50) (zk 1)), zm 2 49, zm 3 51]) .ret))))))))⟩
abbrev T23 : Nat → Callee := (upd none0 48 F48)
def F23 : Callee := evF T23 KK c23
theorem s23 : Sound Go.Proofs.Tryz.prog 23 F23 := fn_ok (upd_ok (none0_ok _) s48) mixed (by kernel_rfl)
def c25 : AF := ⟨[(2, none), (3, none)],
  (.seq (.ops [⟨(some 2), none, (.mv (.const (.one (.str ⟨#[]⟩))))⟩, zj 3 (.mv (zk 0))]) (.seq (.ops [zm 7 0, zj 8 (.call 23 [(.tmp 7)]), zm 6 8, zj 9 (.extract 0 (.tmp 6)), zj 10 (.extract 1 (.tmp 6)), zm 4 9, zm 5 10]) (.seq (.seq (.ops [zm 11 5, zj 12 (.bin .eql (.tmp 11) (zk 0)), zm 13 12, zg 14 13 false (.mv (.tmp 4)), zg 15 13 false (.bin .gtr (.tmp 14) (.const (.one (.int .u64 4096)))), zj 16 (.pick (.tmp 13) (.const (.one (.bool true))) (.tmp 15)), zm 17 16, zg 18 17 false (.mv (.tmp 4)), zg 19 17 false (.mv (.tmp 0)), zg 20 17 false (.lenS (.tmp 19)), zg 21 17 false (.mv (.tmp 5)), zg 22 17 false (.bin .sub (.tmp 20) (.tmp 21)), zg 23 17 false (.conv .u64 (.tmp 22)), zg 24 17 false (.bin .gtr (.tmp 18) (.tmp 23)), zj 25 (.pick (.tmp 17) (.const (.one (.bool true))) (.tmp 24))]) (.cond (.tmp 25) (.seq (.ops [⟨(some 2), none, (.mv (.const (.one (.str ⟨#[]⟩))))⟩, zj 3 (.mv (zk 0))]) .ret) .skip)) (.seq (.ops [zm 26 0, zm 27 5, zm 28 5, zm 29 4, zj 30 (.conv .i64 (.tmp 29)), zj 31 (.bin .add (.tmp 28) (.tmp 30)), zj 32 (.cutS (.tmp 26) (some (.tmp 27)) (some (.tmp 31))), zm 33 5, zm 34 4, zj 35 (.conv .i64 (.tmp 34)), zj 36 (.bin .add (.tmp 33) (.tmp 35)), zm 2 32, zm 3 36]) .ret))))⟩
abbrev T25 : Nat → Callee := (upd none0 23 F23)
def F25 : Callee := evF T25 0 c25
theorem s25 : Sound Go.Proofs.Tryz.prog 25 F25 := fn_ok (upd_ok (none0_ok _) s23) mixed (by kernel_rfl)
def b50x0 : AC := (.seq (.seq (.ops [zm 7 6, zm 8 1, zj 9 (.bin .lss (.tmp 7) (.tmp 8))]) (.cond (.tmp 9) .skip (.exit 0))) (.seq (.block 1 (.ops [zm 12 5, zm 13 0, zm 14 6, zj 15 (.bin .shr (.tmp 13) (.tmp 14)), zj 16 (.conv .i64 (.tmp 15)), zj 17 (.bin .rem (.tmp 16) (zk 2)), zj 18 (.bslice (.ints .i64 []) [(.int .i64 0)] 1 [(0, (.tmp 17))]), zj 19 (.append (.ints .i64 []) 8 (.tmp 12) (.tmp 18)), zm 5 19])) (.ops [zm 10 6, zj 11 (.bin .add (.tmp 10) (zk 1)), zm 6 11])))
def c50 : AF := ⟨[(4, none)],
  (.seq (.ops [zj 4 (.newNil (.ints .i64 []))]) (.seq (.ops [zj 5 (.newNil (.ints .i64 []))]) (.seq (.seq (.ops [zj 6 (.mv (zk 0))]) (.block 0 (.loop [0, 1, 5, 6] b50x0))) (.seq (.ops [zm 20 5, zm 4 20]) .ret))))⟩
abbrev T50 : Nat → Callee := none0
def F50 : Callee := evF T50 KK c50
theorem s50 : Sound Go.Proofs.Tryz.prog 50 F50 := fn_ok (none0_ok _) mixed (by kernel_rfl)
def b26x0 : AC := (.seq (.seq (.ops [zm 5 4, zm 6 0, zj 7 (.len (.tmp 6)), zj 8 (.bin .lss (.tmp 5) (.tmp 7))]) (.cond (.tmp 8) .skip (.exit 0))) (.seq (.block 1 (.ops [zm 11 3, zm 12 0, zm 13 4, zj 14 (.iadrR 1 (.tmp 12) (.tmp 13)), zj 15 (.load none (.tmp 14)), zj 16 (.conv .u32 (.tmp 15)), zj 17 (.call 50 [(.tmp 16), (zk 8)]), zj 18 (.append (.ints .i64 []) 8 (.tmp 11) (.tmp 17)), zm 3 18])) (.ops [zm 9 4, zj 10 (.bin .add (.tmp 9) (zk 1)), zm 4 10])))
def c26 : AF := ⟨[(2, none)],
  (.seq (.ops [zj 2 (.newNil (.ints .i64 []))]) (.seq (.ops [zj 3 (.newNil (.ints .i64 []))]) (.seq (.seq (.ops [zj 4 (.mv (zk 0))]) (.block 0 (.loop [0, 3, 4] b26x0))) (.seq (.ops [zm 19 3, zm 2 19]) .ret))))⟩
abbrev T26 : Nat → Callee := (upd none0 50 F50)
def F26 : Callee := evF T26 KK c26
theorem s26 : Sound Go.Proofs.Tryz.prog 26 F26 := fn_ok (upd_ok (none0_ok _) s50) mixed (by kernel_rfl)
def b32x0 : AC := (.seq (.seq (.ops [zm 4 3, zm 5 0, zj 6 (.len (.tmp 5)), zj 7 (.bin .lss (.tmp 4) (.tmp 6))]) (.cond (.tmp 7) .skip (.exit 0))) (.seq (.block 1 (.seq (.ops [zm 10 0, zm 11 3, zj 12 (.iadrR 1 (.tmp 10) (.tmp 11)), zj 13 (.load none (.tmp 12)), zj 14 (.bin .neq (.tmp 13) (zk 0))]) (.cond (.tmp 14) (.seq (.ops [zj 2 (.mv (.const (.one (.bool false))))]) .ret) .skip))) (.ops [zm 8 3, zj 9 (.bin .add (.tmp 8) (zk 1)), zm 3 9])))
def c32 : AF := ⟨[(2, none)],
  (.seq (.ops [zj 2 (.mv (.const (.one (.bool false))))]) (.seq (.seq (.ops [zj 3 (.mv (zk 0))]) (.block 0 (.loop [0, 3] b32x0))) (.seq (.ops [zm 15 0, zj 16 (.len (.tmp 15)), zj 17 (.bin .lss (.tmp 16) (zk 8)), zm 2 17]) .ret)))⟩
abbrev T32 : Nat → Callee := none0
def F32 : Callee := evF T32 KK c32
theorem s32 : Sound Go.Proofs.Tryz.prog 32 F32 := fn_ok (none0_ok _) mixed (by kernel_rfl)
def b28x0 : AC := (.seq (.seq (.ops [zm 5 4, zm 6 0, zj 7 (.bin .lss (.tmp 5) (.tmp 6))]) (.cond (.tmp 7) .skip (.exit 0))) (.seq (.block 1 (.ops [zm 10 3, zj 11 (.bin .mul (.tmp 10) (zk 2)), zm 3 11])) (.ops [zm 8 4, zj 9 (.bin .add (.tmp 8) (zk 1)), zm 4 9])))
def c28 : AF := ⟨[(2, none)],
  (.seq (.ops [zj 2 (.mv (zk 0))]) (.seq (.ops [zj 3 (.mv (zk 1))]) (.seq (.seq (.ops [zj 4 (.mv (zk 0))]) (.block 0 (.loop [0, 3, 4] b28x0))) (.seq (.ops [zm 12 3, zm 2 12]) .ret))))⟩
abbrev T28 : Nat → Callee := none0
def F28 : Callee := evF T28 KK c28
theorem s28 : Sound Go.Proofs.Tryz.prog 28 F28 := fn_ok (none0_ok _) mixed (by kernel_rfl)
def b29x0 : AC := (.seq (.seq (.ops [zm 8 4, zj 9 (.bin .geq (.tmp 8) (zk 0))]) (.cond (.tmp 9) .skip (.exit 0))) (.seq (.block 1 (.ops [zm 12 3, zj 13 (.bin .mul (.tmp 12) (.const (.one (.int .u32 2)))), zm 14 0, zm 15 4, zj 16 (.iadrR 1 (.tmp 14) (.tmp 15)), zj 17 (.load none (.tmp 16)), zj 18 (.conv .u32 (.tmp 17)), zj 19 (.bin .add (.tmp 13) (.tmp 18)), zm 3 19])) (.ops [zm 10 4, zj 11 (.bin .sub (.tmp 10) (zk 1)), zm 4 11])))
def c29 : AF := ⟨[(2, none)],
  (.seq (.ops [zj 2 (.mv (.const (.one (.int .u32 0))))]) (.seq (.ops [zj 3 (.mv (.const (.one (.int .u32 0))))]) (.seq (.seq (.ops [zm 5 0, zj 6 (.len (.tmp 5)), zj 7 (.bin .sub (.tmp 6) (zk 1)), zm 4 7]) (.block 0 (.loop [0, 3, 4] b29x0))) (.seq (.ops [zm 20 3, zm 2 20]) .ret))))⟩
abbrev T29 : Nat → Callee := none0
def F29 : Callee := evF T29 KK c29
theorem s29 : Sound Go.Proofs.Tryz.prog 29 F29 := fn_ok (none0_ok _) mixed (by kernel_rfl)
def b99x0 : AC := (.seq (.seq (.ops [zm 4 0, zj 5 (.bin .gtr (.tmp 4) (.const (.one (.int .u32 0))))]) (.cond (.tmp 5) .skip (.exit 0))) (.block 1 (.seq (.ops [zm 6 0, zj 7 (.bin .quo (.tmp 6) (.const (.one (.int .u32 2)))), zm 0 7]) (.ops [zm 8 3, zj 9 (.bin .add (.tmp 8) (zk 1)), zm 3 9]))))
def c99 : AF := ⟨[(2, none)],
  (.seq (.ops [zj 2 (.mv (zk 0))]) (.seq (.ops [zj 3 (.mv (zk 0))]) (.seq (.block 0 (.loop [0, 3] b99x0)) (.seq (.ops [zm 10 3, zm 2 10]) .ret))))⟩
abbrev T99 : Nat → Callee := none0
def F99 : Callee := evF T99 KK c99
theorem s99 : Sound Go.Proofs.Tryz.prog 99 F99 := fn_ok (none0_ok _) mixed (by kernel_rfl)
def b74x0 : AC := (.seq (.seq (.ops [zm 23 8, zj 24 (.bin .gtr (.tmp 23) (zk 0))]) (.cond (.tmp 24) .skip (.exit 0))) (.block 1 (.seq (.ops [zm 25 8, zj 26 (.conv .u32 (.tmp 25)), zj 27 (.call 99 [(.tmp 26)]), zm 9 27]) (.seq (.seq (.ops [zm 28 7, zm 29 9, zj 30 (.bin .add (.tmp 28) (.tmp 29)), zm 31 0, zj 32 (.len (.tmp 31)), zj 33 (.bin .gtr (.tmp 30) (.tmp 32)), zm 34 33, zg 35 34 false (.mv (.tmp 6)), zg 36 34 false (.len (.tmp 35)), zg 37 34 false (.bin .eql (.tmp 36) (zk 256)), zj 38 (.pick (.tmp 34) (.const (.one (.bool true))) (.tmp 37))]) (.cond (.tmp 38) (.seq (.ops [zj 2 (.newNil (.ints .i64 [])), zj 3 (.mv (zk 0)), zj 4 (.mv (zk 0))]) .ret) .skip)) (.seq (.ops [zm 39 0, zm 40 7, zm 41 7, zm 42 9, zj 43 (.bin .add (.tmp 41) (.tmp 42)), zj 44 (.cutR 1 (.tmp 39) (some (.tmp 40)) (some (.tmp 43))), zj 45 (.call 29 [(.tmp 44)]), zj 46 (.conv .i64 (.tmp 45)), zm 10 46]) (.seq (.ops [zm 47 7, zm 48 9, zj 49 (.bin .add (.tmp 47) (.tmp 48)), zm 7 49]) (.seq (.seq (.ops [zm 50 10, zm 51 8, zj 52 (.bin .gtr (.tmp 50) (.tmp 51))]) (.cond (.tmp 52) (.seq (.ops [zj 2 (.newNil (.ints .i64 [])), zj 3 (.mv (zk 0)), zj 4 (.mv (zk 0))]) .ret) .skip)) (.seq (.ops [zm 53 6, zm 54 10, zj 55 (.bslice (.ints .i64 []) [(.int .i64 0)] 1 [(0, (.tmp 54))]), zj 56 (.append (.ints .i64 []) 8 (.tmp 53) (.tmp 55)), zm 6 56]) (.ops [zm 57 8, zm 58 10, zj 59 (.bin .sub (.tmp 57) (.tmp 58)), zm 8 59])))))))))
def c74 : AF := ⟨[(2, none), (3, none), (4, none)],
  (.seq (.ops [zj 2 (.newNil (.ints .i64 [])), zj 3 (.mv (zk 0)), zj 4 (.mv (zk 0))]) (.seq (.seq (.ops [zm 11 0, zj 12 (.len (.tmp 11)), zj 13 (.bin .lss (.tmp 12) (zk 3))]) (.cond (.tmp 13) (.seq (.ops [zj 2 (.newNil (.ints .i64 [])), zj 3 (.mv (zk 0)), zj 4 (.mv (zk 0))]) .ret) .skip)) (.seq (.ops [zm 14 0, zj 15 (.cutR 1 (.tmp 14) none (some (zk 3))), zj 16 (.call 29 [(.tmp 15)]), zj 17 (.conv .i64 (.tmp 16)), zj 18 (.bin .add (zk 5) (.tmp 17)), zm 5 18]) (.seq (.seq (.ops [zm 19 5, zj 20 (.bin .gtr (.tmp 19) (zk 9))]) (.cond (.tmp 20) (.seq (.ops [zj 2 (.newNil (.ints .i64 [])), zj 3 (.mv (zk 0)), zj 4 (.mv (zk 0))]) .ret) .skip)) (.seq (.ops [zj 6 (.newNil (.ints .i64 []))]) (.seq (.ops [zj 7 (.mv (zk 3))]) (.seq (.ops [zm 21 5, zj 22 (.call 28 [(.tmp 21)]), zm 8 22]) (.seq (.block 0 (.loop [0, 5, 6, 7, 8] b74x0)) (.seq (.ops [zm 60 6, zm 61 5, zm 62 7, zm 2 60, zm 3 61, zm 4 62]) .ret)))))))))⟩
abbrev T74 : Nat → Callee := (upd (upd (upd none0 28 F28) 29 F29) 99 F99)
def F74 : Callee := evF T74 KK c74
theorem s74 : Sound Go.Proofs.Tryz.prog 74 F74 := fn_ok (upd_ok (upd_ok (upd_ok (none0_ok _) s28) s29) s99) mixed (by kernel_rfl)
def b75x0 : AC := (.seq (.seq (.ops [zm 18 6, zm 19 0, zj 20 (.len (.tmp 19)), zj 21 (.bin .lss (.tmp 18) (.tmp 20))]) (.cond (.tmp 21) .skip (.exit 0))) (.seq (.block 1 (.seq (.seq (.ops [zm 24 0, zm 25 6, zj 26 (.iadrR 1 (.tmp 24) (.tmp 25)), zj 27 (.load none (.tmp 26)), zj 28 (.bin .lss (.tmp 27) (zk 0)), zm 29 28, zg 30 29 false (.mv (.tmp 0)), zg 31 29 false (.mv (.tmp 6)), zg 32 29 false (.iadrR 1 (.tmp 30) (.tmp 31)), zg 33 29 false (.load none (.tmp 32)), zg 34 29 false (.bin .gtr (.tmp 33) (zk 1000)), zj 35 (.pick (.tmp 29) (.const (.one (.bool true))) (.tmp 34))]) (.cond (.tmp 35) (.seq (.ops [zj 4 (.mv (.const (.one (.bool false))))]) .ret) .skip)) (.ops [zm 36 5, zm 37 0, zm 38 6, zj 39 (.iadrR 1 (.tmp 37) (.tmp 38)), zj 40 (.load none (.tmp 39)), zj 41 (.bin .add (.tmp 36) (.tmp 40)), zm 5 41]))) (.ops [zm 22 6, zj 23 (.bin .add (.tmp 22) (zk 1)), zm 6 23])))
def c75 : AF := ⟨[(4, none)],
  (.seq (.ops [zj 4 (.mv (.const (.one (.bool false))))]) (.seq (.seq (.ops [zm 7 1, zj 8 (.bin .lss (.tmp 7) (zk 5)), zm 9 8, zg 10 9 false (.mv (.tmp 1)), zg 11 9 false (.bin .gtr (.tmp 10) (zk 9)), zj 12 (.pick (.tmp 9) (.const (.one (.bool true))) (.tmp 11)), zm 13 12, zg 14 13 false (.mv (.tmp 0)), zg 15 13 false (.len (.tmp 14)), zg 16 13 false (.bin .gtr (.tmp 15) (zk 256)), zj 17 (.pick (.tmp 13) (.const (.one (.bool true))) (.tmp 16))]) (.cond (.tmp 17) (.seq (.ops [zj 4 (.mv (.const (.one (.bool false))))]) .ret) .skip)) (.seq (.ops [zj 5 (.mv (zk 0))]) (.seq (.seq (.ops [zj 6 (.mv (zk 0))]) (.block 0 (.loop [0, 1, 5, 6] b75x0))) (.seq (.ops [zm 42 5, zm 43 1, zj 44 (.call 28 [(.tmp 43)]), zj 45 (.bin .eql (.tmp 42) (.tmp 44)), zm 4 45]) .ret)))))⟩
abbrev T75 : Nat → Callee := (upd none0 28 F28)
def F75 : Callee := evF T75 KK c75
theorem s75 : Sound Go.Proofs.Tryz.prog 75 F75 := fn_ok (upd_ok (none0_ok _) s28) mixed (by kernel_rfl)
def b100x0 : AC := (.seq (.seq (.ops [zm 23 4, zm 24 5, zj 25 (.iadrR 1 (.tmp 23) (.tmp 24)), zj 26 (.load none (.tmp 25)), zj 27 (.bin .eql (.tmp 26) (zk 0))]) (.cond (.tmp 27) .skip (.exit 0))) (.block 1 (.ops [zm 28 5, zj 29 (.bin .sub (.tmp 28) (zk 1)), zm 5 29])))
def c100 : AF := ⟨[(2, none), (3, none)],
  (.seq (.ops [zj 2 (.newNil (.ints .i64 [])), zj 3 (.mv (.const (.one (.bool false))))]) (.seq (.seq (.ops [zm 6 0, zj 7 (.len (.tmp 6)), zj 8 (.bin .eql (.tmp 7) (zk 0)), zm 9 8, zg 10 9 false (.mv (.tmp 0)), zg 11 9 false (.mv (.tmp 0)), zg 12 9 false (.len (.tmp 11)), zg 13 9 false (.bin .sub (.tmp 12) (zk 1)), zg 14 9 false (.iadrR 1 (.tmp 10) (.tmp 13)), zg 15 9 false (.load none (.tmp 14)), zg 16 9 false (.bin .eql (.tmp 15) (.const (.one (.int .u8 0)))), zj 17 (.pick (.tmp 9) (.const (.one (.bool true))) (.tmp 16))]) (.cond (.tmp 17) (.seq (.ops [zj 2 (.newNil (.ints .i64 [])), zj 3 (.mv (.const (.one (.bool false))))]) .ret) .skip)) (.seq (.ops [zm 18 0, zj 19 (.call 26 [(.tmp 18)]), zm 4 19]) (.seq (.ops [zm 20 4, zj 21 (.len (.tmp 20)), zj 22 (.bin .sub (.tmp 21) (zk 1)), zm 5 22]) (.seq (.block 0 (.loop [4, 5] b100x0)) (.seq (.ops [zm 30 4, zm 31 5, zj 32 (.cutR 1 (.tmp 30) none (some (.tmp 31))), zm 2 32, zj 3 (.mv (.const (.one (.bool true))))]) .ret))))))⟩
abbrev T100 : Nat → Callee := (upd none0 26 F26)
def F100 : Callee := evF T100 KK c100
theorem s100 : Sound Go.Proofs.Tryz.prog 100 F100 := fn_ok (upd_ok (none0_ok _) s26) mixed (by kernel_rfl)
def b76x0 : AC := (.seq (.seq (.ops [zm 52 14, zm 53 3, zj 54 (.bin .lss (.tmp 52) (.tmp 53))]) (.cond (.tmp 54) .skip (.exit 0))) (.seq (.block 1 (.seq (.ops [zm 57 0, zm 58 12, zj 59 (.iadrR 3 (.tmp 57) (.tmp 58)), zj 60 (.load (some 3) (.tmp 59)), zj 15 (.alloc [(.sv (.int .u8 0)), (.sv (.int .i64 0)), (.sv (.int .i64 0))]), ⟨none, none, (.store 3 (.tmp 15) (.tmp 60))⟩]) (.seq (.seq (.ops [zm 61 10, zj 62 (.len (.tmp 61)), zj 63 (.fadr 1 (.tmp 15)), zj 64 (.load none (.tmp 63)), zj 65 (.bin .lss (.tmp 62) (.tmp 64))]) (.cond (.tmp 65) (.seq (.ops [zj 8 (.newNil (.ints .u8 [])), zj 9 (.mv (.const (.one (.bool false))))]) .ret) .skip)) (.seq (.ops [zm 66 10, zj 67 (.len (.tmp 66)), zj 68 (.fadr 1 (.tmp 15)), zj 69 (.load none (.tmp 68)), zj 70 (.bin .sub (.tmp 67) (.tmp 69)), zm 16 70]) (.seq (.ops [zm 71 13, zj 72 (.fadr 0 (.tmp 15)), zj 73 (.load none (.tmp 72)), zj 74 (.bslice (.ints .u8 []) [(.int .u8 0)] 1 [(0, (.tmp 73))]), zj 75 (.append (.ints .u8 []) 1 (.tmp 71) (.tmp 74)), zm 13 75]) (.seq (.opsD [(zj 76 (.fadr 2 (.tmp 15)), false), (zj 77 (.load none (.tmp 76)), false), (zm 78 10, false), (zm 79 16, false), (zj 80 (.cutR 1 (.tmp 78) (some (.tmp 79)) none), false), (zj 81 (.call 29 [(.tmp 80)]), true), (zj 82 (.conv .i64 (.tmp 81)), false), (zj 83 (.bin .add (.tmp 77) (.tmp 82)), false), (zm 12 83, false)] [(1, [1])]) (.ops [zm 84 10, zm 85 16, zj 86 (.cutR 1 (.tmp 84) none (some (.tmp 85))), zm 10 86]))))))) (.ops [zm 55 14, zj 56 (.bin .add (.tmp 55) (zk 1)), zm 14 56])))
def c76 : AF := ⟨[(8, none), (9, none)],
  (.seq (.ops [zj 8 (.newNil (.ints .u8 [])), zj 9 (.mv (.const (.one (.bool false))))]) (.seq (.ops [zm 18 2, zj 19 (.call 100 [(.tmp 18)]), zm 17 19, zj 20 (.extract 0 (.tmp 17)), zj 21 (.extract 1 (.tmp 17)), zm 10 20, zm 11 21]) (.seq (.seq (.ops [zm 22 11, zj 23 (.un .not (.tmp 22)), zm 24 23, zg 25 24 false (.mv (.tmp 3)), zg 26 24 false (.bin .lss (.tmp 25) (zk 0)), zj 27 (.pick (.tmp 24) (.const (.one (.bool true))) (.tmp 26)), zm 28 27, zg 29 28 false (.mv (.tmp 3)), zg 30 28 false (.bin .gtr (.tmp 29) (zk 1048576)), zj 31 (.pick (.tmp 28) (.const (.one (.bool true))) (.tmp 30)), zm 32 31, zg 33 32 false (.mv (.tmp 10)), zg 34 32 false (.len (.tmp 33)), zg 35 32 false (.mv (.tmp 1)), zg 36 32 false (.bin .lss (.tmp 34) (.tmp 35)), zj 37 (.pick (.tmp 32) (.const (.one (.bool true))) (.tmp 36))]) (.cond (.tmp 37) (.seq (.ops [zj 8 (.newNil (.ints .u8 [])), zj 9 (.mv (.const (.one (.bool false))))]) .ret) .skip)) (.seq (.ops [zm 38 10, zm 39 10, zj 40 (.len (.tmp 39)), zm 41 1, zj 42 (.bin .sub (.tmp 40) (.tmp 41)), zj 43 (.cutR 1 (.tmp 38) (some (.tmp 42)) none), zj 44 (.call 29 [(.tmp 43)]), zj 45 (.conv .i64 (.tmp 44)), zm 12 45]) (.seq (.ops [zm 46 10, zm 47 10, zj 48 (.len (.tmp 47)), zm 49 1, zj 50 (.bin .sub (.tmp 48) (.tmp 49)), zj 51 (.cutR 1 (.tmp 46) none (some (.tmp 50))), zm 10 51]) (.seq (.ops [zj 13 (.newNil (.ints .u8 []))]) (.seq (.seq (.ops [zj 14 (.mv (zk 0))]) (.block 0 (.loop [0, 3, 10, 12, 13, 14] b76x0))) (.seq (.seq (.ops [zm 87 12, zj 88 (.bin .neq (.tmp 87) (zk 0)), zm 89 88, zg 90 89 false (.mv (.tmp 10)), zg 91 89 false (.len (.tmp 90)), zg 92 89 false (.bin .gtr (.tmp 91) (zk 0)), zj 93 (.pick (.tmp 89) (.const (.one (.bool true))) (.tmp 92))]) (.cond (.tmp 93) (.seq (.ops [zj 8 (.newNil (.ints .u8 [])), zj 9 (.mv (.const (.one (.bool false))))]) .ret) .skip)) (.seq (.ops [zm 94 13, zm 8 94, zj 9 (.mv (.const (.one (.bool true))))]) .ret)))))))))⟩
abbrev T76 : Nat → Callee := (upd (upd none0 29 F29) 100 F100)
def F76 : Callee := evF T76 KK c76
theorem s76 : Sound Go.Proofs.Tryz.prog 76 F76 := fn_ok (upd_ok (upd_ok (none0_ok _) s29) s100) mixed (by kernel_rfl)
def b77x0 : AC := (.seq (.seq (.ops [zm 23 9, zm 24 0, zm 25 8, zj 26 (.iadrR 1 (.tmp 24) (.tmp 25)), zj 27 (.load none (.tmp 26)), zj 28 (.bin .lss (.tmp 23) (.tmp 27))]) (.cond (.tmp 28) .skip (.exit 2))) (.seq (.block 3 (.seq (.ops [zm 31 6, zm 32 7, zm 33 8, zj 34 (.conv .u8 (.tmp 33)), zj 35 (.iadrR 3 (.tmp 31) (.tmp 32)), zj 36 (.fadr 0 (.tmp 35)), ⟨none, none, (.store 1 (.tmp 36) (.tmp 34))⟩]) (.ops [zm 37 7, zm 38 5, zj 39 (.bin .quo (.tmp 38) (zk 2)), zj 40 (.bin .add (.tmp 37) (.tmp 39)), zm 41 5, zj 42 (.bin .quo (.tmp 41) (zk 8)), zj 43 (.bin .add (.tmp 40) (.tmp 42)), zj 44 (.bin .add (.tmp 43) (zk 3)), zm 45 5, zj 46 (.bin .rem (.tmp 44) (.tmp 45)), zm 7 46]))) (.ops [zm 29 9, zj 30 (.bin .add (.tmp 29) (zk 1)), zm 9 30])))
def b77x1 : AC := (.seq (.seq (.ops [zm 17 8, zm 18 0, zj 19 (.len (.tmp 18)), zj 20 (.bin .lss (.tmp 17) (.tmp 19))]) (.cond (.tmp 20) .skip (.exit 0))) (.seq (.block 1 (.seq (.ops [zj 9 (.mv (zk 0))]) (.block 2 (.loop [0, 1, 5, 6, 7, 8, 9] b77x0)))) (.ops [zm 21 8, zj 22 (.bin .add (.tmp 21) (zk 1)), zm 8 22])))
def b77x2 : AC := (.seq (.seq (.ops [zm 57 12, zm 58 5, zj 59 (.bin .lss (.tmp 57) (.tmp 58)), zm 60 59, zg 61 60 true (.mv (.tmp 0)), zg 62 60 true (.mv (.tmp 10)), zg 63 60 true (.iadrR 1 (.tmp 61) (.tmp 62)), zg 64 60 true (.load none (.tmp 63)), zg 65 60 true (.bin .gtr (.tmp 64) (zk 0)), zj 66 (.pick (.tmp 60) (.tmp 65) (.const (.one (.bool false))))]) (.cond (.tmp 66) .skip (.exit 6))) (.seq (.block 7 (.seq (.seq (.ops [zm 69 6, zm 70 12, zj 71 (.iadrR 3 (.tmp 69) (.tmp 70)), zj 72 (.fadr 0 (.tmp 71)), zj 73 (.load none (.tmp 72)), zj 74 (.conv .i64 (.tmp 73)), zm 75 10, zj 76 (.bin .neq (.tmp 74) (.tmp 75))]) (.cond (.tmp 76) (.exit 7) .skip)) (.seq (.ops [zm 77 6, zm 78 12, zm 79 1, zm 80 11, zj 81 (.conv .u32 (.tmp 80)), zj 82 (.call 99 [(.tmp 81)]), zj 83 (.bin .sub (.tmp 79) (.tmp 82)), zj 84 (.bin .add (.tmp 83) (zk 1)), zj 85 (.iadrR 3 (.tmp 77) (.tmp 78)), zj 86 (.fadr 1 (.tmp 85)), ⟨none, none, (.store 1 (.tmp 86) (.tmp 84))⟩]) (.seq (.ops [zm 87 6, zm 88 12, zm 89 11, zm 90 6, zm 91 12, zj 92 (.iadrR 3 (.tmp 90) (.tmp 91)), zj 93 (.fadr 1 (.tmp 92)), zj 94 (.load none (.tmp 93)), zj 95 (.call 28 [(.tmp 94)]), zj 96 (.bin .mul (.tmp 89) (.tmp 95)), zm 97 5, zj 98 (.bin .sub (.tmp 96) (.tmp 97)), zj 99 (.iadrR 3 (.tmp 87) (.tmp 88)), zj 100 (.fadr 2 (.tmp 99)), ⟨none, none, (.store 1 (.tmp 100) (.tmp 98))⟩]) (.ops [zm 101 11, zj 102 (.bin .add (.tmp 101) (zk 1)), zm 11 102]))))) (.ops [zm 67 12, zj 68 (.bin .add (.tmp 67) (zk 1)), zm 12 68])))
def b77x3 : AC := (.seq (.seq (.ops [zm 47 10, zm 48 0, zj 49 (.len (.tmp 48)), zj 50 (.bin .lss (.tmp 47) (.tmp 49))]) (.cond (.tmp 50) .skip (.exit 4))) (.seq (.block 5 (.seq (.ops [zm 53 0, zm 54 10, zj 55 (.iadrR 1 (.tmp 53) (.tmp 54)), zj 56 (.load none (.tmp 55)), zm 11 56]) (.seq (.ops [zj 12 (.mv (zk 0))]) (.block 6 (.loop [0, 1, 5, 6, 10, 11, 12] b77x2))))) (.ops [zm 51 10, zj 52 (.bin .add (.tmp 51) (zk 1)), zm 10 52])))
def c77 : AF := ⟨[(4, none)],
  (.seq (.ops [zj 4 (.newNil (.recs 3 []))]) (.seq (.ops [zm 13 1, zj 14 (.call 28 [(.tmp 13)]), zm 5 14]) (.seq (.ops [zm 15 5, zj 16 (.mks (.recs 3 []) [(.int .u8 0), (.int .i64 0), (.int .i64 0)] 24 (.tmp 15) (.tmp 15)), zm 6 16]) (.seq (.ops [zj 7 (.mv (zk 0))]) (.seq (.seq (.ops [zj 8 (.mv (zk 0))]) (.block 0 (.loop [0, 1, 5, 6, 7, 8] b77x1))) (.seq (.seq (.ops [zj 10 (.mv (zk 0))]) (.block 4 (.loop [0, 1, 5, 6, 10] b77x3))) (.seq (.ops [zm 103 6, zm 4 103]) .ret)))))))⟩
abbrev T77 : Nat → Callee := (upd (upd none0 28 F28) 99 F99)
def F77 : Callee := evF T77 KK c77
theorem s77 : Sound Go.Proofs.Tryz.prog 77 F77 := fn_ok (upd_ok (upd_ok (none0_ok _) s28) s99) mixed (by kernel_rfl)
def c49 : AF := ⟨[(4, none), (5, none)],
  (.seq (.ops [zj 4 (.newNil (.ints .u8 [])), zj 5 (.mv (zk 0))]) (.seq (.ops [zm 17 0, zj 18 (.call 25 [(.tmp 17)]), zm 16 18, zj 19 (.extract 0 (.tmp 16)), zj 20 (.extract 1 (.tmp 16)), zm 6 19, zm 7 20]) (.seq (.seq (.ops [zm 21 7, zj 22 (.bin .eql (.tmp 21) (zk 0))]) (.cond (.tmp 22) (.seq (.ops [zj 4 (.newNil (.ints .u8 [])), zj 5 (.mv (zk 0))]) .ret) .skip)) (.seq (.ops [zm 24 0, zm 25 7, zj 26 (.cutS (.tmp 24) (some (.tmp 25)) none), zj 27 (.call 25 [(.tmp 26)]), zm 23 27, zj 28 (.extract 0 (.tmp 23)), zj 29 (.extract 1 (.tmp 23)), zm 8 28, zm 9 29]) (.seq (.seq (.ops [zm 30 9, zj 31 (.bin .eql (.tmp 30) (zk 0))]) (.cond (.tmp 31) (.seq (.ops [zj 4 (.newNil (.ints .u8 [])), zj 5 (.mv (zk 0))]) .ret) .skip)) (.seq (.ops [zm 32 6, zj 33 (.s2b (.tmp 32)), zj 34 (.call 26 [(.tmp 33)]), zm 10 34]) (.seq (.ops [zm 36 10, zj 37 (.call 74 [(.tmp 36)]), zm 35 37, zj 38 (.extract 0 (.tmp 35)), zj 39 (.extract 1 (.tmp 35)), zj 40 (.extract 2 (.tmp 35)), zm 11 38, zm 12 39, zm 13 40]) (.seq (.seq (.ops [zm 41 13, zj 42 (.bin .eql (.tmp 41) (zk 0)), zm 43 42, zg 44 43 false (.mv (.tmp 10)), zg 45 43 false (.mv (.tmp 13)), zg 46 43 false (.cutR 1 (.tmp 44) (some (.tmp 45)) none), zg 47 43 false (.call 32 [(.tmp 46)]), zg 48 43 false (.un .not (.tmp 47)), zj 49 (.pick (.tmp 43) (.const (.one (.bool true))) (.tmp 48)), zm 50 49, zg 51 50 false (.mv (.tmp 11)), zg 52 50 false (.mv (.tmp 12)), zg 53 50 false (.call 75 [(.tmp 51), (.tmp 52)]), zg 54 50 false (.un .not (.tmp 53)), zj 55 (.pick (.tmp 50) (.const (.one (.bool true))) (.tmp 54))]) (.cond (.tmp 55) (.seq (.ops [zj 4 (.newNil (.ints .u8 [])), zj 5 (.mv (zk 0))]) .ret) .skip)) (.seq (.ops [zm 57 11, zm 58 12, zj 59 (.call 77 [(.tmp 57), (.tmp 58)]), zm 60 12, zm 61 8, zj 62 (.s2b (.tmp 61)), zm 63 1, zj 64 (.call 76 [(.tmp 59), (.tmp 60), (.tmp 62), (.tmp 63)]), zm 56 64, zj 65 (.extract 0 (.tmp 56)), zj 66 (.extract 1 (.tmp 56)), zm 14 65, zm 15 66]) (.seq (.seq (.ops [zm 67 15, zj 68 (.un .not (.tmp 67))]) (.cond (.tmp 68) (.seq (.ops [zj 4 (.newNil (.ints .u8 [])), zj 5 (.mv (zk 0))]) .ret) .skip)) (.seq (.ops [zm 69 14, zm 70 7, zm 71 9, zj 72 (.bin .add (.tmp 70) (.tmp 71)), zm 4 69, zm 5 72]) .ret)))))))))))⟩
abbrev T49 : Nat → Callee := (upd (upd (upd (upd (upd (upd (upd none0 25 F25) 26 F26) 32 F32) 74 F74) 75 F75) 76 F76) 77 F77)
def F49 : Callee := evF T49 0 c49
theorem s49 : Sound Go.Proofs.Tryz.prog 49 F49 := fn_ok (upd_ok (upd_ok (upd_ok (upd_ok (upd_ok (upd_ok (upd_ok (none0_ok _) s25) s26) s32) s74) s75) s76) s77) mixed (by kernel_rfl)
def b24x0 : AC := (.seq (.seq (.ops [zm 48 8, zm 49 1, zj 50 (.bin .lss (.tmp 48) (.tmp 49))]) (.cond (.tmp 50) .skip (.exit 1))) (.seq (.block 2 (.ops [zm 53 6, zm 54 0, zj 55 (.idxS (.tmp 54) (zk 1)), zj 56 (.bslice (.ints .u8 []) [(.int .u8 0)] 1 [(0, (.tmp 55))]), zj 57 (.append (.ints .u8 []) 1 (.tmp 53) (.tmp 56)), zm 6 57])) (.ops [zm 51 8, zj 52 (.bin .add (.tmp 51) (zk 1)), zm 8 52])))
def b24x1 : AC := (.seq (.seq (.ops [zm 72 11, zm 73 6, zj 74 (.len (.tmp 73)), zj 75 (.bin .lss (.tmp 72) (.tmp 74))]) (.cond (.tmp 75) .skip (.exit 3))) (.seq (.block 4 (.seq (.ops [zm 78 6, zm 79 11, zj 80 (.iadrR 1 (.tmp 78) (.tmp 79)), zj 81 (.load none (.tmp 80)), zj 82 (.bin .geq (.tmp 81) (.const (.one (.int .u8 28))))]) (.cond (.tmp 82) (.seq (.ops [zj 4 (.newNil (.ints .u8 [])), zj 5 (.mv (zk 0))]) .ret) .skip))) (.ops [zm 76 11, zj 77 (.bin .add (.tmp 76) (zk 1)), zm 11 77])))
def c24 : AF := ⟨[(4, none), (5, none)],
  (.seq (.ops [zj 4 (.newNil (.ints .u8 [])), zj 5 (.mv (zk 0))]) (.seq (.seq (.ops [zm 12 0, ⟨(some 13), none, (.bin .eql (.tmp 12) (.const (.one (.str ⟨#[]⟩))))⟩, zm 14 13, zg 15 14 false (.mv (.tmp 1)), zg 16 14 false (.bin .lss (.tmp 15) (zk 0)), zj 17 (.pick (.tmp 14) (.const (.one (.bool true))) (.tmp 16)), zm 18 17, zg 19 18 false (.mv (.tmp 1)), zg 20 18 false (.bin .gtr (.tmp 19) (zk 4096)), zj 21 (.pick (.tmp 18) (.const (.one (.bool true))) (.tmp 20))]) (.cond (.tmp 21) (.seq (.ops [zj 4 (.newNil (.ints .u8 [])), zj 5 (.mv (zk 0))]) .ret) .skip)) (.seq (.ops [zj 6 (.newNil (.ints .u8 []))]) (.seq (.ops [zj 7 (.mv (zk 0))]) (.seq (.seq (.ops [zm 22 0, zj 23 (.idxS (.tmp 22) (zk 0))]) (.block 0 (.seq (.ops [zj 25 (.bin .eql (.tmp 23) (.const (.one (.int .u8 0)))), zm 24 25]) (.cond (.tmp 24) (.seq (.seq (.ops [zm 26 1, zm 27 0, zj 28 (.lenS (.tmp 27)), zj 29 (.bin .sub (.tmp 28) (zk 1)), zj 30 (.bin .gtr (.tmp 26) (.tmp 29))]) (.cond (.tmp 30) (.seq (.ops [zj 4 (.newNil (.ints .u8 [])), zj 5 (.mv (zk 0))]) .ret) .skip)) (.seq (.ops [zm 31 0, zm 32 1, zj 33 (.bin .add (zk 1) (.tmp 32)), zj 34 (.cutS (.tmp 31) (some (zk 1)) (some (.tmp 33))), zj 35 (.s2b (.tmp 34)), zm 6 35]) (.ops [zm 36 1, zj 37 (.bin .add (zk 1) (.tmp 36)), zm 7 37]))) (.seq (.ops [zj 39 (.bin .eql (.tmp 23) (.const (.one (.int .u8 1)))), zm 38 39]) (.cond (.tmp 38) (.seq (.seq (.ops [zm 40 0, zj 41 (.lenS (.tmp 40)), zj 42 (.bin .lss (.tmp 41) (zk 2)), zm 43 42, zg 44 43 false (.mv (.tmp 0)), zg 45 43 false (.idxS (.tmp 44) (zk 1)), zg 46 43 false (.bin .geq (.tmp 45) (.const (.one (.int .u8 28)))), zj 47 (.pick (.tmp 43) (.const (.one (.bool true))) (.tmp 46))]) (.cond (.tmp 47) (.seq (.ops [zj 4 (.newNil (.ints .u8 [])), zj 5 (.mv (zk 0))]) .ret) .skip)) (.seq (.seq (.ops [zj 8 (.mv (zk 0))]) (.block 1 (.loop [0, 1, 6, 8] b24x0))) (.ops [zj 7 (.mv (zk 2))]))) (.seq (.ops [zj 59 (.bin .eql (.tmp 23) (.const (.one (.int .u8 2)))), zm 58 59]) (.cond (.tmp 58) (.seq (.ops [zm 61 0, zj 62 (.cutS (.tmp 61) (some (zk 1)) none), zm 63 1, zj 64 (.call 49 [(.tmp 62), (.tmp 63)]), zm 60 64, zj 65 (.extract 0 (.tmp 60)), zj 66 (.extract 1 (.tmp 60)), zm 9 65, zm 10 66]) (.seq (.seq (.ops [zm 67 10, zj 68 (.bin .eql (.tmp 67) (zk 0))]) (.cond (.tmp 68) (.seq (.ops [zj 4 (.newNil (.ints .u8 [])), zj 5 (.mv (zk 0))]) .ret) .skip)) (.seq (.ops [zm 69 9, zm 6 69]) (.ops [zm 70 10, zj 71 (.bin .add (zk 1) (.tmp 70)), zm 7 71])))) .skip)))))))) (.seq (.seq (.ops [zj 11 (.mv (zk 0))]) (.block 3 (.loop [6, 7, 11] b24x1))) (.seq (.ops [zm 83 6, zm 84 7, zm 4 83, zm 5 84]) .ret)))))))⟩
abbrev T24 : Nat → Callee := (upd none0 49 F49)
def F24 : Callee := evF T24 KK c24
theorem s24 : Sound Go.Proofs.Tryz.prog 24 F24 := fn_ok (upd_ok (none0_ok _) s49) mixed (by kernel_rfl)
def c27 : AF := ⟨[(2, none)],
  (.seq (.ops [zj 2 (.mv (zk 0))]) (.seq (.seq (.ops [zm 3 0, zj 4 (.bin .lss (.tmp 3) (zk 16))]) (.cond (.tmp 4) (.seq (.ops [zj 2 (.mv (zk 0))]) .ret) .skip)) (.seq (.seq (.ops [zm 5 0, zj 6 (.bin .gtr (.tmp 5) (zk 27))]) (.cond (.tmp 6) (.seq (.ops [zj 2 (.mv (.const (.one (.int .i64 (-1)))))]) .ret) .skip)) (.seq (.ops [zm 7 0, zj 8 (.bin .sub (.tmp 7) (zk 12)), zm 2 8]) .ret))))⟩
abbrev T27 : Nat → Callee := none0
def F27 : Callee := evF T27 0 c27
theorem s27 : Sound Go.Proofs.Tryz.prog 27 F27 := fn_ok (none0_ok _) mixed (by kernel_rfl)
def b51x0 : AC := (.seq (.seq (.ops [zm 12 5, zj 13 (.bin .lss (.tmp 12) (zk 3))]) (.cond (.tmp 13) .skip (.exit 0))) (.seq (.block 1 (.seq (.ops [zm 16 5, zj 17 (.iadrA 3 1 (.tmp 2) (.tmp 16)), zj 18 (.load none (.tmp 17)), zm 19 1, zj 20 (.bin .eql (.tmp 18) (.tmp 19))]) (.cond (.tmp 20) (.seq (.ops [zm 21 5, zm 4 21]) .ret) .skip))) (.ops [zm 14 5, zj 15 (.bin .add (.tmp 14) (zk 1)), zm 5 15])))
def c51 : AF := ⟨[(4, none)],
  (.seq (.ops [zj 2 (.box (.tmp 0)), zj 4 (.mv (zk 0))]) (.seq (.seq (.ops [zm 6 1, zj 7 (.bin .lss (.tmp 6) (zk 1)), zm 8 7, zg 9 8 false (.mv (.tmp 1)), zg 10 8 false (.bin .gtr (.tmp 9) (zk 65533)), zj 11 (.pick (.tmp 8) (.const (.one (.bool true))) (.tmp 10))]) (.cond (.tmp 11) (.seq (.ops [zj 4 (.mv (.const (.one (.int .i64 (-1)))))]) .ret) .skip)) (.seq (.seq (.ops [zj 5 (.mv (zk 0))]) (.block 0 (.loop [1, 2, 5] b51x0))) (.seq (.ops [zm 22 1, zj 23 (.bin .add (.tmp 22) (zk 2)), zm 4 23]) .ret))))⟩
abbrev T51 : Nat → Callee := none0
def F51 : Callee := evF T51 KK c51
theorem s51 : Sound Go.Proofs.Tryz.prog 51 F51 := fn_ok (none0_ok _) mixed (by kernel_rfl)
def c30 : AF := ⟨[(4, none)],
  (.seq (.ops [zj 2 (.box (.tmp 0)), zj 4 (.mv (zk 0))]) (.seq (.ops [zm 6 1, zj 7 (.bin .sub (.tmp 6) (zk 2)), zm 5 7]) (.seq (.seq (.ops [zm 8 1, zj 9 (.bin .lss (.tmp 8) (zk 3))]) (.cond (.tmp 9) (.ops [zm 10 1, zj 11 (.iadrA 3 1 (.tmp 2) (.tmp 10)), zj 12 (.load none (.tmp 11)), zm 5 12]) .skip)) (.seq (.seq (.ops [zj 13 (.load (some 3) (.tmp 2)), zm 14 5, zj 15 (.call 51 [(.tmp 13), (.tmp 14)]), zm 16 1, zj 17 (.bin .neq (.tmp 15) (.tmp 16))]) (.cond (.tmp 17) (.seq (.ops [zj 4 (.mv (zk 0))]) .ret) .skip)) (.seq (.ops [zm 18 5, zm 4 18]) .ret)))))⟩
abbrev T30 : Nat → Callee := (upd none0 51 F51)
def F30 : Callee := evF T30 0 c30
theorem s30 : Sound Go.Proofs.Tryz.prog 30 F30 := fn_ok (upd_ok (none0_ok _) s51) mixed (by kernel_rfl)
def b31x0 : AC := (.seq (.seq (.ops [zm 11 8, zj 12 (.bin .lss (.tmp 11) (zk 3)), zm 13 12, zg 14 13 true (.mv (.tmp 6)), zg 15 13 true (.bin .lss (.tmp 14) (zk 3)), zj 16 (.pick (.tmp 13) (.tmp 15) (.const (.one (.bool false))))]) (.cond (.tmp 16) .skip (.exit 0))) (.seq (.block 1 (.seq (.seq (.ops [zm 19 8, zj 20 (.iadrA 3 1 (.tmp 2) (.tmp 19)), zj 21 (.load none (.tmp 20)), zm 22 1, zj 23 (.bin .eql (.tmp 21) (.tmp 22)), zm 24 23, zg 25 24 true (.mv (.tmp 7)), zg 26 24 true (.un .not (.tmp 25)), zj 27 (.pick (.tmp 24) (.tmp 26) (.const (.one (.bool false))))]) (.cond (.tmp 27) (.seq (.ops [zj 7 (.mv (.const (.one (.bool true))))]) (.exit 1)) .skip)) (.seq (.ops [zm 28 6, zm 29 8, zj 30 (.iadrA 3 1 (.tmp 2) (.tmp 29)), zj 31 (.load none (.tmp 30)), zj 32 (.iadrA 3 1 (.tmp 5) (.tmp 28)), ⟨none, none, (.store 1 (.tmp 32) (.tmp 31))⟩]) (.ops [zm 33 6, zj 34 (.bin .add (.tmp 33) (zk 1)), zm 6 34])))) (.ops [zm 17 8, zj 18 (.bin .add (.tmp 17) (zk 1)), zm 8 18])))
def c31 : AF := ⟨[(4, (some (some 3)))],
  (.seq (.ops [zj 2 (.box (.tmp 0)), zj 4 (.alloc [(.sv (.int .i64 0)), (.sv (.int .i64 0)), (.sv (.int .i64 0))])]) (.seq (.ops [zm 9 1, zj 10 (.build [(.sv (.int .i64 0)), (.sv (.int .i64 0)), (.sv (.int .i64 0))] [((0, 1), (.tmp 9))]), zj 5 (.alloc [(.sv (.int .i64 0)), (.sv (.int .i64 0)), (.sv (.int .i64 0))]), ⟨none, none, (.store 3 (.tmp 5) (.tmp 10))⟩]) (.seq (.ops [zj 6 (.mv (zk 1))]) (.seq (.ops [zj 7 (.mv (.const (.one (.bool false))))]) (.seq (.seq (.ops [zj 8 (.mv (zk 0))]) (.block 0 (.loop [1, 2, 4, 5, 6, 7, 8] b31x0))) (.seq (.ops [zj 35 (.load (some 3) (.tmp 5)), ⟨none, none, (.store 3 (.tmp 4) (.tmp 35))⟩]) .ret))))))⟩
abbrev T31 : Nat → Callee := none0
def F31 : Callee := evF T31 KK c31
theorem s31 : Sound Go.Proofs.Tryz.prog 31 F31 := fn_ok (none0_ok _) mixed (by kernel_rfl)
def b8x0 : AC := (.seq (.seq (.ops [zm 50 10, zj 51 (.bin .lss (.tmp 50) (zk 3))]) (.cond (.tmp 51) .skip (.exit 0))) (.seq (.block 1 (.seq (.ops [zm 55 0, zm 56 7, zj 57 (.cutS (.tmp 55) (some (.tmp 56)) none), zm 58 8, zj 59 (.call 24 [(.tmp 57), (.tmp 58)]), zm 54 59, zj 60 (.extract 0 (.tmp 54)), zj 61 (.extract 1 (.tmp 54)), zm 11 60, zm 12 61]) (.seq (.seq (.ops [zm 62 12, zj 63 (.bin .eql (.tmp 62) (zk 0))]) (.cond (.tmp 63) (.seq (.ops [zj 4 (.newNil (.recs 3 [])), zj 5 (.mv (zk 0))]) .ret) .skip)) (.seq (.ops [zm 64 10, zm 65 11, zj 66 (.iadrA 3 1 (.tmp 9) (.tmp 64)), ⟨none, none, (.store 1 (.tmp 66) (.tmp 65))⟩]) (.ops [zm 67 7, zm 68 12, zj 69 (.bin .add (.tmp 67) (.tmp 68)), zm 7 69]))))) (.ops [zm 52 10, zj 53 (.bin .add (.tmp 52) (zk 1)), zm 10 53])))
def b8x1 : AC := (.seq (.seq (.ops [zm 88 20, zj 89 (.bin .lss (.tmp 88) (zk 3))]) (.cond (.tmp 89) .skip (.exit 4))) (.seq (.block 5 (.seq (.ops [zm 92 20, zj 93 (.iadrA 3 1 (.tmp 9) (.tmp 92)), zj 94 (.load none (.tmp 93)), zm 95 18, zj 96 (.iadrR 1 (.tmp 94) (.tmp 95)), zj 97 (.load none (.tmp 96)), zj 98 (.conv .i64 (.tmp 97)), zm 21 98]) (.seq (.ops [zm 99 21, zj 100 (.call 27 [(.tmp 99)]), zm 22 100]) (.seq (.seq (.ops [zm 101 22, zm 102 15, zj 103 (.len (.tmp 102)), zj 104 (.bin .gtr (.tmp 101) (.tmp 103))]) (.cond (.tmp 104) (.seq (.ops [zj 4 (.newNil (.recs 3 [])), zj 5 (.mv (zk 0))]) .ret) .skip)) (.seq (.ops [zm 105 20, zm 106 21, zj 107 (.iadrA 3 1 (.tmp 19) (.tmp 105)), ⟨none, none, (.store 1 (.tmp 107) (.tmp 106))⟩]) (.seq (.seq (.ops [zm 108 21, zj 109 (.bin .geq (.tmp 108) (zk 16))]) (.cond (.tmp 109) (.opsD [(zm 110 20, false), (zm 111 22, false), (zj 112 (.call 28 [(.tmp 111)]), true), (zm 113 15, false), (zm 114 22, false), (zj 115 (.cutR 1 (.tmp 113) none (some (.tmp 114))), false), (zj 116 (.call 29 [(.tmp 115)]), true), (zj 117 (.conv .i64 (.tmp 116)), false), (zj 118 (.bin .add (.tmp 112) (.tmp 117)), false), (zj 119 (.iadrA 3 1 (.tmp 19) (.tmp 110)), false), (⟨none, none, (.store 1 (.tmp 119) (.tmp 118))⟩, true)] [(5, [0])]) .skip)) (.ops [zm 120 15, zm 121 22, zj 122 (.cutR 1 (.tmp 120) (some (.tmp 121)) none), zm 15 122]))))))) (.ops [zm 90 20, zj 91 (.bin .add (.tmp 90) (zk 1)), zm 20 91])))
def b8x2 : AC := (.seq (.seq (.ops [zm 83 18, zm 84 8, zj 85 (.bin .lss (.tmp 83) (.tmp 84))]) (.cond (.tmp 85) .skip (.exit 2))) (.seq (.block 3 (.seq (.ops [zj 19 (.alloc [(.sv (.int .i64 0)), (.sv (.int .i64 0)), (.sv (.int .i64 0))])]) (.seq (.seq (.ops [zj 20 (.mv (zk 0))]) (.block 4 (.loop [7, 8, 9, 14, 15, 16, 17, 18, 19, 20] b8x1))) (.seq (.ops [zj 123 (.load (some 3) (.tmp 16)), zj 124 (.iadrA 3 1 (.tmp 19) (zk 2)), zj 125 (.load none (.tmp 124)), zj 126 (.call 30 [(.tmp 123), (.tmp 125)]), zm 23 126]) (.seq (.seq (.ops [zm 127 23, zj 128 (.bin .eql (.tmp 127) (zk 0))]) (.cond (.tmp 128) (.seq (.ops [zj 4 (.newNil (.recs 3 [])), zj 5 (.mv (zk 0))]) .ret) .skip)) (.seq (.ops [zj 129 (.load (some 3) (.tmp 16)), zm 130 23, zj 131 (.call 31 [(.tmp 129), (.tmp 130)]), ⟨none, none, (.store 3 (.tmp 16) (.tmp 131))⟩]) (.ops [zm 132 17, zj 133 (.iadrA 3 1 (.tmp 19) (zk 0)), zj 134 (.load none (.tmp 133)), zj 135 (.iadrA 3 1 (.tmp 19) (zk 1)), zj 136 (.load none (.tmp 135)), zj 137 (.bin .add (.tmp 136) (zk 3)), zm 138 23, zj 139 (.build [(.sv (.int .i64 0)), (.sv (.int .i64 0)), (.sv (.int .i64 0))] [((0, 1), (.tmp 134)), ((1, 1), (.tmp 137)), ((2, 1), (.tmp 138))]), zj 140 (.bslice (.recs 3 []) [(.int .i64 0), (.int .i64 0), (.int .i64 0)] 1 [(0, (.tmp 139))]), zj 141 (.append (.recs 3 []) 24 (.tmp 132) (.tmp 140)), zm 17 141]))))))) (.ops [zm 86 18, zj 87 (.bin .add (.tmp 86) (zk 1)), zm 18 87])))
def c8 : AF := ⟨[(4, none), (5, none)],
  (.seq (.ops [zj 4 (.newNil (.recs 3 [])), zj 5 (.mv (zk 0))]) (.seq (.ops [zm 25 0, zj 26 (.call 23 [(.tmp 25)]), zm 24 26, zj 27 (.extract 0 (.tmp 24)), zj 28 (.extract 1 (.tmp 24)), zm 6 27, zm 7 28]) (.seq (.seq (.ops [zm 29 7, zj 30 (.bin .eql (.tmp 29) (zk 0)), zm 31 30, zg 32 31 false (.mv (.tmp 1)), zg 33 31 false (.bin .lss (.tmp 32) (zk 0)), zj 34 (.pick (.tmp 31) (.const (.one (.bool true))) (.tmp 33)), zm 35 34, zg 36 35 false (.mv (.tmp 6)), zg 37 35 false (.mv (.tmp 1)), zg 38 35 false (.conv .u64 (.tmp 37)), zg 39 35 false (.bin .gtr (.tmp 36) (.tmp 38)), zj 40 (.pick (.tmp 35) (.const (.one (.bool true))) (.tmp 39)), zm 41 40, zg 42 41 false (.mv (.tmp 6)), zg 43 41 false (.bin .gtr (.tmp 42) (.const (.one (.int .u64 1000)))), zj 44 (.pick (.tmp 41) (.const (.one (.bool true))) (.tmp 43))]) (.cond (.tmp 44) (.seq (.ops [zj 4 (.newNil (.recs 3 [])), zj 5 (.mv (zk 0))]) .ret) .skip)) (.seq (.ops [zm 45 6, zj 46 (.conv .i64 (.tmp 45)), zm 8 46]) (.seq (.seq (.ops [zm 47 8, zj 48 (.bin .eql (.tmp 47) (zk 0))]) (.cond (.tmp 48) (.seq (.ops [zm 49 7, zj 4 (.newNil (.recs 3 [])), zm 5 49]) .ret) .skip)) (.seq (.ops [zj 9 (.alloc [(.nil (.ints .u8 [])), (.nil (.ints .u8 [])), (.nil (.ints .u8 []))])]) (.seq (.seq (.ops [zj 10 (.mv (zk 0))]) (.block 0 (.loop [0, 7, 8, 9, 10] b8x0))) (.seq (.ops [zm 71 0, zm 72 7, zj 73 (.cutS (.tmp 71) (some (.tmp 72)) none), zj 74 (.call 25 [(.tmp 73)]), zm 70 74, zj 75 (.extract 0 (.tmp 70)), zj 76 (.extract 1 (.tmp 70)), zm 13 75, zm 14 76]) (.seq (.seq (.ops [zm 77 14, zj 78 (.bin .eql (.tmp 77) (zk 0))]) (.cond (.tmp 78) (.seq (.ops [zj 4 (.newNil (.recs 3 [])), zj 5 (.mv (zk 0))]) .ret) .skip)) (.seq (.ops [zm 79 13, zj 80 (.s2b (.tmp 79)), zj 81 (.call 26 [(.tmp 80)]), zm 15 81]) (.seq (.ops [zj 82 (.build [(.sv (.int .i64 0)), (.sv (.int .i64 0)), (.sv (.int .i64 0))] [((0, 1), (zk 1)), ((1, 1), (zk 2)), ((2, 1), (zk 4))]), zj 16 (.alloc [(.sv (.int .i64 0)), (.sv (.int .i64 0)), (.sv (.int .i64 0))]), ⟨none, none, (.store 3 (.tmp 16) (.tmp 82))⟩]) (.seq (.ops [zj 17 (.newNil (.recs 3 []))]) (.seq (.seq (.ops [zj 18 (.mv (zk 0))]) (.block 2 (.loop [7, 8, 9, 14, 15, 16, 17, 18] b8x2))) (.seq (.seq (.ops [zm 142 15, zj 143 (.call 32 [(.tmp 142)]), zj 144 (.un .not (.tmp 143))]) (.cond (.tmp 144) (.seq (.ops [zj 4 (.newNil (.recs 3 [])), zj 5 (.mv (zk 0))]) .ret) .skip)) (.seq (.ops [zm 145 17, zm 146 7, zm 147 14, zj 148 (.bin .add (.tmp 146) (.tmp 147)), zm 4 145, zm 5 148]) .ret)))))))))))))))⟩
abbrev T8 : Nat → Callee := (upd (upd (upd (upd (upd (upd (upd (upd (upd (upd none0 23 F23) 24 F24) 25 F25) 26 F26) 27 F27) 28 F28) 29 F29) 30 F30) 31 F31) 32 F32)
def F8 : Callee := evF T8 KK c8
theorem s8 : Sound Go.Proofs.Tryz.prog 8 F8 := fn_ok (upd_ok (upd_ok (upd_ok (upd_ok (upd_ok (upd_ok (upd_ok (upd_ok (upd_ok (upd_ok (none0_ok _) s23) s24) s25) s26) s27) s28) s29) s30) s31) s32) mixed (by kernel_rfl)
def b11x0 : AC := (.seq (.ops [zj 14 (.bin .lss (.tmp 13) (.tmp 12))]) (.seq (.cond (.tmp 14) .skip (.exit 0)) (.seq (.block 1 (.seq (.ops [zm 15 13, zm 5 15]) (.seq (.opsD [(zm 16 0, false), (zm 17 5, false), (zj 18 (.iadrR 3 (.tmp 16) (.tmp 17)), false), (zj 19 (.load (some 3) (.tmp 18)), false), (zm 20 1, false), (zm 21 5, false), (zj 22 (.iadrR 3 (.tmp 20) (.tmp 21)), false), (zj 23 (.load (some 3) (.tmp 22)), false), (zj 24 (.eqAgg true [(.int .i64 0), (.int .i64 0), (.int .i64 0)] (.tmp 19) (.tmp 23)), false)] []) (.cond (.tmp 24) (.seq (.ops [zj 4 (.mv (.const (.one (.bool false))))]) .ret) .skip)))) (.ops [zj 25 (.bin .add (.tmp 13) (zk 1)), zm 13 25]))))
def c11 : AF := ⟨[(4, none)],
  (.seq (.ops [zj 4 (.mv (.const (.one (.bool false))))]) (.seq (.seq (.ops [zm 6 0, zj 7 (.len (.tmp 6)), zm 8 1, zj 9 (.len (.tmp 8)), zj 10 (.bin .neq (.tmp 7) (.tmp 9))]) (.cond (.tmp 10) (.seq (.ops [zj 4 (.mv (.const (.one (.bool false))))]) .ret) .skip)) (.seq (.seq (.ops [zm 11 0, zj 12 (.len (.tmp 11)), zj 13 (.mv (zk 0))]) (.block 0 (.loop [0, 1, 12, 13] b11x0))) (.seq (.ops [zj 4 (.mv (.const (.one (.bool true))))]) .ret))))⟩
abbrev T11 : Nat → Callee := none0
def F11 : Callee := evF T11 KK c11
theorem s11 : Sound Go.Proofs.Tryz.prog 11 F11 := fn_ok (none0_ok _) mixed (by kernel_rfl)
def c12 : AF := ⟨[(2, none)],
  (.seq (.ops [⟨(some 2), none, (.mv (.const (.one (.str ⟨#[]⟩))))⟩]) (.seq (.seq (.ops [zm 3 0, zj 4 (.call 34 [(.tmp 3)])]) (.cond (.tmp 4) (.seq (.ops [⟨(some 2), none, (.mv (.const (.one (.str ⟨#[]⟩))))⟩]) .ret) .skip)) (.seq (.ops [zm 5 0, zm 6 0, zj 7 (.nilCheck (.tmp 6)), zj 8 (.fadr 0 (.tmp 7)), zj 9 (.load none (.tmp 8)), zj 10 (.lenS (.tmp 9)), zj 11 (.call 40 [(.tmp 5), (.tmp 10)]), zm 2 11]) .ret)))⟩
abbrev T12 : Nat → Callee := (upd (upd none0 34 F34) 40 F40)
def F12 : Callee := evF T12 0 c12
theorem s12 : Sound Go.Proofs.Tryz.prog 12 F12 := fn_ok (upd_ok (upd_ok (none0_ok _) s34) s40) mixed (by kernel_rfl)
def c3 : AF := ⟨[(4, none)],
  (.seq (.ops [zj 4 (.mv (.const (.one (.bool false))))]) (.seq (.seq (.ops [zj 12 (.call 5 []), zj 13 (.un .not (.tmp 12))]) (.cond (.tmp 13) (.seq (.ops [zj 4 (.mv (.const (.one (.bool false))))]) .ret) .skip)) (.seq (.seq (.ops [zm 14 0, zj 15 (.len (.tmp 14)), zj 16 (.bin .gtr (.tmp 15) (zk 60)), zm 17 16, zg 18 17 false (.mv (.tmp 1)), zg 19 17 false (.lenS (.tmp 18)), zg 20 17 false (.bin .gtr (.tmp 19) (zk 20)), zj 21 (.pick (.tmp 17) (.const (.one (.bool true))) (.tmp 20))]) (.cond (.tmp 21) (.seq (.ops [zj 4 (.mv (.const (.one (.bool true))))]) .ret) .skip)) (.seq (.ops [zm 23 0, zj 24 (.call 6 [(.tmp 23)]), zm 22 24, zj 25 (.extract 0 (.tmp 22)), zj 26 (.extract 1 (.tmp 22)), zm 5 25, zm 6 26]) (.seq (.seq (.ops [zm 27 6, zm 28 0, zj 29 (.call 7 [(.tmp 28)]), zj 30 (.eqB true (.tmp 27) (.tmp 29))]) (.cond (.tmp 30) (.seq (.ops [zj 4 (.mv (.const (.one (.bool false))))]) .ret) .skip)) (.seq (.seq (.ops [zm 31 6, zj 32 (.un .not (.tmp 31))]) (.cond (.tmp 32) (.seq (.ops [zm 33 5, ⟨(some 34), none, (.bin .eql (.tmp 33) (.const (.one (.str ⟨#[]⟩))))⟩, zm 4 34]) .ret) .skip)) (.seq (.ops [zm 36 5, zm 37 1, zj 38 (.bin .add (.tmp 36) (.tmp 37)), zm 39 0, zj 40 (.len (.tmp 39)), zj 41 (.call 8 [(.tmp 38), (.tmp 40)]), zm 35 41, zj 42 (.extract 0 (.tmp 35)), zj 43 (.extract 1 (.tmp 35)), zm 7 42, zm 8 43]) (.seq (.ops [zm 44 5, zm 45 1, zj 46 (.bin .add (.tmp 44) (.tmp 45)), zj 47 (.call 9 [(.tmp 46)]), zm 9 47]) (.seq (.ops [zm 49 9, zm 50 0, zj 51 (.len (.tmp 50)), zj 52 (.call 10 [(.tmp 49), (.tmp 51)]), zm 48 52, zj 53 (.extract 0 (.tmp 48)), zj 54 (.extract 1 (.tmp 48)), zm 10 53, zm 11 54]) (.seq (.ops [zm 55 8, zm 56 5, zj 57 (.lenS (.tmp 56)), zj 58 (.bin .eql (.tmp 55) (.tmp 57)), zm 59 58, zg 60 59 true (.mv (.tmp 7)), zg 61 59 true (.mv (.tmp 0)), zg 62 59 true (.call 11 [(.tmp 60), (.tmp 61)]), zj 63 (.pick (.tmp 59) (.tmp 62) (.const (.one (.bool false)))), zm 64 63, zg 65 64 true (.mv (.tmp 11)), zj 66 (.pick (.tmp 64) (.tmp 65) (.const (.one (.bool false)))), zm 67 66, zg 68 67 true (.mv (.tmp 10)), zg 69 67 true (.mv (.tmp 0)), zg 70 67 true (.call 11 [(.tmp 68), (.tmp 69)]), zj 71 (.pick (.tmp 67) (.tmp 70) (.const (.one (.bool false)))), zm 72 71, zg 73 72 true (.mv (.tmp 9)), zg 74 72 true (.call 12 [(.tmp 73)]), zg 75 72 true (.mv (.tmp 1)), zg 76 72 true (.bin .eql (.tmp 74) (.tmp 75)), zj 77 (.pick (.tmp 72) (.tmp 76) (.const (.one (.bool false)))), zm 4 77]) .ret))))))))))⟩
abbrev T3 : Nat → Callee := (upd (upd (upd (upd (upd (upd (upd (upd none0 5 F5) 6 F6) 7 F7) 8 F8) 9 F9) 10 F10) 11 F11) 12 F12)
def F3 : Callee := evF T3 0 c3
theorem s3 : Sound Go.Proofs.Tryz.prog 3 F3 := fn_ok (upd_ok (upd_ok (upd_ok (upd_ok (upd_ok (upd_ok (upd_ok (upd_ok (none0_ok _) s5) s6) s7) s8) s9) s10) s11) s12) mixed (by kernel_rfl)
def c4 : AF := ⟨[(4, none)],
  (.seq (.ops [zj 4 (.mv (.const (.one (.bool false))))]) (.seq (.seq (.ops [zj 10 (.call 5 []), zj 11 (.un .not (.tmp 10))]) (.cond (.tmp 11) (.seq (.ops [zj 4 (.mv (.const (.one (.bool false))))]) .ret) .skip)) (.seq (.seq (.ops [zm 12 0, zj 13 (.lenS (.tmp 12)), zj 14 (.bin .gtr (.tmp 13) (zk 100)), zm 15 14, zg 16 15 false (.mv (.tmp 1)), zg 17 15 false (.bin .gtr (.tmp 16) (zk 60)), zj 18 (.pick (.tmp 15) (.const (.one (.bool true))) (.tmp 17))]) (.cond (.tmp 18) (.seq (.ops [zj 4 (.mv (.const (.one (.bool true))))]) .ret) .skip)) (.seq (.ops [zm 19 0, zj 20 (.call 9 [(.tmp 19)]), zm 5 20]) (.seq (.ops [zm 22 5, zm 23 1, zj 24 (.call 10 [(.tmp 22), (.tmp 23)]), zm 21 24, zj 25 (.extract 0 (.tmp 21)), zj 26 (.extract 1 (.tmp 21)), zm 6 25, zm 7 26]) (.seq (.ops [zm 28 0, zm 29 1, zj 30 (.call 8 [(.tmp 28), (.tmp 29)]), zm 27 30, zj 31 (.extract 0 (.tmp 27)), zj 32 (.extract 1 (.tmp 27)), zm 8 31, zm 9 32]) (.seq (.seq (.ops [zm 33 7, zm 34 9, zj 35 (.bin .gtr (.tmp 34) (zk 0)), zj 36 (.eqB true (.tmp 33) (.tmp 35)), zm 37 36, zg 38 37 false (.mv (.tmp 6)), zg 39 37 false (.mv (.tmp 8)), zg 40 37 false (.call 11 [(.tmp 38), (.tmp 39)]), zg 41 37 false (.un .not (.tmp 40)), zj 42 (.pick (.tmp 37) (.const (.one (.bool true))) (.tmp 41))]) (.cond (.tmp 42) (.seq (.ops [zj 4 (.mv (.const (.one (.bool false))))]) .ret) .skip)) (.seq (.opsD [(zm 43 7, false), (zj 44 (.un .not (.tmp 43)), false), (zm 45 44, false), (zg 46 45 false (.mv (.tmp 5)), false), (zg 47 45 false (.call 12 [(.tmp 46)]), true), (zg 48 45 false (.mv (.tmp 0)), false), (zg 49 45 false (.mv (.tmp 9)), false), (zg 50 45 false (.cutS (.tmp 48) (some (.tmp 49)) none), false), (zg 51 45 false (.bin .eql (.tmp 47) (.tmp 50)), false), (zj 52 (.pick (.tmp 45) (.const (.one (.bool true))) (.tmp 51)), false), (zm 4 52, false)] []) .ret))))))))⟩
abbrev T4 : Nat → Callee := (upd (upd (upd (upd (upd (upd none0 5 F5) 8 F8) 9 F9) 10 F10) 11 F11) 12 F12)
def F4 : Callee := evF T4 0 c4
theorem s4 : Sound Go.Proofs.Tryz.prog 4 F4 := fn_ok (upd_ok (upd_ok (upd_ok (upd_ok (upd_ok (upd_ok (none0_ok _) s5) s8) s9) s10) s11) s12) mixed (by kernel_rfl)
end Go.X.Tryz
namespace Go.X
@[congr] theorem guardI_cg {b : Bool} {x y : Option St} {v v' : AV} (h : v = v') : guardI b x y v = guardI b x y v' := by rw [h]
@[congr] theorem stepG_cg {b : Bool} {r : Res} {hp : List Ob} {v v' : AV} (h : v = v') : stepG b r hp v = stepG b r hp v' := by rw [h]
@[congr] theorem thenI_cg {env : Env} {rts : List SV} {d : Option Nat} {f : St → Option St} {r r' : Res} (h : r = r') : thenI env rts d f r = thenI env rts d f r' := by rw [h]
@[congr] theorem thenD_cg {d : Option Nat} {b : Bool} {f : Env → List Ob → List (List Ob) → ResD} {env : Env} {hs : List (List Ob)} {r r' : Res} (h : r = r') : thenD d b f env hs r = thenD d b f env hs r' := by rw [h]
@[congr] theorem passN_cg {d : Option Nat} {f : Env → List Ob → Option (List FO)} {env : Env} {r r' : Res} (h : r = r') : passN d f env r = passN d f env r' := by rw [h]
@[congr] theorem passR_cg {d : Option Nat} {s : Nat} {v : SV} {f : Env → List Ob → Option (List FO)} {env : Env} {hp : List Ob} {r r' : Option FO} (h : r = r') : passR d s v f env hp r = passR d s v f env hp r' := by rw [h]
@[congr] theorem secF_cg {Γ : Nat → Callee} {l : List (AI × Bool × Option Nat)} {ck cf : List (Nat × List Nat)} {env : Env} {rts : List SV} {hp : List Ob} {r r' : Option (List FO)} (h : r = r') : secF Γ l ck cf env rts hp r = secF Γ l ck cf env rts hp r' := by rw [h]
@[congr] theorem finF_cg {Γ : Nat → Callee} {l : List (AI × Bool × Option Nat)} {n0 : Nat} {cs : List FO} {cf : List (Nat × List Nat)} {r r' : ResD} (h : r = r') : finF Γ l n0 cs cf r = finF Γ l n0 cs cf r' := by rw [h]
@[congr] theorem thenC_cg {f : St → Option (Ex × St)} {r r' : Option (Ex × St)} (h : r = r') : thenC f r = thenC f r' := by rw [h]
@[congr] theorem blockC_cg {i : Nat} {r r' : Option (Ex × St)} (h : r = r') : blockC i r = blockC i r' := by rw [h]
@[congr] theorem branchC_cg {f g : St → Option (Ex × St)} {st : St} {v v' : AV} (h : v = v') : branchC f g st v = branchC f g st v' := by rw [h]
@[congr] theorem resC_cg {rs : List (Nat × Option (Option Nat))} {r r' : Option (Ex × St)} (h : r = r') : resC rs r = resC rs r' := by rw [h]
@[congr] theorem finD_cg {Γ : Nat → Callee} {l : List (AI × Bool)} {ck : List (Nat × List Nat)} {rts : List SV} {r r' : ResD} (h : r = r') : finD Γ l ck rts r = finD Γ l ck rts r' := by rw [h]
attribute [simp] AV.same_refl SV.same_refl sameL_refl getT evDs ckKs ckAll finD finF ckFs ckSl rowsOf deads evC zcells putAt eqScs argEnv keep fillAll setScs reachSV reachOb reachL SV.ren renL AV.ren renT Env.ren Ob.ren pick avCells avsCells SV.strip stripL Ob.strip handed lendL lendArgs tagAll backKeys killAll layBack backL Ob.back argCells intsOf rcCells cviewAt AV.back backT scsOf partAt bsFrom getPs getPP getL getSL envCells resL pos
attribute [simp] fval callB bareB
@[simp] theorem posPtr_some (o : Nat) (j : Nat) : posPtr o (some j) = .ptr j o := rfl
@[simp] theorem posPtr_none (o : Nat) : posPtr o none = .undef := rfl
@[simp] theorem posEptr_some (i o : Nat) (j : Nat) : posEptr i o (some j) = .eptr j i o := rfl
@[simp] theorem posEptr_none (i o : Nat) : posEptr i o none = .undef := rfl
@[simp] theorem posRow_some  (j : Nat) : posRow (some j) = .row j := rfl
@[simp] theorem posRow_none  : posRow none = .undef := rfl
@[simp] theorem posView_some (o n : Nat) (j : Nat) : posView o n (some j) = .view j o n := rfl
@[simp] theorem posView_none (o n : Nat) : posView o n none = .undef := rfl
@[simp] theorem posCview_some (o n : Nat) (j : Nat) : posCview o n (some j) = .cview j o n := rfl
@[simp] theorem posCview_none (o n : Nat) : posCview o n none = .undef := rfl
@[simp] theorem posF_def (ks : List Nat) (k : Nat) : posF ks k = pos k ks := rfl
@[simp] theorem ofOpt_some (o : Ob) : Ob.ofOpt (some o) = o := rfl
@[simp] theorem ofOpt_none  : Ob.ofOpt none = .dead := rfl
@[simp] theorem roOf_some (t : Nat) (v : SV) (c : RC) : roOf t v (some c) = .ro t c := rfl
@[simp] theorem lend_row (hp : List Ob) (ks : List Nat) (t : Nat) (k : Nat) : SV.lend hp ks t (.row k) = if ks.elem k then .row k else roOf t .undef (rowAt hp[k]?) := by simp [SV.lend, SV.strip]
@[simp] theorem back_row (args : List SV) (k : Nat) : SV.back args (.row k) = .row k := by simp [SV.back, SV.strip]
@[simp] theorem lend_view (hp : List Ob) (ks : List Nat) (t : Nat) (k o n : Nat) : SV.lend hp ks t (.view k o n) = if ks.elem k then .view k o n else roOf t .undef (cutAt o n hp[k]?) := by simp [SV.lend, SV.strip]
@[simp] theorem back_view (args : List SV) (k o n : Nat) : SV.back args (.view k o n) = .view k o n := by simp [SV.back, SV.strip]
@[simp] theorem lend_ro (hp : List Ob) (ks : List Nat) (t : Nat) (u : Nat) (c : RC) : SV.lend hp ks t (.ro u c) = .ro t c := by simp [SV.lend, SV.strip]
@[simp] theorem lend_rptr (hp : List Ob) (ks : List Nat) (t : Nat) (u : Nat) (c : RC) (i o : Nat) : SV.lend hp ks t (.rptr u c i o) = .rptr t c i o := by simp [SV.lend, SV.strip]
@[simp] theorem lend_eptr (hp : List Ob) (ks : List Nat) (t : Nat) (k i o : Nat) : SV.lend hp ks t (.eptr k i o) = if ks.elem k then .eptr k i o else .undef := by simp [SV.lend, SV.strip]
@[simp] theorem back_eptr (args : List SV) (k i o : Nat) : SV.back args (.eptr k i o) = .eptr k i o := by simp [SV.back, SV.strip]
@[simp] theorem lend_cview (hp : List Ob) (ks : List Nat) (t : Nat) (k o n : Nat) : SV.lend hp ks t (.cview k o n) = if ks.elem k then .cview k o n else roOf t .undef (cviewAt o n hp[k]?) := by simp [SV.lend, SV.strip]
@[simp] theorem back_cview (args : List SV) (k o n : Nat) : SV.back args (.cview k o n) = .cview k o n := by simp [SV.back, SV.strip]
@[simp] theorem lend_undef (hp : List Ob) (ks : List Nat) (t : Nat)  : SV.lend hp ks t .undef = .undef := by simp [SV.lend, SV.strip]
@[simp] theorem back_undef (args : List SV)  : SV.back args .undef = .undef := by simp [SV.back, SV.strip]
@[simp] theorem lend_int (hp : List Ob) (ks : List Nat) (t : Nat) (k : IntKind) (x : Int) : SV.lend hp ks t (.int k x) = .int k x := by simp [SV.lend, SV.strip]
@[simp] theorem back_int (args : List SV) (k : IntKind) (x : Int) : SV.back args (.int k x) = .int k x := by simp [SV.back, SV.strip]
@[simp] theorem lend_bool (hp : List Ob) (ks : List Nat) (t : Nat) (b : Bool) : SV.lend hp ks t (.bool b) = .bool b := by simp [SV.lend, SV.strip]
@[simp] theorem back_bool (args : List SV) (b : Bool) : SV.back args (.bool b) = .bool b := by simp [SV.back, SV.strip]
@[simp] theorem lend_str (hp : List Ob) (ks : List Nat) (t : Nat) (s : ByteArray) : SV.lend hp ks t (.str s) = .str s := by simp [SV.lend, SV.strip]
@[simp] theorem back_str (args : List SV) (s : ByteArray) : SV.back args (.str s) = .str s := by simp [SV.back, SV.strip]
@[simp] theorem lend_nilp (hp : List Ob) (ks : List Nat) (t : Nat)  : SV.lend hp ks t .nilp = .nilp := by simp [SV.lend, SV.strip]
@[simp] theorem back_nilp (args : List SV)  : SV.back args .nilp = .nilp := by simp [SV.back, SV.strip]
@[simp] theorem lend_ptr (hp : List Ob) (ks : List Nat) (t : Nat) (k o : Nat) : SV.lend hp ks t (.ptr k o) = .ptr k o := by simp [SV.lend, SV.strip]
@[simp] theorem back_ptr (args : List SV) (k o : Nat) : SV.back args (.ptr k o) = .ptr k o := by simp [SV.back, SV.strip]
@[simp] theorem lend_nils (hp : List Ob) (ks : List Nat) (t : Nat) (c : RC) : SV.lend hp ks t (.nils c) = .nils c := by simp [SV.lend, SV.strip]
@[simp] theorem back_nils (args : List SV) (c : RC) : SV.back args (.nils c) = .nils c := by simp [SV.back, SV.strip]
@[simp] theorem lend_fn (hp : List Ob) (ks : List Nat) (t : Nat) (f : Nat) (caps : List SV) : SV.lend hp ks t (.fn f caps) = .fn f (stripL caps) := by simp [SV.lend, SV.strip]
@[simp] theorem back_fn (args : List SV) (f : Nat) (caps : List SV) : SV.back args (.fn f caps) = .fn f (stripL caps) := by simp [SV.back, SV.strip]
@[simp] theorem lend_nilf (hp : List Ob) (ks : List Nat) (t : Nat)  : SV.lend hp ks t .nilf = .nilf := by simp [SV.lend, SV.strip]
@[simp] theorem back_nilf (args : List SV)  : SV.back args .nilf = .nilf := by simp [SV.back, SV.strip]
@[simp] theorem back_ro (args : List SV) (t : Nat) (c : RC) : SV.back args (.ro t c) = roArg t c args[t]? := rfl
@[simp] theorem roArg_ro (t u : Nat) (c d : RC) : roArg t c (some (.ro u d)) = .ro u c := rfl
@[simp] theorem avlend_one (hp : List Ob) (ks : List Nat) (t : Nat) (v : SV) : AV.lend hp ks t (.one v) = .one (v.lend hp ks t) := rfl
@[simp] theorem avlend_agg (hp : List Ob) (ks : List Nat) (t : Nat) (l : List SV) : AV.lend hp ks t (.agg l) = .agg (lendL hp ks t l) := rfl
@[simp] theorem tag_cells (m : Bool) (i : Nat) (g : Option Nat) (l : List SV) : Ob.tag m i (.cells g l) = .cells (some i) l := rfl
@[simp] theorem tag_rows (i : Nat) (g : Option Nat) (c : RC) : Ob.tag false i (.rows g c) = .rows none c := rfl
@[simp] theorem tag_rowsT (i : Nat) (g : Option Nat) (c : RC) : Ob.tag true i (.rows g c) = .rows (some i) c := rfl
@[simp] theorem tag_dead (m : Bool) (i : Nat) : Ob.tag m i .dead = .dead := rfl
@[simp] theorem orgOf_cells (g : Option Nat) (l : List SV) : orgOf (some (.cells g l)) = g := rfl
@[simp] theorem orgOf_rows (g : Option Nat) (c : RC) : orgOf (some (.rows g c)) = g := rfl
@[simp] theorem backF_def (ks : List Nat) (n : Nat) (os : List Ob) (j : Nat) : backF ks n os j = (backKeys ks n os)[j]? := rfl
@[simp] theorem comeBack_none (hp : List Ob) (ks : List Nat) (args : List AV) : comeBack hp ks args none = none := rfl
@[simp] theorem comeBack_some (hp : List Ob) (ks : List Nat) (args : List AV) (r : AV) (os : List Ob) : comeBack hp ks args (some (r, os)) = some ((r.back (argCells args)).ren (backF ks hp.length os), layBack hp ks (backF ks hp.length os) (argCells args) os (killAll hp ks)) := rfl
@[simp] theorem callKs_def (m : Bool) (Γ : Nat → Callee) (hp : List Ob) (f : Nat) (args : List AV) (ks : List Nat) : callKs m Γ hp f args ks = comeBack hp ks args (Γ f (lendArgs hp ks 0 args) (tagAll m 0 (Go.X.pick hp (posF ks) ks))) := rfl
@[simp] theorem pureCall_def (Γ : Nat → Callee) (hp : List Ob) (f : Nat) (args : List AV) : pureCall Γ hp f args = if plainArgs args = true then plainOut hp (Γ f args []) else none := rfl
@[simp] theorem plainOut_some (hp : List Ob) (r : AV) : plainOut hp (some (r, [])) = if r.plain = true then some (r, hp) else none := rfl
@[simp] theorem plainArgs_nil  : plainArgs [] = true := rfl
@[simp] theorem plainArgs_one (v : SV) (l : List AV) : plainArgs (.one v :: l) = (v.plain && plainArgs l) := rfl
@[simp] theorem plainArgs_agg (m : List SV) (l : List AV) : plainArgs (.agg m :: l) = (plainL m && plainArgs l) := rfl
@[simp] theorem plainL_nil  : plainL [] = true := rfl
@[simp] theorem plainL_cons (v : SV) (l : List SV) : plainL (v :: l) = (v.plain && plainL l) := rfl
@[simp] theorem plainT_nil  : plainT [] = true := rfl
@[simp] theorem plainT_cons (v : AV) (l : List AV) : plainT (v :: l) = (v.plain && plainT l) := rfl
@[simp] theorem plain_int (k : IntKind) (x : Int) : SV.plain (.int k x) = true := rfl
@[simp] theorem plain_bool (b : Bool) : SV.plain (.bool b) = true := rfl
@[simp] theorem plain_str (s : ByteArray) : SV.plain (.str s) = true := rfl
@[simp] theorem plain_one (v : SV) : AV.plain (.one v) = v.plain := rfl
@[simp] theorem plain_agg (l : List SV) : AV.plain (.agg l) = plainL l := rfl
@[simp] theorem plain_tup (l : List AV) : AV.plain (.tup l) = plainT l := rfl
@[simp] theorem callee_def (Γ : Nat → Callee) (hp : List Ob) (f : Nat) (args : List AV) : callee Γ hp f args = callKs false Γ hp f args (handKs hp args) := rfl
@[simp] theorem handKs_def (hp : List Ob) (args : List AV) : handKs hp args = reachL hp 64 (handed (avsCells args)) [] := rfl
@[simp] theorem tidyKs_def (env : Env) (rts : List SV) (hp : List Ob) (ks : List Nat) : tidyKs env rts hp ks = ⟨env.ren (posF ks), renL (posF ks) rts, Go.X.pick hp (posF ks) ks⟩ := rfl
@[simp] theorem tidy_def (env : Env) (rts : List SV) (hp : List Ob) : tidy env rts hp = tidyKs env rts hp (reachL hp 64 (rts ++ envCells env) []) := rfl
@[simp] theorem head_def (live : List Nat) (env : Env) (rts : List SV) (hp : List Ob) : St.head live ⟨env, rts, hp⟩ = tidy (keep env live) rts hp := rfl
@[simp] theorem giveKs_def (v : AV) (hp : List Ob) (ks : List Nat) : giveKs v hp ks = some (v.ren (posF ks), Go.X.pick hp (posF ks) ks) := rfl
@[simp] theorem give_none (rts : List SV) (hp : List Ob) : give rts hp none = none := rfl
@[simp] theorem give_some (rts : List SV) (hp : List Ob) (l : List AV) : give rts hp (some l) = giveKs (tupOf l) hp (reachL hp 64 (rts ++ avCells (tupOf l)) []) := rfl
@[simp] theorem getO_tmp (env : Env) (t : Nat) : getO env (.tmp t) = getT t env := rfl
@[simp] theorem getO_const (env : Env) (v : AV) : getO env (.const v) = v := rfl
@[simp] theorem getS_def (env : Env) (x : AO) : getS env x = (getO env x).sv := rfl
@[simp] theorem getSo_none (env : Env) : getSo env none = none := rfl
@[simp] theorem getSo_some (env : Env) (x : AO) : getSo env (some x) = some (getS env x) := rfl
@[simp] theorem putE_some (env : Env) (d : Nat) (v : AV) : putE env (some d) v = (d, v) :: env := rfl
@[simp] theorem putE_none (env : Env) (v : AV) : putE env none v = env := rfl
@[simp] theorem sv_one (v : SV) : AV.sv (.one v) = v := rfl
@[simp] theorem sv_agg (l : List SV) : AV.sv (.agg l) = .undef := rfl
@[simp] theorem cells_one (v : SV) : AV.cells (.one v) = [v] := rfl
@[simp] theorem cells_agg (l : List SV) : AV.cells (.agg l) = l := rfl
@[simp] theorem thenC_norm (f : St → Option (Ex × St)) (st : St) : thenC f (some (.norm, st)) = f st := rfl
@[simp] theorem thenC_exit (f : St → Option (Ex × St)) (st : St) (i : Nat) : thenC f (some (.exit i, st)) = some (.exit i, st) := rfl
@[simp] theorem thenC_ret (f : St → Option (Ex × St)) (st : St) : thenC f (some (.ret, st)) = some (.ret, st) := rfl
@[simp] theorem blockC_norm (i : Nat) (st : St) : blockC i (some (.norm, st)) = some (.norm, st) := rfl
@[simp] theorem blockC_exit (i j : Nat) (st : St) : blockC i (some (.exit j, st)) = if i = j then some (.norm, st) else some (.exit j, st) := rfl
@[simp] theorem blockC_ret (i : Nat) (st : St) : blockC i (some (.ret, st)) = some (.ret, st) := rfl
@[simp] theorem normC_some (st : St) : normC (some st) = some (.norm, st) := rfl
@[simp] theorem branchC_bool (f g : St → Option (Ex × St)) (st : St) (t : Bool) : branchC f g st (.one (.bool t)) = if t = true then f st else g st := rfl
@[simp] theorem thenI_none (env : Env) (rts : List SV) (d : Option Nat) (f : St → Option St) : thenI env rts d f none = none := rfl
@[simp] theorem thenI_some (env : Env) (rts : List SV) (d : Option Nat) (f : St → Option St) (v : AV) (hp : List Ob) : thenI env rts d f (some (v, hp)) = f ⟨putE env d v, rts, hp⟩ := rfl
@[simp] theorem evIs_nil (Γ : Nat → Callee) (st : St) : evIs Γ [] st = some st := rfl
@[simp] theorem evIs_plain (Γ : Nat → Callee) (env : Env) (rts : List SV) (hp : List Ob) (dst : Option Nat) (op : AOp) (l : List AI) : evIs Γ (⟨dst, none, op⟩ :: l) ⟨env, rts, hp⟩ = thenI env rts dst (evIs Γ l) (evOp Γ env hp op) := rfl
@[simp] theorem evIs_guard (Γ : Nat → Callee) (env : Env) (rts : List SV) (hp : List Ob) (dst : Option Nat) (t : Nat) (b : Bool) (op : AOp) (l : List AI) : evIs Γ (⟨dst, some (t, b), op⟩ :: l) ⟨env, rts, hp⟩ = guardI b (thenI env rts dst (evIs Γ l) (evOp Γ env hp op)) (evIs Γ l ⟨putE env dst (.tup []), rts, hp⟩) (getT t env) := rfl
@[simp] theorem stepI_plain (Γ : Nat → Callee) (env : Env) (hp : List Ob) (d : Option Nat) (op : AOp) : stepI Γ env hp ⟨d, none, op⟩ = evOp Γ env hp op := rfl
@[simp] theorem stepI_guard (Γ : Nat → Callee) (env : Env) (hp : List Ob) (d : Option Nat) (t : Nat) (b : Bool) (op : AOp) : stepI Γ env hp ⟨d, some (t, b), op⟩ = stepG b (evOp Γ env hp op) hp (getT t env) := rfl
@[simp] theorem stepG_bool (b c : Bool) (r : Res) (hp : List Ob) : stepG b r hp (.one (.bool c)) = if c = b then r else some (.tup [], hp) := rfl
@[simp] theorem stepG_skip (b : Bool) (r : Res) (hp : List Ob) : stepG b r hp (.tup []) = some (.tup [], hp) := rfl
@[simp] theorem thenD_none (d : Option Nat) (b : Bool) (f : Env → List Ob → List (List Ob) → ResD) (env : Env) (hs : List (List Ob)) : thenD d b f env hs none = none := rfl
@[simp] theorem thenD_some (d : Option Nat) (b : Bool) (f : Env → List Ob → List (List Ob) → ResD) (env : Env) (hs : List (List Ob)) (v : AV) (hp : List Ob) : thenD d b f env hs (some (v, hp)) = f (putE env d v) hp (if b = true then hs ++ [hp] else hs) := rfl
@[simp] theorem ckAt_some (Γ : Nat → Callee) (env : Env) (hs : List (List Ob)) (ks : List Nat) (d : Nat) (g : Option (Nat × Bool)) (op : AOp) (b : Bool) : ckAt Γ env hs ks (some (⟨some d, g, op⟩, b)) = ckKs Γ env hs ⟨some d, g, op⟩ (getT d env) ks := rfl
@[simp] theorem ckR_none (v : AV) : ckR v none = false := rfl
@[simp] theorem ckR_some (v u : AV) (hp : List Ob) : ckR v (some (u, hp)) = u.same v := rfl
@[simp] theorem finD_none (Γ : Nat → Callee) (l : List (AI × Bool)) (ck : List (Nat × List Nat)) (rts : List SV) : finD Γ l ck rts none = none := rfl
@[simp] theorem oAppZ_int (hp : List Ob) (c0 : RC) (zero : List Sc) (bytes : Nat) (s : SV) (k : IntKind) (l : Int) : oAppZ hp c0 zero bytes s (.one (.int k l)) = if 0 ≤ l ∧ l * bytes ≤ 140737488355328 then app1 hp c0 bytes s .undef (RC.ofElems c0 (List.replicate l.toNat zero)) else none := rfl
@[simp] theorem repl1_none (n0 : Nat) (ai : AI) (b : Bool) : repl1 n0 (ai, b, none) = (ai, b) := rfl
@[simp] theorem repl1_some (n0 j : Nat) (d : Option Nat) (g : Option (Nat × Bool)) (op : AOp) (b : Bool) : repl1 n0 (⟨d, g, op⟩, b, some j) = (⟨d, none, .mv (.const (.one (fval (n0 + j) op)))⟩, false) := rfl
@[simp] theorem rowOf_some (c : RC) : rowOf (some (.one (.row 0), [.rows none c])) = some (.r c) := rfl
@[simp] theorem rowOf_ptr (l : List SV) : rowOf (some (.one (.ptr 0 0), [.cells none l])) = zO (scsOf l) := rfl
@[simp] theorem zO_some (l : List Sc) : zO (some l) = some (.z l) := rfl
@[simp] theorem foob_r (c : RC) : FO.ob (.r c) = .rows none c := rfl
@[simp] theorem foob_z (l : List Sc) : FO.ob (.z l) = .cells none (l.map Sc.sv) := rfl
@[simp] theorem consO_some (c : FO) (l : List FO) : consO c (some l) = some (c :: l) := rfl
@[simp] theorem passN_some (d : Option Nat) (f : Env → List Ob → Option (List FO)) (env : Env) (v : AV) (hp : List Ob) : passN d f env (some (v, hp)) = f (putE env d v) hp := rfl
@[simp] theorem passR_some (d : Option Nat) (s : Nat) (v : SV) (f : Env → List Ob → Option (List FO)) (env : Env) (hp : List Ob) (c : FO) : passR d s v f env hp (some c) = consO c (f (putE env d (.one v)) (hp.set s c.ob)) := rfl
@[simp] theorem passF_nil (Γ : Nat → Callee) (n0 : Nat) (env : Env) (hp : List Ob) : passF Γ n0 [] env hp = some [] := rfl
@[simp] theorem passF_none (Γ : Nat → Callee) (n0 : Nat) (d : Option Nat) (g : Option (Nat × Bool)) (op : AOp) (b : Bool) (l : List (AI × Bool × Option Nat)) (env : Env) (hp : List Ob) : passF Γ n0 ((⟨d, g, op⟩, b, none) :: l) env hp = passN d (passF Γ n0 l) env (stepI Γ env hp ⟨d, g, op⟩) := rfl
@[simp] theorem passF_some (Γ : Nat → Callee) (n0 j : Nat) (d : Option Nat) (g : Option (Nat × Bool)) (op : AOp) (b : Bool) (l : List (AI × Bool × Option Nat)) (env : Env) (hp : List Ob) : passF Γ n0 ((⟨d, g, op⟩, b, some j) :: l) env hp = passR d (n0 + j) (fval (n0 + j) op) (passF Γ n0 l) env hp (rowOf (evOp Γ env [] op)) := rfl
@[simp] theorem obIs_some (c : FO) (d : RC) : obIs c (some (.rows none d)) = rcIs c (some (.r d)) := rfl
@[simp] theorem obIs_cells (c : FO) (l : List SV) : obIs c (some (.cells none l)) = rcIs c (zO (scsOf l)) := rfl
@[simp] theorem rcIs_some (c d : FO) : rcIs c (some d) = decide (d = c) := rfl
@[simp] theorem ckF1_some (Γ : Nat → Callee) (env : Env) (c : FO) (d : Option Nat) (g : Option (Nat × Bool)) (op : AOp) (b : Bool × Option Nat) : ckF1 Γ env c (some (⟨d, g, op⟩, b)) = rcIs c (rowOf (evOp Γ env [] op)) := rfl
@[simp] theorem finF_none (Γ : Nat → Callee) (l : List (AI × Bool × Option Nat)) (n0 : Nat) (cs : List FO) (cf : List (Nat × List Nat)) : finF Γ l n0 cs cf none = none := rfl
@[simp] theorem secF_some (Γ : Nat → Callee) (l : List (AI × Bool × Option Nat)) (ck cf : List (Nat × List Nat)) (env : Env) (rts : List SV) (hp : List Ob) (cs : List FO) : secF Γ l ck cf env rts hp (some cs) = if bareB hp l = true then none else finD Γ (l.map (repl1 hp.length)) ck rts (finF Γ l hp.length cs cf (evDs Γ (l.map (repl1 hp.length)) env (hp ++ rowsOf cs) [hp ++ rowsOf cs])) := rfl
@[simp] theorem tupOf_nil  : tupOf [] = .tup [] := rfl
@[simp] theorem thenC_none (f : St → Option (Ex × St)) : thenC f none = none := rfl
@[simp] theorem blockC_none (i : Nat) : blockC i none = none := rfl
@[simp] theorem normC_none  : normC none = none := rfl
@[simp] theorem guardI_skip (b : Bool) (x y : Option St) : guardI b x y (.tup []) = y := rfl
@[simp] theorem guardI_bool (b c : Bool) (x y : Option St) : guardI b x y (.one (.bool c)) = if c = b then x else y := rfl
@[simp] theorem put1_none (hp : List Ob) : put1 hp none = none := rfl
@[simp] theorem put1_some (hp : List Ob) (v : SV) : put1 hp (some v) = some (.one v, hp) := rfl
@[simp] theorem putA_none (hp : List Ob) : putA hp none = none := rfl
@[simp] theorem putA_some (hp : List Ob) (v : AV) : putA hp (some v) = some (v, hp) := rfl
@[simp] theorem putL_none (hp : List Ob) : putL hp none = none := rfl
@[simp] theorem putL_some (hp : List Ob) (v : List SV) : putL hp (some v) = some (.agg v, hp) := rfl
@[simp] theorem putR_none (hp : List Ob) : putR hp none = none := rfl
@[simp] theorem putR_some (hp : List Ob) (v : RC) : putR hp (some v) = newRow hp v := rfl
@[simp] theorem putH_none  : putH none = none := rfl
@[simp] theorem putH_some (h : List Ob) : putH (some h) = some (.one .undef, h) := rfl
@[simp] theorem putB_none (hp : List Ob) (n : Bool) : putB hp n none = none := rfl
@[simp] theorem putB_some (hp : List Ob) (n b : Bool) : putB hp n (some b) = some (.one (.bool (if n = true then !b else b)), hp) := rfl
@[simp] theorem evOp_mv (Γ : Nat → Callee) (env : Env) (hp : List Ob) (x : AO) : evOp Γ env hp (.mv x) = some (getO env x, hp) := rfl
@[simp] theorem evOp_newNil (Γ : Nat → Callee) (env : Env) (hp : List Ob) (c0 : RC) : evOp Γ env hp (.newNil c0) = newRow hp c0 := rfl
@[simp] theorem evOp_pick (Γ : Nat → Callee) (env : Env) (hp : List Ob) (a b c : AO) : evOp Γ env hp (.pick c a b) = oPick hp (getO env a) (getO env b) (getO env c) := rfl
@[simp] theorem evOp_alloc (Γ : Nat → Callee) (env : Env) (hp : List Ob) (z : List ZV) : evOp Γ env hp (.alloc z) = some (.one (.ptr (zcells z hp).2.length 0), (zcells z hp).2 ++ [.cells none (zcells z hp).1]) := rfl
@[simp] theorem evOp_box (Γ : Nat → Callee) (env : Env) (hp : List Ob) (x : AO) : evOp Γ env hp (.box x) = if (getO env x).cells.all okCell = true then some (.one (.ptr hp.length 0), hp ++ [.cells none (getO env x).cells]) else none := rfl
@[simp] theorem evOp_build (Γ : Nat → Callee) (env : Env) (hp : List Ob) (z : List ZV) (ps : List ((Nat × Nat) × AO)) : evOp Γ env hp (.build z ps) = if (getPP env ps).all (fun q => q.2.cells.all okCell) = true then putL (zcells z hp).2 (fillAll (zcells z hp).1 (getPP env ps)) else none := rfl
@[simp] theorem evOp_bslice (Γ : Nat → Callee) (env : Env) (hp : List Ob) (c0 : RC) (zero : List Sc) (len : Nat) (ps : List (Nat × AO)) : evOp Γ env hp (.bslice c0 zero len ps) = putR hp (ofElemsO c0 (bsFrom zero (getPs env ps) 0 len)) := rfl
@[simp] theorem evOp_load (Γ : Nat → Callee) (env : Env) (hp : List Ob) (x : AO) : evOp Γ env hp (.load none x) = put1 hp (loadOne hp (getS env x)) := rfl
@[simp] theorem evOp_load1 (Γ : Nat → Callee) (env : Env) (hp : List Ob) (n : Nat) (x : AO) : evOp Γ env hp (.load (some n) x) = putL hp (loadN hp n (getS env x)) := rfl
@[simp] theorem evOp_store (Γ : Nat → Callee) (env : Env) (hp : List Ob) (n : Nat) (x v : AO) : evOp Γ env hp (.store n x v) = if (getO env v).cells.length = n then putH (storeCells hp (getO env v).cells (getS env x)) else none := rfl
@[simp] theorem evOp_storeNil (Γ : Nat → Callee) (env : Env) (hp : List Ob) (c0 : RC) (x : AO) : evOp Γ env hp (.storeNil c0 x) = putH (storeCells (hp ++ [.rows none c0]) [.row hp.length] (getS env x)) := rfl
@[simp] theorem evOp_nilCheck (Γ : Nat → Callee) (env : Env) (hp : List Ob) (x : AO) : evOp Γ env hp (.nilCheck x) = oNilCheck hp (getO env x) := rfl
@[simp] theorem evOp_bin (Γ : Nat → Callee) (env : Env) (hp : List Ob) (op : BinOp) (x y : AO) : evOp Γ env hp (.bin op x y) = put1 hp (Go.X.bin op (getS env x) (getS env y)) := rfl
@[simp] theorem evOp_eqNil (Γ : Nat → Callee) (env : Env) (hp : List Ob) (neq : Bool) (x : AO) : evOp Γ env hp (.eqNil neq x) = oEqNil hp neq (getO env x) := rfl
@[simp] theorem evOp_eqAgg (Γ : Nat → Callee) (env : Env) (hp : List Ob) (neq : Bool) (z : List Sc) (x y : AO) : evOp Γ env hp (.eqAgg neq z x y) = oEqAgg hp neq z (getO env x) (getO env y) := rfl
@[simp] theorem evOp_eqB (Γ : Nat → Callee) (env : Env) (hp : List Ob) (neq : Bool) (x y : AO) : evOp Γ env hp (.eqB neq x y) = oEqB hp neq (getO env x) (getO env y) := rfl
@[simp] theorem evOp_un (Γ : Nat → Callee) (env : Env) (hp : List Ob) (op : UnOp) (x : AO) : evOp Γ env hp (.un op x) = put1 hp (Go.X.un op (getS env x)) := rfl
@[simp] theorem evOp_conv (Γ : Nat → Callee) (env : Env) (hp : List Ob) (k : IntKind) (x : AO) : evOp Γ env hp (.conv k x) = oConv hp k (getO env x) := rfl
@[simp] theorem evOp_sconv (Γ : Nat → Callee) (env : Env) (hp : List Ob) (x : AO) : evOp Γ env hp (.sconv x) = oSconv hp (getO env x) := rfl
@[simp] theorem evOp_s2b (Γ : Nat → Callee) (env : Env) (hp : List Ob) (x : AO) : evOp Γ env hp (.s2b x) = oS2b hp (getO env x) := rfl
@[simp] theorem evOp_b2s (Γ : Nat → Callee) (env : Env) (hp : List Ob) (x : AO) : evOp Γ env hp (.b2s x) = oB2s hp (content hp (getS env x)) := rfl
@[simp] theorem evOp_cutS (Γ : Nat → Callee) (env : Env) (hp : List Ob) (x : AO) (lo hi : Option AO) : evOp Γ env hp (.cutS x lo hi) = oCutS hp (getSo env lo) (getSo env hi) (getO env x) := rfl
@[simp] theorem evOp_cutR (Γ : Nat → Callee) (env : Env) (hp : List Ob) (size : Nat) (x : AO) (lo hi : Option AO) : evOp Γ env hp (.cutR size x lo hi) = if Go.X.sizeOf hp (getS env x) = some size then oCutR hp (getSo env lo) (getSo env hi) (getS env x) (lenOf hp (getS env x)) else none := rfl
@[simp] theorem evOp_cutA (Γ : Nat → Callee) (env : Env) (hp : List Ob) (n : Nat) (x : AO) (lo hi : Option AO) : evOp Γ env hp (.cutA n x lo hi) = oCutA hp n (getSo env lo) (getSo env hi) (getO env x) := rfl
@[simp] theorem evOp_fadr (Γ : Nat → Callee) (env : Env) (hp : List Ob) (off : Nat) (x : AO) : evOp Γ env hp (.fadr off x) = oFadr hp off (getO env x) := rfl
@[simp] theorem evOp_fld (Γ : Nat → Callee) (env : Env) (hp : List Ob) (off : Nat) (n : Option Nat) (x : AO) : evOp Γ env hp (.fld off n x) = oFld hp off n (getO env x) := rfl
@[simp] theorem evOp_iadrR (Γ : Nat → Callee) (env : Env) (hp : List Ob) (size : Nat) (x i : AO) : evOp Γ env hp (.iadrR size x i) = if Go.X.sizeOf hp (getS env x) = some size then oIadrR hp (getS env x) (lenOf hp (getS env x)) (getO env i) else none := rfl
@[simp] theorem evOp_iadrA (Γ : Nat → Callee) (env : Env) (hp : List Ob) (len size : Nat) (x i : AO) : evOp Γ env hp (.iadrA len size x i) = oIadrA hp len size (getO env x) (getO env i) := rfl
@[simp] theorem evOp_idxA (Γ : Nat → Callee) (env : Env) (hp : List Ob) (len size : Nat) (n : Option Nat) (x i : AO) : evOp Γ env hp (.idxA len size n x i) = oIdxA hp len size n (getO env x) (getO env i) := rfl
@[simp] theorem evOp_idxS (Γ : Nat → Callee) (env : Env) (hp : List Ob) (x i : AO) : evOp Γ env hp (.idxS x i) = oIdxS hp (getO env x) (getO env i) := rfl
@[simp] theorem evOp_extract (Γ : Nat → Callee) (env : Env) (hp : List Ob) (i : Nat) (x : AO) : evOp Γ env hp (.extract i x) = oExtract hp i (getO env x) := rfl
@[simp] theorem evOp_call (Γ : Nat → Callee) (env : Env) (hp : List Ob) (f : Nat) (args : List AO) : evOp Γ env hp (.call f args) = callee Γ hp f (getL env args) := rfl
@[simp] theorem evOp_callo (Γ : Nat → Callee) (env : Env) (hp : List Ob) (f : Nat) (args : List AO) : evOp Γ env hp (.callo f args) = callKs false Γ hp f (getL env args) (reachL hp 64 (avsCells (getL env args)) []) := rfl
@[simp] theorem evOp_calli (Γ : Nat → Callee) (env : Env) (hp : List Ob) (f : Nat) (args : List AO) : evOp Γ env hp (.calli f args) = callKs true Γ hp f (getL env args) (reachL hp 64 (avsCells (getL env args)) []) := rfl
@[simp] theorem evOp_pcall (Γ : Nat → Callee) (env : Env) (hp : List Ob) (f : Nat) (args : List AO) : evOp Γ env hp (.pcall f args) = pureCall Γ hp f (getL env args) := rfl
@[simp] theorem evOp_callv (Γ : Nat → Callee) (env : Env) (hp : List Ob) (x : AO) (args : List AO) : evOp Γ env hp (.callv x args) = oCallv Γ hp (getL env args) (getO env x) := rfl
@[simp] theorem evOp_lenS (Γ : Nat → Callee) (env : Env) (hp : List Ob) (x : AO) : evOp Γ env hp (.lenS x) = oLenS hp (getO env x) := rfl
@[simp] theorem evOp_len (Γ : Nat → Callee) (env : Env) (hp : List Ob) (x : AO) : evOp Γ env hp (.len x) = oLen hp (lenOf hp (getS env x)) := rfl
@[simp] theorem evOp_append (Γ : Nat → Callee) (env : Env) (hp : List Ob) (c0 : RC) (bytes : Nat) (s x : AO) : evOp Γ env hp (.append c0 bytes s x) = Go.X.append hp c0 bytes (getS env s) (getS env x) := rfl
@[simp] theorem evOp_min (Γ : Nat → Callee) (env : Env) (hp : List Ob) (l : List AO) : evOp Γ env hp (.min l) = oMin hp (getL env l) := rfl
@[simp] theorem evOp_max (Γ : Nat → Callee) (env : Env) (hp : List Ob) (l : List AO) : evOp Γ env hp (.max l) = oMax hp (getL env l) := rfl
@[simp] theorem evOp_mkfn (Γ : Nat → Callee) (env : Env) (hp : List Ob) (f : Nat) (caps : List AO) : evOp Γ env hp (.mkfn f caps) = some (.one (.fn f (getSL env caps)), hp) := rfl
@[simp] theorem evOp_appZ (Γ : Nat → Callee) (env : Env) (hp : List Ob) (c0 : RC) (zero : List Sc) (bytes : Nat) (s x : AO) : evOp Γ env hp (.appZ c0 zero bytes s x) = oAppZ hp c0 zero bytes (getS env s) (getO env x) := rfl
@[simp] theorem evOp_mks (Γ : Nat → Callee) (env : Env) (hp : List Ob) (c0 : RC) (zero : List Sc) (bytes : Nat) (len cap : AO) : evOp Γ env hp (.mks c0 zero bytes len cap) = oMks hp c0 zero bytes (getO env len) (getO env cap) := rfl
@[simp] theorem evOp_copy (Γ : Nat → Callee) (env : Env) (hp : List Ob) (d s : AO) : evOp Γ env hp (.copy d s) = oCopy hp (getS env d) (getS env s) := rfl
@[simp] theorem evOp_bad (Γ : Nat → Callee) (env : Env) (hp : List Ob) : evOp Γ env hp .bad = none := rfl
@[simp] theorem oCopy_cview (hp : List Ob) (k o n j p m : Nat) : oCopy hp (.cview k o n) (.cview j p m) = copyV hp k o (Nat.min m n) (loadPN (hp[j]?) (Nat.min m n) p) := rfl
@[simp] theorem oCopy_row (hp : List Ob) (k : Nat) (s : SV) : oCopy hp (.row k) s = copyS hp k 0 (lenAt (hp[k]?)) (content hp s) := rfl
@[simp] theorem oCopy_view (hp : List Ob) (k o n : Nat) (s : SV) : oCopy hp (.view k o n) s = copyS hp k o (some n) (content hp s) := rfl
@[simp] theorem copyS_some (hp : List Ob) (k o n : Nat) (y : RC) : copyS hp k o (some n) (some y) = copyT hp k o n y (hp[k]?) := rfl
@[simp] theorem copyT_rows (hp : List Ob) (k o n : Nat) (y : RC) (g : Option Nat) (c : RC) : copyT hp k o n y (some (.rows g c)) = copyB hp k g (Nat.min y.len n) (c.blit o (y.cut 0 (Nat.min y.len n))) := rfl
@[simp] theorem copyB_some (hp : List Ob) (k : Nat) (g : Option Nat) (m : Nat) (c : RC) : copyB hp k g m (some c) = some (.one (.int .i64 m), hp.set k (.rows g c)) := rfl
@[simp] theorem copyV_none (hp : List Ob) (k o n : Nat) : copyV hp k o n none = none := rfl
@[simp] theorem copyV_some (hp : List Ob) (k o n : Nat) (vs : List SV) : copyV hp k o n (some vs) = copyR n (storeP hp k vs o (hp[k]?)) := rfl
@[simp] theorem copyR_none (n : Nat) : copyR n none = none := rfl
@[simp] theorem copyR_some (n : Nat) (h : List Ob) : copyR n (some h) = some (.one (.int .i64 n), h) := rfl
@[simp] theorem newRow_def (hp : List Ob) (c : RC) : newRow hp c = some (.one (.row hp.length), hp ++ [.rows none c]) := rfl
@[simp] theorem append_def (hp : List Ob) (c0 : RC) (bytes : Nat) (s x : SV) : Go.X.append hp c0 bytes s x = app1 hp c0 bytes s x (source hp c0 x) := rfl
@[simp] theorem app1_some (hp : List Ob) (c0 : RC) (bytes : Nat) (s x : SV) (y : RC) : app1 hp c0 bytes s x (some y) = app2 hp c0 bytes s x y := rfl
@[simp] theorem app2_nils (hp : List Ob) (c0 c : RC) (bytes : Nat) (x : SV) (y : RC) : app2 hp c0 bytes (.nils c) x y = if y.len * bytes ≤ 140737488355328 ∧ y.size = c0.size then putR hp (RC.app c0 y) else none := rfl
@[simp] theorem app2_row (hp : List Ob) (c0 : RC) (bytes k : Nat) (x : SV) (y : RC) : app2 hp c0 bytes (.row k) x y = if keyOf x = some k then none else app3 hp c0 bytes k y (rowAt (hp[k]?)) := rfl
@[simp] theorem app2_view (hp : List Ob) (c0 : RC) (bytes k o n : Nat) (x : SV) (y : RC) : app2 hp c0 bytes (.view k o n) x y = if keyOf x = some k then none else app3 hp c0 bytes k y (cutAt o n (hp[k]?)) := rfl
@[simp] theorem app3_some (hp : List Ob) (c0 : RC) (bytes k : Nat) (y c : RC) : app3 hp c0 bytes k y (some c) = if (c.len + y.len) * bytes ≤ 140737488355328 ∧ c.size = c0.size ∧ y.size = c0.size then putR (hp.set k .dead) (c.app y) else none := rfl
@[simp] theorem ofElemsO_some (c0 : RC) (l : List (List Sc)) : ofElemsO c0 (some l) = RC.ofElems c0 l := rfl
@[simp] theorem resC_norm (rs : List (Nat × Option (Option Nat))) (env : Env) (rts : List SV) (hp : List Ob) : resC rs (some (.norm, ⟨env, rts, hp⟩)) = give rts hp (resL env hp rs) := rfl
@[simp] theorem resC_ret (rs : List (Nat × Option (Option Nat))) (env : Env) (rts : List SV) (hp : List Ob) : resC rs (some (.ret, ⟨env, rts, hp⟩)) = give rts hp (resL env hp rs) := rfl
@[simp] theorem resC_none (rs : List (Nat × Option (Option Nat))) : resC rs none = none := rfl
@[simp] theorem resOf_tmp (env : Env) (hp : List Ob) (t : Nat) : resOf env hp (t, none) = some (getT t env) := rfl
@[simp] theorem resOf_one (env : Env) (hp : List Ob) (t : Nat) : resOf env hp (t, some none) = oneAV (loadOne hp (getT t env).sv) := rfl
@[simp] theorem resOf_agg (env : Env) (hp : List Ob) (t n : Nat) : resOf env hp (t, some (some n)) = aggAV (loadN hp n (getT t env).sv) := rfl
@[simp] theorem evF_def (Γ : Nat → Callee) (K : Nat) (f : AF) (args : List AV) (hp : List Ob) : evF Γ K f args hp = resC f.results (evC Γ K f.body ⟨argEnv 0 args, avsCells args, hp⟩) := rfl
@[simp] theorem oPick_bool (hp : List Ob) (a b : AV) (t : Bool) : oPick hp a b (.one (.bool t)) = some (if t = true then a else b, hp) := rfl
@[simp] theorem oNilCheck_ptr (hp : List Ob) (k o : Nat) : oNilCheck hp (.one (.ptr k o)) = some (.one (.ptr k o), hp) := rfl
@[simp] theorem oNilCheck_eptr (hp : List Ob) (k i o : Nat) : oNilCheck hp (.one (.eptr k i o)) = some (.one (.eptr k i o), hp) := rfl
@[simp] theorem oNilCheck_rptr (hp : List Ob) (t : Nat) (c : RC) (i o : Nat) : oNilCheck hp (.one (.rptr t c i o)) = some (.one (.rptr t c i o), hp) := rfl
@[simp] theorem oNilCheck_fn (hp : List Ob) (f : Nat) (caps : List SV) : oNilCheck hp (.one (.fn f caps)) = some (.one (.fn f caps), hp) := rfl
@[simp] theorem oNilCheck_nilp (hp : List Ob) : oNilCheck hp (.one .nilp) = none := rfl
@[simp] theorem oEqNil_nilp (hp : List Ob) (neq : Bool) : oEqNil hp neq (.one .nilp) = some (.one (.bool (!neq)), hp) := rfl
@[simp] theorem oEqNil_ptr (hp : List Ob) (neq : Bool) (k o : Nat) : oEqNil hp neq (.one (.ptr k o)) = some (.one (.bool neq), hp) := rfl
@[simp] theorem oEqNil_eptr (hp : List Ob) (neq : Bool) (k i o : Nat) : oEqNil hp neq (.one (.eptr k i o)) = some (.one (.bool neq), hp) := rfl
@[simp] theorem oEqAgg_agg (hp : List Ob) (neq : Bool) (z : List Sc) (l m : List SV) : oEqAgg hp neq z (.agg l) (.agg m) = putB hp neq (eqScs z l m) := rfl
@[simp] theorem oConv_int (hp : List Ob) (k j : IntKind) (n : Int) : oConv hp k (.one (.int j n)) = some (.one (.int k (k.wrap n)), hp) := rfl
@[simp] theorem oSconv_str (hp : List Ob) (s : ByteArray) : oSconv hp (.one (.str s)) = some (.one (.str s), hp) := rfl
@[simp] theorem oS2b_str (hp : List Ob) (s : ByteArray) : oS2b hp (.one (.str s)) = if s.size ≤ 140737488355328 then newRow hp (.ints .u8 (toBytes s)) else none := rfl
@[simp] theorem oB2s_ints (hp : List Ob) (xs : List Int) : oB2s hp (some (.ints .u8 xs)) = some (.one (.str (ofBytes xs)), hp) := rfl
@[simp] theorem optInt_none (d : Nat) : optInt d none = some (d : Int) := rfl
@[simp] theorem optInt_int (d : Nat) (k : IntKind) (z : Int) : optInt d (some (.int k z)) = some z := rfl
@[simp] theorem oCutS_str (hp : List Ob) (lo hi : Option SV) (s : ByteArray) : oCutS hp lo hi (.one (.str s)) = cutS2 hp s (optInt 0 lo) (optInt s.size hi) := rfl
@[simp] theorem cutS2_some (hp : List Ob) (s : ByteArray) (a b : Int) : cutS2 hp s (some a) (some b) = if 0 ≤ a ∧ a ≤ b ∧ b ≤ s.size then some (.one (.str (s.extract a.toNat b.toNat)), hp) else none := rfl
@[simp] theorem oCutR_some (hp : List Ob) (lo hi : Option SV) (x : SV) (n : Nat) : oCutR hp lo hi x (some n) = cutR2 hp x n (optInt 0 lo) (optInt n hi) := rfl
@[simp] theorem cutR2_some (hp : List Ob) (x : SV) (n : Nat) (a b : Int) : cutR2 hp x n (some a) (some b) = if 0 ≤ a ∧ a ≤ b ∧ b ≤ n then put1 hp (cutSV a.toNat (b.toNat - a.toNat) x) else none := rfl
@[simp] theorem cutSV_row (a n k : Nat) : cutSV a n (.row k) = some (.view k a n) := rfl
@[simp] theorem cutSV_view (a n k o m : Nat) : cutSV a n (.view k o m) = some (.view k (o + a) n) := rfl
@[simp] theorem cutSV_cview (a n k o m : Nat) : cutSV a n (.cview k o m) = some (.cview k (o + a) n) := rfl
@[simp] theorem cutSV_ro (a n t : Nat) (c : RC) : cutSV a n (.ro t c) = some (.ro t (c.cut a n)) := rfl
@[simp] theorem cutSV_nils (a n : Nat) (c : RC) : cutSV a n (.nils c) = some (.nils c) := rfl
@[simp] theorem oCutA_ptr (hp : List Ob) (n : Nat) (lo hi : Option SV) (k o : Nat) : oCutA hp n lo hi (.one (.ptr k o)) = cutA2 hp n k o (optInt 0 lo) (optInt n hi) := rfl
@[simp] theorem cutA2_some (hp : List Ob) (n k o : Nat) (a b : Int) : cutA2 hp n k o (some a) (some b) = if 0 ≤ a ∧ a ≤ b ∧ b ≤ n then some (.one (.cview k (o + a.toNat) (b.toNat - a.toNat)), hp) else none := rfl
@[simp] theorem oFadr_ptr (hp : List Ob) (off k o : Nat) : oFadr hp off (.one (.ptr k o)) = some (.one (.ptr k (o + off)), hp) := rfl
@[simp] theorem oFadr_eptr (hp : List Ob) (off k i o : Nat) : oFadr hp off (.one (.eptr k i o)) = some (.one (.eptr k i (o + off)), hp) := rfl
@[simp] theorem oFadr_rptr (hp : List Ob) (off t : Nat) (c : RC) (i o : Nat) : oFadr hp off (.one (.rptr t c i o)) = some (.one (.rptr t c i (o + off)), hp) := rfl
@[simp] theorem oFld_agg (hp : List Ob) (off : Nat) (n : Option Nat) (l : List SV) : oFld hp off n (.agg l) = putA hp (takeAV l off n) := rfl
@[simp] theorem takeAV_none (l : List SV) (off : Nat) : takeAV l off none = (l[off]?).map AV.one := rfl
@[simp] theorem takeAV_some (l : List SV) (off n : Nat) : takeAV l off (some n) = if off + n ≤ l.length then some (.agg ((l.drop off).take n)) else none := rfl
@[simp] theorem elemPtr_row (i k : Nat) : elemPtr i (.row k) = some (.eptr k i 0) := rfl
@[simp] theorem elemPtr_view (i k o n : Nat) : elemPtr i (.view k o n) = some (.eptr k (o + i) 0) := rfl
@[simp] theorem elemPtr_cview (i k o n : Nat) : elemPtr i (.cview k o n) = some (.ptr k (o + i)) := rfl
@[simp] theorem elemPtr_ro (i t : Nat) (c : RC) : elemPtr i (.ro t c) = some (.rptr t c i 0) := rfl
@[simp] theorem oIadrR_some (hp : List Ob) (x : SV) (n : Nat) (k : IntKind) (i : Int) : oIadrR hp x (some n) (.one (.int k i)) = if inBounds i n = true then put1 hp (elemPtr i.toNat x) else none := rfl
@[simp] theorem oIadrA_ptr (hp : List Ob) (len size k o : Nat) (j : IntKind) (i : Int) : oIadrA hp len size (.one (.ptr k o)) (.one (.int j i)) = if inBounds i len = true then some (.one (.ptr k (o + i.toNat * size)), hp) else none := rfl
@[simp] theorem oIdxA_agg (hp : List Ob) (len size : Nat) (n : Option Nat) (l : List SV) (j : IntKind) (i : Int) : oIdxA hp len size n (.agg l) (.one (.int j i)) = if inBounds i len = true then putA hp (takeAV l (i.toNat * size) n) else none := rfl
@[simp] theorem oIdxS_str (hp : List Ob) (s : ByteArray) (j : IntKind) (i : Int) : oIdxS hp (.one (.str s)) (.one (.int j i)) = if inBounds i s.size = true then some (.one (.int .u8 ((toBytes s).getD i.toNat 0)), hp) else none := rfl
@[simp] theorem oExtract_tup (hp : List Ob) (i : Nat) (l : List AV) : oExtract hp i (.tup l) = putA hp l[i]? := rfl
@[simp] theorem oCallv_fn (Γ : Nat → Callee) (hp : List Ob) (args : List AV) (f : Nat) (caps : List SV) : oCallv Γ hp args (.one (.fn f caps)) = callKs false Γ hp f (args ++ caps.map AV.one) (handKs hp (args ++ caps.map AV.one)) := rfl
@[simp] theorem oLen_some (hp : List Ob) (n : Nat) : oLen hp (some n) = some (.one (.int .i64 n), hp) := rfl
@[simp] theorem oMin_two (hp : List Ob) (k j : IntKind) (x y : Int) : oMin hp [.one (.int k x), .one (.int j y)] = some (.one (.int k (if y < x then y else x)), hp) := rfl
@[simp] theorem oMax_two (hp : List Ob) (k j : IntKind) (x y : Int) : oMax hp [.one (.int k x), .one (.int j y)] = some (.one (.int k (if x < y then y else x)), hp) := rfl
@[simp] theorem oMks_int (hp : List Ob) (c0 : RC) (zero : List Sc) (bytes : Nat) (k j : IntKind) (n c : Int) : oMks hp c0 zero bytes (.one (.int k n)) (.one (.int j c)) = if 0 ≤ n ∧ n ≤ c ∧ c * bytes ≤ 140737488355328 then putR hp (RC.ofElems c0 (List.replicate n.toNat zero)) else none := rfl
@[simp] theorem loadOne_eptr (hp : List Ob) (k i o : Nat) : loadOne hp (.eptr k i o) = loadE (hp[k]?) i o := rfl
@[simp] theorem loadOne_ptr (hp : List Ob) (k o : Nat) : loadOne hp (.ptr k o) = loadP (hp[k]?) o := rfl
@[simp] theorem loadOne_rptr (hp : List Ob) (t : Nat) (c : RC) (i o : Nat) : loadOne hp (.rptr t c i o) = scSV (c.get i o) := rfl
@[simp] theorem loadP_cells (g : Option Nat) (l : List SV) (o : Nat) : loadP (some (.cells g l)) o = l[o]? := rfl
@[simp] theorem loadE_rows (g : Option Nat) (c : RC) (i o : Nat) : loadE (some (.rows g c)) i o = scSV (c.get i o) := rfl
@[simp] theorem scSV_none  : scSV none = none := rfl
@[simp] theorem scSV_some (c : Sc) : scSV (some c) = some c.sv := rfl
@[simp] theorem loadN_ptr (hp : List Ob) (n k o : Nat) : loadN hp n (.ptr k o) = loadPN (hp[k]?) n o := rfl
@[simp] theorem loadN_eptr (hp : List Ob) (n k i o : Nat) : loadN hp n (.eptr k i o) = loadEN (hp[k]?) n i o := rfl
@[simp] theorem loadN_rptr (hp : List Ob) (n t : Nat) (c : RC) (i o : Nat) : loadN hp n (.rptr t c i o) = takeE c n i o := rfl
@[simp] theorem loadPN_cells (g : Option Nat) (l : List SV) (n o : Nat) : loadPN (some (.cells g l)) n o = if o + n ≤ l.length then some ((l.drop o).take n) else none := rfl
@[simp] theorem loadEN_rows (g : Option Nat) (c : RC) (n i o : Nat) : loadEN (some (.rows g c)) n i o = takeE c n i o := rfl
@[simp] theorem storeCells_ptr (hp : List Ob) (vs : List SV) (k o : Nat) : storeCells hp vs (.ptr k o) = storeP hp k vs o (hp[k]?) := rfl
@[simp] theorem storeCells_eptr (hp : List Ob) (vs : List SV) (k i o : Nat) : storeCells hp vs (.eptr k i o) = storeE hp k vs i o (hp[k]?) := rfl
@[simp] theorem storeP_cells (hp : List Ob) (g : Option Nat) (k : Nat) (vs : List SV) (o : Nat) (l : List SV) : storeP hp k vs o (some (.cells g l)) = if o + vs.length ≤ l.length ∧ vs.all okCell = true then some (hp.set k (.cells g (putAt l o vs))) else none := rfl
@[simp] theorem storeE_rows (g : Option Nat) (hp : List Ob) (k : Nat) (vs : List SV) (i o : Nat) (c : RC) : storeE hp k vs i o (some (.rows g c)) = rowsH hp k g (setScs c i o vs) := rfl
@[simp] theorem rowsH_some (g : Option Nat) (hp : List Ob) (k : Nat) (c : RC) : rowsH hp k g (some c) = some (hp.set k (.rows g c)) := rfl
@[simp] theorem rowsH_none (g : Option Nat) (hp : List Ob) (k : Nat) : rowsH hp k g none = none := rfl
@[simp] theorem sc_int (k : IntKind) (x : Int) : SV.sc (.int k x) = some (.int k x) := rfl
@[simp] theorem svsc_int (k : IntKind) (x : Int) : Sc.sv (.int k x) = .int k x := rfl
@[simp] theorem sc_bool (b : Bool) : SV.sc (.bool b) = some (.bool b) := rfl
@[simp] theorem svsc_bool (b : Bool) : Sc.sv (.bool b) = .bool b := rfl
@[simp] theorem sc_str (s : ByteArray) : SV.sc (.str s) = some (.str s) := rfl
@[simp] theorem svsc_str (s : ByteArray) : Sc.sv (.str s) = .str s := rfl
@[simp] theorem okCell_undef  : okCell .undef = false := rfl
@[simp] theorem okCell_int (k : IntKind) (x : Int) : okCell (.int k x) = true := rfl
@[simp] theorem okCell_bool (b : Bool) : okCell (.bool b) = true := rfl
@[simp] theorem okCell_str (s : ByteArray) : okCell (.str s) = true := rfl
@[simp] theorem okCell_nilp  : okCell .nilp = true := rfl
@[simp] theorem okCell_ptr (k o : Nat) : okCell (.ptr k o) = true := rfl
@[simp] theorem okCell_row (k : Nat) : okCell (.row k) = true := rfl
@[simp] theorem okCell_view (k o n : Nat) : okCell (.view k o n) = true := rfl
@[simp] theorem okCell_ro (t : Nat) (c : RC) : okCell (.ro t c) = true := rfl
@[simp] theorem okCell_fn (f : Nat) (caps : List SV) : okCell (.fn f caps) = true := rfl
@[simp] theorem okCell_nilf  : okCell .nilf = true := rfl
@[simp] theorem len_ints (k : IntKind) (xs : List (Int)) : RC.len (.ints k xs) = xs.length := rfl
@[simp] theorem size_ints (k : IntKind) (xs : List (Int)) : RC.size (.ints k xs) = 1 := rfl
@[simp] theorem cut_ints (k : IntKind) (xs : List (Int)) (a m : Nat) : RC.cut (.ints k xs) a m = .ints k ((xs.drop a).take m) := rfl
@[simp] theorem len_strs (xs : List (ByteArray)) : RC.len (.strs xs) = xs.length := rfl
@[simp] theorem size_strs (xs : List (ByteArray)) : RC.size (.strs xs) = 1 := rfl
@[simp] theorem cut_strs (xs : List (ByteArray)) (a m : Nat) : RC.cut (.strs xs) a m = .strs ((xs.drop a).take m) := rfl
@[simp] theorem len_bools (xs : List (Bool)) : RC.len (.bools xs) = xs.length := rfl
@[simp] theorem size_bools (xs : List (Bool)) : RC.size (.bools xs) = 1 := rfl
@[simp] theorem cut_bools (xs : List (Bool)) (a m : Nat) : RC.cut (.bools xs) a m = .bools ((xs.drop a).take m) := rfl
@[simp] theorem len_recs (n : Nat) (xs : List (List Sc)) : RC.len (.recs n xs) = xs.length := rfl
@[simp] theorem size_recs (n : Nat) (xs : List (List Sc)) : RC.size (.recs n xs) = n := rfl
@[simp] theorem cut_recs (n : Nat) (xs : List (List Sc)) (a m : Nat) : RC.cut (.recs n xs) a m = .recs n ((xs.drop a).take m) := rfl
@[simp] theorem get_ints (k : IntKind) (xs : List Int) (i off : Nat) : RC.get (.ints k xs) i off = if off = 0 then some (.int k (xs.getD i 0)) else none := rfl
@[simp] theorem get_strs (xs : List ByteArray) (i off : Nat) : RC.get (.strs xs) i off = if off = 0 then some (.str (xs.getD i .empty)) else none := rfl
@[simp] theorem get_bools (xs : List Bool) (i off : Nat) : RC.get (.bools xs) i off = if off = 0 then some (.bool (xs.getD i false)) else none := rfl
@[simp] theorem get_recs (n : Nat) (xs : List (List Sc)) (i off : Nat) : RC.get (.recs n xs) i off = (xs.getD i [])[off]? := rfl
@[simp] theorem elem_ints (k : IntKind) (xs : List Int) (i : Nat) : RC.elem (.ints k xs) i = [.int k (xs.getD i 0)] := rfl
@[simp] theorem elem_recs (n : Nat) (xs : List (List Sc)) (i : Nat) : RC.elem (.recs n xs) i = xs.getD i [] := rfl
@[simp] theorem set_ints (k j : IntKind) (xs : List Int) (i off : Nat) (x : Int) : RC.set (.ints k xs) i off (.int j x) = if off = 0 ∧ k = j then some (.ints k (xs.set i x)) else none := rfl
@[simp] theorem set_recs (n : Nat) (xs : List (List Sc)) (i off : Nat) (c : Sc) : RC.set (.recs n xs) i off c = if off < n then some (.recs n (xs.set i ((xs.getD i []).set off c))) else none := rfl
@[simp] theorem app_ints (k j : IntKind) (xs ys : List Int) : RC.app (.ints k xs) (.ints j ys) = if k = j then some (.ints k (xs ++ ys)) else none := rfl
@[simp] theorem app_strs (xs ys : List ByteArray) : RC.app (.strs xs) (.strs ys) = some (.strs (xs ++ ys)) := rfl
@[simp] theorem app_bools (xs ys : List Bool) : RC.app (.bools xs) (.bools ys) = some (.bools (xs ++ ys)) := rfl
@[simp] theorem app_recs (n m : Nat) (xs ys : List (List Sc)) : RC.app (.recs n xs) (.recs m ys) = if n = m then some (.recs n (xs ++ ys)) else none := rfl
@[simp] theorem content_row (hp : List Ob) (k : Nat) : content hp (.row k) = rowAt (hp[k]?) := rfl
@[simp] theorem content_view (hp : List Ob) (k o n : Nat) : content hp (.view k o n) = cutAt o n (hp[k]?) := rfl
@[simp] theorem content_ro (hp : List Ob) (t : Nat) (c : RC) : content hp (.ro t c) = some c := rfl
@[simp] theorem content_nils (hp : List Ob) (c : RC) : content hp (.nils c) = some c := rfl
@[simp] theorem rowAt_rows (g : Option Nat) (c : RC) : rowAt (some (.rows g c)) = some c := rfl
@[simp] theorem cutAt_rows (g : Option Nat) (o n : Nat) (c : RC) : cutAt o n (some (.rows g c)) = some (c.cut o n) := rfl
@[simp] theorem sizeAt_rows (g : Option Nat) (c : RC) : sizeAt (some (.rows g c)) = some c.size := rfl
@[simp] theorem sizeOf_row (hp : List Ob) (k : Nat) : Go.X.sizeOf hp (.row k) = sizeAt (hp[k]?) := rfl
@[simp] theorem sizeOf_view (hp : List Ob) (k o n : Nat) : Go.X.sizeOf hp (.view k o n) = sizeAt (hp[k]?) := rfl
@[simp] theorem sizeOf_cview (hp : List Ob) (k o n : Nat) : Go.X.sizeOf hp (.cview k o n) = some 1 := rfl
@[simp] theorem sizeOf_ro (hp : List Ob) (t : Nat) (c : RC) : Go.X.sizeOf hp (.ro t c) = some c.size := rfl
@[simp] theorem sizeOf_nils (hp : List Ob) (c : RC) : Go.X.sizeOf hp (.nils c) = some c.size := rfl
@[simp] theorem lenOf_row (hp : List Ob) (k : Nat) : lenOf hp (.row k) = lenAt (hp[k]?) := rfl
@[simp] theorem lenAt_rows (g : Option Nat) (c : RC) : lenAt (some (.rows g c)) = some c.len := rfl
@[simp] theorem lenOf_view (hp : List Ob) (k o n : Nat) : lenOf hp (.view k o n) = some n := rfl
@[simp] theorem lenOf_cview (hp : List Ob) (k o n : Nat) : lenOf hp (.cview k o n) = some n := rfl
@[simp] theorem lenOf_ro (hp : List Ob) (t : Nat) (c : RC) : lenOf hp (.ro t c) = some c.len := rfl
@[simp] theorem lenOf_nils (hp : List Ob) (c : RC) : lenOf hp (.nils c) = some 0 := rfl
@[simp] theorem oLenS_str (hp : List Ob) (s : ByteArray) : oLenS hp (.one (.str s)) = some (.one (.int .i64 s.size), hp) := rfl
@[simp] theorem source_str (hp : List Ob) (l : List Int) (s : ByteArray) : source hp (.ints .u8 l) (.str s) = some (.ints .u8 (toBytes s)) := rfl
@[simp] theorem source_row (hp : List Ob) (c0 : RC) (k : Nat) : source hp c0 (.row k) = content hp (.row k) := rfl
@[simp] theorem keyOf_row (k : Nat) : keyOf (.row k) = some k := rfl
@[simp] theorem source_view (hp : List Ob) (c0 : RC) (k o n : Nat) : source hp c0 (.view k o n) = content hp (.view k o n) := rfl
@[simp] theorem keyOf_view (k o n : Nat) : keyOf (.view k o n) = some k := rfl
@[simp] theorem source_ro (hp : List Ob) (c0 : RC) (t : Nat) (c : RC) : source hp c0 (.ro t c) = content hp (.ro t c) := rfl
@[simp] theorem keyOf_ro (t : Nat) (c : RC) : keyOf (.ro t c) = none := rfl
@[simp] theorem source_nils (hp : List Ob) (c0 : RC) (c : RC) : source hp c0 (.nils c) = content hp (.nils c) := rfl
@[simp] theorem keyOf_nils (c : RC) : keyOf (.nils c) = none := rfl
@[simp] theorem keyOf_undef  : keyOf .undef = none := rfl
@[simp] theorem takeE_def (c : RC) (n i o : Nat) : takeE c n i o = if o + n ≤ c.size then some ((((c.elem i).drop o).take n).map Sc.sv) else none := rfl
@[simp] theorem keyOf_str (s : ByteArray) : keyOf (.str s) = none := rfl
@[simp] theorem bin_add (k j : IntKind) (x y : Int) : Go.X.bin .add (.int k x) (.int j y) = if k = j then some (.int k (k.wrap (x + y))) else none := rfl
@[simp] theorem bin_sub (k j : IntKind) (x y : Int) : Go.X.bin .sub (.int k x) (.int j y) = if k = j then some (.int k (k.wrap (x - y))) else none := rfl
@[simp] theorem bin_mul (k j : IntKind) (x y : Int) : Go.X.bin .mul (.int k x) (.int j y) = if k = j then some (.int k (k.wrap (x * y))) else none := rfl
@[simp] theorem bin_and (k j : IntKind) (x y : Int) : Go.X.bin .and (.int k x) (.int j y) = if k = j then some (.int k (bitsI .and k x y)) else none := rfl
@[simp] theorem bin_or (k j : IntKind) (x y : Int) : Go.X.bin .or (.int k x) (.int j y) = if k = j then some (.int k (bitsI .or k x y)) else none := rfl
@[simp] theorem bin_xor (k j : IntKind) (x y : Int) : Go.X.bin .xor (.int k x) (.int j y) = if k = j then some (.int k (bitsI .xor k x y)) else none := rfl
@[simp] theorem bin_andNot (k j : IntKind) (x y : Int) : Go.X.bin .andNot (.int k x) (.int j y) = if k = j then some (.int k (bitsI .andNot k x y)) else none := rfl
@[simp] theorem bin_quo (k j : IntKind) (x y : Int) : Go.X.bin .quo (.int k x) (.int j y) = if k = j then (if y = 0 then none else some (.int k (k.wrap (x.tdiv y)))) else none := rfl
@[simp] theorem bin_rem (k j : IntKind) (x y : Int) : Go.X.bin .rem (.int k x) (.int j y) = if k = j then (if y = 0 then none else some (.int k (x.tmod y))) else none := rfl
@[simp] theorem bin_shl (k j : IntKind) (x y : Int) : Go.X.bin .shl (.int k x) (.int j y) = if y < 0 then none else some (.int k (shlI k x y)) := rfl
@[simp] theorem bin_shr (k j : IntKind) (x y : Int) : Go.X.bin .shr (.int k x) (.int j y) = if y < 0 then none else some (.int k (shrI k x y)) := rfl
@[simp] theorem bin_eql (k j : IntKind) (x y : Int) : Go.X.bin .eql (.int k x) (.int j y) = if k = j then some (.bool (x == y)) else none := rfl
@[simp] theorem bin_neq (k j : IntKind) (x y : Int) : Go.X.bin .neq (.int k x) (.int j y) = if k = j then some (.bool (x != y)) else none := rfl
@[simp] theorem bin_lss (k j : IntKind) (x y : Int) : Go.X.bin .lss (.int k x) (.int j y) = if k = j then some (.bool (decide (x < y))) else none := rfl
@[simp] theorem bin_leq (k j : IntKind) (x y : Int) : Go.X.bin .leq (.int k x) (.int j y) = if k = j then some (.bool (decide (x ≤ y))) else none := rfl
@[simp] theorem bin_gtr (k j : IntKind) (x y : Int) : Go.X.bin .gtr (.int k x) (.int j y) = if k = j then some (.bool (decide (y < x))) else none := rfl
@[simp] theorem bin_geq (k j : IntKind) (x y : Int) : Go.X.bin .geq (.int k x) (.int j y) = if k = j then some (.bool (decide (y ≤ x))) else none := rfl
@[simp] theorem oEqB_bool (hp : List Ob) (neq x y : Bool) : oEqB hp neq (.one (.bool x)) (.one (.bool y)) = putB hp neq (some (x == y)) := rfl
@[simp] theorem bin_sadd (x y : ByteArray) : Go.X.bin .add (.str x) (.str y) = if x.size + y.size ≤ 9223372036854775807 then some (.str (x ++ y)) else none := rfl
@[simp] theorem bin_seql (x y : ByteArray) : Go.X.bin .eql (.str x) (.str y) = some (.bool (x.toList == y.toList)) := rfl
@[simp] theorem bin_sneq (x y : ByteArray) : Go.X.bin .neq (.str x) (.str y) = some (.bool (!(x.toList == y.toList))) := rfl
@[simp] theorem un_neg (k : IntKind) (x : Int) : Go.X.un .neg (.int k x) = some (.int k (k.wrap (0 - x))) := rfl
@[simp] theorem un_xor (k : IntKind) (x : Int) : Go.X.un .xor (.int k x) = some (.int k (bitsI .xor k (if k.signed then -1 else k.max) x)) := rfl
@[simp] theorem un_not (b : Bool) : Go.X.un .not (.bool b) = some (.bool (!b)) := rfl
@[simp] theorem eqSc_int (k0 k j : IntKind) (x0 x y : Int) : eqSc (.int k0 x0) (.int k x) (.int j y) = if k = j then some (x == y) else none := rfl
@[simp] theorem eqSc_bool (x0 x y : Bool) : eqSc (.bool x0) (.bool x) (.bool y) = some (x == y) := rfl
@[simp] theorem eqSc_str (x0 x y : ByteArray) : eqSc (.str x0) (.str x) (.str y) = some (x == y) := rfl
@[simp] theorem oneAV_some (v : SV) : oneAV (some v) = some (.one v) := rfl
@[simp] theorem aggAV_some (l : List SV) : aggAV (some l) = some (.agg l) := rfl
@[simp] theorem tupOf_one (v : AV) : tupOf [v] = v := rfl
@[simp] theorem tupOf_two (v u : AV) (l : List AV) : tupOf (v :: u :: l) = .tup (v :: u :: l) := rfl
@[simp] theorem thenC_ite (f : St → Option (Ex × St)) (c : Prop) [Decidable c] (a b : Option (Ex × St)) : thenC f (if c then a else b) = if c then thenC f a else thenC f b := by split <;> rfl
@[simp] theorem thenI_ite (env : Env) (rts : List SV) (d : Option Nat) (f : St → Option St) (c : Prop) [Decidable c] (a b : Res) : thenI env rts d f (if c then a else b) = if c then thenI env rts d f a else thenI env rts d f b := by split <;> rfl
@[simp] theorem blockC_ite (i : Nat) (c : Prop) [Decidable c] (a b : Option (Ex × St)) : blockC i (if c then a else b) = if c then blockC i a else blockC i b := by split <;> rfl
@[simp] theorem normC_ite  (c : Prop) [Decidable c] (a b : Option St) : normC  (if c then a else b) = if c then normC  a else normC  b := by split <;> rfl
@[simp] theorem put1_ite (hp : List Ob) (c : Prop) [Decidable c] (a b : Option SV) : put1 hp (if c then a else b) = if c then put1 hp a else put1 hp b := by split <;> rfl
@[simp] theorem putA_ite (hp : List Ob) (c : Prop) [Decidable c] (a b : Option AV) : putA hp (if c then a else b) = if c then putA hp a else putA hp b := by split <;> rfl
@[simp] theorem putL_ite (hp : List Ob) (c : Prop) [Decidable c] (a b : Option (List SV)) : putL hp (if c then a else b) = if c then putL hp a else putL hp b := by split <;> rfl
@[simp] theorem putH_ite  (c : Prop) [Decidable c] (a b : Option (List Ob)) : putH  (if c then a else b) = if c then putH  a else putH  b := by split <;> rfl
@[simp] theorem putR_ite (hp : List Ob) (c : Prop) [Decidable c] (a b : Option RC) : putR hp (if c then a else b) = if c then putR hp a else putR hp b := by split <;> rfl
@[simp] theorem ofElemsO_ite (c0 : RC) (c : Prop) [Decidable c] (a b : Option (List (List Sc))) : ofElemsO c0 (if c then a else b) = if c then ofElemsO c0 a else ofElemsO c0 b := by split <;> rfl
@[simp] theorem putB_ite (hp : List Ob) (n : Bool) (c : Prop) [Decidable c] (a b : Option Bool) : putB hp n (if c then a else b) = if c then putB hp n a else putB hp n b := by split <;> rfl
@[simp] theorem resC_ite (rs : List (Nat × Option (Option Nat))) (c : Prop) [Decidable c] (a b : Option (Ex × St)) : resC rs (if c then a else b) = if c then resC rs a else resC rs b := by split <;> rfl
@[simp] theorem rowsH_ite (hp : List Ob) (k : Nat) (g : Option Nat) (c : Prop) [Decidable c] (a b : Option RC) : rowsH hp k g (if c then a else b) = if c then rowsH hp k g a else rowsH hp k g b := by split <;> rfl
@[simp] theorem scSV_ite  (c : Prop) [Decidable c] (a b : Option Sc) : scSV  (if c then a else b) = if c then scSV  a else scSV  b := by split <;> rfl
@[simp] theorem give_ite (rts : List SV) (hp : List Ob) (c : Prop) [Decidable c] (a b : Option (List AV)) : give rts hp (if c then a else b) = if c then give rts hp a else give rts hp b := by split <;> rfl
@[simp] theorem comeBack_ite (hp : List Ob) (ks : List Nat) (args : List AV) (c : Prop) [Decidable c] (a b : Res) : comeBack hp ks args (if c then a else b) = if c then comeBack hp ks args a else comeBack hp ks args b := by split <;> rfl
@[simp] theorem inBounds_nat (i : Int) (n : Nat) : (inBounds i n = true) = (0 ≤ i ∧ i < n) := by simp [inBounds]
theorem shrI_eq (k : IntKind) (x y : Int) : shrI k x y = x / ((2 ^ Nat.min y.toNat k.bits : Nat) : Int) := by
  unfold shrI
  have h : ((2 ^ Nat.min y.toNat k.bits : Nat) : Int) = (2 : Int) ^ Nat.min y.toNat k.bits := by simp
  rw [← h, Int.fdiv_eq_ediv_of_nonneg _ (Int.natCast_nonneg _)]
def bl (n : Nat) : Nat := if n = 0 then 0 else Nat.log2 n + 1
theorem bl_pos {n : Nat} (h : 0 < n) : 2 ^ (bl n - 1) ≤ n ∧ n < 2 ^ bl n ∧ 0 < bl n := by
  have h' : n ≠ 0 := by omega
  simp only [bl, if_neg h', Nat.add_sub_cancel]
  exact ⟨Nat.log2_self_le h', Nat.lt_log2_self, by omega⟩
theorem bl_unique {n k : Nat} (h1 : 2 ^ k ≤ n) (h2 : n < 2 ^ (k + 1)) : bl n = k + 1 := by
  have h' : n ≠ 0 := by have := Nat.two_pow_pos k; omega
  simp only [bl, if_neg h']
  have h3 := (Nat.le_log2 h').2 h1
  have h4 := (Nat.log2_lt h').2 h2
  omega
theorem bl_div {n : Nat} (k : Nat) (h : 2 ^ k ≤ n) : bl n = k + bl (n / 2 ^ k) := by
  have hp := Nat.two_pow_pos k
  have hq : 0 < n / 2 ^ k := Nat.div_pos h hp
  obtain ⟨h1, h2, h3⟩ := bl_pos hq
  generalize bl (n / 2 ^ k) = b at *
  obtain ⟨c, rfl⟩ : ∃ c, b = c + 1 := ⟨b - 1, by omega⟩
  simp only [Nat.add_sub_cancel] at h1
  rw [show k + (c + 1) = (k + c) + 1 by omega]
  refine bl_unique ?_ ?_
  · rw [Nat.pow_add, Nat.mul_comm]
    exact (Nat.le_div_iff_mul_le hp).1 h1
  · rw [show k + c + 1 = (c + 1) + k by omega, Nat.pow_add]
    exact (Nat.div_lt_iff_lt_mul hp).1 h2
theorem bl_le {n k : Nat} (h : n < 2 ^ k) : bl n ≤ k := by
  rcases Nat.eq_zero_or_pos n with e | e
  · subst e; simp [bl]
  · obtain ⟨h1, _, h3⟩ := bl_pos e
    have : 2 ^ (bl n - 1) < 2 ^ k := by omega
    have := (Nat.pow_lt_pow_iff_right (by omega : 1 < 2)).1 this
    omega
theorem bl_half {n : Nat} (h : 0 < n) : bl n = bl (n / 2) + 1 := by
  rcases Nat.lt_or_ge n 2 with h2 | h2
  · obtain rfl : n = 1 := by omega
    rfl
  · have := bl_div (n := n) 1 (by simpa using h2)
    simp at this; omega
def loopH (body : St → Option (Ex × St)) (live : List Nat) (k : Nat) (st : St) : Option (Ex × St) := thenC (loopN body live (k - 1)) (body st)
theorem loop_head {body : St → Option (Ex × St)} {live : List Nat} {k : Nat} (st : St) (h : k ≠ 0) : loopN body live k st = loopH body live k (st.head live) := by
  cases k with
  | zero => exact absurd rfl h
  | succ k => rfl
@[simp] theorem loop_KK (body : St → Option (Ex × St)) (live : List Nat) (st : St) : loopN body live KK st = loopH body live KK (st.head live) := loop_head st (by rw [KK_eq]; omega)
theorem loopH_norm {body : St → Option (Ex × St)} {live : List Nat} {k : Nat} {st st1 : St} (h : body st = some (.norm, st1)) (hk : 1 < k) : loopH body live k st = loopH body live (k - 1) (st1.head live) := by
  rw [loopH, h]; exact loop_head st1 (by omega)
theorem loopH_exit {body : St → Option (Ex × St)} {live : List Nat} {k : Nat} {st st1 : St} {i : Nat} (h : body st = some (.exit i, st1)) : loopH body live k st = some (.exit i, st1) := by
  rw [loopH, h]; rfl
theorem loopH_ret {body : St → Option (Ex × St)} {live : List Nat} {k : Nat} {st st1 : St} (h : body st = some (.ret, st1)) : loopH body live k st = some (.ret, st1) := by
  rw [loopH, h]; rfl
def loopG (body : St → Option (Ex × St)) (live : List Nat) (n : Nat) (st : St) : Option (Ex × St) := loopH body live (KK - n) st
@[congr] theorem loopG_cg {body : St → Option (Ex × St)} {live : List Nat} {n : Nat} {st st' : St} (h : st = st') : loopG body live n st = loopG body live n st' := by rw [h]
@[congr] theorem loopH_cg {body : St → Option (Ex × St)} {live : List Nat} {k : Nat} {st st' : St} (h : st = st') : loopH body live k st = loopH body live k st' := by rw [h]
theorem loop_go0 (body : St → Option (Ex × St)) (live : List Nat) (st : St) : loopH body live KK st = loopG body live 0 st := rfl
theorem loop_go1 {body : St → Option (Ex × St)} {live : List Nat} {n : Nat} {st : St} (hn : n < 1000) : loopG body live n st = thenC (fun st => loopG body live (n + 1) (st.head live)) (body st) := by
  have hK := KK_eq
  unfold loopG loopH
  cases hb : body st with
  | none => rfl
  | some p =>
    obtain ⟨x, st1⟩ := p
    cases x with
    | norm =>
      have h1 : KK - n - 1 = KK - (n + 1) := by omega
      rw [h1]
      exact loop_head st1 (by omega)
    | exit i => rfl
    | ret => rfl
def slv (k : Nat) : Option (Nat × Nat) → SV
  | none => .row k
  | some (o, n) => .view k o n
def slvO (s : Option (Nat × Nat)) : Option Nat → SV
  | some j => slv j s
  | none => .undef
@[simp] theorem slvO_some (s : Option (Nat × Nat)) (j : Nat) : slvO s (some j) = slv j s := rfl
@[simp ↓ high] theorem reachSV_slv (hp : List Ob) (f k : Nat) (s : Option (Nat × Nat)) (ks : List Nat) : reachSV hp (f + 1) (slv k s) ks = if ks.elem k then ks else reachOb hp f hp[k]? k ks := by
  cases s <;> simp only [slv, reachSV]
@[simp ↓ high] theorem ren_slv (f : Nat → Option Nat) (k : Nat) (s : Option (Nat × Nat)) : SV.ren f (slv k s) = slvO s (f k) := by
  cases s <;> simp only [slv, SV.ren, slvO] <;> cases f k <;> rfl
@[simp ↓ high] theorem back_slv (cs : List SV) (k : Nat) (s : Option (Nat × Nat)) : SV.back cs (slv k s) = slv k s := by
  cases s <;> simp [slv]
@[simp ↓ high] theorem strip_slv (k : Nat) (s : Option (Nat × Nat)) : SV.strip (slv k s) = slv k s := by
  cases s <;> simp [slv]
@[simp ↓ high] theorem okCell_slv (k : Nat) (s : Option (Nat × Nat)) : okCell (slv k s) = true := by
  cases s <;> simp [slv]
@[simp ↓ high] theorem handed_slv (k : Nat) (s : Option (Nat × Nat)) (l : List SV) : handed (slv k s :: l) = handed l := by
  cases s <;> simp [slv]
def vw {α : Type} (X : List α) : Option (Nat × Nat) → List α
  | none => X
  | some (o, n) => (X.drop o).take n
def vwn {α : Type} (X : List α) : Option (Nat × Nat) → Nat
  | none => X.length
  | some (_, n) => n
def vok {α : Type} (X : List α) : Option (Nat × Nat) → Prop
  | none => True
  | some (o, n) => o + n ≤ X.length
@[simp ↓ high] theorem reachSV_sc (hp : List Ob) (f : Nat) (c : Sc) (ks : List Nat) : reachSV hp f c.sv ks = ks := by cases f <;> cases c <;> rfl
@[simp ↓ high] theorem ren_sc (f : Nat → Option Nat) (c : Sc) : SV.ren f c.sv = c.sv := by cases c <;> rfl
@[simp ↓ high] theorem back_sc (cs : List SV) (c : Sc) : SV.back cs c.sv = c.sv := by cases c <;> rfl
@[simp ↓ high] theorem okCell_sc (c : Sc) : okCell c.sv = true := by cases c <;> rfl
end Go.X
