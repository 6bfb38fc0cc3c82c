import Derived.Test.YthcbhmgjkecppaaDc
set_option maxRecDepth 100000
set_option linter.unusedSimpArgs false
namespace Go.X.Try
open Go.IntWalk
/-- A pipe. -/
structure PS where
  most : Int
  sf : Option (Nat × Nat)
  sc : Option (Nat × Nat)
  X : List (List Sc)
  Y : List (List Sc)
  h : Int
  n : Int
def tg (t : Bool) (k : Nat) : Option Nat := if t = true then some k else none
@[simp] theorem tg_true (k : Nat) : tg true k = some k := rfl
@[simp] theorem tg_false (k : Nat) : tg false k = none := rfl
def PS.obs (p : PS) (g : Option Nat) (b : Nat) : List Ob := [.cells g [.int .i64 p.most, slv (b + 1) p.sf, slv (b + 2) p.sc, .int .u64 p.h, .int .u64 p.n], .rows (.recs 3 p.X), .rows (.recs 3 p.Y)]
def PS.nx (p : PS) : Nat := slen p.X p.sf
def PS.ny (p : PS) : Nat := slen p.Y p.sc
def PS.zero (p : PS) : PS := ⟨p.most, none, none, [], [], 7640891576956012808, 0⟩
def linkHp (t up : Bool) (gen : Int) (P Q : PS) : List Ob := .cells (tg t 0) [.ptr 1 0, .ptr 4 0, .bool up, .int .i64 gen] :: (P.obs (tg t 1) 1 ++ Q.obs (tg t 4) 4)
theorem p60 (P : PS) : F60 [.one (.ptr 0 0)] (P.obs (some 0) 0) = some (.one (.int .i64 P.nx), P.obs (some 0) 0) := f60 P.most P.h P.n P.sf P.sc P.X P.Y
theorem p61 (P : PS) : F61 [.one (.ptr 0 0)] (P.obs (some 0) 0) = some (.one (.int .i64 P.ny), P.obs (some 0) 0) := f61 P.most P.h P.n P.sf P.sc P.X P.Y
theorem p107 (P : PS) : F107 [.one (.ptr 0 0)] (P.obs (some 0) 0) = some (.tup [], P.zero.obs (some 0) 0) := f107 P.most P.h P.n P.sf P.sc P.X P.Y
theorem p93 (m : Int) : F93 [.one (.int .i64 m)] [] = some (.one (.ptr 0 0), PS.obs ⟨if (if m < 1 then 1 else m) > 2048 then 2048 else (if m < 1 then 1 else m), none, none, [], [], 7640891576956012808, 0⟩ none 0) := f93' m
theorem f34n : F34 [.one .nilp] [] = some (.one (.bool false), []) := by simp -implicitDefEqProofs [F34, c34, upd]
theorem f34 (up : Bool) (gen : Int) (P Q : PS) : F34 [.one (.ptr 0 0)] (linkHp true up gen P Q) = some (.one (.bool up), linkHp true up gen P Q) := by
  simp -implicitDefEqProofs [F34, c34, upd, linkHp, PS.obs]
theorem f35n : F35 [.one .nilp] [] = some (.one (.int .i64 0), []) := by simp -implicitDefEqProofs [F35, c35, upd]
theorem f35 (up : Bool) (gen : Int) (P Q : PS) : F35 [.one (.ptr 0 0)] (linkHp true up gen P Q) = some (.one (.int .i64 gen), linkHp true up gen P Q) := by
  simp -implicitDefEqProofs [F35, c35, upd, linkHp, PS.obs]
theorem f36n : F36 [.one .nilp] [] = some (.one .nilp, []) := by simp -implicitDefEqProofs [F36, c36, upd, f34n]
theorem f36 (up : Bool) (gen : Int) (P Q : PS) : F36 [.one (.ptr 0 0)] (linkHp true up gen P Q) = some (.one (if up = true then .ptr 1 0 else .nilp), linkHp true up gen P Q) := by
  have e34 := f34 up gen P Q
  simp only [linkHp, PS.obs, tg_true, List.cons_append, List.nil_append, Nat.reduceAdd] at e34 ⊢
  cases up <;> simp -implicitDefEqProofs [F36, c36, upd, e34]
theorem f37n : F37 [.one .nilp] [] = some (.one .nilp, []) := by simp -implicitDefEqProofs [F37, c37, upd, f34n]
theorem f37 (up : Bool) (gen : Int) (P Q : PS) : F37 [.one (.ptr 0 0)] (linkHp true up gen P Q) = some (.one (if up = true then .ptr 4 0 else .nilp), linkHp true up gen P Q) := by
  have e34 := f34 up gen P Q
  simp only [linkHp, PS.obs, tg_true, List.cons_append, List.nil_append, Nat.reduceAdd] at e34 ⊢
  cases up <;> simp -implicitDefEqProofs [F37, c37, upd, e34]
theorem f85 (up : Bool) (gen : Int) (P Q : PS) : F85 [.one (.ptr 0 0)] (linkHp true up gen P Q) = some (.tup [], linkHp true up gen P.zero Q.zero) := by
  have e1 := p107 P
  have e2 := p107 Q
  simp only [linkHp, PS.obs, tg_true, List.cons_append, List.nil_append, Nat.reduceAdd] at e1 e2 ⊢
  simp -implicitDefEqProofs [F85, c85, upd, e1, e2]
theorem f32n : F32 [.one .nilp] [] = some (.one (.bool false), []) := by simp -implicitDefEqProofs [F32, c32, upd]
theorem f32u (gen : Int) (P Q : PS) : F32 [.one (.ptr 0 0)] (linkHp true true gen P Q) = some (.one (.bool false), linkHp true true gen P Q) := by
  simp -implicitDefEqProofs [F32, c32, upd, linkHp, PS.obs]
theorem f32d (gen gen' : Int) (P Q : PS) (w : IntKind.i64.wrap (gen + 1) = gen') : F32 [.one (.ptr 0 0)] (linkHp true false gen P Q) = some (.one (.bool true), linkHp true true gen' P.zero Q.zero) := by
  have e85 := f85 false gen P Q
  simp only [linkHp, PS.obs, tg_true, List.cons_append, List.nil_append, Nat.reduceAdd] at e85 ⊢
  simp -implicitDefEqProofs [F32, c32, upd, e85, w]
theorem f33n : F33 [.one .nilp] [] = some (.one (.bool false), []) := by simp -implicitDefEqProofs [F33, c33, upd, f34n]
theorem f33d (gen : Int) (P Q : PS) : F33 [.one (.ptr 0 0)] (linkHp true false gen P Q) = some (.one (.bool false), linkHp true false gen P Q) := by
  have e34 := f34 false gen P Q
  simp only [linkHp, PS.obs, tg_true, List.cons_append, List.nil_append, Nat.reduceAdd] at e34 ⊢
  simp -implicitDefEqProofs [F33, c33, upd, e34]
theorem f33u (gen : Int) (P Q : PS) : F33 [.one (.ptr 0 0)] (linkHp true true gen P Q) = some (.one (.bool true), linkHp true false gen P.zero Q.zero) := by
  have e34 := f34 true gen P Q
  have e85 := f85 true gen P Q
  simp only [linkHp, PS.obs, tg_true, List.cons_append, List.nil_append, Nat.reduceAdd] at e34 e85 ⊢
  simp -implicitDefEqProofs [F33, c33, upd, e34, e85]
theorem f38n : F38 [.one .nilp] [] = some (.one (.bool true), []) := by simp -implicitDefEqProofs [F38, c38, upd, f36n, f37n, n60, n61, IntKind.wrap_i64]
theorem f38d (gen : Int) (P Q : PS) : F38 [.one (.ptr 0 0)] (linkHp true false gen P Q) = some (.one (.bool true), linkHp true false gen P Q) := by
  have e36 := f36 false gen P Q
  have e37 := f37 false gen P Q
  simp only [linkHp, PS.obs, tg_true, List.cons_append, List.nil_append, Nat.reduceAdd] at e36 e37 ⊢
  simp -implicitDefEqProofs [F38, c38, upd, e36, e37, n60, n61, IntKind.wrap_i64]
theorem f38u (gen : Int) (P Q : PS) (q : Bool) (h1 : P.nx ≤ 4000) (h2 : P.ny ≤ 4000) (h3 : Q.nx ≤ 4000) (h4 : Q.ny ≤ 4000) (hq : q = (((P.nx : Int) + P.ny + Q.nx + Q.ny) == 0)) : F38 [.one (.ptr 0 0)] (linkHp true true gen P Q) = some (.one (.bool q), linkHp true true gen P Q) := by
  have e36 := f36 true gen P Q
  have e37 := f37 true gen P Q
  have a1 := p60 P
  have a2 := p61 P
  have a3 := p60 Q
  have a4 := p61 Q
  have w1 : IntKind.i64.wrap ((P.nx : Int) + P.ny) = P.nx + P.ny := i64_in _ (by omega)
  have w2 : IntKind.i64.wrap ((P.nx : Int) + P.ny + Q.nx) = P.nx + P.ny + Q.nx := i64_in _ (by omega)
  have w3 : IntKind.i64.wrap ((P.nx : Int) + P.ny + Q.nx + Q.ny) = P.nx + P.ny + Q.nx + Q.ny := i64_in _ (by omega)
  simp only [linkHp, PS.obs, tg_true, List.cons_append, List.nil_append, Nat.reduceAdd, if_true] at e36 e37 a1 a2 a3 a4 ⊢
  subst hq
  generalize (P.nx : Int) = x1 at *
  generalize (P.ny : Int) = x2 at *
  generalize (Q.nx : Int) = x3 at *
  generalize (Q.ny : Int) = x4 at *
  simp -implicitDefEqProofs [F38, c38, upd, e36, e37, a1, a2, a3, a4, w1, w2, w3]
theorem f54 (m most : Int) (hm : most = if m < 1 then 1 else if 2048 < m then 2048 else m) : F54 [.one (.int .i64 m)] [] = some (.one (.ptr 0 0), linkHp false false 0 (PS.zero ⟨most, none, none, [], [], 0, 0⟩) (PS.zero ⟨most, none, none, [], [], 0, 0⟩)) := by
  have e93 := p93 m
  have hm2 : (if (if m < 1 then 1 else m) > 2048 then 2048 else (if m < 1 then 1 else m)) = most := by
    subst hm
    by_cases q : m < 1
    · simp [q]
    · simp only [q, if_false, gt_iff_lt]
  rw [hm2] at e93
  clear hm hm2
  simp only [linkHp, PS.obs, PS.zero, tg_false, List.cons_append, List.nil_append, Nat.reduceAdd] at e93 ⊢
  simp -implicitDefEqProofs [F54, c54, upd, e93, slv]
end Go.X.Try
