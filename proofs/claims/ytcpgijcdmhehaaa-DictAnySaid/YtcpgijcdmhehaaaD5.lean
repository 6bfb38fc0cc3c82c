import Derived.Test.YtcpgijcdmhehaaaD4
set_option maxRecDepth 100000
set_option linter.unusedSimpArgs false
namespace Go.X.Try
open Go.IntWalk
def cont (X : List (List Sc)) : Option (Nat × Nat) → List (List Sc)
  | none => X
  | some (o, n) => (X.drop o).take n
def canon30 (s : ByteArray) (i : Int) (most : Int) (sf sc : Option (Nat × Nat)) (X Y : List (List Sc)) (h n : Int) : St :=
  ⟨[(0, .one (.ptr 0 0)), (1, .one (.str s)), (16, .one (.int .i64 s.size)), (17, .one (.int .i64 i))], [.ptr 0 0, .str s], pipeHp (some 0) most sf sc X Y h n⟩
theorem body30 (s : ByteArray) (i : Nat) (b most h n : Int) (sf sc : Option (Nat × Nat)) (X Y : List (List Sc)) (hi : i < s.size) (hs : s.size < 10000) (hb : (toBytes s)[i]? = some b) (hl : (cont X sf).length ≤ 10000) :
    ∃ st1, evC T30 KK b30x0 (canon30 s i most sf sc X Y h n) = some (.norm, st1) ∧ St.head [0, 1, 16, 17] st1 = canon30 s (i + 1 : Nat) most none sc (cont X sf ++ [[.int .u8 b, .int .u64 (sfin (sstep h b) (IntKind.u64.wrap (n + 1))), .bool true]]) Y (sstep h b) (IntKind.u64.wrap (n + 1)) := by
  have hr := toBytes_range s i b hb
  have hc : (i : Int) < s.size := by omega
  have hg : (toBytes s)[i]?.getD 0 = b := by rw [hb]; rfl
  have w2 : IntKind.i64.wrap ((i : Int) + 1) = (i : Int) + 1 := i64_in _ (by omega)
  have e67 := f67 h n b hr.1 hr.2
  have e68 := f68 (sstep h b) (IntKind.u64.wrap (n + 1))
  have hm : ((cont X sf).length + 1) * 24 ≤ 140737488355328 := by omega
  cases sf with
  | none =>
    simp only [cont] at hm ⊢
    cases sc <;> simp -implicitDefEqProofs [b30x0, canon30, pipeHp, pipeCells, slv, upd, hc, hi, hg, w2, e67, e68, hm, RC.len, RC.size, RC.app, RC.ofElems]
  | some p =>
    obtain ⟨o, m⟩ := p
    simp only [cont, List.length_take, List.length_drop] at hm ⊢
    cases sc <;> simp -implicitDefEqProofs [b30x0, canon30, pipeHp, pipeCells, slv, upd, hc, hi, hg, w2, e67, e68, hm, RC.len, RC.size, RC.app, RC.ofElems, RC.cut]
end Go.X.Try
