import GoSem.Dispatch
import GoSem.Core.Code
import GoSem.Core.Program
import Derived.Calls
import Derived.Tactics
import Derived.WalkKit
import Derived.Laws.AppendOwn
import Derived.Below
import Derived.Deep.LoopGhost
import Derived.Laws.Cells
import Derived.Laws.BytesArg
import Derived.Laws.IdiomStrings
import Derived.Laws.Tables
import Derived.Laws.MakeOwn
import Derived.Laws.Append
set_option linter.unusedVariables false
set_option linter.unusedSimpArgs false
set_option linter.unusedSectionVars false
set_option maxRecDepth 100000
namespace Go.X
inductive Sc where
  | int (k : IntKind) (x : Int)
  | bool (b : Bool)
  | str (s : ByteArray)
  deriving DecidableEq
def Sc.val : Sc → Value
  | .int k x => .int k x
  | .bool b => .bool b
  | .str s => .string s
inductive RC where
  | ints (k : IntKind) (xs : List Int)
  | strs (xs : List ByteArray)
  | bools (xs : List Bool)
  | recs (n : Nat) (xs : List (List Sc))
  deriving DecidableEq
namespace RC
def len : RC → Nat
  | ints _ xs => xs.length
  | strs xs => xs.length
  | bools xs => xs.length
  | recs _ xs => xs.length
def size : RC → Nat
  | ints _ _ => 1
  | strs _ => 1
  | bools _ => 1
  | recs n _ => n
def vals : RC → List Value
  | ints k xs => xs.map (Value.int k)
  | strs xs => xs.map Value.string
  | bools xs => xs.map Value.bool
  | recs _ xs => xs.flatMap (fun l => l.map Sc.val)
def wf : RC → Prop
  | recs n xs => 0 < n ∧ ∀ l ∈ xs, l.length = n
  | _ => True
def get : RC → Nat → Nat → Option Sc
  | ints k xs, i, off => if off = 0 then some (.int k (xs.getD i 0)) else none
  | strs xs, i, off => if off = 0 then some (.str (xs.getD i .empty)) else none
  | bools xs, i, off => if off = 0 then some (.bool (xs.getD i false)) else none
  | recs _ xs, i, off => (xs.getD i [])[off]?
def elem : RC → Nat → List Sc
  | ints k xs, i => [.int k (xs.getD i 0)]
  | strs xs, i => [.str (xs.getD i .empty)]
  | bools xs, i => [.bool (xs.getD i false)]
  | recs _ xs, i => xs.getD i []
def set : RC → Nat → Nat → Sc → Option RC
  | ints k xs, i, off, .int j x => if off = 0 ∧ k = j then some (ints k (xs.set i x)) else none
  | strs xs, i, off, .str x => if off = 0 then some (strs (xs.set i x)) else none
  | bools xs, i, off, .bool x => if off = 0 then some (bools (xs.set i x)) else none
  | recs n xs, i, off, c => if off < n then some (recs n (xs.set i ((xs.getD i []).set off c))) else none
  | _, _, _, _ => none
def cut : RC → Nat → Nat → RC
  | ints k xs, a, n => ints k ((xs.drop a).take n)
  | strs xs, a, n => strs ((xs.drop a).take n)
  | bools xs, a, n => bools ((xs.drop a).take n)
  | recs m xs, a, n => recs m ((xs.drop a).take n)
def app : RC → RC → Option RC
  | ints k xs, ints j ys => if k = j then some (ints k (xs ++ ys)) else none
  | strs xs, strs ys => some (strs (xs ++ ys))
  | bools xs, bools ys => some (bools (xs ++ ys))
  | recs n xs, recs m ys => if n = m then some (recs n (xs ++ ys)) else none
  | _, _ => none
def ofElems : RC → List (List Sc) → Option RC
  | ints k _, l => (l.mapM (fun e => match e with | [Sc.int j x] => if k = j then some x else none | _ => none)).map (ints k)
  | strs _, l => (l.mapM (fun e => match e with | [Sc.str x] => some x | _ => none)).map strs
  | bools _, l => (l.mapM (fun e => match e with | [Sc.bool x] => some x | _ => none)).map bools
  | recs n _, l => if l.all (fun e => e.length == n) then some (recs n l) else none
end RC
inductive SV where
  | undef
  | int (k : IntKind) (x : Int)
  | bool (b : Bool)
  | str (s : ByteArray)
  | nilp
  | ptr (key off : Nat)
  | eptr (key i off : Nat)
  | row (key : Nat)
  | view (key off len : Nat)
  | cview (key off n : Nat)
  | ro (tag : Nat) (c : RC)
  | rptr (tag : Nat) (c : RC) (i off : Nat)
  | nils (c0 : RC)
  | nilf
  | fn (f : Nat) (caps : List SV)
def Sc.sv : Sc → SV
  | .int k x => .int k x
  | .bool b => .bool b
  | .str s => .str s
def SV.sc : SV → Option Sc
  | .int k x => some (.int k x)
  | .bool b => some (.bool b)
  | .str s => some (.str s)
  | _ => none
inductive AV where
  | one (v : SV)
  | agg (l : List SV)
  | tup (l : List AV)
def AV.cells : AV → List SV
  | .one v => [v]
  | .agg l => l
  | .tup _ => [.undef]
inductive Ob where
  | cells (org : Option Nat) (l : List SV)
  | rows (g : Option Nat) (c : RC)
  | dead
abbrev Env := List (Nat × AV)
structure St where
  env : Env
  rts : List SV
  hp : List Ob
inductive AO where
  | tmp (t : Nat)
  | const (v : AV)
inductive ZV where
  | sv (v : SV)
  | nil (c0 : RC)
inductive AOp where
  | mv (x : AO)
  | newNil (c0 : RC)
  | pick (c a b : AO)
  | alloc (z : List ZV)
  | box (x : AO)
  | build (z : List ZV) (ps : List ((Nat × Nat) × AO))
  | bslice (c0 : RC) (zero : List Sc) (len : Nat) (ps : List (Nat × AO))
  | load (n : Option Nat) (x : AO)
  | store (n : Nat) (x v : AO)
  | storeNil (c0 : RC) (x : AO)
  | nilCheck (x : AO)
  | bin (op : BinOp) (x y : AO)
  | eqNil (neq : Bool) (x : AO)
  | eqAgg (neq : Bool) (z : List Sc) (x y : AO)
  | eqB (neq : Bool) (x y : AO)
  | un (op : UnOp) (x : AO)
  | conv (k : IntKind) (x : AO)
  | sconv (x : AO)
  | s2b (x : AO)
  | b2s (x : AO)
  | cutS (x : AO) (lo hi : Option AO)
  | cutR (size : Nat) (x : AO) (lo hi : Option AO)
  | cutA (n : Nat) (x : AO) (lo hi : Option AO)
  | fadr (off : Nat) (x : AO)
  | fld (off : Nat) (n : Option Nat) (x : AO)
  | iadrR (size : Nat) (x i : AO)
  | iadrA (len size : Nat) (x i : AO)
  | idxA (len size : Nat) (n : Option Nat) (x i : AO)
  | idxS (x i : AO)
  | extract (i : Nat) (x : AO)
  | call (f : Nat) (args : List AO)
  | callo (f : Nat) (args : List AO)
  | calli (f : Nat) (args : List AO)
  | pcall (f : Nat) (args : List AO)
  | callv (x : AO) (args : List AO)
  | lenS (x : AO)
  | len (x : AO)
  | append (c0 : RC) (bytes : Nat) (s x : AO)
  | appZ (c0 : RC) (zero : List Sc) (bytes : Nat) (s n : AO)
  | copy (d s : AO)
  | min (l : List AO)
  | max (l : List AO)
  | mkfn (f : Nat) (caps : List AO)
  | mks (c0 : RC) (zero : List Sc) (bytes : Nat) (len cap : AO)
  | bad
structure AI where
  dst : Option Nat
  guard : Option (Nat × Bool)
  op : AOp
inductive AC where
  | skip
  | ops (l : List AI)
  | opsD (l : List (AI × Bool)) (ck : List (Nat × List Nat))
  | opsF (l : List (AI × Bool × Option Nat)) (ck : List (Nat × List Nat)) (cf : List (Nat × List Nat))
  | seq (a b : AC)
  | cond (c : AO) (a b : AC)
  | block (id : Nat) (a : AC)
  | loop (live : List Nat) (a : AC)
  | exit (id : Nat)
  | scope (a : AC)
  | ret
structure AF where
  results : List (Nat × Option (Option Nat))
  body : AC
def getT (t : Nat) : Env → AV
  | [] => .one .undef
  | (k, v) :: l => if t = k then v else getT t l
def getO (env : Env) : AO → AV
  | .tmp t => getT t env
  | .const v => v
def putE (env : Env) : Option Nat → AV → Env
  | none, _ => env
  | some d, v => (d, v) :: env
def AV.sv : AV → SV
  | .one v => v
  | _ => .undef
def getS (env : Env) (x : AO) : SV := (getO env x).sv
def getSo (env : Env) : Option AO → Option SV
  | none => none
  | some x => some (getS env x)
def bitsI (op : BinOp) (k : IntKind) (x y : Int) : Int :=
  match op with
  | .and => k.wrap ((BitVec.ofInt k.bits x &&& BitVec.ofInt k.bits y).toNat)
  | .or => k.wrap ((BitVec.ofInt k.bits x ||| BitVec.ofInt k.bits y).toNat)
  | .xor => k.wrap ((BitVec.ofInt k.bits x ^^^ BitVec.ofInt k.bits y).toNat)
  | _ => k.wrap ((BitVec.ofInt k.bits x &&& ~~~BitVec.ofInt k.bits y).toNat)
def shlI (k : IntKind) (x y : Int) : Int := k.wrap (x * 2 ^ Nat.min y.toNat k.bits)
def shrI (k : IntKind) (x y : Int) : Int := x.fdiv (2 ^ Nat.min y.toNat k.bits)
def binI (op : BinOp) (k : IntKind) (x y : Int) : Option SV :=
  match op with
  | .add => some (.int k (k.wrap (x + y)))
  | .sub => some (.int k (k.wrap (x - y)))
  | .mul => some (.int k (k.wrap (x * y)))
  | .quo => if y = 0 then none else some (.int k (k.wrap (x.tdiv y)))
  | .rem => if y = 0 then none else some (.int k (x.tmod y))
  | .and => some (.int k (bitsI .and k x y))
  | .or => some (.int k (bitsI .or k x y))
  | .xor => some (.int k (bitsI .xor k x y))
  | .andNot => some (.int k (bitsI .andNot k x y))
  | .eql => some (.bool (x == y))
  | .neq => some (.bool (x != y))
  | .lss => some (.bool (decide (x < y)))
  | .leq => some (.bool (decide (x ≤ y)))
  | .gtr => some (.bool (decide (y < x)))
  | .geq => some (.bool (decide (y ≤ x)))
  | _ => none
def binS (op : BinOp) (x y : ByteArray) : Option SV :=
  match op with
  | .add => if x.size + y.size ≤ 9223372036854775807 then some (.str (x ++ y)) else none
  | .eql => some (.bool (x.toList == y.toList))
  | .neq => some (.bool (!(x.toList == y.toList)))
  | .lss => some (.bool (Go.Op.bytesLess x.toList y.toList))
  | _ => none
def bin (op : BinOp) : SV → SV → Option SV
  | .int k x, .int j y =>
    match op with
    | .shl => if y < 0 then none else some (.int k (shlI k x y))
    | .shr => if y < 0 then none else some (.int k (shrI k x y))
    | op => if k = j then binI op k x y else none
  | .str x, .str y => binS op x y
  | _, _ => none
def eqSc : Sc → SV → SV → Option Bool
  | .int _ _, .int k x, .int j y => if k = j then some (x == y) else none
  | .bool _, .bool x, .bool y => some (x == y)
  | .str _, .str x, .str y => some (x == y)
  | _, _, _ => none
def eqScs : List Sc → List SV → List SV → Option Bool
  | [], [], [] => some true
  | z :: zs, x :: xs, y :: ys => (eqSc z x y).bind fun a => (eqScs zs xs ys).map fun b => a && b
  | _, _, _ => none
def un (op : UnOp) : SV → Option SV
  | .int k x => match op with
    | .neg => some (.int k (k.wrap (0 - x)))
    | .xor => some (.int k (bitsI .xor k (if k.signed then -1 else k.max) x))
    | _ => none
  | .bool b => match op with
    | .not => some (.bool (!b))
    | _ => none
  | _ => none
def ofBytes (xs : List Int) : ByteArray := ⟨(xs.map fun x => UInt8.ofNat x.toNat).toArray⟩
def toBytes (s : ByteArray) : List Int := s.data.toList.map fun b => (b.toNat : Int)
def rowAt : Option Ob → Option RC
  | some (.rows _ c) => some c
  | _ => none
def cutAt (o n : Nat) : Option Ob → Option RC
  | some (.rows _ c) => some (c.cut o n)
  | _ => none
def content (hp : List Ob) : SV → Option RC
  | .row k => rowAt hp[k]?
  | .view k o n => cutAt o n hp[k]?
  | .ro _ c => some c
  | .nils c => some c
  | _ => none
def sizeAt : Option Ob → Option Nat
  | some (.rows _ c) => some c.size
  | _ => none
def sizeOf (hp : List Ob) : SV → Option Nat
  | .row k => sizeAt hp[k]?
  | .view k _ _ => sizeAt hp[k]?
  | .cview _ _ _ => some 1
  | .ro _ c => some c.size
  | .nils c => some c.size
  | _ => none
def lenAt : Option Ob → Option Nat
  | some (.rows _ c) => some c.len
  | _ => none
def lenOf (hp : List Ob) : SV → Option Nat
  | .row k => lenAt hp[k]?
  | .view _ _ n => some n
  | .cview _ _ n => some n
  | .ro _ c => some c.len
  | .nils _ => some 0
  | _ => none
abbrev Res := Option (AV × List Ob)
def newRow (hp : List Ob) (c : RC) : Res := some (.one (.row hp.length), hp ++ [.rows none c])
def zcells : List ZV → List Ob → List SV × List Ob
  | [], hp => ([], hp)
  | .sv v :: z, hp => (v :: (zcells z hp).1, (zcells z hp).2)
  | .nil c :: z, hp => (.row hp.length :: (zcells z (hp ++ [.rows none c])).1, (zcells z (hp ++ [.rows none c])).2)
def putAt (l : List SV) (off : Nat) : List SV → List SV
  | [] => l
  | v :: vs => putAt (l.set off v) (off + 1) vs
def optInt (d : Nat) : Option SV → Option Int
  | none => some d
  | some (.int _ x) => some x
  | _ => none
def source (hp : List Ob) (c0 : RC) : SV → Option RC
  | .str s => match c0 with
    | .ints .u8 _ => some (.ints .u8 (toBytes s))
    | _ => none
  | v => content hp v
def keyOf : SV → Option Nat
  | .row k => some k
  | .view k _ _ => some k
  | _ => none
def putR (hp : List Ob) : Option RC → Res
  | none => none
  | some c => newRow hp c
def app3 (hp : List Ob) (c0 : RC) (bytes k : Nat) (y : RC) : Option RC → Res
  | none => none
  | some c => if (c.len + y.len) * bytes ≤ 140737488355328 ∧ c.size = c0.size ∧ y.size = c0.size then putR (hp.set k .dead) (c.app y) else none
def app2 (hp : List Ob) (c0 : RC) (bytes : Nat) (s x : SV) (y : RC) : Res :=
  match s with
  | .nils _ => if y.len * bytes ≤ 140737488355328 ∧ y.size = c0.size then putR hp (RC.app c0 y) else none
  | .row k => if keyOf x = some k then none else app3 hp c0 bytes k y (rowAt hp[k]?)
  | .view k o n => if keyOf x = some k then none else app3 hp c0 bytes k y (cutAt o n hp[k]?)
  | _ => none
def app1 (hp : List Ob) (c0 : RC) (bytes : Nat) (s x : SV) : Option RC → Res
  | none => none
  | some y => app2 hp c0 bytes s x y
def append (hp : List Ob) (c0 : RC) (bytes : Nat) (s x : SV) : Res := app1 hp c0 bytes s x (source hp c0 x)
def oAppZ (hp : List Ob) (c0 : RC) (zero : List Sc) (bytes : Nat) (s : SV) : AV → Res
  | .one (.int _ l) => if 0 ≤ l ∧ l * bytes ≤ 140737488355328 then app1 hp c0 bytes s .undef (RC.ofElems c0 (List.replicate l.toNat zero)) else none
  | _ => none
def scSV : Option Sc → Option SV
  | none => none
  | some c => some c.sv
def loadP (b : Option Ob) (o : Nat) : Option SV :=
  match b with
  | some (.cells _ l) => l[o]?
  | _ => none
def loadE (b : Option Ob) (i o : Nat) : Option SV :=
  match b with
  | some (.rows _ c) => scSV (c.get i o)
  | _ => none
def loadOne (hp : List Ob) : SV → Option SV
  | .ptr k o => loadP hp[k]? o
  | .eptr k i o => loadE hp[k]? i o
  | .rptr _ c i o => scSV (c.get i o)
  | _ => none
def takeE (c : RC) (n i o : Nat) : Option (List SV) := if o + n ≤ c.size then some ((((c.elem i).drop o).take n).map Sc.sv) else none
def loadPN (b : Option Ob) (n o : Nat) : Option (List SV) :=
  match b with
  | some (.cells _ l) => if o + n ≤ l.length then some ((l.drop o).take n) else none
  | _ => none
def loadEN (b : Option Ob) (n i o : Nat) : Option (List SV) :=
  match b with
  | some (.rows _ c) => takeE c n i o
  | _ => none
def loadN (hp : List Ob) (n : Nat) : SV → Option (List SV)
  | .ptr k o => loadPN hp[k]? n o
  | .eptr k i o => loadEN hp[k]? n i o
  | .rptr _ c i o => takeE c n i o
  | _ => none
def okCell : SV → Bool
  | .undef => false
  | _ => true
def setScs (c : RC) (i off : Nat) : List SV → Option RC
  | [] => some c
  | v :: vs => (v.sc).bind fun s => (c.set i off s).bind fun c' => setScs c' i (off + 1) vs
def rowsH (hp : List Ob) (k : Nat) (g : Option Nat) : Option RC → Option (List Ob)
  | none => none
  | some c => some (hp.set k (.rows g c))
def storeP (hp : List Ob) (k : Nat) (vs : List SV) (o : Nat) : Option Ob → Option (List Ob)
  | some (.cells g l) => if o + vs.length ≤ l.length ∧ vs.all okCell = true then some (hp.set k (.cells g (putAt l o vs))) else none
  | _ => none
def storeE (hp : List Ob) (k : Nat) (vs : List SV) (i o : Nat) : Option Ob → Option (List Ob)
  | some (.rows g c) => rowsH hp k g (setScs c i o vs)
  | _ => none
def storeCells (hp : List Ob) (vs : List SV) : SV → Option (List Ob)
  | .ptr k o => storeP hp k vs o hp[k]?
  | .eptr k i o => storeE hp k vs i o hp[k]?
  | _ => none
mutual
def reachSV (hp : List Ob) : Nat → SV → List Nat → List Nat
  | 0, _, ks => ks
  | f + 1, .ptr k _, ks => if ks.elem k then ks else reachOb hp f hp[k]? k ks
  | f + 1, .eptr k _ _, ks => if ks.elem k then ks else reachOb hp f hp[k]? k ks
  | f + 1, .row k, ks => if ks.elem k then ks else reachOb hp f hp[k]? k ks
  | f + 1, .view k _ _, ks => if ks.elem k then ks else reachOb hp f hp[k]? k ks
  | f + 1, .cview k _ _, ks => if ks.elem k then ks else reachOb hp f hp[k]? k ks
  | f + 1, .fn _ caps, ks => reachL hp f caps ks
  | _ + 1, _, ks => ks
def reachOb (hp : List Ob) : Nat → Option Ob → Nat → List Nat → List Nat
  | f + 1, some (.cells _ l), k, ks => reachL hp f l (ks ++ [k])
  | 0, some (.cells _ _), k, ks => ks ++ [k]
  | _, some (.rows _ _), k, ks => ks ++ [k]
  | _, _, _, ks => ks
def reachL (hp : List Ob) : Nat → List SV → List Nat → List Nat
  | f + 1, v :: l, ks => reachL hp f l (reachSV hp f v ks)
  | _, _, ks => ks
end
def pos (k : Nat) : List Nat → Option Nat
  | [] => none
  | j :: ks => if k = j then some 0 else (pos k ks).map (· + 1)
def posPtr (o : Nat) : Option Nat → SV
  | some j => .ptr j o
  | none => .undef
def posEptr (i o : Nat) : Option Nat → SV
  | some j => .eptr j i o
  | none => .undef
def posRow : Option Nat → SV
  | some j => .row j
  | none => .undef
def posView (o n : Nat) : Option Nat → SV
  | some j => .view j o n
  | none => .undef
def posCview (o n : Nat) : Option Nat → SV
  | some j => .cview j o n
  | none => .undef
mutual
def SV.ren (f : Nat → Option Nat) : SV → SV
  | .ptr k o => posPtr o (f k)
  | .eptr k i o => posEptr i o (f k)
  | .row k => posRow (f k)
  | .view k o n => posView o n (f k)
  | .cview k o n => posCview o n (f k)
  | .fn g caps => .fn g (renL f caps)
  | .undef => .undef
  | .int k x => .int k x
  | .bool b => .bool b
  | .str s => .str s
  | .nilp => .nilp
  | .ro t c => .ro t c
  | .rptr t c i o => .rptr t c i o
  | .nils c => .nils c
  | .nilf => .nilf
def renL (f : Nat → Option Nat) : List SV → List SV
  | [] => []
  | v :: l => SV.ren f v :: renL f l
end
mutual
def AV.ren (f : Nat → Option Nat) : AV → AV
  | .one v => .one (v.ren f)
  | .agg l => .agg (renL f l)
  | .tup l => .tup (renT f l)
def renT (f : Nat → Option Nat) : List AV → List AV
  | [] => []
  | v :: l => AV.ren f v :: renT f l
end
def Env.ren (f : Nat → Option Nat) : Env → Env
  | [] => []
  | p :: e => (p.1, p.2.ren f) :: Env.ren f e
def Ob.ren (f : Nat → Option Nat) : Ob → Ob
  | .cells g l => .cells g (renL f l)
  | .rows g c => .rows g c
  | .dead => .dead
def Ob.ofOpt : Option Ob → Ob
  | some o => o
  | none => .dead
def pick (hp : List Ob) (f : Nat → Option Nat) : List Nat → List Ob
  | [] => []
  | k :: ks => (Ob.ofOpt hp[k]?).ren f :: pick hp f ks
def posF (ks : List Nat) (k : Nat) : Option Nat := pos k ks
mutual
def avCells : AV → List SV
  | .one v => [v]
  | .agg l => l
  | .tup l => avsCells l
def avsCells : List AV → List SV
  | [] => []
  | v :: l => avCells v ++ avsCells l
end
def handed : List SV → List SV
  | [] => []
  | .row _ :: l => handed l
  | .view _ _ _ :: l => handed l
  | .cview _ _ _ :: l => handed l
  | .eptr _ _ _ :: l => handed l
  | v :: l => v :: handed l
def intsOf (k : IntKind) : List SV → Option (List Int)
  | [] => some []
  | .int j x :: l => if j = k then (intsOf k l).map (x :: ·) else none
  | _ => none
def rcCells : List SV → Option RC
  | .int k x :: l => (intsOf k l).map (fun xs => .ints k (x :: xs))
  | _ => none
def cviewAt (o n : Nat) : Option Ob → Option RC
  | some (.cells _ l) => if o + n ≤ l.length then rcCells ((l.drop o).take n) else none
  | _ => none
def roOf (t : Nat) (v : SV) : Option RC → SV
  | some c => .ro t c
  | none => v
mutual
def SV.strip : SV → SV
  | .ro _ _ => .undef
  | .rptr _ _ _ _ => .undef
  | .fn f caps => .fn f (stripL caps)
  | .undef => .undef
  | .int k x => .int k x
  | .bool b => .bool b
  | .str s => .str s
  | .nilp => .nilp
  | .ptr k o => .ptr k o
  | .eptr k i o => .eptr k i o
  | .row k => .row k
  | .view k o n => .view k o n
  | .cview k o n => .cview k o n
  | .nils c => .nils c
  | .nilf => .nilf
def stripL : List SV → List SV
  | [] => []
  | v :: l => SV.strip v :: stripL l
end
def Ob.strip : Ob → Ob
  | .cells g l => .cells g (stripL l)
  | .rows g c => .rows g c
  | .dead => .dead
def SV.lend (hp : List Ob) (ks : List Nat) (t : Nat) : SV → SV
  | .row k => if ks.elem k then .row k else roOf t .undef (rowAt hp[k]?)
  | .view k o n => if ks.elem k then .view k o n else roOf t .undef (cutAt o n hp[k]?)
  | .ro _ c => .ro t c
  | .rptr _ c i o => .rptr t c i o
  | .eptr k i o => if ks.elem k then .eptr k i o else .undef
  | .cview k o n => if ks.elem k then .cview k o n else roOf t .undef (cviewAt o n hp[k]?)
  | v => v.strip
def lendL (hp : List Ob) (ks : List Nat) (t : Nat) : List SV → List SV
  | [] => []
  | v :: l => v.lend hp ks t :: lendL hp ks (t + 1) l
def AV.lend (hp : List Ob) (ks : List Nat) (t : Nat) : AV → AV
  | .one v => .one (v.lend hp ks t)
  | .agg l => .agg (lendL hp ks t l)
  | .tup _ => .one .undef
def lendArgs (hp : List Ob) (ks : List Nat) (t : Nat) : List AV → List AV
  | [] => []
  | v :: l => (v.lend hp ks t).ren (posF ks) :: lendArgs hp ks (t + v.cells.length) l
def argCells : List AV → List SV
  | [] => []
  | v :: l => v.cells ++ argCells l
def Ob.tag (m : Bool) (i : Nat) : Ob → Ob
  | .rows _ c => .rows (if m = true then some i else none) c
  | .cells _ l => .cells (some i) l
  | o => o
def tagAll (m : Bool) (i : Nat) : List Ob → List Ob
  | [] => []
  | o :: l => (o.tag m i).strip :: tagAll m (i + 1) l
abbrev Callee := List AV → List Ob → Res
def backKeys (ks : List Nat) (n : Nat) : List Ob → List Nat
  | [] => []
  | .cells (some i) _ :: l => ks.getD i 0 :: backKeys ks n l
  | .rows (some i) _ :: l => ks.getD i 0 :: backKeys ks n l
  | _ :: l => n :: backKeys ks (n + 1) l
def killAll (hp : List Ob) : List Nat → List Ob
  | [] => hp
  | k :: ks => killAll (hp.set k .dead) ks
def orgOf : Option Ob → Option Nat
  | some (.cells g _) => g
  | some (.rows g _) => g
  | _ => none
def roArg (t : Nat) (c : RC) : Option SV → SV
  | some (.ro t' _) => .ro t' c
  | _ => .undef
def SV.back (cs : List SV) : SV → SV
  | .ro t c => roArg t c cs[t]?
  | v => v.strip
def backL (cs : List SV) : List SV → List SV
  | [] => []
  | v :: l => v.back cs :: backL cs l
mutual
def AV.back (cs : List SV) : AV → AV
  | .one v => .one (v.back cs)
  | .agg l => .agg (backL cs l)
  | .tup l => .tup (backT cs l)
def backT (cs : List SV) : List AV → List AV
  | [] => []
  | v :: l => AV.back cs v :: backT cs l
end
def Ob.back (cs : List SV) : Ob → Ob
  | .cells g l => .cells g (backL cs l)
  | .rows g c => .rows g c
  | .dead => .dead
def layBack (hp0 : List Ob) (ks : List Nat) (f : Nat → Option Nat) (cs : List SV) : List Ob → List Ob → List Ob
  | [], hp => hp
  | .cells (some i) l :: os, hp => layBack hp0 ks f cs os (hp.set (ks.getD i 0) (.cells (orgOf hp0[ks.getD i 0]?) (renL f (backL cs l))))
  | .rows (some i) c :: os, hp => layBack hp0 ks f cs os (hp.set (ks.getD i 0) (.rows (orgOf hp0[ks.getD i 0]?) c))
  | o :: os, hp => layBack hp0 ks f cs os (hp ++ [(o.back cs).ren f])
def backF (ks : List Nat) (n : Nat) (os : List Ob) (j : Nat) : Option Nat := (backKeys ks n os)[j]?
def comeBack (hp : List Ob) (ks : List Nat) (args : List AV) : Res → Res
  | none => none
  | some (r, os) => some ((r.back (argCells args)).ren (backF ks hp.length os), layBack hp ks (backF ks hp.length os) (argCells args) os (killAll hp ks))
def callKs (m : Bool) (Γ : Nat → Callee) (hp : List Ob) (f : Nat) (args : List AV) (ks : List Nat) : Res :=
  comeBack hp ks args (Γ f (lendArgs hp ks 0 args) (tagAll m 0 (pick hp (posF ks) ks)))
def handKs (hp : List Ob) (args : List AV) : List Nat := reachL hp 64 (handed (avsCells args)) []
def callee (Γ : Nat → Callee) (hp : List Ob) (f : Nat) (args : List AV) : Res := callKs false Γ hp f args (handKs hp args)
def SV.plain : SV → Bool
  | .int _ _ => true
  | .bool _ => true
  | .str _ => true
  | _ => false
def plainL : List SV → Bool
  | [] => true
  | v :: l => v.plain && plainL l
mutual
def AV.plain : AV → Bool
  | .one v => v.plain
  | .agg l => plainL l
  | .tup l => plainT l
def plainT : List AV → Bool
  | [] => true
  | v :: l => AV.plain v && plainT l
end
def plainArgs : List AV → Bool
  | [] => true
  | .one v :: l => v.plain && plainArgs l
  | .agg m :: l => plainL m && plainArgs l
  | .tup _ :: _ => false
def plainOut (hp : List Ob) : Res → Res
  | some (r, []) => if r.plain = true then some (r, hp) else none
  | _ => none
def pureCall (Γ : Nat → Callee) (hp : List Ob) (f : Nat) (args : List AV) : Res := if plainArgs args = true then plainOut hp (Γ f args []) else none
def put1 (hp : List Ob) : Option SV → Res
  | none => none
  | some v => some (.one v, hp)
def putA (hp : List Ob) : Option AV → Res
  | none => none
  | some v => some (v, hp)
def putL (hp : List Ob) : Option (List SV) → Res
  | none => none
  | some l => some (.agg l, hp)
def putH : Option (List Ob) → Res
  | none => none
  | some h => some (.one .undef, h)
def putB (hp : List Ob) (neq : Bool) : Option Bool → Res
  | none => none
  | some b => some (.one (.bool (if neq = true then !b else b)), hp)
def inBounds (i : Int) (n : Nat) : Bool := decide (0 ≤ i) && decide (i < n)
def takeAV (l : List SV) (off : Nat) : Option Nat → Option AV
  | none => (l[off]?).map AV.one
  | some n => if off + n ≤ l.length then some (.agg ((l.drop off).take n)) else none
def oPick (hp : List Ob) (a b : AV) : AV → Res
  | .one (.bool t) => some (if t = true then a else b, hp)
  | _ => none
def oNilCheck (hp : List Ob) : AV → Res
  | .one (.ptr k o) => some (.one (.ptr k o), hp)
  | .one (.eptr k i o) => some (.one (.eptr k i o), hp)
  | .one (.rptr t c i o) => some (.one (.rptr t c i o), hp)
  | .one (.fn f caps) => some (.one (.fn f caps), hp)
  | _ => none
def oEqNil (hp : List Ob) (neq : Bool) : AV → Res
  | .one .nilp => some (.one (.bool (!neq)), hp)
  | .one (.ptr _ _) => some (.one (.bool neq), hp)
  | .one (.eptr _ _ _) => some (.one (.bool neq), hp)
  | _ => none
def oEqAgg (hp : List Ob) (neq : Bool) (z : List Sc) : AV → AV → Res
  | .agg l, .agg m => putB hp neq (eqScs z l m)
  | _, _ => none
def oEqB (hp : List Ob) (neq : Bool) : AV → AV → Res
  | .one (.bool x), .one (.bool y) => putB hp neq (some (x == y))
  | _, _ => none
def oConv (hp : List Ob) (k : IntKind) : AV → Res
  | .one (.int _ n) => some (.one (.int k (k.wrap n)), hp)
  | _ => none
def oSconv (hp : List Ob) : AV → Res
  | .one (.str s) => some (.one (.str s), hp)
  | _ => none
def oS2b (hp : List Ob) : AV → Res
  | .one (.str s) => if s.size ≤ 140737488355328 then newRow hp (.ints .u8 (toBytes s)) else none
  | _ => none
def oB2s (hp : List Ob) : Option RC → Res
  | some (.ints .u8 xs) => some (.one (.str (ofBytes xs)), hp)
  | _ => none
def cutS2 (hp : List Ob) (s : ByteArray) : Option Int → Option Int → Res
  | some a, some b => if 0 ≤ a ∧ a ≤ b ∧ b ≤ s.size then some (.one (.str (s.extract a.toNat b.toNat)), hp) else none
  | _, _ => none
def oCutS (hp : List Ob) (lo hi : Option SV) : AV → Res
  | .one (.str s) => cutS2 hp s (optInt 0 lo) (optInt s.size hi)
  | _ => none
def cutSV (a n : Nat) : SV → Option SV
  | .row k => some (.view k a n)
  | .view k o _ => some (.view k (o + a) n)
  | .cview k o _ => some (.cview k (o + a) n)
  | .ro t c => some (.ro t (c.cut a n))
  | .nils c => some (.nils c)
  | _ => none
def cutR2 (hp : List Ob) (x : SV) (n : Nat) : Option Int → Option Int → Res
  | some a, some b => if 0 ≤ a ∧ a ≤ b ∧ b ≤ n then put1 hp (cutSV a.toNat (b.toNat - a.toNat) x) else none
  | _, _ => none
def oCutR (hp : List Ob) (lo hi : Option SV) (x : SV) : Option Nat → Res
  | some n => cutR2 hp x n (optInt 0 lo) (optInt n hi)
  | none => none
def cutA2 (hp : List Ob) (n k o : Nat) : Option Int → Option Int → Res
  | some a, some b => if 0 ≤ a ∧ a ≤ b ∧ b ≤ n then some (.one (.cview k (o + a.toNat) (b.toNat - a.toNat)), hp) else none
  | _, _ => none
def oCutA (hp : List Ob) (n : Nat) (lo hi : Option SV) : AV → Res
  | .one (.ptr k o) => cutA2 hp n k o (optInt 0 lo) (optInt n hi)
  | _ => none
def oFadr (hp : List Ob) (off : Nat) : AV → Res
  | .one (.ptr k o) => some (.one (.ptr k (o + off)), hp)
  | .one (.eptr k i o) => some (.one (.eptr k i (o + off)), hp)
  | .one (.rptr t c i o) => some (.one (.rptr t c i (o + off)), hp)
  | _ => none
def oFld (hp : List Ob) (off : Nat) (n : Option Nat) : AV → Res
  | .agg l => putA hp (takeAV l off n)
  | _ => none
def elemPtr (i : Nat) : SV → Option SV
  | .row k => some (.eptr k i 0)
  | .view k o _ => some (.eptr k (o + i) 0)
  | .cview k o _ => some (.ptr k (o + i))
  | .ro t c => some (.rptr t c i 0)
  | _ => none
def oIadrR (hp : List Ob) (x : SV) : Option Nat → AV → Res
  | some n, .one (.int _ i) => if inBounds i n = true then put1 hp (elemPtr i.toNat x) else none
  | _, _ => none
def oIadrA (hp : List Ob) (len size : Nat) : AV → AV → Res
  | .one (.ptr k o), .one (.int _ i) => if inBounds i len = true then some (.one (.ptr k (o + i.toNat * size)), hp) else none
  | _, _ => none
def oIdxA (hp : List Ob) (len size : Nat) (n : Option Nat) : AV → AV → Res
  | .agg l, .one (.int _ i) => if inBounds i len = true then putA hp (takeAV l (i.toNat * size) n) else none
  | _, _ => none
def oIdxS (hp : List Ob) : AV → AV → Res
  | .one (.str s), .one (.int _ i) => if inBounds i s.size = true then some (.one (.int .u8 ((toBytes s).getD i.toNat 0)), hp) else none
  | _, _ => none
def oExtract (hp : List Ob) (i : Nat) : AV → Res
  | .tup l => putA hp l[i]?
  | _ => none
def oCallv (Γ : Nat → Callee) (hp : List Ob) (args : List AV) : AV → Res
  | .one (.fn f caps) => callKs true Γ hp f (args ++ caps.map AV.one) (handKs hp (args ++ caps.map AV.one))
  | _ => none
def oLen (hp : List Ob) : Option Nat → Res
  | some n => some (.one (.int .i64 n), hp)
  | none => none
def oLenS (hp : List Ob) : AV → Res
  | .one (.str s) => some (.one (.int .i64 s.size), hp)
  | _ => none
def oMin (hp : List Ob) : List AV → Res
  | [.one (.int k x), .one (.int _ y)] => some (.one (.int k (if y < x then y else x)), hp)
  | _ => none
def oMax (hp : List Ob) : List AV → Res
  | [.one (.int k x), .one (.int _ y)] => some (.one (.int k (if x < y then y else x)), hp)
  | _ => none
def oMks (hp : List Ob) (c0 : RC) (zero : List Sc) (bytes : Nat) : AV → AV → Res
  | .one (.int _ n), .one (.int _ c) => if 0 ≤ n ∧ n ≤ c ∧ c * bytes ≤ 140737488355328 then putR hp (RC.ofElems c0 (List.replicate n.toNat zero)) else none
  | _, _ => none
def scsOf : List SV → Option (List Sc)
  | [] => some []
  | v :: l => (v.sc).bind fun s => (scsOf l).map (s :: ·)
def partAt (zero : List Sc) (i : Nat) : List (Nat × AV) → Option (List Sc)
  | [] => some zero
  | (j, v) :: ps => if j = i then scsOf v.cells else partAt zero i ps
def bsFrom (zero : List Sc) (ps : List (Nat × AV)) : Nat → Nat → Option (List (List Sc))
  | _, 0 => some []
  | i, n + 1 => (partAt zero i ps).bind fun e => (bsFrom zero ps (i + 1) n).map (e :: ·)
def ofElemsO (c0 : RC) : Option (List (List Sc)) → Option RC
  | none => none
  | some l => RC.ofElems c0 l
def fillAll (l : List SV) : List ((Nat × Nat) × AV) → Option (List SV)
  | [] => some l
  | p :: ps => if p.2.cells.length = p.1.2 ∧ p.1.1 + p.1.2 ≤ l.length then fillAll (putAt l p.1.1 p.2.cells) ps else none
def getPP (env : Env) : List ((Nat × Nat) × AO) → List ((Nat × Nat) × AV)
  | [] => []
  | p :: ps => (p.1, getO env p.2) :: getPP env ps
def getPs (env : Env) : List (Nat × AO) → List (Nat × AV)
  | [] => []
  | p :: ps => (p.1, getO env p.2) :: getPs env ps
def getL (env : Env) : List AO → List AV
  | [] => []
  | x :: l => getO env x :: getL env l
def getSL (env : Env) : List AO → List SV
  | [] => []
  | x :: l => getS env x :: getSL env l
def copyR (n : Nat) : Option (List Ob) → Res
  | none => none
  | some h => some (.one (.int .i64 n), h)
def copyV (hp : List Ob) (k o n : Nat) : Option (List SV) → Res
  | none => none
  | some vs => copyR n (storeP hp k vs o hp[k]?)
def RC.blit : RC → Nat → RC → Option RC
  | .ints k xs, o, .ints j ys => if k = j ∧ o + ys.length ≤ xs.length then some (.ints k (xs.take o ++ (ys ++ xs.drop (o + ys.length)))) else none
  | .strs xs, o, .strs ys => if o + ys.length ≤ xs.length then some (.strs (xs.take o ++ (ys ++ xs.drop (o + ys.length)))) else none
  | .bools xs, o, .bools ys => if o + ys.length ≤ xs.length then some (.bools (xs.take o ++ (ys ++ xs.drop (o + ys.length)))) else none
  | _, _, _ => none
def copyB (hp : List Ob) (k : Nat) (g : Option Nat) (m : Nat) : Option RC → Res
  | none => none
  | some c => some (.one (.int .i64 m), hp.set k (.rows g c))
def copyT (hp : List Ob) (k o n : Nat) (y : RC) : Option Ob → Res
  | some (.rows g c) => copyB hp k g (Nat.min y.len n) (c.blit o (y.cut 0 (Nat.min y.len n)))
  | _ => none
def copyS (hp : List Ob) (k o : Nat) : Option Nat → Option RC → Res
  | some n, some y => copyT hp k o n y hp[k]?
  | _, _ => none
def oCopy (hp : List Ob) : SV → SV → Res
  | .row k, s => copyS hp k 0 (lenAt hp[k]?) (content hp s)
  | .view k o n, s => copyS hp k o (some n) (content hp s)
  | .cview k o n, .cview j p m => copyV hp k o (Nat.min m n) (loadPN hp[j]? (Nat.min m n) p)
  | _, _ => none
def evOp (Γ : Nat → Callee) (env : Env) (hp : List Ob) : AOp → Res
  | .mv x => some (getO env x, hp)
  | .newNil c0 => newRow hp c0
  | .pick c a b => oPick hp (getO env a) (getO env b) (getO env c)
  | .alloc z => some (.one (.ptr (zcells z hp).2.length 0), (zcells z hp).2 ++ [.cells none (zcells z hp).1])
  | .box x => if (getO env x).cells.all okCell = true then some (.one (.ptr hp.length 0), hp ++ [.cells none (getO env x).cells]) else none
  | .build z ps => if (getPP env ps).all (fun q => q.2.cells.all okCell) = true then putL (zcells z hp).2 (fillAll (zcells z hp).1 (getPP env ps)) else none
  | .bslice c0 zero len ps => putR hp (ofElemsO c0 (bsFrom zero (getPs env ps) 0 len))
  | .load none x => put1 hp (loadOne hp (getS env x))
  | .load (some n) x => putL hp (loadN hp n (getS env x))
  | .store n x v => if (getO env v).cells.length = n then putH (storeCells hp (getO env v).cells (getS env x)) else none
  | .storeNil c0 x => putH (storeCells (hp ++ [.rows none c0]) [.row hp.length] (getS env x))
  | .nilCheck x => oNilCheck hp (getO env x)
  | .bin op x y => put1 hp (bin op (getS env x) (getS env y))
  | .eqNil neq x => oEqNil hp neq (getO env x)
  | .eqAgg neq z x y => oEqAgg hp neq z (getO env x) (getO env y)
  | .eqB neq x y => oEqB hp neq (getO env x) (getO env y)
  | .un op x => put1 hp (un op (getS env x))
  | .conv k x => oConv hp k (getO env x)
  | .sconv x => oSconv hp (getO env x)
  | .s2b x => oS2b hp (getO env x)
  | .b2s x => oB2s hp (content hp (getS env x))
  | .cutS x lo hi => oCutS hp (getSo env lo) (getSo env hi) (getO env x)
  | .cutR size x lo hi => if sizeOf hp (getS env x) = some size then oCutR hp (getSo env lo) (getSo env hi) (getS env x) (lenOf hp (getS env x)) else none
  | .cutA n x lo hi => oCutA hp n (getSo env lo) (getSo env hi) (getO env x)
  | .fadr off x => oFadr hp off (getO env x)
  | .fld off n x => oFld hp off n (getO env x)
  | .iadrR size x i => if sizeOf hp (getS env x) = some size then oIadrR hp (getS env x) (lenOf hp (getS env x)) (getO env i) else none
  | .iadrA len size x i => oIadrA hp len size (getO env x) (getO env i)
  | .idxA len size n x i => oIdxA hp len size n (getO env x) (getO env i)
  | .idxS x i => oIdxS hp (getO env x) (getO env i)
  | .extract i x => oExtract hp i (getO env x)
  | .call f args => callee Γ hp f (getL env args)
  | .callo f args => callKs false Γ hp f (getL env args) (reachL hp 64 (avsCells (getL env args)) [])
  | .calli f args => callKs true Γ hp f (getL env args) (reachL hp 64 (avsCells (getL env args)) [])
  | .pcall f args => pureCall Γ hp f (getL env args)
  | .callv x args => oCallv Γ hp (getL env args) (getO env x)
  | .lenS x => oLenS hp (getO env x)
  | .len x => oLen hp (lenOf hp (getS env x))
  | .append c0 bytes s x => append hp c0 bytes (getS env s) (getS env x)
  | .appZ c0 zero bytes s n => oAppZ hp c0 zero bytes (getS env s) (getO env n)
  | .copy d s => oCopy hp (getS env d) (getS env s)
  | .min l => oMin hp (getL env l)
  | .max l => oMax hp (getL env l)
  | .mkfn f caps => some (.one (.fn f (getSL env caps)), hp)
  | .mks c0 zero bytes len cap => oMks hp c0 zero bytes (getO env len) (getO env cap)
  | .bad => none
inductive Ex where
  | norm
  | exit (id : Nat)
  | ret
def thenI (env : Env) (rts : List SV) (dst : Option Nat) (f : St → Option St) : Res → Option St
  | none => none
  | some (v, hp) => f ⟨putE env dst v, rts, hp⟩
def guardI (b : Bool) (yes no : Option St) : AV → Option St
  | .one (.bool c) => if c = b then yes else no
  | .tup [] => no
  | _ => none
def evIs (Γ : Nat → Callee) : List AI → St → Option St
  | [], st => some st
  | ⟨dst, none, op⟩ :: l, st => thenI st.env st.rts dst (evIs Γ l) (evOp Γ st.env st.hp op)
  | ⟨dst, some (t, b), op⟩ :: l, st => guardI b (thenI st.env st.rts dst (evIs Γ l) (evOp Γ st.env st.hp op)) (evIs Γ l ⟨putE st.env dst (.tup []), st.rts, st.hp⟩) (getT t st.env)
def stepG (b : Bool) (r : Res) (hp : List Ob) : AV → Res
  | .one (.bool c) => if c = b then r else some (.tup [], hp)
  | .tup [] => some (.tup [], hp)
  | _ => none
def stepI (Γ : Nat → Callee) (env : Env) (hp : List Ob) : AI → Res
  | ⟨_, none, op⟩ => evOp Γ env hp op
  | ⟨_, some (t, b), op⟩ => stepG b (evOp Γ env hp op) hp (getT t env)
abbrev ResD := Option (Env × List Ob × List (List Ob))
def thenD (dst : Option Nat) (b : Bool) (f : Env → List Ob → List (List Ob) → ResD) (env : Env) (hs : List (List Ob)) : Res → ResD
  | none => none
  | some (v, hp) => f (putE env dst v) hp (if b = true then hs ++ [hp] else hs)
def evDs (Γ : Nat → Callee) : List (AI × Bool) → Env → List Ob → List (List Ob) → ResD
  | [], env, hp, hs => some (env, hp, hs)
  | (i, b) :: l, env, hp, hs => thenD i.dst b (evDs Γ l) env hs (stepI Γ env hp i)
mutual
def SV.same : SV → SV → Bool
  | .undef, .undef => true
  | .int k x, .int j y => decide (k = j) && decide (x = y)
  | .bool b, .bool c => b == c
  | .str s, .str t => decide (s = t)
  | .nilp, .nilp => true
  | .ptr k o, .ptr j p => k == j && o == p
  | .eptr k i o, .eptr j i' p => k == j && i == i' && o == p
  | .row k, .row j => k == j
  | .view k o n, .view j p m => k == j && o == p && n == m
  | .cview k o n, .cview j p m => k == j && o == p && n == m
  | .ro t c, .ro u d => t == u && decide (c = d)
  | .rptr t c i o, .rptr u d j p => t == u && decide (c = d) && i == j && o == p
  | .nils c, .nils d => decide (c = d)
  | .nilf, .nilf => true
  | .fn f l, .fn g m => f == g && sameL l m
  | _, _ => false
def sameL : List SV → List SV → Bool
  | [], [] => true
  | x :: l, y :: m => SV.same x y && sameL l m
  | _, _ => false
end
mutual
def AV.same : AV → AV → Bool
  | .one v, .one u => v.same u
  | .agg l, .agg m => sameL l m
  | .tup l, .tup m => sameT l m
  | _, _ => false
def sameT : List AV → List AV → Bool
  | [], [] => true
  | x :: l, y :: m => AV.same x y && sameT l m
  | _, _ => false
end
def ckR (v : AV) : Res → Bool
  | none => false
  | some (u, _) => u.same v
def ckKs (Γ : Nat → Callee) (env : Env) (hs : List (List Ob)) (ai : AI) (v : AV) : List Nat → Bool
  | [] => true
  | k :: ks => ckR v (stepI Γ env (hs.getD k []) ai) && ckKs Γ env hs ai v ks
def ckAt (Γ : Nat → Callee) (env : Env) (hs : List (List Ob)) (ks : List Nat) : Option (AI × Bool) → Bool
  | some (⟨some d, g, op⟩, _) => ckKs Γ env hs ⟨some d, g, op⟩ (getT d env) ks
  | _ => false
def ckAll (Γ : Nat → Callee) (l : List (AI × Bool)) (env : Env) (hs : List (List Ob)) : List (Nat × List Nat) → Bool
  | [] => true
  | c :: cs => ckAt Γ env hs c.2 l[c.1]? && ckAll Γ l env hs cs
def finD (Γ : Nat → Callee) (l : List (AI × Bool)) (ck : List (Nat × List Nat)) (rts : List SV) : ResD → Option St
  | none => none
  | some (env, hp, hs) => if ckAll Γ l env hs ck = true then some ⟨env, rts, hp⟩ else none
inductive FV where
  | sc (s : Sc)
  | nil (c : RC)
  deriving DecidableEq
def FV.sv : FV → SV
  | .sc s => s.sv
  | .nil c => .nils c
def svF : SV → Option FV
  | .int k x => some (.sc (.int k x))
  | .bool b => some (.sc (.bool b))
  | .str s => some (.sc (.str s))
  | .nils c => some (.nil c)
  | _ => none
def fvsOf : List SV → Option (List FV)
  | [] => some []
  | v :: l => (svF v).bind fun s => (fvsOf l).map (s :: ·)
inductive FO where
  | r (c : RC)
  | z (l : List FV)
  deriving DecidableEq
def FO.ob : FO → Ob
  | .r c => .rows none c
  | .z l => .cells none (l.map FV.sv)
def fval (s : Nat) : AOp → SV
  | .alloc _ => .ptr s 0
  | _ => .row s
def repl1 (n0 : Nat) : AI × Bool × Option Nat → AI × Bool
  | (ai, b, none) => (ai, b)
  | (ai, _, some j) => (⟨ai.dst, none, .mv (.const (.one (fval (n0 + j) ai.op)))⟩, false)
def zO : Option (List FV) → Option FO
  | some l => some (.z l)
  | none => none
def rowOf : Res → Option FO
  | some (.one (.row 0), [.rows none c]) => some (.r c)
  | some (.one (.ptr 0 0), [.cells none l]) => zO (fvsOf l)
  | _ => none
def consO (c : FO) : Option (List FO) → Option (List FO)
  | none => none
  | some l => some (c :: l)
def passN (dst : Option Nat) (f : Env → List Ob → Option (List FO)) (env : Env) : Res → Option (List FO)
  | none => none
  | some (v, hp) => f (putE env dst v) hp
def passR (dst : Option Nat) (s : Nat) (v : SV) (f : Env → List Ob → Option (List FO)) (env : Env) (hp : List Ob) : Option FO → Option (List FO)
  | none => none
  | some c => consO c (f (putE env dst (.one v)) (hp.set s c.ob))
def passF (Γ : Nat → Callee) (n0 : Nat) : List (AI × Bool × Option Nat) → Env → List Ob → Option (List FO)
  | [], _, _ => some []
  | (ai, _, none) :: l, env, hp => passN ai.dst (passF Γ n0 l) env (stepI Γ env hp ai)
  | (ai, _, some j) :: l, env, hp => passR ai.dst (n0 + j) (fval (n0 + j) ai.op) (passF Γ n0 l) env hp (rowOf (evOp Γ env [] ai.op))
def rcIs (c : FO) : Option FO → Bool
  | some d => decide (d = c)
  | none => false
def obIs (c : FO) : Option Ob → Bool
  | some (.rows none d) => rcIs c (some (.r d))
  | some (.cells none l) => rcIs c (zO (fvsOf l))
  | _ => false
def ckSl (hs : List (List Ob)) (s : Nat) (c : FO) : List Nat → Bool
  | [] => true
  | r :: rs => obIs c (hs.getD r [])[s]? && ckSl hs s c rs
def ckF1 (Γ : Nat → Callee) (env : Env) (c : FO) : Option (AI × Bool × Option Nat) → Bool
  | some (ai, _) => rcIs c (rowOf (evOp Γ env [] ai.op))
  | none => false
def ckFs (Γ : Nat → Callee) (l : List (AI × Bool × Option Nat)) (env : Env) (hs : List (List Ob)) : Nat → List FO → List (Nat × List Nat) → Bool
  | _, [], [] => true
  | s, c :: cs, (i, rs) :: cf => ckF1 Γ env c l[i]? && (ckSl hs s c rs && ckFs Γ l env hs (s + 1) cs cf)
  | _, _, _ => false
def finF (Γ : Nat → Callee) (l : List (AI × Bool × Option Nat)) (n0 : Nat) (cs : List FO) (cf : List (Nat × List Nat)) : ResD → ResD
  | none => none
  | some (env, hp, hs) => if ckFs Γ l env hs n0 cs cf = true then some (env, hp, hs) else none
def rowsOf : List FO → List Ob
  | [] => []
  | c :: l => c.ob :: rowsOf l
def deads : List (Nat × List Nat) → List Ob
  | [] => []
  | _ :: l => .dead :: deads l
def callB : AOp → Bool
  | .call _ _ => true
  | .callo _ _ => true
  | .calli _ _ => true
  | _ => false
def bareB (hp : List Ob) (l : List (AI × Bool × Option Nat)) : Bool := hp.isEmpty && l.any fun x => callB x.1.op
def secF (Γ : Nat → Callee) (l : List (AI × Bool × Option Nat)) (ck cf : List (Nat × List Nat)) (env : Env) (rts : List SV) (hp : List Ob) : Option (List FO) → Option St
  | none => none
  | some cs => if bareB hp l = true then none else finD Γ (l.map (repl1 hp.length)) ck rts (finF Γ l hp.length cs cf (evDs Γ (l.map (repl1 hp.length)) env (hp ++ rowsOf cs) [hp ++ rowsOf cs]))
def secP (Γ : Nat → Callee) (l : List (AI × Bool × Option Nat)) (ck cf : List (Nat × List Nat)) (env : Env) (rts : List SV) (hp : List Ob) : Option St := secF Γ l ck cf env rts hp (passF Γ hp.length l env (hp ++ deads cf))
def padB (l : List (AI × Bool × Option Nat)) (hp : List Ob) : List Ob := if bareB hp l = true then [.dead] else hp
def keep (env : Env) : List Nat → Env
  | [] => []
  | t :: l => (t, getT t env) :: keep env l
def envCells : Env → List SV
  | [] => []
  | p :: e => avCells p.2 ++ envCells e
def tidyKs (env : Env) (rts : List SV) (hp : List Ob) (ks : List Nat) : St := ⟨env.ren (posF ks), renL (posF ks) rts, pick hp (posF ks) ks⟩
def tidy (env : Env) (rts : List SV) (hp : List Ob) : St := tidyKs env rts hp (reachL hp 64 (rts ++ envCells env) [])
def St.head (live : List Nat) (st : St) : St := tidy (keep st.env live) st.rts st.hp
def thenC (f : St → Option (Ex × St)) : Option (Ex × St) → Option (Ex × St)
  | none => none
  | some (.norm, st) => f st
  | some (.exit i, st) => some (.exit i, st)
  | some (.ret, st) => some (.ret, st)
def blockC (id : Nat) : Option (Ex × St) → Option (Ex × St)
  | none => none
  | some (.norm, st) => some (.norm, st)
  | some (.exit i, st) => if id = i then some (.norm, st) else some (.exit i, st)
  | some (.ret, st) => some (.ret, st)
def normC : Option St → Option (Ex × St)
  | none => none
  | some st => some (.norm, st)
def branchC (f g : St → Option (Ex × St)) (st : St) : AV → Option (Ex × St)
  | .one (.bool t) => if t = true then f st else g st
  | _ => none
def loopN (body : St → Option (Ex × St)) (live : List Nat) : Nat → St → Option (Ex × St)
  | 0, _ => none
  | k + 1, st => thenC (loopN body live k) (body (st.head live))
def evC (Γ : Nat → Callee) (K : Nat) : AC → St → Option (Ex × St)
  | .skip, st => some (.norm, st)
  | .ops l, st => normC (evIs Γ l st)
  | .opsD l ck, st => normC (finD Γ l ck st.rts (evDs Γ l st.env st.hp [st.hp]))
  | .opsF l ck cf, st => normC (secP Γ l ck cf st.env st.rts (padB l st.hp))
  | .seq a b, st => thenC (evC Γ K b) (evC Γ K a st)
  | .cond c a b, st => branchC (evC Γ K a) (evC Γ K b) st (getO st.env c)
  | .block id a, st => blockC id (evC Γ K a st)
  | .loop live a, st => loopN (evC Γ K a) live K st
  | .exit id, st => some (.exit id, st)
  | .scope a, st => evC Γ K a st
  | .ret, st => some (.ret, st)
def oneAV : Option SV → Option AV
  | none => none
  | some v => some (.one v)
def aggAV : Option (List SV) → Option AV
  | none => none
  | some l => some (.agg l)
def resOf (env : Env) (hp : List Ob) : Nat × Option (Option Nat) → Option AV
  | (t, none) => some (getT t env)
  | (t, some none) => oneAV (loadOne hp (getT t env).sv)
  | (t, some (some n)) => aggAV (loadN hp n (getT t env).sv)
def resL (env : Env) (hp : List Ob) : List (Nat × Option (Option Nat)) → Option (List AV)
  | [] => some []
  | r :: rs => (resOf env hp r).bind fun v => (resL env hp rs).map (v :: ·)
def tupOf : List AV → AV
  | [v] => v
  | l => .tup l
def giveKs (v : AV) (hp : List Ob) (ks : List Nat) : Res := some (v.ren (posF ks), pick hp (posF ks) ks)
def give (rts : List SV) (hp : List Ob) : Option (List AV) → Res
  | none => none
  | some l => giveKs (tupOf l) hp (reachL hp 64 (rts ++ avCells (tupOf l)) [])
def resC (rs : List (Nat × Option (Option Nat))) : Option (Ex × St) → Res
  | some (.norm, st) => give st.rts st.hp (resL st.env st.hp rs)
  | some (.ret, st) => give st.rts st.hp (resL st.env st.hp rs)
  | _ => none
def argEnv (n : Nat) : List AV → Env
  | [] => []
  | v :: l => (n, v) :: argEnv (n + 1) l
def evF (Γ : Nat → Callee) (K : Nat) (f : AF) : Callee := fun args hp => resC f.results (evC Γ K f.body ⟨argEnv 0 args, avsCells args, hp⟩)
mutual
theorem SV.same_eq : ∀ {v u : SV}, v.same u = true → v = u
  | .undef, u, h => by cases u <;> simp [SV.same] at h ⊢
  | .int k x, u, h => by cases u <;> simp [SV.same] at h ⊢; exact h
  | .bool b, u, h => by cases u <;> simp [SV.same] at h ⊢; exact h
  | .str s, u, h => by cases u <;> simp [SV.same] at h ⊢; exact h
  | .nilp, u, h => by cases u <;> simp [SV.same] at h ⊢
  | .ptr k o, u, h => by cases u <;> simp [SV.same] at h ⊢; exact h
  | .eptr k i o, u, h => by cases u <;> simp [SV.same] at h ⊢; exact ⟨h.1.1, h.1.2, h.2⟩
  | .row k, u, h => by cases u <;> simp [SV.same] at h ⊢; exact h
  | .view k o n, u, h => by cases u <;> simp [SV.same] at h ⊢; exact ⟨h.1.1, h.1.2, h.2⟩
  | .cview k o n, u, h => by cases u <;> simp [SV.same] at h ⊢; exact ⟨h.1.1, h.1.2, h.2⟩
  | .ro t c, u, h => by cases u <;> simp [SV.same] at h ⊢; exact h
  | .rptr t c i o, u, h => by cases u <;> simp [SV.same] at h ⊢; exact ⟨h.1.1.1, h.1.1.2, h.1.2, h.2⟩
  | .nils c, u, h => by cases u <;> simp [SV.same] at h ⊢; exact h
  | .nilf, u, h => by cases u <;> simp [SV.same] at h ⊢
  | .fn f l, u, h => by cases u <;> simp [SV.same] at h ⊢; exact ⟨h.1, sameL_eq h.2⟩
theorem sameL_eq : ∀ {l m : List SV}, sameL l m = true → l = m
  | [], m, h => by cases m <;> simp [sameL] at h ⊢
  | x :: l, m, h => by cases m <;> simp [sameL] at h ⊢; exact ⟨SV.same_eq h.1, sameL_eq h.2⟩
end
mutual
theorem AV.same_eq : ∀ {v u : AV}, v.same u = true → v = u
  | .one v, u, h => by cases u <;> simp [AV.same] at h ⊢; exact SV.same_eq h
  | .agg l, u, h => by cases u <;> simp [AV.same] at h ⊢; exact sameL_eq h
  | .tup l, u, h => by cases u <;> simp [AV.same] at h ⊢; exact sameT_eq h
theorem sameT_eq : ∀ {l m : List AV}, sameT l m = true → l = m
  | [], m, h => by cases m <;> simp [sameT] at h ⊢
  | x :: l, m, h => by cases m <;> simp [sameT] at h ⊢; exact ⟨AV.same_eq h.1, sameT_eq h.2⟩
end
mutual
theorem SV.same_refl : ∀ v : SV, v.same v = true
  | .undef => by simp [SV.same]
  | .int k x => by simp [SV.same]
  | .bool b => by simp [SV.same]
  | .str s => by simp [SV.same]
  | .nilp => by simp [SV.same]
  | .ptr k o => by simp [SV.same]
  | .eptr k i o => by simp [SV.same]
  | .row k => by simp [SV.same]
  | .view k o n => by simp [SV.same]
  | .cview k o n => by simp [SV.same]
  | .ro t c => by simp [SV.same]
  | .rptr t c i o => by simp [SV.same]
  | .nils c => by simp [SV.same]
  | .nilf => by simp [SV.same]
  | .fn f l => by simp [SV.same, sameL_refl l]
theorem sameL_refl : ∀ l : List SV, sameL l l = true
  | [] => rfl
  | x :: l => by simp [sameL, SV.same_refl x, sameL_refl l]
end
mutual
theorem AV.same_refl : ∀ v : AV, v.same v = true
  | .one v => by simp [AV.same, SV.same_refl v]
  | .agg l => by simp [AV.same, sameL_refl l]
  | .tup l => by simp [AV.same, sameT_refl l]
theorem sameT_refl : ∀ l : List AV, sameT l l = true
  | [] => rfl
  | x :: l => by simp [sameT, AV.same_refl x, sameT_refl l]
end
def isAggT (P : Program) (t : TypeId) : Option Bool :=
  match P.underlying t with
  | some (.struct _) => some true
  | some (.array _ _) => some true
  | some _ => some false
  | none => none
def sizeT (P : Program) (t : TypeId) : Option Nat := (P.info? t).map (·.size)
def bytesT (P : Program) (t : TypeId) : Option Nat := (P.info? t).map (·.bytes)
def leavesL (P : Program) (go : TypeId → Option (List TypeId)) : List Field → Option (List TypeId)
  | [] => some []
  | f :: fs => (go f.type).bind fun l => (leavesL P go fs).map (l ++ ·)
def repeatL (l : List TypeId) : Nat → List TypeId
  | 0 => []
  | n + 1 => l ++ repeatL l n
def leaves (P : Program) : Nat → TypeId → Option (List TypeId)
  | 0, _ => none
  | n + 1, t => match P.underlying t with
    | some (.struct fs) => leavesL P (leaves P n) fs.toList
    | some (.array m e) => (leaves P n e).map fun l => repeatL l m
    | some _ => some [t]
    | none => none
def scT (P : Program) (t : TypeId) : Option Sc :=
  match P.underlying t with
  | some (.int k) => some (.int k 0)
  | some .bool => some (.bool false)
  | some .string => some (.str .empty)
  | _ => none
def zeroSc (P : Program) (t : TypeId) : Option (List Sc) := (leaves P 12 t).bind fun l => l.mapM (scT P)
def scIs : Sc → Value → Bool
  | .int k x, .int j y => decide (k = j) && decide (x = y)
  | .bool b, .bool c => b == c
  | .str s, .string u => decide (s = u)
  | _, _ => false
def scsAre : List Sc → List Value → Bool
  | [], [] => true
  | s :: ss, v :: vs => scIs s v && scsAre ss vs
  | _, _ => false
def rowT (P : Program) (e : TypeId) : Option (RC × List Sc) :=
  (zeroSc P e).bind fun z =>
  (P.info? e).bind fun i =>
  (i.zero).bind fun zv =>
  (match P.underlying e with
    | some (.int k) => some (RC.ints k [])
    | some .string => some (.strs [])
    | some .bool => some (.bools [])
    | some (.struct _) => some (.recs i.size [])
    | some (.array _ _) => some (.recs i.size [])
    | _ => none).bind fun c => if c.size = i.size ∧ i.size = z.length ∧ 0 < i.size ∧ scsAre z zv.cells.toList = true then some (c, z) else none
def zvT (P : Program) (t : TypeId) : Option ZV :=
  match P.underlying t with
  | some (.int k) => some (.sv (.int k 0))
  | some .bool => some (.sv (.bool false))
  | some .string => some (.sv (.str .empty))
  | some (.pointer _) => some (.sv .nilp)
  | some (.func _ _ _) => some (.sv .nilf)
  | some (.slice e) => (rowT P e).map fun r => if true = true then .sv (.nils r.1) else .nil r.1
  | _ => none
def zvIs : ZV → Value → Bool
  | .sv (.int k x), .int j y => decide (k = j) && decide (x = y)
  | .sv (.bool b), .bool c => b == c
  | .sv (.str s), .string u => decide (s = u)
  | .sv .nilp, .pointer none => true
  | .sv .nilf, .nilFunc => true
  | .sv (.nils _), .slice none 0 0 => true
  | .nil _, .slice none 0 0 => true
  | _, _ => false
def zvsAre : List ZV → List Value → Bool
  | [], [] => true
  | s :: ss, v :: vs => zvIs s v && zvsAre ss vs
  | _, _ => false
def zvs (P : Program) (t : TypeId) : Option (List ZV) :=
  ((leaves P 12 t).bind fun l => l.mapM (zvT P)).bind fun z =>
  (P.info? t).bind fun i => (i.zero).bind fun zv => if zvsAre z zv.cells.toList = true then some z else none
theorem zvs_dummy : True := trivial
def constSV (P : Program) (t : TypeId) : Value → Option SV
  | .int k x => some (.int k x)
  | .bool b => some (.bool b)
  | .string s => some (.str s)
  | .pointer none => some .nilp
  | .nilFunc => some .nilf
  | .slice none 0 0 => match P.underlying t with
    | some (.slice e) => (rowT P e).map fun r => .nils r.1
    | _ => none
  | _ => none
def constSVs (P : Program) : List TypeId → List Value → Option (List SV)
  | [], [] => some []
  | t :: ts, v :: vs => (constSV P t v).bind fun s => (constSVs P ts vs).map (s :: ·)
  | _, _ => none
def constAV (P : Program) (t : TypeId) : Value → Option AV
  | .agg cs => (leaves P 12 t).bind fun l => (constSVs P l cs.toList).map .agg
  | v => (constSV P t v).map .one
def cOp (P : Program) (t : TypeId) : Operand → Option AO
  | .tmp n => some (.tmp n)
  | .const v => (constAV P t v).map .const
  | .func f => some (.const (.one (.fn f [])))
  | .global _ => none
def cOps (P : Program) : List TypeId → List Operand → Option (List AO)
  | t :: ts, x :: xs => (cOp P t x).bind fun a => (cOps P ts xs).map (a :: ·)
  | [], x :: xs => (cOp P 0 x).bind fun a => (cOps P [] xs).map (a :: ·)
  | _, [] => some []
def cOpt (P : Program) : Option Operand → Option (Option AO)
  | none => some none
  | some x => (cOp P 0 x).map some
def isNilConst : Operand → Bool
  | .const (.slice none 0 0) => true
  | _ => false
def isNilPtr : Operand → Bool
  | .const (.pointer none) => true
  | _ => false
def eqZs (P : Program) (go : TypeId → Option (List Sc)) : List Field → Nat → Option (List Sc)
  | [], _ => some []
  | f :: fs, off => if f.name ≠ "_" ∧ f.offset = off then (go f.type).bind fun z => if sizeT P f.type = some z.length then (eqZs P go fs (off + z.length)).map (z ++ ·) else none else none
def repeatZ (z : List Sc) : Nat → List Sc
  | 0 => []
  | n + 1 => z ++ repeatZ z n
def eqZ (P : Program) : Nat → TypeId → Option (List Sc)
  | 0, _ => none
  | n + 1, t => match P.underlying t with
    | some (.struct fs) => if P.stoodInHeld t = false then eqZs P (eqZ P n) fs.toList 0 else none
    | some (.array m e) => (eqZ P n e).bind fun z => if sizeT P e = some z.length then some (repeatZ z m) else none
    | some (.int k) => some [.int k 0]
    | some .bool => some [.bool false]
    | some .string => some [.str .empty]
    | _ => none
def fieldsAt (P : Program) (fs : Array Field) (pl : List (Nat × Nat)) : List (Nat × Operand) → Option (List ((Nat × Nat) × AO))
  | [] => some []
  | (i, x) :: ps => (fs[i]?).bind fun f => (pl[i]?).bind fun p => (cOp P f.type x).bind fun a => (fieldsAt P fs pl ps).map ((p, a) :: ·)
def elemsAt (P : Program) (e size : Nat) : List (Nat × Operand) → Option (List ((Nat × Nat) × AO))
  | [] => some []
  | (i, x) :: ps => (cOp P e x).bind fun a => (elemsAt P e size ps).map (((i * size, size), a) :: ·)
def partsAt (P : Program) (e len : Nat) : List (Nat × Operand) → Option (List (Nat × AO))
  | [] => some []
  | (i, x) :: ps => if i < len ∧ ps.all (fun p => !(p.1 == i)) = true then (cOp P e x).bind fun a => (partsAt P e len ps).map ((i, a) :: ·) else none
def hasBody (P : Program) (f : Nat) : Bool :=
  match P.funcs[f]? with
  | some fn => !(fn.name == "runtime.NumGoroutine") && fn.body.isSome
  | none => false
def bothOf {α β : Type} (a : Option α) (b : Option β) : Option (α × β) := a.bind fun x => b.map fun y => (x, y)
def cBin (P : Program) (op : BinOp) (t : TypeId) (x y : Operand) (ty : TypeId) : Option AOp :=
  match P.underlying t with
  | some (.int _) => (bothOf (cOp P t x) (cOp P ty y)).map fun p => .bin op p.1 p.2
  | some .string => (bothOf (cOp P t x) (cOp P ty y)).map fun p => .bin op p.1 p.2
  | some .bool => match op with
    | .eql => (bothOf (cOp P t x) (cOp P ty y)).map fun p => .eqB false p.1 p.2
    | .neq => (bothOf (cOp P t x) (cOp P ty y)).map fun p => .eqB true p.1 p.2
    | _ => none
  | some (.pointer _) => match op with
    | .eql => if isNilPtr y = true then (cOp P t x).map (.eqNil false) else if isNilPtr x = true then (cOp P t y).map (.eqNil false) else none
    | .neq => if isNilPtr y = true then (cOp P t x).map (.eqNil true) else if isNilPtr x = true then (cOp P t y).map (.eqNil true) else none
    | _ => none
  | some (.struct _) => if P.eqGuardType P.depth t = false then (eqZ P 12 t).bind fun z => match op with
    | .eql => (bothOf (cOp P t x) (cOp P ty y)).map fun p => .eqAgg false z p.1 p.2
    | .neq => (bothOf (cOp P t x) (cOp P ty y)).map fun p => .eqAgg true z p.1 p.2
    | _ => none else none
  | some (.array _ _) => if P.eqGuardType P.depth t = false then (eqZ P 12 t).bind fun z => match op with
    | .eql => (bothOf (cOp P t x) (cOp P ty y)).map fun p => .eqAgg false z p.1 p.2
    | .neq => (bothOf (cOp P t x) (cOp P ty y)).map fun p => .eqAgg true z p.1 p.2
    | _ => none else none
  | _ => none
def cConv (P : Program) (s d : TypeId) (x : Operand) : Option AOp :=
  match P.underlying s, P.underlying d with
  | some (.int _), some (.int k) => (cOp P s x).map (.conv k)
  | some .string, some .string => (cOp P s x).map .sconv
  | some .string, some (.slice e) => match P.underlying e with
    | some (.int .u8) => (cOp P s x).map .s2b
    | _ => none
  | some (.slice e), some .string => match P.underlying e with
    | some (.int .u8) => (cOp P s x).map .b2s
    | _ => none
  | _, _ => none
def cBuiltin (P : Program) (b : Builtin) (ts : List TypeId) (args : List Operand) : Option AOp :=
  match b, ts, args with
  | .len, [t], [x] => match P.underlying t with
    | some .string => (cOp P t x).map .lenS
    | some (.slice _) => (cOp P t x).map .len
    | _ => none
  | .append, [t, u], [s, x] => match P.underlying t, P.underlying u with
    | some (.slice e), some (.slice _) => (rowT P e).bind fun r => (bytesT P e).bind fun n => if n = 0 then none else (bothOf (cOp P t s) (cOp P u x)).map fun p => .append r.1 n p.1 p.2
    | some (.slice e), some .string => (rowT P e).bind fun r => (bytesT P e).bind fun n => if n = 0 then none else (bothOf (cOp P t s) (cOp P u x)).map fun p => .append r.1 n p.1 p.2
    | some (.slice e), some (.int _) => (rowT P e).bind fun r => (bytesT P e).bind fun n => if n = 0 then none else (bothOf (cOp P t s) (cOp P u x)).map fun p => .appZ r.1 r.2 n p.1 p.2
    | _, _ => none
  | .copy, [t, u], [d, s] => match P.underlying t with
    | some (.slice e) => if sizeT P e = some 1 then (bothOf (cOp P t d) (cOp P u s)).map fun p => .copy p.1 p.2 else none
    | _ => none
  | .min, ts, args => (cOps P ts args).map .min
  | .max, ts, args => (cOps P ts args).map .max
  | _, _, _ => none
def clrOp (o : Oper) : Bool := match o.op with
  | .call c => match c.callee with
    | .builtin .clear => true
    | _ => false
  | _ => false
def clrC : Code → Bool
  | .region _ ops _ => ops.toList.any clrOp
  | .seq a b => clrC a || clrC b
  | .cond _ a b => clrC a || clrC b
  | .block _ a => clrC a
  | .loop a => clrC a
  | .scope a => clrC a
  | _ => false
def ownsB (P : Program) (f : Nat) : Bool := match P.funcs[f]? with
  | none => false
  | some fn => match fn.body with
    | some c => clrC c
    | none => false
def fromP (np : Nat) (ops : List Oper) (t : Nat) : Bool := decide (t < np) || ops.any (fun o => decide (o.dst = some t) && match o.op with
  | .move (.tmp p) => decide (p < np)
  | .assign (.tmp p) => decide (p < np)
  | _ => false)
def stOp (P : Program) (np : Nat) (ops : List Oper) (o : Oper) : Bool := match o.op with
  | .store _ (.tmp a) _ => ops.any (fun q => decide (q.dst = some a) && match q.op with
    | .indexAddr t (.tmp b) _ => (match P.underlying t with | some (.slice _) => fromP np ops b | _ => false)
    | _ => false)
  | _ => false
def stC (P : Program) (np : Nat) : Code → Bool
  | .region _ ops _ => ops.toList.any (stOp P np ops.toList)
  | .seq a b => stC P np a || stC P np b
  | .cond _ a b => stC P np a || stC P np b
  | .block _ a => stC P np a
  | .loop a => stC P np a
  | .scope a => stC P np a
  | _ => false
def callsOp (o : Oper) : List Nat := match o.op with
  | .call c => match c.callee with
    | .value (.func f) => [f]
    | _ => []
  | _ => []
def callsC : Code → List Nat
  | .region _ ops _ => ops.toList.flatMap callsOp
  | .seq a b => callsC a ++ callsC b
  | .cond _ a b => callsC a ++ callsC b
  | .block _ a => callsC a
  | .loop a => callsC a
  | .scope a => callsC a
  | _ => []
def hasSlice (P : Program) (fn : Func) : Bool := fn.params.toList.any fun t => match P.underlying t with | some (.slice _) => true | _ => false
def inplB (P : Program) : Nat → Nat → Bool
  | 0, _ => false
  | d + 1, f => match P.funcs[f]? with
    | none => false
    | some fn => match fn.body with
      | some c => hasSlice P fn && (stC P fn.params.size c || (callsC c).any (fun g => inplB P d g))
      | none => false
def callOf (P : Program) (f : Nat) (l : List AO) : AOp := if ownsB P f = true then .callo f l else if inplB P 3 f = true then .calli f l else .call f l
def cOper (P : Program) (o : Oper) : Option AOp :=
  match o.op with
  | .move x => if isNilConst x = true then match P.underlying o.type with
      | some (.slice e) => (rowT P e).map fun r => .newNil r.1
      | _ => none
    else (cOp P o.type x).map .mv
  | .assign x => if isNilConst x = true then match P.underlying o.type with
      | some (.slice e) => (rowT P e).map fun r => .newNil r.1
      | _ => none
    else (cOp P o.type x).map .mv
  | .pick c a b => (cOp P 0 c).bind fun c => (bothOf (cOp P o.type a) (cOp P o.type b)).map fun p => .pick c p.1 p.2
  | .alloc e => (zvs P e).map .alloc
  | .box e x => (cOp P e x).map .box
  | .build t ps => (zvs P t).bind fun z => match P.underlying t with
    | some (.struct fs) => (fs.toList.mapM (fun f => (P.info? f.type).map fun i => (f.offset, i.size))).bind fun pl => (fieldsAt P fs pl ps.toList).map (.build z)
    | some (.array _ e) => (sizeT P e).bind fun n => (elemsAt P e n ps.toList).map (.build z)
    | _ => none
  | .buildSlice t len ps => match P.underlying t with
    | some (.slice e) => (rowT P e).bind fun r => if len * r.2.length ≤ 16777216 then (partsAt P e len ps.toList).map (.bslice r.1 r.2 len) else none
    | _ => none
  | .load t x => (isAggT P t).bind fun b => if b = true then (bothOf (sizeT P t) (cOp P 0 x)).map fun p => .load (some p.1) p.2 else (cOp P 0 x).map (.load none)
  | .store t a x => if isNilConst x = true then match P.underlying t with
      | some (.slice e) => if sizeT P t = some 1 then (bothOf (rowT P e) (cOp P 0 a)).map fun p => .storeNil p.1.1 p.2 else none
      | _ => none
    else (sizeT P t).bind fun n => (bothOf (cOp P 0 a) (cOp P t x)).map fun p => .store n p.1 p.2
  | .nilCheck x => (cOp P 0 x).map .nilCheck
  | .binOp op t x y ty => cBin P op t x y ty
  | .unOp op t x => (cOp P t x).map (.un op)
  | .convert s d x => cConv P s d x
  | .slice t x lo hi none => match P.underlying t with
    | some .string => (cOp P t x).bind fun a => (bothOf (cOpt P lo) (cOpt P hi)).map fun p => .cutS a p.1 p.2
    | some (.slice e) => (sizeT P e).bind fun n => (cOp P t x).bind fun a => (bothOf (cOpt P lo) (cOpt P hi)).map fun p => .cutR n a p.1 p.2
    | some (.array m e) => if sizeT P e = some 1 then (cOp P t x).bind fun a => (bothOf (cOpt P lo) (cOpt P hi)).map fun p => .cutA m a p.1 p.2 else none
    | _ => none
  | .fieldAddr s x f => match P.underlying s with
    | some (.struct fs) => (fs[f]?).bind fun fd => (sizeT P fd.type).bind fun n => if n = 0 then none else (cOp P 0 x).map (.fadr fd.offset)
    | _ => none
  | .field t x f => match P.underlying t with
    | some (.struct fs) => (fs[f]?).bind fun fd => (isAggT P fd.type).bind fun b => (sizeT P fd.type).bind fun n => (cOp P t x).map (.fld fd.offset (if b = true then some n else none))
    | _ => none
  | .indexAddr t x i => match P.underlying t with
    | some (.slice e) => (sizeT P e).bind fun n => (bothOf (cOp P t x) (cOp P 0 i)).map fun p => .iadrR n p.1 p.2
    | some (.array m e) => (sizeT P e).bind fun n => (bothOf (cOp P 0 x) (cOp P 0 i)).map fun p => .iadrA m n p.1 p.2
    | _ => none
  | .index t x i => match P.underlying t with
    | some .string => (bothOf (cOp P t x) (cOp P 0 i)).map fun p => .idxS p.1 p.2
    | some (.array m e) => (isAggT P e).bind fun b => (sizeT P e).bind fun n => (bothOf (cOp P t x) (cOp P 0 i)).map fun p => .idxA m n (if b = true then some n else none) p.1 p.2
    | _ => none
  | .extract x i => (cOp P 0 x).map (.extract i)
  | .call c => match c.callee with
    | .builtin b => cBuiltin P b c.argTypes.toList c.args.toList
    | .value (.func f) => if hasBody P f = true then (cOps P c.argTypes.toList c.args.toList).map (callOf P f) else none
    | .value (.tmp t) => (cOps P c.argTypes.toList c.args.toList).map (.callv (.tmp t))
    | _ => none
  | .makeFunc (.func f) first caps => if first.size = 0 then (cOps P [] caps.toList).map (.mkfn f) else none
  | .makeSlice t l c => match P.underlying t with
    | some (.slice e) => (rowT P e).bind fun r => (bytesT P e).bind fun n => if n = 0 then none else (bothOf (cOp P 0 l) (cOp P 0 c)).map fun p => .mks r.1 r.2 n p.1 p.2
    | _ => none
  | _ => none
def cGuard (ops : Array Oper) : Option (Nat × Bool) → Option (Option (Nat × Bool))
  | none => some none
  | some (j, b) => ((ops[j]?).bind (·.dst)).map fun t => some (t, b)
def cDst (n : Nat) : Option Nat → Bool
  | none => true
  | some d => decide (d < n)
def cOperT (P : Program) (o : Oper) : AOp :=
  match cOper P o with
  | some a => a
  | none => .bad
def cInstr (P : Program) (n : Nat) (ops : Array Oper) (o : Oper) : Option AI :=
  if cDst n o.dst = true then (cGuard ops o.guard).map fun g => ⟨o.dst, g, cOperT P o⟩ else none
def cInstrs (P : Program) (n : Nat) (ops : Array Oper) : List Oper → Option (List AI)
  | [] => some []
  | o :: l => (cInstr P n ops o).bind fun i => (cInstrs P n ops l).map (i :: ·)
def addT (l : List Nat) (t : Nat) : List Nat := if l.elem t then l else t :: l
def addAll : List Nat → List Nat → List Nat
  | l, [] => l
  | l, t :: ts => addAll (addT l t) ts
def aoT : AO → List Nat
  | .tmp t => [t]
  | .const _ => []
def opnds (o : Oper) : List Nat := o.op.operands.toList.filterMap fun x => match x with
  | .tmp t => some t
  | _ => none
def liveO (ops : Array Oper) (l : List Nat) (o : Oper) : List Nat :=
  match o.guard with
  | none => addAll (match o.dst with
    | some d => l.erase d
    | none => l) (opnds o)
  | some (j, _) => addAll (match (ops[j]?).bind (·.dst) with
    | some t => addT (match o.dst with
      | some d => l.erase d
      | none => l) t
    | none => l) (opnds o)
def liveC : Code → List Nat → List (Nat × List Nat) → List Nat → List Nat
  | .skip, l, _, _ => l
  | .region _ ops _, l, _, _ => ops.toList.reverse.foldl (liveO ops) l
  | .seq a b, l, xs, r => liveC a (liveC b l xs r) xs r
  | .cond (.tmp c) a b, l, xs, r => addT (addAll (liveC a l xs r) (liveC b l xs r)) c
  | .cond _ a b, l, xs, r => addAll (liveC a l xs r) (liveC b l xs r)
  | .block id a, l, xs, r => liveC a l ((id, l) :: xs) r
  | .loop a, _, xs, r => liveC a (liveC a (liveC a [] xs r) xs r) xs r
  | .exit id, _, xs, _ => (xs.lookup id).getD []
  | .scope a, l, xs, r => liveC a l xs r
  | .ret, _, _, r => r
  | _, l, _, _ => l
def aoL : List AO → List Nat
  | [] => []
  | x :: l => aoT x ++ aoL l
def aoO : Option AO → List Nat
  | none => []
  | some x => aoT x
def aoPP : List ((Nat × Nat) × AO) → List Nat
  | [] => []
  | p :: l => aoT p.2 ++ aoPP l
def aoPs : List (Nat × AO) → List Nat
  | [] => []
  | p :: l => aoT p.2 ++ aoPs l
def opT : AOp → List Nat
  | .mv x => aoT x
  | .newNil _ => []
  | .pick c a b => aoT c ++ (aoT a ++ aoT b)
  | .alloc _ => []
  | .box x => aoT x
  | .build _ ps => aoPP ps
  | .bslice _ _ _ ps => aoPs ps
  | .load _ x => aoT x
  | .store _ x v => aoT x ++ aoT v
  | .storeNil _ x => aoT x
  | .nilCheck x => aoT x
  | .bin _ x y => aoT x ++ aoT y
  | .eqNil _ x => aoT x
  | .eqAgg _ _ x y => aoT x ++ aoT y
  | .eqB _ x y => aoT x ++ aoT y
  | .un _ x => aoT x
  | .conv _ x => aoT x
  | .sconv x => aoT x
  | .s2b x => aoT x
  | .b2s x => aoT x
  | .cutS x lo hi => aoT x ++ (aoO lo ++ aoO hi)
  | .cutR _ x lo hi => aoT x ++ (aoO lo ++ aoO hi)
  | .cutA _ x lo hi => aoT x ++ (aoO lo ++ aoO hi)
  | .fadr _ x => aoT x
  | .fld _ _ x => aoT x
  | .iadrR _ x i => aoT x ++ aoT i
  | .iadrA _ _ x i => aoT x ++ aoT i
  | .idxA _ _ _ x i => aoT x ++ aoT i
  | .idxS x i => aoT x ++ aoT i
  | .extract _ x => aoT x
  | .call _ args => aoL args
  | .callo _ args => aoL args
  | .calli _ args => aoL args
  | .pcall _ args => aoL args
  | .callv x args => aoT x ++ aoL args
  | .lenS x => aoT x
  | .len x => aoT x
  | .append _ _ s x => aoT s ++ aoT x
  | .appZ _ _ _ s x => aoT s ++ aoT x
  | .copy d s => aoT d ++ aoT s
  | .min l => aoL l
  | .max l => aoL l
  | .mkfn _ caps => aoL caps
  | .mks _ _ _ l c => aoT l ++ aoT c
  | .bad => []
def aiT (a : AI) : List Nat := match a.guard with
  | none => opT a.op
  | some g => g.1 :: opT a.op
def noNil : List ZV → Bool
  | [] => true
  | .sv _ :: l => noNil l
  | .nil _ :: _ => false
def opKind : AOp → Nat
  | .mv _ | .pick _ _ _ | .nilCheck _ | .bin _ _ _ | .eqNil _ _ | .eqAgg _ _ _ _ | .eqB _ _ _ | .un _ _ | .conv _ _ | .sconv _ | .cutS _ _ _ | .cutA _ _ _ _ | .fadr _ _ | .fld _ _ _ | .iadrA _ _ _ _ | .idxA _ _ _ _ _ | .idxS _ _ | .extract _ _ | .lenS _ | .min _ | .max _ | .mkfn _ _ | .pcall _ _ => 0
  | .build z _ => if noNil z = true then 0 else 2
  | .load _ _ | .b2s _ | .cutR _ _ _ _ | .iadrR _ _ _ | .len _ => 1
  | _ => 2
def dirs (o : Oper) : List Nat := (o.after.toList.filter (Region.binds .any)).map (·.on)
def ancL : List Oper → List (List Nat) → List (List Nat)
  | [], acc => acc
  | o :: l, acc => ancL l (acc ++ [addAll (dirs o) ((dirs o).flatMap fun j => acc.getD j [])])
def rank (ld : List Bool) (k : Nat) : Nat := ((ld.take k).filter id).length
def offD (n : Nat) (ld : List Bool) (anc : List (List Nat)) (i k : Nat) : Bool :=
  ((anc.getD i []).any fun j => ld.getD j false && decide (k ≤ j)) || (List.range n).any fun j => ld.getD j false && decide (j < k) && (anc.getD j []).elem i
def ckFor (n : Nat) (ld : List Bool) (anc : List (List Nat)) (i : Nat) : List Nat :=
  addAll [] ((List.range (n + 1)).filterMap fun k => if offD n ld anc i k || rank ld k == rank ld i then none else some (rank ld k))
def ckOf (n : Nat) (ais : List AI) (ld : List Bool) (anc : List (List Nat)) : List (Nat × List Nat) :=
  (List.range n).filterMap fun i => match ais[i]? with
    | some a => if opKind a.op = 1 then match ckFor n ld anc i with
        | [] => none
        | ks => some (i, ks) else none
    | none => none
def dstAt (ais : List AI) (i : Nat) : Option Nat := (ais[i]?).bind (·.dst)
def okEdge (os : List Oper) (anc : List (List Nat)) (i : Nat) : Bool :=
  match os[i]? with
  | some o => (dirs o).all (fun j => decide (j < i)) && (anc.getD i []).all fun j => (dirs o).elem j || (dirs o).any fun e => (anc.getD e []).elem j
  | none => false
def okTmp (n : Nat) (ais : List AI) (anc : List (List Nat)) (i t : Nat) : Bool :=
  (List.range n).all fun j => !(dstAt ais j == some t) || (j == i) || (if j < i then (anc.getD i []).elem j else (anc.getD j []).elem i)
def okRead (n : Nat) (ais : List AI) (ld : List Bool) (anc : List (List Nat)) (ck : List (Nat × List Nat)) (i : Nat) (a : AI) : Bool :=
  ((List.range (n + 1)).all fun k => offD n ld anc i k || rank ld k == rank ld i || ck.any fun c => c.1 == i && c.2.elem (rank ld k)) &&
  (!(ck.any fun c => c.1 == i) || (a.dst.isSome && (aiT a).all fun t => (List.range n).all fun j => decide (j < i) || !(dstAt ais j == some t)))
def okAt (n : Nat) (os : List Oper) (ais : List AI) (ld : List Bool) (anc : List (List Nat)) (ck : List (Nat × List Nat)) (i : Nat) : Bool :=
  match ais[i]? with
  | none => false
  | some a => okEdge os anc i && (ld.getD i false == decide (opKind a.op = 2)) &&
    ((List.range i).all fun j => !(ld.getD i false && ld.getD j false) || (anc.getD i []).elem j) &&
    ((List.range i).all fun j => a.dst == none || !(a.dst == dstAt ais j)) &&
    ((aiT a).all fun t => okTmp n ais anc i t) &&
    (!(opKind a.op == 1) || okRead n ais ld anc ck i a)
def okD (n : Nat) (os : List Oper) (ais : List AI) (ld : List Bool) (anc : List (List Nat)) (ck : List (Nat × List Nat)) : Bool :=
  ais.length == n && (ld.length == n) && (List.range n).all (okAt n os ais ld anc ck)
def drawC (os : List Oper) (ais : List AI) (ld : List Bool) (anc : List (List Nat)) (ck : List (Nat × List Nat)) : Option AC :=
  if okD os.length os ais ld anc ck = true then some (.opsD (ais.zip ld) ck) else none
def drawD (os : List Oper) (ais : List AI) : Option AC :=
  drawC os ais (ais.map fun a => decide (opKind a.op = 2)) (ancL os []) (ckOf os.length ais (ais.map fun a => decide (opKind a.op = 2)) (ancL os []))
def toP : AI → AI
  | ⟨d, g, .call f l⟩ => ⟨d, g, .pcall f l⟩
  | a => a
def drawE (os : List Oper) (ais : List AI) : Option AC := match drawD os ais with
  | some ac => some ac
  | none => drawD os (ais.map toP)
def scB : SV → Bool
  | .int _ _ => true
  | .bool _ => true
  | .str _ => true
  | .nils _ => true
  | _ => false
def allSv : List ZV → Bool
  | [] => true
  | .sv v :: l => scB v && allSv l
  | .nil _ :: _ => false
def isF : AOp → Bool
  | .mks _ _ _ _ _ | .bslice _ _ _ _ | .newNil _ => true
  | .append _ _ (.const (.one (.nils _))) _ => true
  | .alloc z => allSv z
  | _ => false
def noKey : AO → Bool
  | .tmp _ => true
  | .const v => match v.sv with
    | .ptr _ _ | .eptr _ _ _ | .row _ | .view _ _ _ | .cview _ _ _ => false
    | _ => true
def noKeyA : AO → Bool
  | .tmp _ => true
  | .const v => v.plain
def freeK : AOp → Bool
  | .load _ x => noKey x
  | .b2s x => noKey x
  | .cutR _ x _ _ => noKey x
  | .iadrR _ x _ => noKey x
  | .len x => noKey x
  | .append _ _ x y => noKey x && noKey y
  | .appZ _ _ _ x _ => noKey x
  | .mks _ _ _ _ _ | .bslice _ _ _ _ | .newNil _ => true
  | .store _ x _ => noKey x
  | .call _ l => l.all noKeyA
  | .callo _ l => l.all noKeyA
  | .calli _ l => l.all noKeyA
  | op => decide (opKind op = 0)
def fMark (n : Nat) (ais : List AI) (anc : List (List Nat)) (i : Nat) : Bool :=
  match ais[i]? with
  | some a => isF a.op && a.guard == none && a.dst.isSome && (List.range n).any fun j => !(j == i) && (match ais[j]? with | some b => decide (opKind b.op = 2) | none => false) && !((anc.getD i []).elem j) && !((anc.getD j []).elem i)
  | none => false
def markF : Nat → List AI → List Bool → List (AI × Bool × Option Nat)
  | j, a :: l, true :: fl => (a, false, some j) :: markF (j + 1) l fl
  | j, a :: l, false :: fl => (a, decide (opKind a.op = 2), none) :: markF j l fl
  | _, _, _ => []
def cfFor (n : Nat) (ld : List Bool) (anc : List (List Nat)) (i : Nat) : List Nat :=
  addAll [] ((List.range (n + 1)).filterMap fun k => if offD n ld anc i k then none else some (rank ld k))
def cfOf (n : Nat) (L : List (AI × Bool × Option Nat)) (ld : List Bool) (anc : List (List Nat)) : List (Nat × List Nat) :=
  (List.range n).filterMap fun i => match L[i]? with
    | some (_, _, some _) => some (i, cfFor n ld anc i)
    | _ => none
def okF1 (n : Nat) (ais : List AI) (ld : List Bool) (anc : List (List Nat)) (cf : List (Nat × List Nat)) (i : Nat) : Option (AI × Bool × Option Nat) → Bool
  | some (a, _, some j) => a.guard == none && isF a.op && a.dst.isSome && ((opT a.op).all fun t => (List.range n).all fun x => !(dstAt ais x == some t) || (decide (x < i) && (anc.getD i []).elem x)) &&
    (match cf[j]? with
      | some c => c.1 == i && (List.range (n + 1)).all fun k => offD n ld anc i k || c.2.elem (rank ld k)
      | none => false)
  | some (a, _, none) => freeK a.op || cf.all fun c => (anc.getD i []).elem c.1
  | none => false
def okF2 (L : List (AI × Bool × Option Nat)) (cf : List (Nat × List Nat)) (j : Nat) : Bool :=
  match cf[j]? with
  | some c => match L[c.1]? with
    | some (_, _, some x) => x == j
    | _ => false
  | none => false
def okF (n : Nat) (ais : List AI) (L : List (AI × Bool × Option Nat)) (ld : List Bool) (anc : List (List Nat)) (cf : List (Nat × List Nat)) : Bool :=
  (List.range n).all (fun i => okF1 n ais ld anc cf i L[i]?) && (List.range cf.length).all (okF2 L cf)
def drawG (os : List Oper) (ais : List AI) (L : List (AI × Bool × Option Nat)) (anc : List (List Nat)) (ld : List Bool) (ck cf : List (Nat × List Nat)) : Option AC :=
  if okD os.length os ((L.map (repl1 0)).map (·.1)) ld anc ck = true ∧ (L.map (repl1 0)).map (·.2) = ld ∧ okF os.length ais L ld anc cf = true then some (.opsF L ck cf) else none
def drawF1 (os : List Oper) (ais : List AI) (L : List (AI × Bool × Option Nat)) (anc : List (List Nat)) : Option AC :=
  drawG os ais L anc ((L.map (repl1 0)).map (·.2)) (ckOf os.length ((L.map (repl1 0)).map (·.1)) ((L.map (repl1 0)).map (·.2)) anc) (cfOf os.length L ((L.map (repl1 0)).map (·.2)) anc)
def drawF (os : List Oper) (ais : List AI) : Option AC :=
  drawF1 os ais (markF 0 ais ((List.range ais.length).map (fMark ais.length ais (ancL os [])))) (ancL os [])
def badC : AC := .ops [⟨none, none, .bad⟩]
def drawB (os : List Oper) (ais : List AI) : AC := match drawD os ais with
  | some ac => ac
  | none => match drawF os ais with
    | some ac => ac
    | none => match drawE os ais with
      | some ac => ac
      | none => match drawF os (ais.map toP) with
        | some ac => ac
        | none => badC
def insN (x : Nat) : List Nat → List Nat
  | [] => [x]
  | y :: l => if x ≤ y then x :: y :: l else y :: insN x l
def sortN : List Nat → List Nat
  | [] => []
  | x :: l => insN x (sortN l)
def cCode (P : Program) (n : Nat) : Code → List Nat → List (Nat × List Nat) → List Nat → Option AC
  | .skip, _, _, _ => some .skip
  | .region _ ops d, _, _, _ => (cInstrs P n ops ops.toList).map fun l => if d = true then drawB ops.toList l else .ops l
  | .seq a b, l, xs, r => (bothOf (cCode P n a (liveC b l xs r) xs r) (cCode P n b l xs r)).map fun p => .seq p.1 p.2
  | .cond c a b, l, xs, r => (cOp P 0 c).bind fun c => (bothOf (cCode P n a l xs r) (cCode P n b l xs r)).map fun p => .cond c p.1 p.2
  | .block id a, l, xs, r => (cCode P n a l ((id, l) :: xs) r).map (.block id)
  | .loop a, l, xs, r => (cCode P n a (liveC (.loop a) [] xs r) xs r).map (.loop (sortN (liveC (.loop a) [] xs r)))
  | .exit id, _, _, _ => some (.exit id)
  | .scope a, l, xs, r => (cCode P n a l xs r).map .scope
  | .ret, _, _, _ => some .ret
  | _, _, _, _ => some badC
def cRes (P : Program) : ResultVar → Option (Nat × Option (Option Nat))
  | .tmp t => some (t, none)
  | .cell t ty => (isAggT P ty).bind fun b => if b = true then (sizeT P ty).map fun n => (t, some (some n)) else some (t, some none)
def resT (l : List ResultVar) : List Nat := l.map fun r => match r with
  | .tmp t => t
  | .cell t _ => t
def cFunc (P : Program) (f : Nat) : Option AF :=
  (P.funcs[f]?).bind fun fn => (fn.body).bind fun c =>
  if fn.params.size + fn.nfree ≤ fn.ntmps ∧ hasBody P f = true then
  (fn.results.toList.mapM (cRes P)).bind fun rs => (cCode P fn.ntmps c (resT fn.results.toList) [] (resT fn.results.toList)).map fun b => ⟨rs, b⟩ else none
structure RV where
  hdr : Value
  size : Nat
structure Cx where
  P : Program
  w0 : World
  S : Nat → Prop
  τ : Nat → Nat
  r0 : Nat → RV
  df : List Deferred
def Cx.own (C : Cx) (b : Nat) : Prop := C.S b ∨ C.w0.heap.size ≤ b
def Cx.reads (C : Cx) (t : Nat) (c : RC) (a : Option Addr) : Prop :=
  c.wf ∧ (0 < c.len → ∃ b o, a = some ⟨b, o, none⟩ ∧ ¬ C.own b ∧ C.τ t = b ∧ ∀ j u, c.vals[j]? = some u → C.w0.cell? ⟨b, o + j, none⟩ = some u)
mutual
inductive VR (C : Cx) (n : Nat) (ρ : Nat → RV) : SV → Value → Prop where
  | undef (v : Value) : VR C n ρ .undef v
  | int (k : IntKind) (x : Int) : VR C n ρ (.int k x) (.int k x)
  | bool (b : Bool) : VR C n ρ (.bool b) (.bool b)
  | str (s : ByteArray) : VR C n ρ (.str s) (.string s)
  | nilp : VR C n ρ .nilp (.pointer none)
  | ptr (k o b : Nat) (hk : k < n) (h : (ρ k).hdr = .pointer (some ⟨b, 0, none⟩)) : VR C n ρ (.ptr k o) (.pointer (some ⟨b, o, none⟩))
  | eptr (k i o b q m cap : Nat) (hk : k < n) (h : (ρ k).hdr = .slice (some ⟨b, q, none⟩) m cap) (hi : i < m) : VR C n ρ (.eptr k i o) (.pointer (some ⟨b, q + i * (ρ k).size + o, none⟩))
  | row (k : Nat) (a : Option Addr) (m cap : Nat) (hk : k < n) (h : (ρ k).hdr = .slice a m cap) : VR C n ρ (.row k) (.slice a m cap)
  | viewNil (k : Nat) (hk : k < n) (h : (ρ k).hdr = .slice none 0 0) : VR C n ρ (.view k 0 0) (.slice none 0 0)
  | view (k o m b q len cap q' : Nat) (hk : k < n) (h : (ρ k).hdr = .slice (some ⟨b, q, none⟩) len cap) (hl : o + m ≤ len) (hc : len ≤ cap) (hq : o < cap → q' = q + o * (ρ k).size) (hq' : q' ≤ q + o * (ρ k).size) : VR C n ρ (.view k o m) (.slice (some ⟨b, q', none⟩) m (cap - o))
  | cview (k o m b q cap : Nat) (hk : k < n) (h : (ρ k).hdr = .pointer (some ⟨b, 0, none⟩)) (hq : 0 < m → q = o) (hc : m ≤ cap) : VR C n ρ (.cview k o m) (.slice (some ⟨b, q, none⟩) m cap)
  | ro (t : Nat) (c : RC) (a : Option Addr) (cap : Nat) (h : C.reads t c a) (hc : c.len ≤ cap) : VR C n ρ (.ro t c) (.slice a c.len cap)
  | rptr (t : Nat) (c : RC) (i o b q : Nat) (h : C.reads t c (some ⟨b, q, none⟩)) (hi : i < c.len) : VR C n ρ (.rptr t c i o) (.pointer (some ⟨b, q + i * c.size + o, none⟩))
  | nils (c : RC) (h : c.len = 0) (hw : c.wf) : VR C n ρ (.nils c) (.slice none 0 0)
  | nilf : VR C n ρ .nilf .nilFunc
  | fn (f : Nat) (caps : List SV) (cs : List Value) (h : VRL C n ρ caps cs) : VR C n ρ (.fn f caps) (.func (.func f) #[] cs.toArray)
inductive VRL (C : Cx) (n : Nat) (ρ : Nat → RV) : List SV → List Value → Prop where
  | nil : VRL C n ρ [] []
  | cons (s : SV) (v : Value) (l : List SV) (vs : List Value) (h : VR C n ρ s v) (hl : VRL C n ρ l vs) : VRL C n ρ (s :: l) (v :: vs)
end
mutual
inductive AVR (C : Cx) (n : Nat) (ρ : Nat → RV) : AV → Value → Prop where
  | one (s : SV) (v : Value) (h : VR C n ρ s v) : AVR C n ρ (.one s) v
  | agg (l : List SV) (vs : List Value) (h : VRL C n ρ l vs) : AVR C n ρ (.agg l) (.agg vs.toArray)
  | tup (l : List AV) (vs : List Value) (h : AVRL C n ρ l vs) : AVR C n ρ (.tup l) (.tuple vs.toArray)
inductive AVRL (C : Cx) (n : Nat) (ρ : Nat → RV) : List AV → List Value → Prop where
  | nil : AVRL C n ρ [] []
  | cons (s : AV) (v : Value) (l : List AV) (vs : List Value) (h : AVR C n ρ s v) (hl : AVRL C n ρ l vs) : AVRL C n ρ (s :: l) (v :: vs)
end
def ObR (C : Cx) (n : Nat) (ρ : Nat → RV) (w : World) (k : Nat) : Ob → Prop
  | .cells g l => ∃ b T cur, (ρ k).hdr = .pointer (some ⟨b, 0, none⟩) ∧ C.own b ∧ w.heap[b]? = some (.cells cur T (0, 0)) ∧ VRL C n ρ l cur.toList ∧ (∀ i, g = some i → (C.r0 i).hdr = (ρ k).hdr)
  | .rows g c => c.wf ∧ (ρ k).size = c.size ∧ (∀ i, g = some i → C.r0 i = ρ k) ∧ (((ρ k).hdr = .slice none 0 0 ∧ c.len = 0) ∨ ∃ b o cap cur T fr, (ρ k).hdr = .slice (some ⟨b, o, none⟩) c.len cap ∧ C.own b ∧ w.heap[b]? = some (.cells cur T fr) ∧
      c.len ≤ cap ∧ cap ≤ maxLen ∧ o + cap * c.size ≤ cur.size ∧ (∀ j u, c.vals[j]? = some u → cur[o + j]? = some u) ∧ ∀ j, j < cur.size → ¬ (fr.1 ≤ j ∧ j < fr.2))
  | .dead => True
def blkOf : Value → Option Nat
  | .pointer (some a) => some a.block
  | .slice (some a) _ _ => some a.block
  | _ => none
def alive (hp : List Ob) (k : Nat) : Prop := ∃ ob, hp[k]? = some ob ∧ ob ≠ .dead
structure HR (C : Cx) (ρ : Nat → RV) (hp : List Ob) (w : World) : Prop where
  ob : ∀ k o, hp[k]? = some o → ObR C hp.length ρ w k o
  ne : ∀ j k b, j ≠ k → alive hp j → alive hp k → blkOf (ρ j).hdr = some b → blkOf (ρ k).hdr ≠ some b
structure FR (C : Cx) (w : World) : Prop where
  size : C.w0.heap.size ≤ w.heap.size
  block : ∀ b, b < C.w0.heap.size → ¬ C.S b → w.heap[b]? = C.w0.heap[b]?
  os : w.os = C.w0.os
  tape : w.tape = C.w0.tape
  output : w.output = C.w0.output
def EnvR (C : Cx) (n : Nat) (ρ : Nat → RV) (env : Env) (a : Act) : Prop := ∀ t, AVR C n ρ (getT t env) (a.tmps.getD t undef)
def Ext (n : Nat) (ρ ρ' : Nat → RV) : Prop := ∀ k, k < n → ρ' k = ρ k
theorem Ext.refl (n : Nat) (ρ : Nat → RV) : Ext n ρ ρ := fun _ _ => rfl
theorem Ext.trans {n m : Nat} {ρ ρ' ρ'' : Nat → RV} (h : Ext n ρ ρ') (h' : Ext m ρ' ρ'') (hn : n ≤ m) : Ext n ρ ρ'' := fun k hk => (h' k (Nat.lt_of_lt_of_le hk hn)).trans (h k hk)
section
variable {C : Cx} {n n' : Nat} {ρ ρ' : Nat → RV}
structure Turn (n n' : Nat) (ρ ρ' : Nat → RV) (f : Nat → Option Nat) : Prop where
  at_ : ∀ k j, k < n → f k = some j → j < n' ∧ (ρ' j).hdr = (ρ k).hdr ∧ ((∃ a m c, (ρ k).hdr = .slice a m c) → (ρ' j).size = (ρ k).size)
mutual
theorem VR.ren {f : Nat → Option Nat} (T : Turn n n' ρ ρ' f) : ∀ {s : SV} {v : Value}, VR C n ρ s v → VR C n' ρ' (s.ren f) v
  | _, _, .undef v => .undef v
  | _, _, .int k x => .int k x
  | _, _, .bool b => .bool b
  | _, _, .str s => .str s
  | _, _, .nilp => .nilp
  | _, _, .nilf => .nilf
  | _, _, .nils c h hw => .nils c h hw
  | _, _, .ro t c a cap h hc => .ro t c a cap h hc
  | _, _, .rptr t c i o b q h hi => .rptr t c i o b q h hi
  | _, _, .fn g caps cs h => .fn g _ cs (VRL.ren T h)
  | _, _, .ptr k o b hk h => by
    simp only [SV.ren]
    cases e : f k with
    | none => exact .undef _
    | some j => obtain ⟨h1, h2, _⟩ := T.at_ k j hk e; exact .ptr j o b h1 (by rw [h2]; exact h)
  | _, _, .eptr k i o b q m cap hk h hi => by
    simp only [SV.ren]
    cases e : f k with
    | none => exact .undef _
    | some j => obtain ⟨h1, h2, h3⟩ := T.at_ k j hk e; rw [← h3 ⟨_, _, _, h⟩]; exact .eptr j i o b q m cap h1 (by rw [h2]; exact h) hi
  | _, _, .row k a m cap hk h => by
    simp only [SV.ren]
    cases e : f k with
    | none => exact .undef _
    | some j => obtain ⟨h1, h2, _⟩ := T.at_ k j hk e; exact .row j a m cap h1 (by rw [h2]; exact h)
  | _, _, .viewNil k hk h => by
    simp only [SV.ren]
    cases e : f k with
    | none => exact .undef _
    | some j => obtain ⟨h1, h2, _⟩ := T.at_ k j hk e; exact .viewNil j h1 (by rw [h2]; exact h)
  | _, _, .view k o m b q len cap q' hk h hl hc hq hq' => by
    simp only [SV.ren]
    cases e : f k with
    | none => exact .undef _
    | some j => obtain ⟨h1, h2, h3⟩ := T.at_ k j hk e; exact .view j o m b q len cap q' h1 (by rw [h2]; exact h) hl hc (by rw [h3 ⟨_, _, _, h⟩]; exact hq) (by rw [h3 ⟨_, _, _, h⟩]; exact hq')
  | _, _, .cview k o m b q cap hk h hq hc => by
    simp only [SV.ren]
    cases e : f k with
    | none => exact .undef _
    | some j => obtain ⟨h1, h2, _⟩ := T.at_ k j hk e; exact .cview j o m b q cap h1 (by rw [h2]; exact h) hq hc
theorem VRL.ren {f : Nat → Option Nat} (T : Turn n n' ρ ρ' f) : ∀ {l : List SV} {vs : List Value}, VRL C n ρ l vs → VRL C n' ρ' (renL f l) vs
  | _, _, .nil => .nil
  | _, _, .cons s v l vs h hl => .cons _ v _ vs (VR.ren T h) (VRL.ren T hl)
end
mutual
theorem AVR.ren {f : Nat → Option Nat} (T : Turn n n' ρ ρ' f) : ∀ {s : AV} {v : Value}, AVR C n ρ s v → AVR C n' ρ' (s.ren f) v
  | _, _, .one s v h => .one _ v (VR.ren T h)
  | _, _, .agg l vs h => .agg _ vs (VRL.ren T h)
  | _, _, .tup l vs h => .tup _ vs (AVRL.ren T h)
theorem AVRL.ren {f : Nat → Option Nat} (T : Turn n n' ρ ρ' f) : ∀ {l : List AV} {vs : List Value}, AVRL C n ρ l vs → AVRL C n' ρ' (renT f l) vs
  | _, _, .nil => .nil
  | _, _, .cons s v l vs h hl => .cons _ v _ vs (AVR.ren T h) (AVRL.ren T hl)
end
mutual
theorem VR.ext (hn : n ≤ n') (E : Ext n ρ ρ') : ∀ {s : SV} {v : Value}, VR C n ρ s v → VR C n' ρ' s v
  | _, _, .undef v => .undef v
  | _, _, .int k x => .int k x
  | _, _, .bool b => .bool b
  | _, _, .str s => .str s
  | _, _, .nilp => .nilp
  | _, _, .nilf => .nilf
  | _, _, .nils c h hw => .nils c h hw
  | _, _, .ro t c a cap h hc => .ro t c a cap h hc
  | _, _, .rptr t c i o b q h hi => .rptr t c i o b q h hi
  | _, _, .fn g caps cs h => .fn g _ cs (VRL.ext hn E h)
  | _, _, .ptr k o b hk h => .ptr k o b (Nat.lt_of_lt_of_le hk hn) (by rw [E k hk]; exact h)
  | _, _, .eptr k i o b q m cap hk h hi => by rw [← E k hk]; exact .eptr k i o b q m cap (Nat.lt_of_lt_of_le hk hn) (by rw [E k hk]; exact h) hi
  | _, _, .row k a m cap hk h => .row k a m cap (Nat.lt_of_lt_of_le hk hn) (by rw [E k hk]; exact h)
  | _, _, .viewNil k hk h => .viewNil k (Nat.lt_of_lt_of_le hk hn) (by rw [E k hk]; exact h)
  | _, _, .view k o m b q len cap q' hk h hl hc hq hq' => .view k o m b q len cap q' (Nat.lt_of_lt_of_le hk hn) (by rw [E k hk]; exact h) hl hc (by rw [E k hk]; exact hq) (by rw [E k hk]; exact hq')
  | _, _, .cview k o m b q cap hk h hq hc => .cview k o m b q cap (Nat.lt_of_lt_of_le hk hn) (by rw [E k hk]; exact h) hq hc
theorem VRL.ext (hn : n ≤ n') (E : Ext n ρ ρ') : ∀ {l : List SV} {vs : List Value}, VRL C n ρ l vs → VRL C n' ρ' l vs
  | _, _, .nil => .nil
  | _, _, .cons s v l vs h hl => .cons _ v _ vs (VR.ext hn E h) (VRL.ext hn E hl)
end
mutual
theorem AVR.ext (hn : n ≤ n') (E : Ext n ρ ρ') : ∀ {s : AV} {v : Value}, AVR C n ρ s v → AVR C n' ρ' s v
  | _, _, .one s v h => .one _ v (VR.ext hn E h)
  | _, _, .agg l vs h => .agg _ vs (VRL.ext hn E h)
  | _, _, .tup l vs h => .tup _ vs (AVRL.ext hn E h)
theorem AVRL.ext (hn : n ≤ n') (E : Ext n ρ ρ') : ∀ {l : List AV} {vs : List Value}, AVRL C n ρ l vs → AVRL C n' ρ' l vs
  | _, _, .nil => .nil
  | _, _, .cons s v l vs h hl => .cons _ v _ vs (AVR.ext hn E h) (AVRL.ext hn E hl)
end
theorem EnvR.ext {env : Env} {a : Act} (hn : n ≤ n') (E : Ext n ρ ρ') (h : EnvR C n ρ env a) : EnvR C n' ρ' env a := fun t => (h t).ext hn E
theorem EnvR.put {env : Env} {a : Act} (h : EnvR C n ρ env a) {s : AV} {v : Value} (hv : AVR C n ρ s v) (dst : Option Nat) (hd : ∀ d, dst = some d → d < a.tmps.size) : EnvR C n ρ (putE env dst s) (a.put dst v) := by
  intro t
  cases dst with
  | none => exact h t
  | some d =>
    have hd' := hd d rfl
    simp only [putE, getT, Act.put, Array.getD_eq_getD_getElem?]
    by_cases e : t = d
    · subst e
      simp [hd', hv]
    · rw [if_neg e, Array.getElem?_setIfInBounds_ne (Ne.symm e)]
      have := h t
      rwa [Array.getD_eq_getD_getElem?] at this
theorem VRL.length {l : List SV} {vs : List Value} (h : VRL C n ρ l vs) : l.length = vs.length := by
  induction l generalizing vs with
  | nil => cases h; rfl
  | cons s l ih => cases h with | cons _ v _ vs h hl => simp [ih hl]
theorem VRL.get {l : List SV} {vs : List Value} (h : VRL C n ρ l vs) {i : Nat} {s : SV} (hi : l[i]? = some s) : ∃ v, vs[i]? = some v ∧ VR C n ρ s v := by
  induction l generalizing vs i with
  | nil => simp at hi
  | cons s' l ih =>
    cases h with
    | cons _ v _ vs h hl =>
      cases i with
      | zero => simp at hi; subst hi; exact ⟨v, rfl, h⟩
      | succ i => simpa using ih hl (by simpa using hi)
theorem VRL.set {l : List SV} {vs : List Value} (h : VRL C n ρ l vs) {s : SV} {v : Value} (hv : VR C n ρ s v) (i : Nat) : VRL C n ρ (l.set i s) (vs.set i v) := by
  induction l generalizing vs i with
  | nil => cases h; exact .nil
  | cons s' l ih =>
    cases h with
    | cons _ v' _ vs h hl =>
      cases i with
      | zero => exact .cons _ _ _ _ hv hl
      | succ i => exact .cons _ _ _ _ h (ih hl i)
theorem VRL.drop {l : List SV} {vs : List Value} (h : VRL C n ρ l vs) (i : Nat) : VRL C n ρ (l.drop i) (vs.drop i) := by
  induction l generalizing vs i with
  | nil => cases h; simp; exact .nil
  | cons s' l ih =>
    cases h with
    | cons _ v' _ vs h hl =>
      cases i with
      | zero => exact .cons _ _ _ _ h hl
      | succ i => exact ih hl i
theorem VRL.take {l : List SV} {vs : List Value} (h : VRL C n ρ l vs) (i : Nat) : VRL C n ρ (l.take i) (vs.take i) := by
  induction l generalizing vs i with
  | nil => cases h; simp; exact .nil
  | cons s' l ih =>
    cases h with
    | cons _ v' _ vs h hl =>
      cases i with
      | zero => exact .nil
      | succ i => exact .cons _ _ _ _ h (ih hl i)
theorem VRL.append {l m : List SV} {vs us : List Value} (h : VRL C n ρ l vs) (h' : VRL C n ρ m us) : VRL C n ρ (l ++ m) (vs ++ us) := by
  induction l generalizing vs with
  | nil => cases h; exact h'
  | cons s' l ih => cases h with | cons _ v' _ vs h hl => exact .cons _ _ _ _ h (ih hl)
theorem AVRL.get {l : List AV} {vs : List Value} (h : AVRL C n ρ l vs) {i : Nat} {s : AV} (hi : l[i]? = some s) : ∃ v, vs[i]? = some v ∧ AVR C n ρ s v := by
  induction l generalizing vs i with
  | nil => simp at hi
  | cons s' l ih =>
    cases h with
    | cons _ v _ vs h hl =>
      cases i with
      | zero => simp at hi; subst hi; exact ⟨v, rfl, h⟩
      | succ i => simpa using ih hl (by simpa using hi)
theorem VR.cells {s : SV} {v : Value} (h : VR C n ρ s v) (hs : s ≠ .undef) : v.cells = #[v] := by
  cases h <;> first | rfl | exact absurd rfl hs
theorem HR.ext {hp : List Ob} {w : World} (h : HR C ρ hp w) : True := trivial
end
section
variable {C : Cx} {n : Nat} {ρ : Nat → RV}
theorem scIs_eq {s : Sc} {v : Value} (h : scIs s v = true) : v = s.val := by
  unfold scIs at h
  split at h <;> simp_all [Sc.val]
theorem scsAre_eq : ∀ {l : List Sc} {vs : List Value}, scsAre l vs = true → vs = l.map Sc.val
  | [], [], _ => rfl
  | [], _ :: _, h => by simp [scsAre] at h
  | _ :: _, [], h => by simp [scsAre] at h
  | s :: l, v :: vs, h => by
    simp only [scsAre, Bool.and_eq_true] at h
    rw [scIs_eq h.1, scsAre_eq h.2]; rfl
structure RowT (P : Program) (e : TypeId) (c : RC) (z : List Sc) : Prop where
  len : c.len = 0
  wf : c.wf
  info : ∃ i zv, P.info? e = some i ∧ i.zero = some zv ∧ i.size = c.size ∧ c.size = z.length ∧ 0 < c.size ∧ zv.cells.toList = z.map Sc.val
theorem rowT_ok {P : Program} {e : TypeId} {c : RC} {z : List Sc} (h : rowT P e = some (c, z)) : RowT P e c z := by
  unfold rowT at h
  simp only [Option.bind_eq_some_iff] at h
  obtain ⟨z', hz, i, hi, zv, hzv, c', hc, h⟩ := h
  split at h
  · rename_i hh
    simp only [Option.some.injEq, Prod.mk.injEq] at h
    obtain ⟨rfl, rfl⟩ := h
    obtain ⟨h1, h2, h3, h4⟩ := hh
    have hs := scsAre_eq h4
    refine ⟨?_, ?_, i, zv, hi, hzv, h1.symm, h1.trans h2, by omega, hs⟩
    · split at hc <;> simp at hc <;> subst hc <;> rfl
    · split at hc <;> simp at hc <;> subst hc <;> simp [RC.wf] <;> exact h3
  · exact absurd h (by simp)
theorem constSV_ok {P : Program} {t : TypeId} {v : Value} {s : SV} (h : constSV P t v = some s) : VR C n ρ s v := by
  unfold constSV at h
  split at h
  · simp at h; subst h; exact .int _ _
  · simp at h; subst h; exact .bool _
  · simp at h; subst h; exact .str _
  · simp at h; subst h; exact .nilp
  · simp at h; subst h; exact .nilf
  · split at h
    · simp only [Option.map_eq_some_iff] at h
      obtain ⟨⟨c, z⟩, hr, rfl⟩ := h
      have := rowT_ok hr
      exact .nils _ this.len this.wf
    · simp at h
  · simp at h
theorem constSVs_ok {P : Program} : ∀ {ts : List TypeId} {vs : List Value} {l : List SV}, constSVs P ts vs = some l → VRL C n ρ l vs
  | [], [], l, h => by simp [constSVs] at h; subst h; exact .nil
  | [], _ :: _, _, h => by simp [constSVs] at h
  | _ :: _, [], _, h => by simp [constSVs] at h
  | t :: ts, v :: vs, l, h => by
    simp only [constSVs, Option.bind_eq_some_iff, Option.map_eq_some_iff] at h
    obtain ⟨s, hs, l', hl, rfl⟩ := h
    exact .cons _ _ _ _ (constSV_ok hs) (constSVs_ok hl)
theorem constAV_ok {P : Program} {t : TypeId} {v : Value} {s : AV} (h : constAV P t v = some s) : AVR C n ρ s v := by
  unfold constAV at h
  split at h
  · rename_i cs
    simp only [Option.bind_eq_some_iff, Option.map_eq_some_iff] at h
    obtain ⟨l, hl, m, hm, rfl⟩ := h
    have := AVR.agg _ _ (constSVs_ok (C := C) (n := n) (ρ := ρ) hm)
    simpa using this
  · simp only [Option.map_eq_some_iff] at h
    obtain ⟨m, hm, rfl⟩ := h
    exact .one _ _ (constSV_ok hm)
theorem cOp_ok {P : Program} {t : TypeId} {x : Operand} {ao : AO} {env : Env} {a : Act} (h : cOp P t x = some ao) (he : EnvR C n ρ env a) : AVR C n ρ (getO env ao) (a.eval x) := by
  unfold cOp at h
  split at h
  · simp at h; subst h; exact he _
  · simp only [Option.map_eq_some_iff] at h
    obtain ⟨m, hm, rfl⟩ := h
    exact constAV_ok hm
  · simp at h; subst h; exact .one _ _ (.fn _ [] [] .nil)
  · simp at h
theorem cOps_ok {P : Program} {env : Env} {a : Act} (he : EnvR C n ρ env a) : ∀ {ts : List TypeId} {xs : List Operand} {l : List AO}, cOps P ts xs = some l → AVRL C n ρ (getL env l) (xs.map a.eval)
  | [], [], l, h => by simp [cOps] at h; subst h; exact .nil
  | _ :: _, [], l, h => by simp [cOps] at h; subst h; exact .nil
  | [], x :: xs, l, h => by
    simp only [cOps, Option.bind_eq_some_iff, Option.map_eq_some_iff] at h
    obtain ⟨s, hs, l', hl, rfl⟩ := h
    exact .cons _ _ _ _ (cOp_ok hs he) (cOps_ok he hl)
  | t :: ts, x :: xs, l, h => by
    simp only [cOps, Option.bind_eq_some_iff, Option.map_eq_some_iff] at h
    obtain ⟨s, hs, l', hl, rfl⟩ := h
    exact .cons _ _ _ _ (cOp_ok hs he) (cOps_ok he hl)
end
theorem both_ok {α β : Type} {a : Option α} {b : Option β} {p : α × β} (h : bothOf a b = some p) : a = some p.1 ∧ b = some p.2 := by
  simp only [bothOf, Option.bind_eq_some_iff, Option.map_eq_some_iff] at h
  obtain ⟨x, hx, y, hy, rfl⟩ := h
  exact ⟨hx, hy⟩
section
variable {C : Cx} {ρ ρ' : Nat → RV} {hp : List Ob} {w w' : World}
theorem cell_at {b : Nat} {cur : Array Value} {T : TypeId} {fr : Nat × Nat} (h : w.heap[b]? = some (.cells cur T fr)) (o : Nat) : w.cell? ⟨b, o, none⟩ = cur[o]? := by
  simp [World.cell?, h]
theorem old_block (w : World) (o : Obj) {b : Nat} (hb : b < w.heap.size) : (w.alloc o).heap[b]? = w.heap[b]? := by
  show (w.heap.push o)[b]? = _
  rw [Array.getElem?_push, if_neg (Nat.ne_of_lt hb)]
theorem new_block (w : World) (o : Obj) : (w.alloc o).heap[w.heap.size]? = some o := by
  show (w.heap.push o)[w.heap.size]? = _
  simp
theorem FR.of_block (h : FR C w) (hs : w.heap.size ≤ w'.heap.size) (hb : ∀ b, b < w.heap.size → ¬ C.own b → w'.heap[b]? = w.heap[b]?) (h1 : w'.os = w.os) (h2 : w'.tape = w.tape) (h3 : w'.output = w.output) : FR C w' :=
  ⟨Nat.le_trans h.size hs, fun b hlt hS => (hb b (Nat.lt_of_lt_of_le hlt h.size) (by rintro (h | h) <;> first | exact hS h | omega)).trans (h.block b hlt hS), h1.trans h.os, h2.trans h.tape, h3.trans h.output⟩
theorem FR.alloc (h : FR C w) (o : Obj) : FR C (w.alloc o) := h.of_block (by simp) (fun b hb _ => old_block w o hb) rfl rfl rfl
theorem FR.drew (h : FR C w) : FR C w.drew := ⟨h.size, h.block, h.os, h.tape, h.output⟩
theorem ObR.lt {n k : Nat} {o : Ob} (h : ObR C n ρ w k o) (ho : o ≠ .dead) {b : Nat} (hb : blkOf (ρ k).hdr = some b) : C.own b ∧ b < w.heap.size := by
  cases o with
  | dead => exact absurd rfl ho
  | cells g l =>
    obtain ⟨b', T, cur, e, hown, hh, _⟩ := h
    rw [e] at hb; simp [blkOf] at hb; subst hb
    exact ⟨hown, (Array.getElem?_eq_some_iff.1 hh).1⟩
  | rows g c =>
    obtain ⟨_, _, _, ⟨e, _⟩ | ⟨b', o, cap, cur, T, fr, e, hown, hh, _⟩⟩ := h
    · rw [e] at hb; simp [blkOf] at hb
    · rw [e] at hb; simp [blkOf] at hb; subst hb
      exact ⟨hown, (Array.getElem?_eq_some_iff.1 hh).1⟩
theorem ObR.world {n k : Nat} {o : Ob} (h : ObR C n ρ w k o) (hb : ∀ b, blkOf (ρ k).hdr = some b → w'.heap[b]? = w.heap[b]?) : ObR C n ρ w' k o := by
  cases o with
  | dead => trivial
  | cells g l =>
    obtain ⟨b, T, cur, e, hown, hh, rest⟩ := h
    exact ⟨b, T, cur, e, hown, (hb b (by rw [e]; rfl)).trans hh, rest⟩
  | rows g c =>
    obtain ⟨h1, h2, hg, h | ⟨b, o, cap, cur, T, fr, e, hown, hh, rest⟩⟩ := h
    · exact ⟨h1, h2, hg, .inl h⟩
    · exact ⟨h1, h2, hg, .inr ⟨b, o, cap, cur, T, fr, e, hown, (hb b (by rw [e]; rfl)).trans hh, rest⟩⟩
theorem ObR.ext {n n' k : Nat} {o : Ob} (hn : n ≤ n') (E : Ext n ρ ρ') (hk : k < n) (h : ObR C n ρ w k o) : ObR C n' ρ' w k o := by
  cases o with
  | dead => trivial
  | cells g l =>
    obtain ⟨b, T, cur, e, hown, hh, hv, hg⟩ := h
    exact ⟨b, T, cur, by rw [E k hk]; exact e, hown, hh, hv.ext hn E, by rw [E k hk]; exact hg⟩
  | rows g c =>
    have hE := E k hk
    obtain ⟨h1, h2, hg, h⟩ := h
    exact ⟨h1, by rw [hE]; exact h2, by rw [hE]; exact hg, by rw [hE]; exact h⟩
theorem HR.world (h : HR C ρ hp w) (hb : ∀ k b, alive hp k → blkOf (ρ k).hdr = some b → w'.heap[b]? = w.heap[b]?) : HR C ρ hp w' := by
  refine ⟨fun k o ho => ?_, h.ne⟩
  by_cases hd : o = .dead
  · subst hd; trivial
  · exact (h.ob k o ho).world fun b e => hb k b ⟨o, ho, hd⟩ e
theorem HR.lt (h : HR C ρ hp w) {k b : Nat} (ha : alive hp k) (hb : blkOf (ρ k).hdr = some b) : C.own b ∧ b < w.heap.size := by
  obtain ⟨o, ho, hd⟩ := ha
  exact (h.ob k o ho).lt hd hb
theorem alive.lt {k : Nat} (h : alive hp k) : k < hp.length := by
  obtain ⟨o, ho, _⟩ := h
  exact (List.getElem?_eq_some_iff.1 ho).1
theorem HR.alloc (h : HR C ρ hp w) (o : Obj) : HR C ρ hp (w.alloc o) := h.world fun k b ha hb => old_block w o (h.lt ha hb).2
theorem HR.drew (h : HR C ρ hp w) : HR C ρ hp w.drew := h.world fun _ _ _ _ => rfl
def up (ρ : Nat → RV) (n : Nat) (r : RV) : Nat → RV := fun k => if k = n then r else ρ k
theorem up_at (ρ : Nat → RV) (n : Nat) (r : RV) : up ρ n r n = r := by simp [up]
theorem up_ext (ρ : Nat → RV) (n : Nat) (r : RV) : Ext n ρ (up ρ n r) := fun k hk => by simp [up, Nat.ne_of_lt hk]
theorem alive_append {k : Nat} {o : Ob} (h : alive (hp ++ [o]) k) : alive hp k ∨ k = hp.length := by
  obtain ⟨x, hx, hd⟩ := h
  by_cases hk : k < hp.length
  · rw [List.getElem?_append_left hk] at hx; exact .inl ⟨x, hx, hd⟩
  · right
    have := (List.getElem?_eq_some_iff.1 hx).1
    simp at this; omega
theorem HR.push (h : HR C ρ hp w) {o : Ob} {r : RV} (ho : ObR C (hp.length + 1) (up ρ hp.length r) w hp.length o) (hne : ∀ k b, alive hp k → blkOf (ρ k).hdr = some b → blkOf r.hdr ≠ some b) : HR C (up ρ hp.length r) (hp ++ [o]) w := by
  have E := up_ext ρ hp.length r
  refine ⟨fun k x hx => ?_, fun j k b hjk hj hk hb => ?_⟩
  · simp only [List.length_append, List.length_cons, List.length_nil, Nat.zero_add]
    by_cases hk : k < hp.length
    · rw [List.getElem?_append_left hk] at hx
      exact (h.ob k x hx).ext (Nat.le_succ _) E hk
    · have hlt := (List.getElem?_eq_some_iff.1 hx).1
      simp at hlt
      obtain rfl : k = hp.length := by omega
      simp at hx; subst hx
      exact ho
  · rcases alive_append hj with hj | rfl
    · rw [E j hj.lt] at hb
      rcases alive_append hk with hk | rfl
      · rw [E k hk.lt]; exact h.ne j k b hjk hj hk hb
      · rw [up_at]; exact hne j b hj hb
    · rw [up_at] at hb
      rcases alive_append hk with hk | rfl
      · rw [E k hk.lt]
        intro e
        exact hne k b hk e hb
      · exact absurd rfl hjk
theorem alive_set {k j : Nat} {o : Ob} (h : alive (hp.set k o) j) (hne : j ≠ k) : alive hp j := by
  obtain ⟨x, hx, hd⟩ := h
  rw [List.getElem?_set_ne (Ne.symm hne)] at hx
  exact ⟨x, hx, hd⟩
theorem HR.setOb (h : HR C ρ hp w) {k : Nat} {o : Ob} (ho : ObR C hp.length ρ w k o) (hk : o ≠ .dead → alive hp k) : HR C ρ (hp.set k o) w := by
  refine ⟨fun j x hx => ?_, fun i j b hij hi hj hb => ?_⟩
  · rw [List.length_set]
    by_cases e : j = k
    · subst e
      have hlt := (List.getElem?_eq_some_iff.1 hx).1
      rw [List.length_set] at hlt
      rw [List.getElem?_set_self hlt] at hx
      simp at hx; subst hx; exact ho
    · rw [List.getElem?_set_ne (Ne.symm e)] at hx
      exact h.ob j x hx
  · have al : ∀ m, alive (hp.set k o) m → alive hp m := by
      intro m hm
      by_cases e : m = k
      · subst e
        obtain ⟨x, hx, hd⟩ := hm
        have hlt := (List.getElem?_eq_some_iff.1 hx).1
        rw [List.length_set] at hlt
        rw [List.getElem?_set_self hlt] at hx
        simp at hx; subst hx
        exact hk hd
      · exact alive_set hm e
    exact h.ne i j b hij (al i hi) (al j hj) hb
end
def Good (C : Cx) (ρ : Nat → RV) (hp : List Ob) (o : Oper) (a : Act) (w : World) (res : AV × List Ob) : Prop :=
  ∀ (K : Act → World → Prop) (Q : Exit → Act → World → Prop),
    (∀ (ρ' : Nat → RV) (v : Value) (w' : World), hp.length ≤ res.2.length → Ext hp.length ρ ρ' → AVR C res.2.length ρ' res.1 v → HR C ρ' res.2 w' → FR C w' → K (a.put o.dst v) w') → o.wp C.P a w K Q
section
variable {C : Cx} {ρ : Nat → RV} {hp : List Ob} {o : Oper} {a : Act} {w : World} {env : Env}
theorem good_value {res : AV × List Ob} {v : Value} {w' : World} (hr : (execOp a.eval o).run C.P w = .ok (.value v) w') (ρ' : Nat → RV) (hl : hp.length ≤ res.2.length) (E : Ext hp.length ρ ρ')
    (hv : AVR C res.2.length ρ' res.1 v) (hH : HR C ρ' res.2 w') (hF : FR C w') : Good C ρ hp o a w res := by
  intro K Q k
  show o.upon C.P a K Q _
  rw [hr]
  exact k ρ' v w' hl E hv hH hF
theorem good_skip {res : AV × List Ob} {w' : World} (hr : (execOp a.eval o).run C.P w = .ok .skip w') (ρ' : Nat → RV) (hl : hp.length ≤ res.2.length) (E : Ext hp.length ρ ρ')
    (hv : res.1 = .one .undef) (hH : HR C ρ' res.2 w') (hF : FR C w') : Good C ρ hp o a w res := by
  intro K Q k
  show o.upon C.P a K Q _
  rw [hr]
  exact k ρ' undef w' hl E (by rw [hv]; exact .one _ _ (.undef _)) hH hF
theorem good_same {s : AV} {v : Value} (hr : (execOp a.eval o).run C.P w = .ok (.value v) w) (hv : AVR C hp.length ρ s v) (hH : HR C ρ hp w) (hF : FR C w) : Good C ρ hp o a w (s, hp) :=
  good_value hr ρ (Nat.le_refl _) (Ext.refl _ _) hv hH hF
theorem val_run (s : Sem Value) {v : Value} {w' : World} (h : s.run C.P w = .ok v w') : Sem.run C.P (do pure (Next.value (← s))) w = .ok (.value v) w' := by
  simp [h]
theorem unit_run (s : Sem Unit) {w' : World} (h : s.run C.P w = .ok () w') : Sem.run C.P (do s; pure Next.skip) w = .ok .skip w' := by
  simp [h]
theorem AVR.sv_of {n : Nat} {s : AV} {v : Value} (h : AVR C n ρ s v) (hs : s.sv ≠ .undef) : s = .one s.sv ∧ VR C n ρ s.sv v := by
  cases h with
  | one s v h => exact ⟨rfl, h⟩
  | agg l vs h => exact absurd rfl hs
  | tup l vs h => exact absurd rfl hs
theorem g_mv {x : AO} {X : Operand} {t : TypeId} (ho : o.op = .move X ∨ o.op = .assign X) (hx : cOp C.P t X = some x) (he : EnvR C hp.length ρ env a) (hH : HR C ρ hp w) (hF : FR C w) : Good C ρ hp o a w (getO env x, hp) := by
  refine good_same (v := a.eval X) ?_ (cOp_ok hx he) hH hF
  obtain ⟨dst, op, type, pos, after, guard⟩ := o
  rcases ho with rfl | rfl <;> simp [execOp]
theorem HR.newRow {c : RC} {b : Option Addr} (hH : HR C ρ hp w) (h0 : c.len = 0) (hw : c.wf) : HR C (up ρ hp.length ⟨.slice none 0 0, c.size⟩) (hp ++ [.rows none c]) w :=
  hH.push ⟨hw, by rw [up_at], by simp, .inl ⟨by rw [up_at], h0⟩⟩ (fun _ _ _ _ => by simp [blkOf])
theorem up_row (n : Nat) (a : Option Addr) (m c sz : Nat) : VR C (n + 1) (up ρ n ⟨.slice a m c, sz⟩) (.row n) (.slice a m c) := .row n a m c (Nat.lt_succ_self _) (by rw [up_at])
theorem g_newNil {c0 : RC} {z : List Sc} {X : Operand} {e : TypeId} (ho : o.op = .move X ∨ o.op = .assign X) (hX : isNilConst X = true) (hr : rowT C.P e = some (c0, z)) (hH : HR C ρ hp w) (hF : FR C w) :
    Good C ρ hp o a w (.one (.row hp.length), hp ++ [.rows none c0]) := by
  have hk := rowT_ok hr
  have hX' : X = .const (.slice none 0 0) := by
    unfold isNilConst at hX
    split at hX
    · rfl
    · simp at hX
  subst hX'
  refine good_value (v := .slice none 0 0) (w' := w) ?_ (up ρ hp.length ⟨.slice none 0 0, c0.size⟩) (by simp) (up_ext _ _ _) ?_ (hH.newRow (b := none) hk.len hk.wf) hF
  · obtain ⟨dst, op, type, pos, after, guard⟩ := o
    rcases ho with rfl | rfl <;> simp [execOp, Act.eval]
  · simp only [List.length_append, List.length_cons, List.length_nil, Nat.zero_add]
    exact .one _ _ (up_row _ _ _ _ _)
theorem asBool_run (b : Bool) : (asBool (.bool b)).run C.P w = .ok b w := rfl
theorem g_pick {c x y : AO} {Cc X Y : Operand} {t t' t'' : TypeId} {res : AV × List Ob} (ho : o.op = .pick Cc X Y) (hc : cOp C.P t Cc = some c) (hx : cOp C.P t' X = some x) (hy : cOp C.P t'' Y = some y)
    (he : EnvR C hp.length ρ env a) (hH : HR C ρ hp w) (hF : FR C w) (h : oPick hp (getO env x) (getO env y) (getO env c) = some res) : Good C ρ hp o a w res := by
  have h1 := cOp_ok hc he
  have h2 := cOp_ok hx he
  have h3 := cOp_ok hy he
  generalize getO env c = s at h h1
  unfold oPick at h
  split at h
  · rename_i b
    simp at h; subst h
    cases h1 with
    | one _ _ h1 =>
      generalize hv : a.eval Cc = v at h1
      cases h1
      refine good_same (v := if b = true then a.eval X else a.eval Y) ?_ (by cases b <;> simp [h2, h3]) hH hF
      obtain ⟨dst, op, type, pos, after, guard⟩ := o
      dsimp only at ho; subst ho
      cases b <;> simp [execOp, hv, asBool]
  · simp at h
end
theorem flat_get : ∀ (n : Nat) (xs : List (List Sc)), (∀ l ∈ xs, l.length = n) → ∀ (i o : Nat), i < xs.length → o < n → (xs.flatMap fun l => l.map Sc.val)[i * n + o]? = ((xs.getD i [])[o]?).map Sc.val
  | n, [], _, i, o, hi, _ => by simp at hi
  | n, l :: xs, h, 0, o, _, ho => by
    have hl := h l (by simp)
    rw [List.flatMap_cons, Nat.zero_mul, Nat.zero_add, List.getElem?_append_left (by simpa [hl] using ho)]
    simp
  | n, l :: xs, h, i + 1, o, hi, ho => by
    have hl := h l (by simp)
    have e : (i + 1) * n + o = (l.map Sc.val).length + (i * n + o) := by simp [hl, Nat.add_mul]; omega
    rw [List.flatMap_cons, e, List.getElem?_append_right (by omega), Nat.add_sub_cancel_left]
    simpa using flat_get n xs (fun m hm => h m (by simp [hm])) i o (by simpa using hi) ho
theorem flat_length : ∀ (n : Nat) (xs : List (List Sc)), (∀ l ∈ xs, l.length = n) → (xs.flatMap fun l => l.map Sc.val).length = xs.length * n
  | n, [], _ => by simp
  | n, l :: xs, h => by
    have hl := h l (by simp)
    rw [List.flatMap_cons, List.length_append, List.length_map, hl, flat_length n xs (fun m hm => h m (by simp [hm])), List.length_cons, Nat.add_mul]
    omega
namespace RC
theorem vals_length {c : RC} (h : c.wf) : c.vals.length = c.len * c.size := by
  cases c with
  | ints k xs => simp [vals, len, size]
  | strs xs => simp [vals, len, size]
  | bools xs => simp [vals, len, size]
  | recs n xs => exact flat_length n xs h.2
theorem size_pos {c : RC} (h : c.wf) : 0 < c.size := by
  cases c with
  | ints k xs => exact Nat.one_pos
  | strs xs => exact Nat.one_pos
  | bools xs => exact Nat.one_pos
  | recs n xs => exact h.1
theorem get_vals {c : RC} (hw : c.wf) {i o : Nat} {s : Sc} (hi : i < c.len) (h : c.get i o = some s) : o < c.size ∧ c.vals[i * c.size + o]? = some s.val := by
  cases c with
  | ints k xs =>
    simp only [get] at h
    split at h <;> simp at h
    subst h; rename_i e; subst e
    simp only [len] at hi
    simp [size, vals, Sc.val, hi]
  | strs xs =>
    simp only [get] at h
    split at h <;> simp at h
    subst h; rename_i e; subst e
    simp only [len] at hi
    simp [size, vals, Sc.val, hi]
  | bools xs =>
    simp only [get] at h
    split at h <;> simp at h
    subst h; rename_i e; subst e
    simp only [len] at hi
    simp [size, vals, Sc.val, hi]
  | recs n xs =>
    simp only [get] at h
    have hm : xs.getD i [] ∈ xs := by
      simp only [len] at hi
      simp [List.getD, hi]
    have hl := hw.2 _ hm
    have ho : o < n := by have := (List.getElem?_eq_some_iff.1 h).1; omega
    refine ⟨ho, ?_⟩
    simp only [vals, size]
    rw [flat_get n xs hw.2 i o hi ho, h]; rfl
theorem elem_get {c : RC} (hw : c.wf) {i o : Nat} (hi : i < c.len) (ho : o < c.size) : ∃ s, (c.elem i)[o]? = some s ∧ c.vals[i * c.size + o]? = some s.val := by
  cases c with
  | ints k xs =>
    simp only [size] at ho
    obtain rfl : o = 0 := by omega
    simp only [len] at hi
    exact ⟨_, rfl, by simp [vals, size, Sc.val, hi]⟩
  | strs xs =>
    simp only [size] at ho
    obtain rfl : o = 0 := by omega
    simp only [len] at hi
    exact ⟨_, rfl, by simp [vals, size, Sc.val, hi]⟩
  | bools xs =>
    simp only [size] at ho
    obtain rfl : o = 0 := by omega
    simp only [len] at hi
    exact ⟨_, rfl, by simp [vals, size, Sc.val, hi]⟩
  | recs n xs =>
    simp only [size] at ho
    simp only [len] at hi
    have hm : xs.getD i [] ∈ xs := by simp [List.getD, hi]
    have hl := hw.2 _ hm
    refine ⟨(xs.getD i [])[o]'(by omega), by show (xs.getD i [])[o]? = _; exact List.getElem?_eq_getElem (by omega), ?_⟩
    simp only [vals, size]
    rw [flat_get n xs hw.2 i o hi ho, List.getElem?_eq_getElem (show o < (xs.getD i []).length by omega)]; rfl
theorem elem_length {c : RC} (hw : c.wf) {i : Nat} (hi : i < c.len) : (c.elem i).length = c.size := by
  cases c with
  | ints k xs => rfl
  | strs xs => rfl
  | bools xs => rfl
  | recs n xs =>
    simp only [len] at hi
    exact hw.2 _ (by simp [elem, List.getD, hi])
theorem val_at {c : RC} (hw : c.wf) {j : Nat} {u : Value} (h : c.vals[j]? = some u) : j < c.len * c.size ∧ u.oneCell' = true := by
  have hl := (List.getElem?_eq_some_iff.1 h).1
  rw [vals_length hw] at hl
  refine ⟨hl, ?_⟩
  cases c with
  | ints k xs => simp [vals] at h; obtain ⟨_, _, rfl⟩ := h; rfl
  | strs xs => simp [vals] at h; obtain ⟨_, _, rfl⟩ := h; rfl
  | bools xs => simp only [vals, List.getElem?_map, Option.map_eq_some_iff] at h; obtain ⟨_, _, rfl⟩ := h; rfl
  | recs n xs =>
    have hm := List.mem_of_getElem? h
    simp [vals] at hm
    obtain ⟨l, _, s, _, rfl⟩ := hm
    cases s <;> rfl
structure SetAt (c c' : RC) (i o : Nat) (s : Sc) : Prop where
  len : c'.len = c.len
  size : c'.size = c.size
  wf : c'.wf
  ho : o < c.size
  vals : ∀ j u, c'.vals[j]? = some u → (j = i * c.size + o ∧ u = s.val) ∨ (j ≠ i * c.size + o ∧ c.vals[j]? = some u)
theorem set_vals {c c' : RC} (hw : c.wf) {i o : Nat} {s : Sc} (hi : i < c.len) (h : c.set i o s = some c') : SetAt c c' i o s := by
  cases c with
  | ints k xs =>
    cases s <;> simp [set] at h
    obtain ⟨⟨rfl, rfl⟩, rfl⟩ := h
    refine ⟨by simp [RC.len], rfl, trivial, Nat.one_pos, fun j u hu => ?_⟩
    simp only [RC.vals, RC.size, Nat.mul_one, Nat.add_zero, List.map_set] at hu ⊢
    by_cases e : j = i
    · subst e
      rw [List.getElem?_set_self (by simpa [RC.len] using hi)] at hu
      simp at hu; exact .inl ⟨rfl, hu.symm⟩
    · rw [List.getElem?_set_ne (Ne.symm e)] at hu
      exact .inr ⟨e, hu⟩
  | strs xs =>
    cases s <;> simp [set] at h
    obtain ⟨rfl, rfl⟩ := h
    refine ⟨by simp [RC.len], rfl, trivial, Nat.one_pos, fun j u hu => ?_⟩
    simp only [RC.vals, RC.size, Nat.mul_one, Nat.add_zero, List.map_set] at hu ⊢
    by_cases e : j = i
    · subst e
      rw [List.getElem?_set_self (by simpa [RC.len] using hi)] at hu
      simp at hu; exact .inl ⟨rfl, hu.symm⟩
    · rw [List.getElem?_set_ne (Ne.symm e)] at hu
      exact .inr ⟨e, hu⟩
  | bools xs =>
    cases s <;> simp [set] at h
    obtain ⟨rfl, rfl⟩ := h
    refine ⟨by simp [RC.len], rfl, trivial, Nat.one_pos, fun j u hu => ?_⟩
    simp only [RC.vals, RC.size, Nat.mul_one, Nat.add_zero, List.map_set] at hu ⊢
    by_cases e : j = i
    · subst e
      rw [List.getElem?_set_self (by simpa [RC.len] using hi)] at hu
      simp at hu; exact .inl ⟨rfl, hu.symm⟩
    · rw [List.getElem?_set_ne (Ne.symm e)] at hu
      exact .inr ⟨e, hu⟩
  | recs n xs =>
    simp only [set] at h
    split at h <;> simp at h
    rename_i ho
    subst h
    simp only [RC.len] at hi
    have hm : xs.getD i [] ∈ xs := by simp [List.getD, hi]
    have hl := hw.2 _ hm
    have hw' : ∀ l ∈ xs.set i ((xs.getD i []).set o s), l.length = n := by
      intro l hm'
      rcases List.mem_or_eq_of_mem_set hm' with h | rfl
      · exact hw.2 l h
      · simpa using hl
    refine ⟨by simp [RC.len], rfl, ⟨hw.1, hw'⟩, ho, fun j u hu => ?_⟩
    have hlt := (val_at (c := recs n (xs.set i ((xs.getD i []).set o s))) ⟨hw.1, hw'⟩ hu).1
    simp only [RC.len, RC.size, List.length_set] at hlt
    have hn := hw.1
    have e0 : j = (j / n) * n + j % n := by rw [Nat.mul_comm]; exact (Nat.div_add_mod j n).symm
    have e1 : j / n < xs.length := Nat.div_lt_of_lt_mul (by rw [Nat.mul_comm]; exact hlt)
    have e2 : j % n < n := Nat.mod_lt _ hn
    simp only [RC.vals, RC.size] at hu ⊢
    have hf := flat_get n _ hw' (j / n) (j % n) (by simpa using e1) e2
    rw [e0] at hu
    replace hu := hf.symm.trans hu
    by_cases e : j = i * n + o
    · refine .inl ⟨e, ?_⟩
      rw [e0] at e
      have hi' : j / n = i := by
        have h1 := congrArg (· / n) e
        simp only [Nat.mul_comm _ n, Nat.mul_add_div hn, Nat.div_eq_of_lt e2, Nat.div_eq_of_lt ho, Nat.add_zero] at h1
        exact h1
      have ho' : j % n = o := by rw [hi'] at e; omega
      rw [hi', ho'] at hu
      have hl' : o < (xs.getD i []).length := by rw [hl]; exact ho
      have hg : ((xs.set i ((xs.getD i []).set o s)).getD i [])[o]? = some s := by
        rw [List.getD_eq_getElem?_getD, List.getElem?_set_self hi, Option.getD_some, List.getElem?_set_self hl']
      rw [hg] at hu
      simp at hu
      exact hu.symm
    · refine .inr ⟨e, ?_⟩
      rw [e0] at e ⊢
      rw [flat_get n xs hw.2 _ _ e1 e2]
      by_cases hi' : j / n = i
      · have ho' : j % n ≠ o := fun h => e (by rw [hi', h])
        rw [hi'] at hu ⊢
        simp only [List.getD, List.getElem?_set_self hi, Option.getD_some] at hu
        rwa [List.getElem?_set_ne (Ne.symm ho')] at hu
      · simpa [List.getD, List.getElem?_set_ne (Ne.symm hi')] using hu
theorem app_vals {c d e : RC} (hc : c.wf) (hd : d.wf) (h : c.app d = some e) : e.vals = c.vals ++ d.vals ∧ e.len = c.len + d.len ∧ e.size = c.size ∧ e.wf ∧ c.size = d.size := by
  cases c <;> cases d <;> simp [app] at h
  · obtain ⟨rfl, rfl⟩ := h; simp [vals, len, size, wf]
  · subst h; simp [vals, len, size, wf]
  · subst h; simp [vals, len, size, wf]
  · obtain ⟨rfl, rfl⟩ := h
    refine ⟨by simp [vals], by simp [len], rfl, ⟨hc.1, ?_⟩, rfl⟩
    intro l hl
    rcases List.mem_append.1 hl with h | h
    · exact hc.2 l h
    · exact hd.2 l h
theorem cut_vals {c : RC} (hc : c.wf) {a m : Nat} (h : a + m ≤ c.len) : (c.cut a m).len = m ∧ (c.cut a m).size = c.size ∧ (c.cut a m).wf ∧ (c.cut a m).vals = (c.vals.drop (a * c.size)).take (m * c.size) := by
  cases c with
  | ints k xs => simp only [len] at h; simp [cut, len, size, wf, vals]; omega
  | strs xs => simp only [len] at h; simp [cut, len, size, wf, vals]; omega
  | bools xs => simp only [len] at h; simp [cut, len, size, wf, vals]; omega
  | recs n xs =>
    simp only [len] at h
    refine ⟨by simp [cut, len]; omega, rfl, ⟨hc.1, fun l hl => hc.2 l (List.mem_of_mem_drop (List.mem_of_mem_take hl))⟩, ?_⟩
    simp only [cut, vals, size]
    have hw := hc.2
    clear hc
    induction xs generalizing a m with
    | nil => simp
    | cons x xs ih =>
      have hx := hw x (by simp)
      have hw' : ∀ l ∈ xs, l.length = n := fun l hl => hw l (by simp [hl])
      cases a with
      | succ a =>
        have := ih (a := a) (m := m) (by simp at h; omega) hw'
        rw [List.drop_succ_cons, this, List.flatMap_cons, Nat.add_mul, Nat.one_mul, Nat.add_comm (a * n), ← List.drop_drop, List.drop_left' (by simpa using hx)]
      | zero =>
        cases m with
        | zero => simp
        | succ m =>
          have := ih (a := 0) (m := m) (by simp at h; omega) hw'
          simp only [List.drop_zero, Nat.zero_mul] at this ⊢
          have e : (m + 1) * n = (x.map Sc.val).length + m * n := by rw [List.length_map, hx, Nat.add_mul, Nat.one_mul, Nat.add_comm]
          rw [List.take_succ_cons, List.flatMap_cons, this, List.flatMap_cons, e, List.take_length_add_append]
end RC
section
variable {C : Cx} {ρ : Nat → RV} {hp : List Ob} {o : Oper} {a : Act} {w : World} {env : Env}
theorem run_isAgg {P : Program} {t : TypeId} {b : Bool} (w : World) (h : isAggT P t = some b) : (isAgg t).run P w = .ok b w := by
  unfold isAggT at h
  cases hu : P.underlying t with
  | none => simp [hu] at h
  | some d => cases d <;> simp [hu] at h <;> subst h <;> simp [isAgg, run_underlying hu]
theorem run_sizeT {P : Program} {t : TypeId} {n : Nat} (w : World) (h : sizeT P t = some n) : (Go.sizeOf t).run P w = .ok n w := by
  simp only [sizeT, Option.map_eq_some_iff] at h
  obtain ⟨i, hi, rfl⟩ := h
  simp [Go.sizeOf, typeInfo, hi]
theorem row_cells {k : Nat} {g : Option Nat} {c : RC} (hH : HR C ρ hp w) (hk : hp[k]? = some (.rows g c)) (hc : 0 < c.len) : ∃ b q cap cur T fr, (ρ k).hdr = .slice (some ⟨b, q, none⟩) c.len cap ∧ C.own b ∧ w.heap[b]? = some (.cells cur T fr) ∧
      c.len ≤ cap ∧ cap ≤ maxLen ∧ q + cap * c.size ≤ cur.size ∧ (∀ j u, c.vals[j]? = some u → cur[q + j]? = some u) ∧ ∀ j, j < cur.size → ¬ (fr.1 ≤ j ∧ j < fr.2) := by
  obtain ⟨_, _, _, ⟨_, h⟩ | h⟩ := hH.ob k _ hk
  · omega
  · exact h
theorem rows_wf {k : Nat} {g : Option Nat} {c : RC} (hH : HR C ρ hp w) (hk : hp[k]? = some (.rows g c)) : c.wf ∧ (ρ k).size = c.size ∧ ∃ a cap, (ρ k).hdr = .slice a c.len cap := by
  obtain ⟨h1, h2, _, ⟨h3, h4⟩ | ⟨b, o, cap, cur, T, fr, h3, _⟩⟩ := hH.ob k _ hk
  · exact ⟨h1, h2, none, 0, by rw [h3, h4]⟩
  · exact ⟨h1, h2, _, cap, h3⟩
theorem reads_cell {t : Nat} {c : RC} {b q : Nat} (hF : FR C w) (h : C.reads t c (some ⟨b, q, none⟩)) {j : Nat} {u : Value} (hj : c.vals[j]? = some u) : w.cell? ⟨b, q + j, none⟩ = some u := by
  have hlt := (RC.val_at h.1 hj).1
  have h0 : 0 < c.len := by
    rcases Nat.eq_zero_or_pos c.len with e | e
    · rw [e] at hlt; simp at hlt
    · exact e
  obtain ⟨b', o', e, hown, _, hc⟩ := h.2 h0
  simp at e
  obtain ⟨rfl, rfl⟩ := e
  have hb : w.heap[b]? = C.w0.heap[b]? := hF.block b (by
    rcases Nat.lt_or_ge b C.w0.heap.size with h | h
    · exact h
    · exact absurd (.inr h) hown) (fun h => hown (.inl h))
  rw [World.cell?_of_block (a := ⟨b, q + j, none⟩) hb]
  exact hc j u hj
theorem sc_vr {n : Nat} (s : Sc) : VR C n ρ s.sv s.val := by
  cases s
  · exact .int _ _
  · exact .bool _
  · exact .str _
theorem loadOne_ok {s : SV} {p : SV} {pv : Value} (hp' : VR C hp.length ρ p pv) (hH : HR C ρ hp w) (hF : FR C w) (h : loadOne hp p = some s) : ∃ ad v, pv = .pointer (some ad) ∧ w.cell? ad = some v ∧ VR C hp.length ρ s v := by
  unfold loadOne at h
  split at h
  · rename_i k o
    cases hp' with
    | ptr _ _ b hk hb =>
      unfold loadP at h
      split at h
      · rename_i g l hl
        obtain ⟨b', T, cur, e, _, hh, hv, _⟩ := hH.ob k _ hl
        rw [hb] at e; simp at e; subst e
        obtain ⟨v, hv1, hv2⟩ := hv.get h
        exact ⟨_, v, rfl, by rw [cell_at hh]; simpa using hv1, hv2⟩
      · simp at h
  · rename_i k i o
    cases hp' with
    | eptr _ _ _ b q m cap hk hb hi =>
      unfold loadE at h
      split at h
      · rename_i c hc
        obtain ⟨hw, hs, a, cap', hd⟩ := rows_wf hH hc
        rw [hb] at hd; simp at hd; obtain ⟨rfl, rfl, rfl⟩ := hd
        obtain ⟨b', q', cap', cur, T, fr, e, _, hh, _, _, _, hv, _⟩ := row_cells hH hc (by omega)
        rw [hb] at e; simp at e; obtain ⟨⟨rfl, rfl⟩, rfl⟩ := e
        cases hg : c.get i o with
        | none => simp [hg, scSV] at h
        | some sc =>
          simp [hg, scSV] at h; subst h
          obtain ⟨_, h2⟩ := RC.get_vals hw hi hg
          refine ⟨_, sc.val, rfl, ?_, sc_vr sc⟩
          rw [hs, Nat.add_assoc, cell_at hh]
          exact hv _ _ h2
      · simp at h
  · rename_i t c i o
    cases hp' with
    | rptr _ _ _ _ b q hr hi =>
      cases hg : c.get i o with
      | none => simp [hg, scSV] at h
      | some sc =>
        simp [hg, scSV] at h; subst h
        obtain ⟨_, h2⟩ := RC.get_vals hr.1 hi hg
        exact ⟨_, sc.val, rfl, by rw [Nat.add_assoc]; exact reads_cell hF hr h2, sc_vr sc⟩
  · simp at h
theorem scs_vrl {n : Nat} : ∀ l : List Sc, VRL C n ρ (l.map Sc.sv) (l.map Sc.val)
  | [] => .nil
  | s :: l => .cons _ _ _ _ (sc_vr s) (scs_vrl l)
theorem take_get {α : Type} {l : List α} {o n j : Nat} {v : α} (h : ((l.drop o).take n)[j]? = some v) : l[o + j]? = some v := by
  rw [List.getElem?_take] at h
  split at h
  · simpa using h
  · simp at h
theorem loadN_ok {n : Nat} {l : List SV} {p : SV} {pv : Value} (hp' : VR C hp.length ρ p pv) (hH : HR C ρ hp w) (hF : FR C w) (h : loadN hp n p = some l) : ∃ ad vs, pv = .pointer (some ad) ∧ vs.length = n ∧ (∀ j v, vs[j]? = some v → w.cell? (ad.add j) = some v) ∧ VRL C hp.length ρ l vs := by
  unfold loadN at h
  split at h
  · rename_i k o
    cases hp' with
    | ptr _ _ b hk hb =>
      unfold loadPN at h
      split at h
      · rename_i g l' hl
        split at h <;> simp at h
        subst h
        rename_i hle
        obtain ⟨b', T, cur, e, _, hh, hv, _⟩ := hH.ob k _ hl
        rw [hb] at e; simp at e; subst e
        refine ⟨_, (cur.toList.drop o).take n, rfl, ?_, fun j v hj => ?_, (hv.drop o).take n⟩
        · have := hv.length; simp at this ⊢; omega
        · rw [Addr.add_lit, cell_at hh]
          simpa using take_get hj
      · simp at h
  · rename_i k i o
    cases hp' with
    | eptr _ _ _ b q m cap hk hb hi =>
      unfold loadEN at h
      split at h
      · rename_i c hc
        unfold takeE at h
        split at h <;> simp at h
        subst h
        rename_i hle
        obtain ⟨hw, hs, a, cap', hd⟩ := rows_wf hH hc
        rw [hb] at hd; simp at hd; obtain ⟨rfl, rfl, rfl⟩ := hd
        obtain ⟨b', q', cap', cur, T, fr, e, _, hh, _, _, _, hv, _⟩ := row_cells hH hc (by omega)
        rw [hb] at e; simp at e; obtain ⟨⟨rfl, rfl⟩, rfl⟩ := e
        have hel := RC.elem_length hw hi
        refine ⟨_, (((c.elem i).drop o).take n).map Sc.val, rfl, by simp [hel]; omega, fun j v hj => ?_, by rw [← List.map_drop, ← List.map_take]; exact scs_vrl _⟩
        simp only [List.getElem?_map, Option.map_eq_some_iff] at hj
        obtain ⟨sc, hsc, rfl⟩ := hj
        have hsc' := take_get hsc
        have ho := (List.getElem?_eq_some_iff.1 hsc').1
        obtain ⟨s', hs1, hs2⟩ := RC.elem_get hw hi (o := o + j) (by omega)
        rw [hsc'] at hs1; simp at hs1; subst hs1
        rw [Addr.add_lit, hs, show q + i * c.size + o + j = q + (i * c.size + (o + j)) by omega, cell_at hh]
        exact hv _ _ hs2
      · simp at h
  · rename_i t c i o
    cases hp' with
    | rptr _ _ _ _ b q hr hi =>
      unfold takeE at h
      split at h <;> simp at h
      subst h
      rename_i hle
      have hel := RC.elem_length hr.1 hi
      refine ⟨_, (((c.elem i).drop o).take n).map Sc.val, rfl, by simp [hel]; omega, fun j v hj => ?_, by rw [← List.map_drop, ← List.map_take]; exact scs_vrl _⟩
      simp only [List.getElem?_map, Option.map_eq_some_iff] at hj
      obtain ⟨sc, hsc, rfl⟩ := hj
      have hsc' := take_get hsc
      have ho := (List.getElem?_eq_some_iff.1 hsc').1
      obtain ⟨s', hs1, hs2⟩ := RC.elem_get hr.1 hi (o := o + j) (by omega)
      rw [hsc'] at hs1; simp at hs1; subst hs1
      rw [Addr.add_lit, show q + i * c.size + o + j = q + (i * c.size + (o + j)) by omega]
      exact reads_cell hF hr hs2
  · simp at h
theorem loadOne_undef {s : SV} (h : loadOne hp .undef = some s) : False := by simp [loadOne] at h
theorem g_load1 {t t' : TypeId} {X : Operand} {x : AO} {res : AV × List Ob} (ho : o.op = .load t X) (ht : isAggT C.P t = some false) (hx : cOp C.P t' X = some x) (he : EnvR C hp.length ρ env a) (hH : HR C ρ hp w) (hF : FR C w)
    (h : put1 hp (loadOne hp (getS env x)) = some res) : Good C ρ hp o a w res := by
  have h1 := cOp_ok hx he
  cases hl : loadOne hp (getS env x) with
  | none => simp [hl, put1] at h
  | some s =>
    simp [hl, put1] at h; subst h
    obtain ⟨_, h2⟩ := h1.sv_of (by intro e; rw [getS, e] at hl; exact loadOne_undef hl)
    obtain ⟨ad, v, e, hc, hv⟩ := loadOne_ok h2 hH hF hl
    refine good_same (v := v) ?_ (.one _ _ hv) hH hF
    obtain ⟨dst, op, type, pos, after, guard⟩ := o
    dsimp only at ho; subst ho
    refine val_run _ ?_
    simp [Instr.loadAt, Instr.sureAddr, e, loadVar, run_isAgg w ht, load, Sem.run, hc]
theorem g_loadN {t t' : TypeId} {X : Operand} {x : AO} {n : Nat} {res : AV × List Ob} (ho : o.op = .load t X) (ht : isAggT C.P t = some true) (hn : sizeT C.P t = some n) (hx : cOp C.P t' X = some x) (he : EnvR C hp.length ρ env a) (hH : HR C ρ hp w) (hF : FR C w)
    (h : putL hp (loadN hp n (getS env x)) = some res) : Good C ρ hp o a w res := by
  have h1 := cOp_ok hx he
  cases hl : loadN hp n (getS env x) with
  | none => simp [hl, putL] at h
  | some s =>
    simp [hl, putL] at h; subst h
    obtain ⟨_, h2⟩ := h1.sv_of (by intro e; rw [getS, e] at hl; simp [loadN] at hl)
    obtain ⟨ad, vs, e, hlen, hc, hv⟩ := loadN_ok h2 hH hF hl
    refine good_same (v := .agg vs.toArray) ?_ (.agg _ _ hv) hH hF
    obtain ⟨dst, op, type, pos, after, guard⟩ := o
    dsimp only at ho; subst ho
    refine val_run _ ?_
    have hr := run_loadCells_list (P := C.P) w ad vs hc
    rw [hlen] at hr
    simp [Instr.loadAt, Instr.sureAddr, e, loadVar, run_isAgg w ht, run_sizeT w hn, hr]
end
def layV (l : List Value) (off : Nat) : List Value → List Value
  | [] => l
  | v :: vs => layV (l.set off v) (off + 1) vs
theorem layV_length : ∀ (vs l : List Value) (off : Nat), (layV l off vs).length = l.length
  | [], _, _ => rfl
  | v :: vs, l, off => by simp [layV, layV_length vs]
theorem layV_get : ∀ (vs l : List Value) (off j : Nat), off + vs.length ≤ l.length → (layV l off vs)[j]? = if off ≤ j ∧ j < off + vs.length then vs[j - off]? else l[j]?
  | [], l, off, j, _ => by simp [layV]; intro h1 h2; omega
  | v :: vs, l, off, j, h => by
    simp only [List.length_cons] at h
    rw [layV, layV_get vs _ _ _ (by simp; omega)]
    by_cases h1 : j = off
    · subst h1
      have : ¬ (j + 1 ≤ j ∧ j < j + 1 + vs.length) := by omega
      rw [if_neg this, if_pos ⟨Nat.le_refl _, by simp⟩, List.getElem?_set_self (by omega)]
      simp
    · rw [List.getElem?_set_ne (Ne.symm h1)]
      by_cases h2 : off + 1 ≤ j ∧ j < off + 1 + vs.length
      · rw [if_pos h2, if_pos (by simp; omega), show j - off = (j - (off + 1)) + 1 by omega]
        simp
      · rw [if_neg h2, if_neg (by simp; omega)]
structure SameBut (w w' : World) (b : Nat) : Prop where
  size : w'.heap.size = w.heap.size
  block : ∀ b', b' ≠ b → w'.heap[b']? = w.heap[b']?
  os : w'.os = w.os
  tape : w'.tape = w.tape
  output : w'.output = w.output
theorem SameBut.trans {w w' w'' : World} {b : Nat} (h : SameBut w w' b) (h' : SameBut w' w'' b) : SameBut w w'' b :=
  ⟨h'.size.trans h.size, fun x hx => (h'.block x hx).trans (h.block x hx), h'.os.trans h.os, h'.tape.trans h.tape, h'.output.trans h.output⟩
theorem SameBut.refl (w : World) (b : Nat) : SameBut w w b := ⟨rfl, fun _ _ => rfl, rfl, rfl, rfl⟩
theorem setCell_same (w : World) (b o : Nat) (v : Value) : SameBut w (w.setCell ⟨b, o, none⟩ v) b := by
  refine ⟨by simp [World.setCell], fun x hx => ?_, rfl, rfl, rfl⟩
  simp [World.setCell, Array.getElem?_modify, Ne.symm hx]
theorem setCell_at {w : World} {b : Nat} {cur : Array Value} {T : TypeId} {fr : Nat × Nat} (h : w.heap[b]? = some (.cells cur T fr)) (o : Nat) (v : Value) : (w.setCell ⟨b, o, none⟩ v).heap[b]? = some (.cells (cur.setIfInBounds o v) T fr) := by
  simp [World.setCell, Array.getElem?_modify, h]
theorem frozen_at {w : World} {b : Nat} {cur : Array Value} {T : TypeId} {fr : Nat × Nat} (h : w.heap[b]? = some (.cells cur T fr)) {o : Nat} (ho : ¬ (fr.1 ≤ o ∧ o < fr.2)) : w.frozen? ⟨b, o, none⟩ = false := by
  simp [World.frozen?, h]
  intro h1
  omega
theorem run_lay (P : Program) (b off : Nat) (T : TypeId) (fr : Nat × Nat) : ∀ (vs : List Value) (i : Nat) (cur : Array Value) (w : World), w.heap[b]? = some (.cells cur T fr) → (∀ j, j < cur.size → ¬ (fr.1 ≤ j ∧ j < fr.2)) → off + i + vs.length ≤ cur.size →
    (∀ v ∈ vs, v.oneCell' = true) → ∃ w', (Go.storeCells ⟨b, off, none⟩ vs i).run P w = .ok () w' ∧ w'.heap[b]? = some (.cells (layV cur.toList (off + i) vs).toArray T fr) ∧ SameBut w w' b
  | [], i, cur, w, hb, _, _, _ => ⟨w, rfl, by simpa [layV] using hb, .refl _ _⟩
  | v :: vs, i, cur, w, hb, hf, hl, h1 => by
    simp only [List.length_cons] at hl
    have hi : off + i < cur.size := by omega
    have hst : (store ((⟨b, off, none⟩ : Addr).add i) v).run P w = .ok () (w.setCell ⟨b, off + i, none⟩ v) := by
      rw [Addr.add_lit, run_store P w _ v _ (h1 v (by simp)), cell_at hb]
      simp [hi, frozen_at hb (hf _ hi)]
    obtain ⟨w', hr, hb', hs⟩ := run_lay P b off T fr vs (i + 1) (cur.setIfInBounds (off + i) v) _ (setCell_at hb _ v) (by simpa using hf) (by simp; omega) (fun x hx => h1 x (by simp [hx]))
    refine ⟨w', ?_, ?_, (setCell_same w b (off + i) v).trans hs⟩
    · simp only [Go.storeCells, Sem.run_bind, hst, Result.andThen_ok, hr]
    · rw [hb']
      simp [layV, Nat.add_assoc]
section
variable {C : Cx} {ρ : Nat → RV} {hp : List Ob} {o : Oper} {a : Act} {w w' : World} {env : Env}
theorem VR.one' {n : Nat} {s : SV} {v : Value} (h : VR C n ρ s v) (hs : okCell s = true) : v.oneCell' = true ∧ v.cells = #[v] := by
  cases h <;> first | exact ⟨rfl, rfl⟩ | simp [okCell] at hs
theorem VRL.one' {n : Nat} : ∀ {l : List SV} {vs : List Value}, VRL C n ρ l vs → l.all okCell = true → ∀ v ∈ vs, v.oneCell' = true
  | _, _, .nil, _, v, hv => by simp at hv
  | _, _, .cons s u l vs h hl, hs, v, hv => by
    simp only [List.all_cons, Bool.and_eq_true] at hs
    rcases List.mem_cons.1 hv with rfl | hv
    · exact (h.one' hs.1).1
    · exact hl.one' hs.2 v hv
theorem layV_vrl {n : Nat} : ∀ {vs : List SV} {us : List Value} {l : List SV} {cs : List Value}, VRL C n ρ vs us → VRL C n ρ l cs → ∀ off, VRL C n ρ (putAt l off vs) (layV cs off us)
  | _, _, _, _, .nil, h, _ => h
  | _, _, _, _, .cons s u vs us hs hl, h, off => layV_vrl hl (h.set hs off) (off + 1)
theorem FR.same {b : Nat} (hF : FR C w) (h : SameBut w w' b) (hb : C.own b) : FR C w' :=
  hF.of_block (Nat.le_of_eq h.size.symm) (fun x _ hx => h.block x (fun e => hx (e ▸ hb))) h.os h.tape h.output
theorem HR.turn (hH : HR C ρ hp w) {k b : Nat} {ob : Ob} (hk : alive hp k) (hb : blkOf (ρ k).hdr = some b) (hs : SameBut w w' b) (ho : ObR C hp.length ρ w' k ob) : HR C ρ (hp.set k ob) w' := by
  refine ⟨fun j x hx => ?_, fun i j c hij hi hj hc => ?_⟩
  · rw [List.length_set]
    by_cases e : j = k
    · subst e
      have hlt := (List.getElem?_eq_some_iff.1 hx).1
      rw [List.length_set] at hlt
      rw [List.getElem?_set_self hlt] at hx
      simp at hx; subst hx; exact ho
    · rw [List.getElem?_set_ne (Ne.symm e)] at hx
      by_cases hd : x = .dead
      · subst hd; trivial
      · refine (hH.ob j x hx).world fun c hc => hs.block c ?_
        rintro rfl
        exact hH.ne j k c e ⟨x, hx, hd⟩ hk hc hb
  · have al : ∀ m, alive (hp.set k ob) m → alive hp m := by
      intro m hm
      by_cases e : m = k
      · subst e; exact hk
      · exact alive_set hm e
    exact hH.ne i j c hij (al i hi) (al j hj) hc
theorem setScs_ok {n : Nat} : ∀ (vs : List SV) (us : List Value) (c c' : RC) (i off : Nat), VRL C n ρ vs us → c.wf → i < c.len → setScs c i off vs = some c' →
    c'.len = c.len ∧ c'.size = c.size ∧ c'.wf ∧ (∀ u ∈ us, u.oneCell' = true) ∧ (vs ≠ [] → off + vs.length ≤ c.size) ∧ ∀ j u, c'.vals[j]? = some u → if i * c.size + off ≤ j ∧ j < i * c.size + off + us.length then us[j - (i * c.size + off)]? = some u else c.vals[j]? = some u
  | [], _, c, c', i, off, .nil, hw, hi, h => by
    simp [setScs] at h; subst h
    refine ⟨rfl, rfl, hw, by simp, by simp, fun j u hu => ?_⟩
    rw [if_neg (by rw [List.length_nil]; omega)]; exact hu
  | s :: vs, _, c, c', i, off, .cons _ u _ us hs hl, hw, hi, h => by
    simp only [setScs, Option.bind_eq_some_iff] at h
    obtain ⟨sc, hsc, c1, hc1, h⟩ := h
    have S := RC.set_vals hw hi hc1
    obtain ⟨h1, h2, h3, h4, h5, h6⟩ := setScs_ok vs us c1 c' i (off + 1) hl S.wf (by rw [S.len]; exact hi) h
    have hu : u = sc.val := by
      cases hs <;> simp [SV.sc] at hsc <;> subst hsc <;> rfl
    have ho := S.ho
    refine ⟨h1.trans S.len, h2.trans S.size, h3, ?_, ?_, fun j v hv => ?_⟩
    · intro x hx
      rcases List.mem_cons.1 hx with rfl | hx
      · rw [hu]; cases sc <;> rfl
      · exact h4 x hx
    · intro _
      by_cases e : vs = []
      · subst e; simp; omega
      · have := h5 e; rw [S.size] at this; simp; omega
    · have := h6 j v hv
      rw [S.size] at this
      by_cases e1 : i * c.size + (off + 1) ≤ j ∧ j < i * c.size + (off + 1) + us.length
      · rw [if_pos e1] at this
        rw [if_pos (by simp; omega), show j - (i * c.size + off) = (j - (i * c.size + (off + 1))) + 1 by omega]
        simpa using this
      · rw [if_neg e1] at this
        rcases S.vals j v this with ⟨e2, e3⟩ | ⟨e2, e3⟩
        · rw [if_pos (by simp; omega), show j - (i * c.size + off) = 0 by omega]
          simp [hu, e3]
        · rw [if_neg (by simp; omega)]; exact e3
theorem store_ok {vs : List SV} {us : List Value} {p : SV} {pv : Value} {hp' : List Ob} (hv : VRL C hp.length ρ vs us) (hpv : VR C hp.length ρ p pv) (hH : HR C ρ hp w) (hF : FR C w) (h : Go.X.storeCells hp vs p = some hp') :
    ∃ ad w', pv = .pointer (some ad) ∧ (Go.storeCells ad us).run C.P w = .ok () w' ∧ hp'.length = hp.length ∧ HR C ρ hp' w' ∧ FR C w' := by
  unfold Go.X.storeCells at h
  split at h
  · rename_i k o
    cases hpv with
    | ptr _ _ b hk hb =>
      unfold storeP at h
      split at h
      · rename_i g l hl
        split at h <;> simp at h
        rename_i hle
        subst h
        obtain ⟨b', T, cur, e, hown, hh, hvl, hg⟩ := hH.ob k _ hl
        rw [hb] at e; simp at e; subst e
        have hlen := hvl.length
        have hlen' := hv.length
        simp at hlen
        obtain ⟨w', hr, hb', hs⟩ := run_lay C.P b o T (0, 0) us 0 cur w hh (by intro j _; simp) (by omega) (hv.one' hle.2)
        refine ⟨_, w', rfl, hr, by simp, ?_, hF.same hs hown⟩
        refine hH.turn ⟨_, hl, by simp⟩ (by rw [hb]; rfl) hs ⟨b, T, _, hb, hown, hb', ?_, hg⟩
        simpa using layV_vrl hv hvl o
      · simp at h
  · rename_i k i o
    cases hpv with
    | eptr _ _ _ b q m cap hk hb hi =>
      unfold storeE at h
      split at h
      · rename_i g c hc
        cases hset : setScs c i o vs with
        | none => simp [hset, rowsH] at h
        | some c' =>
          simp [hset, rowsH] at h
          subst h
          obtain ⟨hw, hsz, a, cap', hd⟩ := rows_wf hH hc
          have hg := (hH.ob k _ hc).2.2.1
          rw [hb] at hd; simp at hd; obtain ⟨rfl, rfl, rfl⟩ := hd
          obtain ⟨b', q', cap', cur, T, fr, e, hown, hh, hcap, hmax, hfit, hvals, hfro⟩ := row_cells hH hc (by omega)
          rw [hb] at e; simp at e; obtain ⟨⟨rfl, rfl⟩, rfl⟩ := e
          obtain ⟨h1, h2, h3, h4, h5, h6⟩ := setScs_ok vs us c c' i o hv hw hi hset
          have hlen' := hv.length
          have hbound : i * c.size + c.size ≤ cap * c.size := by
            rw [← Nat.succ_mul]; exact Nat.mul_le_mul_right _ (by omega)
          have hin : q + i * (ρ k).size + o + us.length ≤ cur.size ∨ us = [] := by
            by_cases e : vs = []
            · subst e; right; cases hv; rfl
            · have := h5 e; left; rw [hsz]; omega
          rcases hin with hin | rfl
          · obtain ⟨w', hr, hb', hs⟩ := run_lay C.P b (q + i * (ρ k).size + o) T fr us 0 cur w hh hfro (by omega) h4
            refine ⟨_, w', rfl, hr, by simp, ?_, hF.same hs hown⟩
            refine hH.turn ⟨_, hc, by simp⟩ (by rw [hb]; rfl) hs ⟨h3, by rw [h2]; exact hsz, hg, .inr ⟨b, q, cap, _, T, fr, by rw [h1]; exact hb, hown, hb', by rw [h1]; exact hcap, hmax, ?_, ?_, ?_⟩⟩
            · rw [h2]; simpa [layV_length] using hfit
            · intro j u hu
              have h7 := h6 j u hu
              simp only [Nat.add_zero, List.getElem?_toArray]
              rw [layV_get us cur.toList _ _ (by simpa using hin), hsz]
              by_cases e : i * c.size + o ≤ j ∧ j < i * c.size + o + us.length
              · rw [if_pos e] at h7
                rw [if_pos (by omega), show q + j - (q + i * c.size + o) = j - (i * c.size + o) by omega]
                exact h7
              · rw [if_neg e] at h7
                rw [if_neg (by omega)]
                simpa using hvals j u h7
            · simpa [layV_length] using hfro
          · refine ⟨_, w, rfl, rfl, by simp, ?_, hF⟩
            refine hH.turn ⟨_, hc, by simp⟩ (by rw [hb]; rfl) (.refl _ _) ⟨h3, by rw [h2]; exact hsz, hg, .inr ⟨b, q, cap, cur, T, fr, by rw [h1]; exact hb, hown, hh, by rw [h1]; exact hcap, hmax, by rw [h2]; exact hfit, ?_, hfro⟩⟩
            intro j u hu
            have h7 := h6 j u hu
            rw [if_neg (by rw [List.length_nil]; omega)] at h7
            exact hvals j u h7
      · simp at h
  · simp at h
theorem AVR.cells_vrl {n : Nat} {s : AV} {v : Value} (h : AVR C n ρ s v) (hs : s.cells.all okCell = true) : VRL C n ρ s.cells v.cells.toList := by
  cases h with
  | one s v h =>
    simp only [AV.cells, List.all_cons, List.all_nil, Bool.and_true] at hs
    rw [(h.one' hs).2]
    exact .cons _ _ _ _ h .nil
  | agg l vs h => simpa [AV.cells, Value.cells] using h
  | tup l vs h => simp [AV.cells, okCell] at hs
theorem storeVar_run {P : Program} {t : TypeId} {n : Nat} {ad : Addr} {v : Value} {w' : World} (hn : sizeT P t = some n) (hv : v.cells.size = n) (h : (Go.storeCells ad v.cells.toList).run P w = .ok () w') : (storeVar t ad v).run P w = .ok () w' := by
  simp [storeVar, run_sizeT w hn, hv, h]
theorem storeCells_ok_all {vs : List SV} {p : SV} {hp' : List Ob} (h : Go.X.storeCells hp vs p = some hp') : vs.all okCell = true := by
  unfold Go.X.storeCells at h
  split at h
  · unfold storeP at h
    split at h
    · split at h <;> simp at h
      rename_i hle
      exact hle.2
    · simp at h
  · unfold storeE at h
    split at h
    · rename_i k i o _ g c _
      have aux : ∀ (vs : List SV) (c : RC) (off : Nat), (setScs c i off vs).isSome = true → vs.all okCell = true := by
        intro vs
        induction vs with
        | nil => intro _ _ _; rfl
        | cons s vs ih =>
          intro c off hs
          simp only [setScs, Option.isSome_iff_exists, Option.bind_eq_some_iff] at hs
          obtain ⟨c', sc, hsc, c1, hc1, hr⟩ := hs
          simp only [List.all_cons, Bool.and_eq_true]
          refine ⟨by cases s <;> simp [SV.sc] at hsc <;> rfl, ih c1 (off + 1) (by rw [hr]; rfl)⟩
      refine aux vs c o ?_
      cases hset : setScs c i o vs with
      | none => simp [hset, rowsH] at h
      | some c' => rfl
    · simp at h
  · simp at h
theorem g_store {t t' t'' : TypeId} {A X : Operand} {x y : AO} {n : Nat} {res : AV × List Ob} (ho : o.op = .store t A X) (hn : sizeT C.P t = some n) (hx : cOp C.P t' A = some x) (hy : cOp C.P t'' X = some y)
    (he : EnvR C hp.length ρ env a) (hH : HR C ρ hp w) (hF : FR C w) (h : (if (getO env y).cells.length = n then putH (Go.X.storeCells hp (getO env y).cells (getS env x)) else none) = some res) : Good C ρ hp o a w res := by
  have h1 := cOp_ok hx he
  have h2 := cOp_ok hy he
  split at h
  · rename_i hlen
    cases hs : Go.X.storeCells hp (getO env y).cells (getS env x) with
    | none => simp [hs, putH] at h
    | some hp' =>
      simp [hs, putH] at h; subst h
      have hv := h2.cells_vrl (storeCells_ok_all hs)
      obtain ⟨_, h3⟩ := h1.sv_of (by intro e; rw [getS, e] at hs; simp [Go.X.storeCells] at hs)
      obtain ⟨ad, w', e, hr, hl, hH', hF'⟩ := store_ok hv h3 hH hF hs
      refine good_skip (w' := w') ?_ ρ (Nat.le_of_eq hl.symm) (Ext.refl _ _) rfl hH' hF'
      obtain ⟨dst, op, type, pos, after, guard⟩ := o
      dsimp only at ho; subst ho
      refine unit_run _ ?_
      have hsz : (a.eval X).cells.size = n := by have := hv.length; simp at this; omega
      simp [Instr.storeAt, Instr.sureAddr, e, storeVar_run hn hsz hr]
  · simp at h
theorem g_storeNil {t e t' : TypeId} {A X : Operand} {x : AO} {c0 : RC} {z : List Sc} {res : AV × List Ob} (ho : o.op = .store t A X) (hX : isNilConst X = true) (hn : sizeT C.P t = some 1) (hr : rowT C.P e = some (c0, z)) (hx : cOp C.P t' A = some x)
    (he : EnvR C hp.length ρ env a) (hH : HR C ρ hp w) (hF : FR C w) (h : putH (Go.X.storeCells (hp ++ [.rows none c0]) [.row hp.length] (getS env x)) = some res) : Good C ρ hp o a w res := by
  have hk := rowT_ok hr
  have h1 := cOp_ok hx he
  have hX' : X = .const (.slice none 0 0) := by
    unfold isNilConst at hX
    split at hX
    · rfl
    · simp at hX
  subst hX'
  cases hs : Go.X.storeCells (hp ++ [.rows none c0]) [.row hp.length] (getS env x) with
  | none => simp [hs, putH] at h
  | some hp' =>
    simp [hs, putH] at h; subst h
    obtain ⟨_, h3⟩ := h1.sv_of (by intro e; rw [getS, e] at hs; simp [Go.X.storeCells] at hs)
    have hE := up_ext ρ hp.length ⟨.slice none 0 0, c0.size⟩
    have hle : hp.length ≤ (hp ++ [Ob.rows none c0]).length := by simp
    have hv : VRL C (hp ++ [Ob.rows none c0]).length (up ρ hp.length ⟨.slice none 0 0, c0.size⟩) [.row hp.length] [.slice none 0 0] := .cons _ _ _ _ (by simpa using up_row hp.length none 0 0 c0.size) .nil
    obtain ⟨ad, w', e, hr, hl, hH', hF'⟩ := store_ok hv (h3.ext hle hE) (hH.newRow (b := none) hk.len hk.wf) hF hs
    refine good_skip (w' := w') ?_ _ (by simp only; rw [hl]; exact hle) hE rfl hH' hF'
    obtain ⟨dst, op, type, pos, after, guard⟩ := o
    dsimp only at ho; subst ho
    refine unit_run _ ?_
    have hsz : (Value.slice none 0 0).cells.size = 1 := rfl
    have := storeVar_run (P := C.P) (t := t) (v := .slice none 0 0) hn hsz hr
    have hX0 : a.eval (.const (.slice none 0 0)) = .slice none 0 0 := rfl
    simp [Instr.storeAt, Instr.sureAddr, hX0, e, this]
end
section
variable {C : Cx} {ρ : Nat → RV} {hp : List Ob} {o : Oper} {a : Act} {w w' : World} {env : Env}
theorem good_pure {s : AV} {v : Value} {r : Sem Value} (ho : execOp a.eval o = (do pure (Next.value (← r)))) (hr : r.run C.P w = .ok v w) (hv : AVR C hp.length ρ s v) (hH : HR C ρ hp w) (hF : FR C w) : Good C ρ hp o a w (s, hp) :=
  good_same (by rw [ho]; exact val_run _ hr) hv hH hF
theorem g_nilCheck {t : TypeId} {X : Operand} {x : AO} {res : AV × List Ob} (ho : o.op = .nilCheck X) (hx : cOp C.P t X = some x) (he : EnvR C hp.length ρ env a) (hH : HR C ρ hp w) (hF : FR C w) (h : oNilCheck hp (getO env x) = some res) : Good C ρ hp o a w res := by
  have h1 := cOp_ok hx he
  generalize getO env x = s at h h1
  have hv : AVR C hp.length ρ s (a.eval X) := h1
  unfold oNilCheck at h
  split at h <;> simp at h <;> subst h <;> cases h1 with | one _ _ h1 => ?_
  all_goals
    refine good_same (v := a.eval X) ?_ hv hH hF
    obtain ⟨dst, op, type, pos, after, guard⟩ := o
    dsimp only at ho; subst ho
    simp only [execOp]
    generalize a.eval X = v at h1
    cases h1 <;> simp
theorem g_fadr {T : TypeId} {t : TypeId} {X : Operand} {x : AO} {f : Nat} {fs : Array Field} {fd : Field} {n : Nat} {res : AV × List Ob} (ho : o.op = .fieldAddr T X f) (hs : C.P.underlying T = some (.struct fs)) (hf : fs[f]? = some fd) (hn : sizeT C.P fd.type = some n) (h0 : n ≠ 0)
    (hx : cOp C.P t X = some x) (he : EnvR C hp.length ρ env a) (hH : HR C ρ hp w) (hF : FR C w) (h : oFadr hp fd.offset (getO env x) = some res) : Good C ρ hp o a w res := by
  have h1 := cOp_ok hx he
  generalize getO env x = s at h h1
  obtain ⟨dst, op, type, pos, after, guard⟩ := o
  dsimp only at ho; subst ho
  have key : ∀ b q, a.eval X = .pointer (some ⟨b, q, none⟩) → (Instr.fieldAt T (a.eval X) f).run C.P w = .ok (.pointer (some ⟨b, q + fd.offset, none⟩)) w := by
    intro b q e
    rw [e]
    simp [Instr.fieldAt, run_underlying hs, hf, Instr.sureAddr, fieldPlace, run_sizeT w hn, h0, Addr.add_lit]
  unfold oFadr at h
  split at h <;> simp at h <;> subst h <;> cases h1 with | one _ _ h1 => ?_
  all_goals generalize hv : a.eval X = v at h1
  · cases h1 with
    | ptr k o b hk hb => exact good_same (val_run _ (key _ _ hv)) (.one _ _ (.ptr _ _ _ hk hb)) hH hF
  · cases h1 with
    | eptr k i o b q m cap hk hb hi =>
      refine good_same (val_run _ (key _ _ hv)) (.one _ _ ?_) hH hF
      rw [Nat.add_assoc]
      exact .eptr _ _ _ b q m cap hk hb hi
  · cases h1 with
    | rptr t c i o b q hr hi =>
      refine good_same (val_run _ (key _ _ hv)) (.one _ _ ?_) hH hF
      rw [Nat.add_assoc]
      exact .rptr _ _ _ _ b q hr hi
theorem part_ok {n : Nat} {l : List SV} {vs : List Value} {t : TypeId} {b : Bool} {sz off : Nat} {s : AV} (hl : VRL C n ρ l vs) (hb : isAggT C.P t = some b) (hn : sizeT C.P t = some sz) (h : takeAV l off (if b = true then some sz else none) = some s) :
    ∃ v, (part t vs.toArray off).run C.P w = .ok v w ∧ AVR C n ρ s v := by
  cases b with
  | false =>
    simp only [Bool.false_eq_true, if_false, takeAV, Option.map_eq_some_iff] at h
    obtain ⟨s', hs, rfl⟩ := h
    obtain ⟨v, hv1, hv2⟩ := hl.get hs
    refine ⟨v, ?_, .one _ _ hv2⟩
    simp [part, run_isAgg w hb, hv1]
  | true =>
    simp only [if_true, takeAV] at h
    split at h <;> simp at h
    subst h
    refine ⟨.agg (vs.toArray.extract off (off + sz)), ?_, ?_⟩
    · simp [part, run_isAgg w hb, run_sizeT w hn]
    · have := AVR.agg _ _ ((hl.drop off).take sz)
      have e : vs.toArray.extract off (off + sz) = ((vs.drop off).take sz).toArray := by simp [List.extract_toArray, List.extract_eq_take_drop]
      rw [e]; exact this
theorem g_fld {t t' : TypeId} {X : Operand} {x : AO} {f : Nat} {fs : Array Field} {fd : Field} {n : Nat} {b : Bool} {res : AV × List Ob} (ho : o.op = .field t X f) (hs : C.P.underlying t = some (.struct fs)) (hf : fs[f]? = some fd) (hb : isAggT C.P fd.type = some b) (hn : sizeT C.P fd.type = some n)
    (hx : cOp C.P t' X = some x) (he : EnvR C hp.length ρ env a) (hH : HR C ρ hp w) (hF : FR C w) (h : oFld hp fd.offset (if b = true then some n else none) (getO env x) = some res) : Good C ρ hp o a w res := by
  have h1 := cOp_ok hx he
  generalize getO env x = s at h h1
  obtain ⟨dst, op, type, pos, after, guard⟩ := o
  dsimp only at ho; subst ho
  unfold oFld at h
  split at h
  · rename_i l
    cases hta : takeAV l fd.offset (if b = true then some n else none) with
    | none => rw [hta] at h; simp [putA] at h
    | some s' =>
      rw [hta] at h
      simp [putA] at h; subst h
      generalize hv : a.eval X = v at h1
      cases h1 with
      | agg _ vs hl =>
        obtain ⟨u, hr, hu⟩ := part_ok (w := w) hl hb hn hta
        refine good_same (v := u) (val_run _ ?_) hu hH hF
        rw [hv]
        simp [Instr.field, run_underlying hs, hf, asAgg, hr]
  · simp at h
theorem g_extract {t : TypeId} {X : Operand} {x : AO} {i : Nat} {res : AV × List Ob} (ho : o.op = .extract X i) (hx : cOp C.P t X = some x) (he : EnvR C hp.length ρ env a) (hH : HR C ρ hp w) (hF : FR C w) (h : oExtract hp i (getO env x) = some res) : Good C ρ hp o a w res := by
  have h1 := cOp_ok hx he
  generalize getO env x = s at h h1
  obtain ⟨dst, op, type, pos, after, guard⟩ := o
  dsimp only at ho; subst ho
  unfold oExtract at h
  split at h
  · rename_i l
    cases hg : l[i]? with
    | none => rw [hg] at h; simp [putA] at h
    | some s' =>
      rw [hg] at h
      simp [putA] at h; subst h
      generalize hv : a.eval X = v at h1
      cases h1 with
      | tup _ vs hl =>
        obtain ⟨u, hu1, hu2⟩ := hl.get hg
        refine good_same (v := u) (val_run _ ?_) hu2 hH hF
        rw [hv]
        simp [Instr.extract, hu1]
  · simp at h
theorem g_conv {s d t : TypeId} {k k' : IntKind} {X : Operand} {x : AO} {res : AV × List Ob} (ho : o.op = .convert s d X) (hs : C.P.underlying s = some (.int k')) (hd : C.P.underlying d = some (.int k)) (hx : cOp C.P t X = some x) (he : EnvR C hp.length ρ env a) (hH : HR C ρ hp w) (hF : FR C w)
    (h : oConv hp k (getO env x) = some res) : Good C ρ hp o a w res := by
  have h1 := cOp_ok hx he
  generalize getO env x = s at h h1
  obtain ⟨dst, op, type, pos, after, guard⟩ := o
  dsimp only at ho; subst ho
  unfold oConv at h
  split at h <;> simp at h
  subst h
  generalize hv : a.eval X = v at h1
  cases h1 with
  | one _ _ h1 =>
    cases h1
    refine good_same (val_run _ ?_) (.one _ _ (.int _ _)) hH hF
    rw [hv]
    simp [convert, run_underlying hs, run_underlying hd, Conv.intToInt]
theorem g_un {t : TypeId} {op : UnOp} {T : TypeId} {X : Operand} {x : AO} {res : AV × List Ob} (ho : o.op = .unOp op T X) (hx : cOp C.P t X = some x) (he : EnvR C hp.length ρ env a) (hH : HR C ρ hp w) (hF : FR C w) (h : put1 hp (un op (getS env x)) = some res) : Good C ρ hp o a w res := by
  have h1 := cOp_ok hx he
  cases hu : un op (getS env x) with
  | none => simp [hu, put1] at h
  | some s =>
    simp [hu, put1] at h; subst h
    obtain ⟨_, h2⟩ := h1.sv_of (by intro e; rw [getS, e] at hu; simp [un] at hu)
    obtain ⟨dst, op', type, pos, after, guard⟩ := o
    dsimp only at ho; subst ho
    simp only [getS] at hu
    generalize (getO env x).sv = s0 at hu h2
    generalize hv : a.eval X = v at h2
    unfold un at hu
    split at hu
    · cases h2
      split at hu <;> simp at hu <;> subst hu
      · refine good_same (val_run _ ?_) (.one _ _ (.int _ _)) hH hF
        rw [hv]; simp [Op.unary, Op.intArith]
      · refine good_same (val_run _ ?_) (.one _ _ (.int _ _)) hH hF
        rw [hv]; simp [Op.unary, Op.intBits, bitsI]
    · cases h2
      split at hu <;> simp at hu <;> subst hu
      refine good_same (val_run _ ?_) (.one _ _ (.bool _)) hH hF
      rw [hv]; simp [Op.unary]
    · simp at hu
theorem binI_run {op : BinOp} {k : IntKind} {x y : Int} {s : SV} (T : TypeId) (h : bin op (.int k x) (.int k y) = some s) (hop : op ≠ .shl) (hop' : op ≠ .shr) : ∃ v, (binOp op T (.int k x) (.int k y)).run C.P w = .ok v w ∧ VR C hp.length ρ s v := by
  cases op <;> simp [bin, binI] at h hop hop'
  all_goals first
    | (obtain ⟨h0, rfl⟩ := h; refine ⟨_, ?_, .int _ _⟩; simp [binOp, Op.intDiv, h0])
    | (subst h; refine ⟨_, ?_, .int _ _⟩; simp [binOp, Op.intArith, Op.intBits, bitsI]; done)
    | (subst h; refine ⟨_, ?_, .bool _⟩; simp [binOp, Op.intCmp])
theorem g_bin {op : BinOp} {T t t' T' : TypeId} {X Y : Operand} {x y : AO} {res : AV × List Ob} (ho : o.op = .binOp op T X Y T') (hx : cOp C.P t X = some x) (hy : cOp C.P t' Y = some y)
    (he : EnvR C hp.length ρ env a) (hH : HR C ρ hp w) (hF : FR C w) (h : put1 hp (bin op (getS env x) (getS env y)) = some res) : Good C ρ hp o a w res := by
  have h1 := cOp_ok hx he
  have h2 := cOp_ok hy he
  cases hu : bin op (getS env x) (getS env y) with
  | none => simp [hu, put1] at h
  | some s =>
    simp [hu, put1] at h; subst h
    obtain ⟨_, h1⟩ := h1.sv_of (by intro e; rw [getS, e] at hu; simp [bin] at hu)
    obtain ⟨_, h2⟩ := h2.sv_of (by
      intro e
      simp only [getS, e] at hu
      cases (getO env x).sv <;> simp [bin] at hu)
    simp only [getS] at hu
    generalize (getO env x).sv = s1 at hu h1
    generalize (getO env y).sv = s2 at hu h2
    obtain ⟨dst, op', type, pos, after, guard⟩ := o
    dsimp only at ho; subst ho
    have key : ∃ v, (binOp op T (a.eval X) (a.eval Y)).run C.P w = .ok v w ∧ VR C hp.length ρ s v ∧ (eqGuard op T X Y (a.eval X) (a.eval Y)).run C.P w = .ok () w := by
      generalize a.eval X = v1 at h1
      generalize a.eval Y = v2 at h2
      unfold bin at hu
      split at hu
      · rename_i k p j q
        cases h1; cases h2
        have hg : (eqGuard op T X Y (.int k p) (.int j q)).run C.P w = .ok () w := by cases op <;> simp [eqGuard]
        split at hu
        · split at hu <;> simp at hu
          subst hu; rename_i hq
          exact ⟨_, by simp [binOp, Op.shift, hq, shlI], .int _ _, hg⟩
        · split at hu <;> simp at hu
          subst hu; rename_i hq
          exact ⟨_, by simp [binOp, Op.shift, hq, shrI], .int _ _, hg⟩
        · rename_i n1 n2
          split at hu
          · rename_i e; subst e
            have hb : bin op (.int k p) (.int k q) = some s := by
              cases op <;> first | exact absurd rfl n1 | exact absurd rfl n2 | (simp only [bin, if_true]; exact hu)
            obtain ⟨v, hr, hv⟩ := binI_run (C := C) (ρ := ρ) (hp := hp) (w := w) T hb n1 n2
            exact ⟨v, hr, hv, hg⟩
          · simp at hu
      · rename_i p q
        cases h1; cases h2
        have hg : (eqGuard op T X Y (.string p) (.string q)).run C.P w = .ok () w := by cases op <;> simp [eqGuard]
        unfold binS at hu
        split at hu
        · split at hu <;> simp at hu
          subst hu; rename_i hq
          refine ⟨_, ?_, .str _, hg⟩
          have : ¬ (((p.size + q.size : Nat) : Int) > IntKind.i64.max) := by simp [IntKind.max, IntKind.signed, IntKind.bits]; omega
          simp only [binOp, Op.stringOp, if_neg this]
          rfl
        · simp at hu; subst hu
          exact ⟨_, by simp [binOp, Op.stringOp], .bool _, hg⟩
        · simp at hu; subst hu
          exact ⟨_, by simp [binOp, Op.stringOp], .bool _, hg⟩
        · simp at hu; subst hu
          exact ⟨_, by simp [binOp, Op.stringOp], .bool _, hg⟩
        · simp at hu
      · simp at hu
    obtain ⟨v, hr, hv, hg⟩ := key
    refine good_same (v := v) (val_run _ ?_) (.one _ _ hv) hH hF
    simp [hg, hr]
end
section
variable {C : Cx} {ρ : Nat → RV} {hp : List Ob} {o : Oper} {a : Act} {w w' : World} {env : Env}
theorem isNilPtr_eq {x : Operand} (h : isNilPtr x = true) : x = .const (.pointer none) := by
  unfold isNilPtr at h
  split at h
  · rfl
  · simp at h
theorem equal_ptr_nil {T e : TypeId} (hT : C.P.underlying T = some (.pointer e)) (p : Option Addr) : (Op.equal T (.pointer p) (.pointer none)).run C.P w = .ok p.isNone w ∧ (Op.equal T (.pointer none) (.pointer p)).run C.P w = .ok p.isNone w := by
  have h : ∀ d : Nat, (Op.equalIn (d + 1) T (.pointer p) (.pointer none)).run C.P w = .ok p.isNone w ∧ (Op.equalIn (d + 1) T (.pointer none) (.pointer p)).run C.P w = .ok p.isNone w := by
    intro d
    cases p <;> simp [Op.equalIn, run_underlying hT]
  exact h 9999
theorem g_eqNil {op : BinOp} {neq : Bool} {T t T' e : TypeId} {X Y : Operand} {x : AO} {res : AV × List Ob} (hop : (op = .eql ∧ neq = false) ∨ (op = .neq ∧ neq = true)) (hT : C.P.underlying T = some (.pointer e))
    (hXY : (o.op = .binOp op T X Y T' ∧ isNilPtr Y = true) ∨ (o.op = .binOp op T Y X T' ∧ isNilPtr Y = true)) (hx : cOp C.P t X = some x)
    (he : EnvR C hp.length ρ env a) (hH : HR C ρ hp w) (hF : FR C w) (h : oEqNil hp neq (getO env x) = some res) : Good C ρ hp o a w res := by
  have h1 := cOp_ok hx he
  obtain ⟨dst, op', type, pos, after, guard⟩ := o
  have hn : a.eval Y = .pointer none := by
    rcases hXY with ⟨_, h⟩ | ⟨_, h⟩ <;> rw [isNilPtr_eq h] <;> rfl
  have key : ∃ p, a.eval X = .pointer p ∧ res = (.one (.bool (if neq = true then !p.isNone else p.isNone)), hp) := by
    generalize getO env x = s at h h1
    generalize a.eval X = v at h1
    unfold oEqNil at h
    split at h <;> simp at h <;> subst h <;> cases h1 with | one _ _ h1 => ?_
    all_goals cases h1
    all_goals exact ⟨_, rfl, by cases neq <;> rfl⟩
  obtain ⟨p, hp', rfl⟩ := key
  obtain ⟨e1, e2⟩ := equal_ptr_nil (w := w) hT p
  refine good_same (v := .bool (if neq = true then !p.isNone else p.isNone)) ?_ (.one _ _ (.bool _)) hH hF
  rcases hop with ⟨rfl, rfl⟩ | ⟨rfl, rfl⟩ <;> rcases hXY with ⟨h, _⟩ | ⟨h, _⟩ <;> dsimp only at h <;> subst h <;> refine val_run _ ?_ <;> simp [eqGuard, hp', hn, binOp, e1, e2]
theorem equal_bool {T : TypeId} (hT : C.P.underlying T = some .bool) (p q : Bool) : (Op.equal T (.bool p) (.bool q)).run C.P w = .ok (p == q) w := by
  have h : ∀ d : Nat, (Op.equalIn (d + 1) T (.bool p) (.bool q)).run C.P w = .ok (p == q) w := by
    intro d; simp [Op.equalIn, run_underlying hT]
  exact h 9999
theorem g_eqB {op : BinOp} {neq : Bool} {T t t' T' : TypeId} {X Y : Operand} {x y : AO} {res : AV × List Ob} (hop : (op = .eql ∧ neq = false) ∨ (op = .neq ∧ neq = true)) (hT : C.P.underlying T = some .bool)
    (ho : o.op = .binOp op T X Y T') (hx : cOp C.P t X = some x) (hy : cOp C.P t' Y = some y)
    (he : EnvR C hp.length ρ env a) (hH : HR C ρ hp w) (hF : FR C w) (h : oEqB hp neq (getO env x) (getO env y) = some res) : Good C ρ hp o a w res := by
  have h1 := cOp_ok hx he
  have h2 := cOp_ok hy he
  obtain ⟨dst, op', type, pos, after, guard⟩ := o
  dsimp only at ho; subst ho
  generalize getO env x = s1 at h h1
  generalize getO env y = s2 at h h2
  unfold oEqB at h
  split at h
  · rename_i p q
    simp [putB] at h; subst h
    generalize hv1 : a.eval X = v1 at h1
    generalize hv2 : a.eval Y = v2 at h2
    cases h1 with | one _ _ h1 => ?_
    cases h2 with | one _ _ h2 => ?_
    cases h1; cases h2
    have e1 := equal_bool (w := w) hT p q
    refine good_same (v := .bool (if neq = true then !(p == q) else p == q)) (val_run _ ?_) (.one _ _ (.bool _)) hH hF
    rcases hop with ⟨rfl, rfl⟩ | ⟨rfl, rfl⟩ <;> simp [eqGuard, hv1, hv2, binOp, e1]
  · simp at h
theorem bound_run {k : IntKind} {z : Int} {y : Nat} {code : BoundsCode} (h0 : 0 ≤ z) (h1 : z ≤ y) : (Instr.sliceBound (.int k z) y code).run C.P w = .ok z.toNat w := by
  simp [Instr.sliceBound, asIntOf, h0, h1]
theorem bounds_run {isSlice : Bool} {len cap : Nat} {lo hi : Option Operand} {lo' hi' : Option AO} {A B : Int} (hlo : cOpt C.P lo = some lo') (hhi : cOpt C.P hi = some hi') (he : EnvR C hp.length ρ env a)
    (hA : optInt 0 (getSo env lo') = some A) (hB : optInt len (getSo env hi') = some B) (h0 : 0 ≤ A) (h1 : A ≤ B) (h2 : B ≤ cap) :
    (Instr.sliceBounds isSlice len cap (lo.map a.eval) (hi.map a.eval) none).run C.P w = .ok (A.toNat, B.toNat, cap) w := by
  have val : ∀ {x : Option Operand} {x' : Option AO} {d : Nat} {z : Int}, cOpt C.P x = some x' → optInt d (getSo env x') = some z → (x = none ∧ z = d) ∨ ∃ X k, x = some X ∧ a.eval X = .int k z := by
    intro x x' d z hx hz
    cases x with
    | none => simp [cOpt] at hx; subst hx; simp [getSo, optInt] at hz; exact .inl ⟨rfl, hz.symm⟩
    | some X =>
      simp only [cOpt, Option.map_eq_some_iff] at hx
      obtain ⟨y, hy, rfl⟩ := hx
      have h := cOp_ok hy he
      simp only [getSo, getS] at hz
      cases hs : (getO env y).sv <;> simp [hs, optInt] at hz
      subst hz
      obtain ⟨e, h'⟩ := h.sv_of (by rw [hs]; simp)
      rw [hs] at h'
      generalize hv : a.eval X = v at h'
      cases h'
      exact .inr ⟨X, _, rfl, hv⟩
  rcases val hhi hB with ⟨rfl, rfl⟩ | ⟨Y, j, rfl, hY⟩ <;> rcases val hlo hA with ⟨rfl, rfl⟩ | ⟨X, k, rfl, hX⟩
  · simp [Instr.sliceBounds]
  · simp [Instr.sliceBounds, hX, bound_run h0 h1]
  · have hB0 : 0 ≤ B := by omega
    simp [Instr.sliceBounds, hY, bound_run hB0 h2]
  · have hB0 : 0 ≤ B := by omega
    have h1' : A ≤ (B.toNat : Int) := by omega
    simp [Instr.sliceBounds, hX, hY, bound_run hB0 h2, bound_run h0 h1']
theorem g_cutS {T t : TypeId} {X : Operand} {x : AO} {lo hi : Option Operand} {lo' hi' : Option AO} {res : AV × List Ob} (ho : o.op = .slice T X lo hi none) (hT : C.P.underlying T = some .string) (hx : cOp C.P t X = some x) (hlo : cOpt C.P lo = some lo') (hhi : cOpt C.P hi = some hi')
    (he : EnvR C hp.length ρ env a) (hH : HR C ρ hp w) (hF : FR C w) (h : oCutS hp (getSo env lo') (getSo env hi') (getO env x) = some res) : Good C ρ hp o a w res := by
  have h1 := cOp_ok hx he
  obtain ⟨dst, op', type, pos, after, guard⟩ := o
  dsimp only at ho; subst ho
  generalize getO env x = s at h h1
  generalize hv : a.eval X = v at h1
  unfold oCutS at h
  split at h
  · rename_i s
    cases h1 with | one _ _ h1 => ?_
    cases h1
    unfold cutS2 at h
    split at h
    · rename_i A B hA hB
      split at h <;> simp at h
      rename_i hb
      subst h
      have hr := bounds_run (w := w) (isSlice := false) hlo hhi he hA hB hb.1 hb.2.1 hb.2.2
      refine good_same (v := .string (s.extract A.toNat B.toNat)) (val_run _ ?_) (.one _ _ (.str _)) hH hF
      simp [Instr.sliceAt, run_underlying hT, Instr.slice, hv, hr]
    · simp at h
  · simp at h
theorem lenOf_ok {s : SV} {v : Value} {n : Nat} (hH : HR C ρ hp w) (h : VR C hp.length ρ s v) (hn : lenOf hp s = some n) : ∃ u c, v = .slice u n c := by
  unfold lenOf at hn
  split at hn
  · rename_i k
    unfold lenAt at hn
    split at hn <;> simp at hn
    rename_i c hc
    subst hn
    obtain ⟨_, _, a, cap, hd⟩ := rows_wf hH hc
    cases h with
    | row _ a' m cap' hk hh => rw [hd] at hh; simp at hh; obtain ⟨rfl, rfl, rfl⟩ := hh; exact ⟨_, _, rfl⟩
  · simp at hn; subst hn; cases h <;> exact ⟨_, _, rfl⟩
  · simp at hn; subst hn; cases h; exact ⟨_, _, rfl⟩
  · simp at hn; subst hn; cases h; exact ⟨_, _, rfl⟩
  · simp at hn; subst hn; cases h; exact ⟨_, _, rfl⟩
  · simp at hn
theorem call_builtin {dst : Option Nat} {type : TypeId} {pos : String} {after : Array Edge} {guard : Option (Nat × Bool)} {b : Builtin} {args : Array Operand} {ts : Array TypeId} {v : Value} {w' : World}
    (h : ∀ consts, Sem.run C.P (builtin b ts type consts (args.map a.eval)) w = .ok (.value v) w') : (execOp a.eval ⟨dst, .call ⟨.builtin b, args, ts⟩, type, pos, after, guard⟩).run C.P w = .ok (.value v) w' := by
  simp [execOp, resolve, invoke, h]
theorem g_len {T t : TypeId} {X : Operand} {x : AO} {res : AV × List Ob} {c : Call} (ho : o.op = .call c) (hc : c.callee = .builtin .len) (hA : c.args.toList = [X]) (hTs : c.argTypes.toList = [T]) (hT : ∃ e, C.P.underlying T = some (.slice e)) (hx : cOp C.P t X = some x)
    (he : EnvR C hp.length ρ env a) (hH : HR C ρ hp w) (hF : FR C w) (h : oLen hp (lenOf hp (getS env x)) = some res) : Good C ρ hp o a w res := by
  have h1 := cOp_ok hx he
  obtain ⟨dst, op', type, pos, after, guard⟩ := o
  obtain ⟨cl, ca, ct⟩ := c
  dsimp only at ho hc hA hTs; subst ho hc
  obtain rfl : ca = #[X] := by rw [← Array.toArray_toList (xs := ca), hA]
  obtain rfl : ct = #[T] := by rw [← Array.toArray_toList (xs := ct), hTs]
  obtain ⟨e, hT⟩ := hT
  cases hl : lenOf hp (getS env x) with
  | none => simp [hl, oLen] at h
  | some n =>
    simp [hl, oLen] at h; subst h
    obtain ⟨_, h2⟩ := h1.sv_of (by intro e; rw [getS, e] at hl; simp [lenOf] at hl)
    obtain ⟨u, c, hv⟩ := lenOf_ok hH h2 hl
    refine good_same (v := .int .i64 n) (call_builtin fun consts => ?_) (.one _ _ (.int _ _)) hH hF
    simp [builtin, Builtin.len_, run_underlying hT, hv, goInt]
theorem g_lenS {T t : TypeId} {X : Operand} {x : AO} {res : AV × List Ob} {c : Call} (ho : o.op = .call c) (hc : c.callee = .builtin .len) (hA : c.args.toList = [X]) (hTs : c.argTypes.toList = [T]) (hT : C.P.underlying T = some .string) (hx : cOp C.P t X = some x)
    (he : EnvR C hp.length ρ env a) (hH : HR C ρ hp w) (hF : FR C w) (h : oLenS hp (getO env x) = some res) : Good C ρ hp o a w res := by
  have h1 := cOp_ok hx he
  obtain ⟨dst, op', type, pos, after, guard⟩ := o
  obtain ⟨cl, ca, ct⟩ := c
  dsimp only at ho hc hA hTs; subst ho hc
  obtain rfl : ca = #[X] := by rw [← Array.toArray_toList (xs := ca), hA]
  obtain rfl : ct = #[T] := by rw [← Array.toArray_toList (xs := ct), hTs]
  generalize getO env x = s at h h1
  unfold oLenS at h
  split at h <;> simp at h
  subst h
  generalize hv : a.eval X = v at h1
  cases h1 with | one _ _ h1 => ?_
  cases h1
  refine good_same (v := .int .i64 _) (call_builtin fun consts => ?_) (.one _ _ (.int _ _)) hH hF
  simp [builtin, Builtin.len_, run_underlying hT, hv, goInt]
theorem g_min {c : Call} {l : List AO} {res : AV × List Ob} (ho : o.op = .call c) (hc : c.callee = .builtin .min) (hx : cOps C.P c.argTypes.toList c.args.toList = some l)
    (he : EnvR C hp.length ρ env a) (hH : HR C ρ hp w) (hF : FR C w) (h : oMin hp (getL env l) = some res) : Good C ρ hp o a w res := by
  have h1 := cOps_ok he hx
  obtain ⟨dst, op', type, pos, after, guard⟩ := o
  obtain ⟨cl, ca, ct⟩ := c
  dsimp only at ho hc hx h1; subst ho hc
  generalize getL env l = s at h h1
  unfold oMin at h
  split at h <;> simp at h
  rename_i k x j y
  subst h
  have e : (ca.map a.eval).toList = ca.toList.map a.eval := by simp
  refine good_same (v := .int k (if y < x then y else x)) (call_builtin fun consts => ?_) (.one _ _ (.int _ _)) hH hF
  generalize ca.toList.map a.eval = L at h1 e
  cases h1 with | cons _ v1 _ vs h1 hl => ?_
  cases hl with | cons _ v2 _ vs h2 hl => ?_
  cases hl
  cases h1 with | one _ _ h1 => ?_
  cases h2 with | one _ _ h2 => ?_
  cases h1; cases h2
  simp only [builtin, Builtin.min_, e]
  simp [Builtin.min2]
theorem g_max {c : Call} {l : List AO} {res : AV × List Ob} (ho : o.op = .call c) (hc : c.callee = .builtin .max) (hx : cOps C.P c.argTypes.toList c.args.toList = some l)
    (he : EnvR C hp.length ρ env a) (hH : HR C ρ hp w) (hF : FR C w) (h : oMax hp (getL env l) = some res) : Good C ρ hp o a w res := by
  have h1 := cOps_ok he hx
  obtain ⟨dst, op', type, pos, after, guard⟩ := o
  obtain ⟨cl, ca, ct⟩ := c
  dsimp only at ho hc hx h1; subst ho hc
  generalize getL env l = s at h h1
  unfold oMax at h
  split at h <;> simp at h
  rename_i k x j y
  subst h
  have e : (ca.map a.eval).toList = ca.toList.map a.eval := by simp
  refine good_same (v := .int k (if x < y then y else x)) (call_builtin fun consts => ?_) (.one _ _ (.int _ _)) hH hF
  generalize ca.toList.map a.eval = L at h1 e
  cases h1 with | cons _ v1 _ vs h1 hl => ?_
  cases hl with | cons _ v2 _ vs h2 hl => ?_
  cases hl
  cases h1 with | one _ _ h1 => ?_
  cases h2 with | one _ _ h2 => ?_
  cases h1; cases h2
  simp only [builtin, Builtin.max_, e]
  simp [Builtin.max2]
end
section
variable {C : Cx} {ρ : Nat → RV} {hp : List Ob} {o : Oper} {a : Act} {w w' : World} {env : Env}
theorem rows_cap {k : Nat} {g : Option Nat} {c : RC} (hH : HR C ρ hp w) (hk : hp[k]? = some (.rows g c)) {a : Option Addr} {m cap : Nat} (h : (ρ k).hdr = .slice a m cap) : m = c.len ∧ m ≤ cap ∧ ((a = none ∧ m = 0 ∧ cap = 0) ∨ ∃ b q, a = some ⟨b, q, none⟩) := by
  obtain ⟨_, _, _, ⟨h3, h4⟩ | ⟨b, o, cap', cur, T, fr, h3, _, _, h5, _⟩⟩ := hH.ob k _ hk
  · rw [h] at h3; simp at h3; obtain ⟨rfl, rfl, rfl⟩ := h3
    exact ⟨h4.symm, Nat.le_refl _, .inl ⟨rfl, rfl, rfl⟩⟩
  · rw [h] at h3; simp at h3; obtain ⟨rfl, rfl, rfl⟩ := h3
    exact ⟨rfl, h5, .inr ⟨b, o, rfl⟩⟩
theorem slice_run {T e : TypeId} {size m cap : Nat} {ad : Option Addr} {lo hi : Option Operand} {lo' hi' : Option AO} {A B : Int} (hT : C.P.underlying T = some (.slice e)) (hn : sizeT C.P e = some size) (hlo : cOpt C.P lo = some lo') (hhi : cOpt C.P hi = some hi') (he : EnvR C hp.length ρ env a)
    (hA : optInt 0 (getSo env lo') = some A) (hB : optInt m (getSo env hi') = some B) (h0 : 0 ≤ A) (h1 : A ≤ B) (h2 : B ≤ cap) :
    (Instr.sliceAt T (.slice ad m cap) (lo.map a.eval) (hi.map a.eval) none).run C.P w = .ok (.slice (if cap = A.toNat then ad else ad.map (·.add (A.toNat * size))) (B.toNat - A.toNat) (cap - A.toNat)) w := by
  have hr := bounds_run (w := w) (isSlice := true) hlo hhi he hA hB h0 h1 h2
  simp [Instr.sliceAt, run_underlying hT, Instr.slice, hr, run_sizeT w hn]
theorem cutR_vr {s s' : SV} {v : Value} {A B : Int} {n size : Nat} (hH : HR C ρ hp w) (hv : VR C hp.length ρ s v) (hl : lenOf hp s = some n) (hs : sizeOf hp s = some size) (h0 : 0 ≤ A) (h1 : A ≤ B) (h2 : B ≤ n) (hc : cutSV A.toNat (B.toNat - A.toNat) s = some s') :
    ∃ ad cap, v = .slice ad n cap ∧ n ≤ cap ∧ VR C hp.length ρ s' (.slice (if cap = A.toNat then ad else ad.map (·.add (A.toNat * size))) (B.toNat - A.toNat) (cap - A.toNat)) := by
  unfold cutSV at hc
  split at hc <;> simp at hc <;> subst hc
  · rename_i k
    cases hv with
    | row _ ad m cap hk hh =>
      simp only [lenOf, lenAt] at hl
      split at hl <;> simp at hl
      rename_i c hcr
      subst hl
      obtain ⟨rfl, hcap, hnil⟩ := rows_cap hH hcr hh
      obtain ⟨_, hsz, _⟩ := rows_wf hH hcr
      simp only [sizeOf, hcr, sizeAt, Option.some.injEq] at hs
      refine ⟨ad, cap, rfl, hcap, ?_⟩
      rcases hnil with ⟨rfl, e1, rfl⟩ | ⟨b, q, rfl⟩
      · have e2 : A.toNat = 0 := by omega
        have e3 : B.toNat = 0 := by omega
        simp only [e2, e3]
        rw [e1] at hh
        exact .viewNil k hk hh
      · have := VR.view (C := C) (n := hp.length) (ρ := ρ) k A.toNat (B.toNat - A.toNat) b q c.len cap (if cap = A.toNat then q else q + A.toNat * size) hk hh (by omega) hcap
          (by intro hlt; rw [if_neg (by omega), hsz, hs]) (by rw [hsz, hs]; split <;> omega)
        split at this
        · rename_i e; rw [if_pos e]; exact this
        · rename_i e; rw [if_neg e]; simpa [Addr.add_lit] using this
  · rename_i k o n'
    simp [lenOf] at hl
    subst hl
    simp only [sizeOf, sizeAt] at hs
    split at hs <;> simp at hs
    rename_i c hcr
    obtain ⟨_, hsz, _⟩ := rows_wf hH hcr
    cases hv with
    | viewNil _ hk hh =>
      have e2 : A.toNat = 0 := by omega
      have e3 : B.toNat = 0 := by omega
      refine ⟨none, 0, rfl, Nat.le_refl _, ?_⟩
      simp only [e2, e3]
      exact .viewNil k hk hh
    | view _ _ _ b q len cap q' hk hh hle hlc hq hq' =>
      refine ⟨_, _, rfl, by omega, ?_⟩
      have := VR.view (C := C) (n := hp.length) (ρ := ρ) k (o + A.toNat) (B.toNat - A.toNat) b q len cap (if cap - o = A.toNat then q' else q' + A.toNat * size) hk hh (by omega) hlc
          (by intro hlt; rw [if_neg (by omega), hq (by omega), hsz, hs, Nat.add_mul]; omega) (by rw [hsz, hs, Nat.add_mul]; rw [hsz, hs] at hq'; split <;> omega)
      rw [Nat.sub_sub]
      split at this
      · rename_i e; rw [if_pos e]; exact this
      · rename_i e; rw [if_neg e]; simpa [Addr.add_lit] using this
  · rename_i k o n'
    simp [lenOf] at hl
    subst hl
    simp [sizeOf] at hs
    subst hs
    cases hv with
    | cview _ _ _ b q cap hk hh hq hcap =>
      refine ⟨_, _, rfl, hcap, ?_⟩
      have := VR.cview (C := C) (n := hp.length) (ρ := ρ) k (o + A.toNat) (B.toNat - A.toNat) b (if cap = A.toNat then q else q + A.toNat * 1) (cap - A.toNat) hk hh (by intro hlt; rw [if_neg (by omega), hq (by omega)]; omega) (by omega)
      split at this
      · rename_i e; rw [if_pos e]; exact this
      · rename_i e; rw [if_neg e]; simpa [Addr.add_lit] using this
  · rename_i t c
    simp [lenOf] at hl
    subst hl
    simp [sizeOf] at hs
    cases hv with
    | ro _ _ ad cap hr hcap =>
      refine ⟨_, _, rfl, hcap, ?_⟩
      obtain ⟨k1, k2, k3, k4⟩ := RC.cut_vals hr.1 (a := A.toNat) (m := B.toNat - A.toNat) (by omega)
      have := VR.ro (C := C) (n := hp.length) (ρ := ρ) t (c.cut A.toNat (B.toNat - A.toNat)) (if cap = A.toNat then ad else ad.map (·.add (A.toNat * size))) (cap - A.toNat) ⟨k3, fun hlt => ?_⟩ (by omega)
      · rw [k1] at this; exact this
      · rw [k1] at hlt
        obtain ⟨b, o, rfl, hown, ht, hcell⟩ := hr.2 (by omega)
        refine ⟨b, o + A.toNat * size, by rw [if_neg (by omega)]; simp [Addr.add_lit], hown, ht, fun j u hu => ?_⟩
        rw [k4, hs] at hu
        have := hcell _ _ (take_get hu)
        rwa [← Nat.add_assoc] at this
  · rename_i c
    simp [lenOf] at hl
    subst hl
    cases hv with
    | nils _ h hw =>
      have e2 : A.toNat = 0 := by omega
      have e3 : B.toNat = 0 := by omega
      refine ⟨none, 0, rfl, Nat.le_refl _, ?_⟩
      simp only [e2, e3]
      exact .nils c h hw
theorem g_cutR {T e t : TypeId} {X : Operand} {x : AO} {size : Nat} {lo hi : Option Operand} {lo' hi' : Option AO} {res : AV × List Ob} (ho : o.op = .slice T X lo hi none) (hT : C.P.underlying T = some (.slice e)) (hn : sizeT C.P e = some size) (hx : cOp C.P t X = some x) (hlo : cOpt C.P lo = some lo') (hhi : cOpt C.P hi = some hi')
    (he : EnvR C hp.length ρ env a) (hH : HR C ρ hp w) (hF : FR C w) (h : (if sizeOf hp (getS env x) = some size then oCutR hp (getSo env lo') (getSo env hi') (getS env x) (lenOf hp (getS env x)) else none) = some res) : Good C ρ hp o a w res := by
  have h1 := cOp_ok hx he
  obtain ⟨dst, op', type, pos, after, guard⟩ := o
  dsimp only at ho; subst ho
  split at h
  · rename_i hsz
    obtain ⟨_, h2⟩ := h1.sv_of (by intro e; rw [getS, e] at hsz; simp [sizeOf] at hsz)
    simp only [getS] at h hsz
    generalize (getO env x).sv = s at h hsz h2
    cases hl : lenOf hp s with
    | none => simp [hl, oCutR] at h
    | some n =>
      simp only [hl, oCutR, cutR2] at h
      split at h
      · rename_i A B hA hB
        split at h
        · rename_i hb
          cases hc : cutSV A.toNat (B.toNat - A.toNat) s with
          | none => simp [hc, put1] at h
          | some s' =>
            simp [hc, put1] at h; subst h
            obtain ⟨ad, cap, hv, hcap, hv'⟩ := cutR_vr hH h2 hl hsz hb.1 hb.2.1 hb.2.2 hc
            refine good_same (val_run _ ?_) (.one _ _ hv') hH hF
            rw [hv]
            exact slice_run hT hn hlo hhi he hA hB hb.1 hb.2.1 (by omega)
        · simp at h
      · simp at h
  · simp at h
theorem g_cutA {T e t : TypeId} {X : Operand} {x : AO} {m : Nat} {lo hi : Option Operand} {lo' hi' : Option AO} {res : AV × List Ob} (ho : o.op = .slice T X lo hi none) (hT : C.P.underlying T = some (.array m e)) (hn : sizeT C.P e = some 1) (hx : cOp C.P t X = some x) (hlo : cOpt C.P lo = some lo') (hhi : cOpt C.P hi = some hi')
    (he : EnvR C hp.length ρ env a) (hH : HR C ρ hp w) (hF : FR C w) (h : oCutA hp m (getSo env lo') (getSo env hi') (getO env x) = some res) : Good C ρ hp o a w res := by
  have h1 := cOp_ok hx he
  obtain ⟨dst, op', type, pos, after, guard⟩ := o
  dsimp only at ho; subst ho
  generalize getO env x = s at h h1
  generalize hv : a.eval X = v at h1
  unfold oCutA at h
  split at h
  · rename_i k o
    cases h1 with | one _ _ h1 => ?_
    unfold cutA2 at h
    split at h
    · rename_i A B hA hB
      split at h <;> simp at h
      rename_i hb
      subst h
      cases h1 with
      | ptr _ _ b hk hh =>
        have hr := bounds_run (w := w) (isSlice := false) hlo hhi he hA hB hb.1 hb.2.1 hb.2.2
        have := VR.cview (C := C) (n := hp.length) (ρ := ρ) k (o + A.toNat) (B.toNat - A.toNat) b (if m = A.toNat then o else o + A.toNat * 1) (m - A.toNat) hk hh (by intro hlt; rw [if_neg (by omega)]; omega) (by omega)
        refine good_same (val_run _ ?_) (.one _ _ this) hH hF
        by_cases em : m = A.toNat
        · rw [em] at hr
          simp [hv, Instr.sliceAt, run_underlying hT, Instr.sureAddr, hr, run_sizeT w hn, em]
        · simp [hv, Instr.sliceAt, run_underlying hT, Instr.sureAddr, hr, run_sizeT w hn, em, Addr.add_lit]
    · simp at h
  · simp at h
theorem inBounds_iff {i : Int} {n : Nat} : inBounds i n = true ↔ 0 ≤ i ∧ i < n := by simp [inBounds]
theorem g_iadrR {T e t t' : TypeId} {X I : Operand} {x i : AO} {size : Nat} {res : AV × List Ob} (ho : o.op = .indexAddr T X I) (hT : C.P.underlying T = some (.slice e)) (hn : sizeT C.P e = some size) (hx : cOp C.P t X = some x) (hi : cOp C.P t' I = some i)
    (he : EnvR C hp.length ρ env a) (hH : HR C ρ hp w) (hF : FR C w) (h : (if sizeOf hp (getS env x) = some size then oIadrR hp (getS env x) (lenOf hp (getS env x)) (getO env i) else none) = some res) : Good C ρ hp o a w res := by
  have h1 := cOp_ok hx he
  have h3 := cOp_ok hi he
  obtain ⟨dst, op', type, pos, after, guard⟩ := o
  dsimp only at ho; subst ho
  split at h
  · rename_i hsz
    obtain ⟨_, h2⟩ := h1.sv_of (by intro e; rw [getS, e] at hsz; simp [sizeOf] at hsz)
    simp only [getS] at h hsz
    generalize (getO env x).sv = s at h hsz h2
    generalize getO env i = si at h h3
    generalize hvi : a.eval I = vi at h3
    generalize hv : a.eval X = v at h2
    unfold oIadrR at h
    split at h
    · rename_i n kk z hl
      split at h
      · rename_i hb
        rw [inBounds_iff] at hb
        cases h3 with | one _ _ h3 => ?_
        cases h3
        have key : ∀ ad m cap, v = .slice (some ad) m cap → z < m → (Instr.indexAt T v (.int kk z)).run C.P w = .ok (.pointer (some (ad.add (z.toNat * size)))) w := by
          intro ad m cap e hlt
          rw [e]
          simp [Instr.indexAt, asIntOf, run_underlying hT, hb.1, hlt, run_sizeT w hn]
        cases hc : elemPtr z.toNat s with
        | none => simp [hc, put1] at h
        | some s' =>
          simp [hc, put1] at h; subst h
          suffices hs : ∃ ad m cap, v = .slice (some ad) m cap ∧ z < m ∧ VR C hp.length ρ s' (.pointer (some (ad.add (z.toNat * size)))) by
            obtain ⟨ad, m, cap, e1, e2, e3⟩ := hs
            refine good_same (val_run _ ?_) (.one _ _ e3) hH hF
            rw [hv, hvi]
            exact key ad m cap e1 e2
          unfold elemPtr at hc
          split at hc <;> simp at hc <;> subst hc
          · rename_i k
            simp only [lenOf, lenAt] at hl
            split at hl <;> simp at hl
            rename_i c hcr
            subst hl
            obtain ⟨_, hsz', _⟩ := rows_wf hH hcr
            simp only [sizeOf, hcr, sizeAt, Option.some.injEq] at hsz
            cases h2 with
            | row _ ad m cap hk hh =>
              obtain ⟨rfl, hcap, ⟨_, e, _⟩ | ⟨b, q, rfl⟩⟩ := rows_cap hH hcr hh
              · omega
              · refine ⟨_, _, _, rfl, hb.2, ?_⟩
                have := VR.eptr (C := C) (n := hp.length) (ρ := ρ) k z.toNat 0 b q c.len cap hk hh (by omega)
                rw [hsz', hsz, Nat.add_zero] at this
                simpa [Addr.add_lit] using this
          · rename_i k o n'
            simp [lenOf] at hl
            subst hl
            simp only [sizeOf, sizeAt] at hsz
            split at hsz <;> simp at hsz
            rename_i c hcr
            obtain ⟨_, hsz', _⟩ := rows_wf hH hcr
            cases h2 with
            | viewNil _ hk hh => omega
            | view _ _ _ b q len cap q' hk hh hle hlc hq hq' =>
              refine ⟨_, _, _, rfl, hb.2, ?_⟩
              have := VR.eptr (C := C) (n := hp.length) (ρ := ρ) k (o + z.toNat) 0 b q len cap hk hh (by omega)
              have hq1 := hq (by omega)
              rw [hsz', hsz, Nat.add_zero, Nat.add_mul, ← Nat.add_assoc] at this
              rw [hsz', hsz] at hq1
              rw [Addr.add_lit, hq1]
              exact this
          · rename_i k o n'
            simp [lenOf] at hl
            subst hl
            simp [sizeOf] at hsz
            subst hsz
            cases h2 with
            | cview _ _ _ b q cap hk hh hq hcap =>
              refine ⟨_, _, _, rfl, hb.2, ?_⟩
              rw [Addr.add_lit, hq (by omega), Nat.mul_one]
              exact .ptr k _ b hk hh
          · rename_i t c
            simp [lenOf] at hl
            subst hl
            simp [sizeOf] at hsz
            cases h2 with
            | ro _ _ ad cap hr hcap =>
              obtain ⟨b, q, rfl, _⟩ := hr.2 (by omega)
              refine ⟨_, _, _, rfl, hb.2, ?_⟩
              have := VR.rptr (C := C) (n := hp.length) (ρ := ρ) t c z.toNat 0 b q hr (by omega)
              rw [hsz, Nat.add_zero] at this
              rw [Addr.add_lit]; exact this
      · simp at h
    · simp at h
  · simp at h
theorem g_iadrA {T e t t' : TypeId} {X I : Operand} {x i : AO} {len size : Nat} {res : AV × List Ob} (ho : o.op = .indexAddr T X I) (hT : C.P.underlying T = some (.array len e)) (hn : sizeT C.P e = some size) (hx : cOp C.P t X = some x) (hi : cOp C.P t' I = some i)
    (he : EnvR C hp.length ρ env a) (hH : HR C ρ hp w) (hF : FR C w) (h : oIadrA hp len size (getO env x) (getO env i) = some res) : Good C ρ hp o a w res := by
  have h1 := cOp_ok hx he
  have h3 := cOp_ok hi he
  obtain ⟨dst, op', type, pos, after, guard⟩ := o
  dsimp only at ho; subst ho
  generalize getO env x = s at h h1
  generalize getO env i = si at h h3
  generalize hvi : a.eval I = vi at h3
  generalize hv : a.eval X = v at h1
  unfold oIadrA at h
  split at h
  · rename_i k o kk z
    split at h <;> simp at h
    rename_i hb
    rw [inBounds_iff] at hb
    subst h
    cases h1 with | one _ _ h1 => ?_
    cases h3 with | one _ _ h3 => ?_
    cases h3
    cases h1 with
    | ptr _ _ b hk hh =>
      refine good_same (val_run _ ?_) (.one _ _ (.ptr k (o + z.toNat * size) b hk hh)) hH hF
      rw [hv, hvi]
      simp [Instr.indexAt, asIntOf, run_underlying hT, Instr.sureAddr, hb.1, hb.2, run_sizeT w hn, Addr.add_lit]
  · simp at h
theorem g_idxA {T e t t' : TypeId} {X I : Operand} {x i : AO} {len size : Nat} {b : Bool} {res : AV × List Ob} (ho : o.op = .index T X I) (hT : C.P.underlying T = some (.array len e)) (hb : isAggT C.P e = some b) (hn : sizeT C.P e = some size) (hx : cOp C.P t X = some x) (hi : cOp C.P t' I = some i)
    (he : EnvR C hp.length ρ env a) (hH : HR C ρ hp w) (hF : FR C w) (h : oIdxA hp len size (if b = true then some size else none) (getO env x) (getO env i) = some res) : Good C ρ hp o a w res := by
  have h1 := cOp_ok hx he
  have h3 := cOp_ok hi he
  obtain ⟨dst, op', type, pos, after, guard⟩ := o
  dsimp only at ho; subst ho
  generalize getO env x = s at h h1
  generalize getO env i = si at h h3
  generalize hvi : a.eval I = vi at h3
  generalize hv : a.eval X = v at h1
  unfold oIdxA at h
  split at h
  · rename_i l kk z
    split at h
    · rename_i hbd
      rw [inBounds_iff] at hbd
      cases hta : takeAV l (z.toNat * size) (if b = true then some size else none) with
      | none => rw [hta] at h; simp [putA] at h
      | some s' =>
        rw [hta] at h
        simp [putA] at h; subst h
        cases h3 with | one _ _ h3 => ?_
        cases h3
        cases h1 with
        | agg _ vs hl =>
          obtain ⟨u, hr, hu⟩ := part_ok (w := w) hl hb hn hta
          refine good_same (v := u) (val_run _ ?_) hu hH hF
          rw [hv, hvi]
          simp [Instr.index, asIntOf, run_underlying hT, hbd.1, hbd.2, run_sizeT w hn, hr]
    · simp at h
  · simp at h
theorem g_idxS {T t t' : TypeId} {X I : Operand} {x i : AO} {res : AV × List Ob} (ho : o.op = .index T X I) (hT : C.P.underlying T = some .string) (hx : cOp C.P t X = some x) (hi : cOp C.P t' I = some i)
    (he : EnvR C hp.length ρ env a) (hH : HR C ρ hp w) (hF : FR C w) (h : oIdxS hp (getO env x) (getO env i) = some res) : Good C ρ hp o a w res := by
  have h1 := cOp_ok hx he
  have h3 := cOp_ok hi he
  obtain ⟨dst, op', type, pos, after, guard⟩ := o
  dsimp only at ho; subst ho
  generalize getO env x = s at h h1
  generalize getO env i = si at h h3
  generalize hvi : a.eval I = vi at h3
  generalize hv : a.eval X = v at h1
  unfold oIdxS at h
  split at h
  · rename_i s kk z
    split at h <;> simp at h
    rename_i hb
    rw [inBounds_iff] at hb
    subst h
    cases h1 with | one _ _ h1 => ?_
    cases h3 with | one _ _ h3 => ?_
    cases h1; cases h3
    refine good_same (v := .int .u8 ((toBytes s)[z.toNat]?.getD 0)) (val_run _ ?_) (.one _ _ (.int _ _)) hH hF
    rw [hv, hvi]
    have hlt : z.toNat < s.size := by omega
    have hlt' : z.toNat < s.data.size := hlt
    have e1 : s[z.toNat]? = some (s.data[z.toNat]) := by
      rw [getElem?_pos s z.toNat hlt]; rfl
    have e2 : (toBytes s)[z.toNat]? = some ((s.data[z.toNat].toNat : Nat) : Int) := by
      simp only [toBytes, List.getElem?_map, Option.map_eq_some_iff, Array.getElem?_toList]
      exact ⟨_, Array.getElem?_eq_getElem hlt', rfl⟩
    simp [Instr.index, asIntOf, run_underlying hT, hb.1, e1, e2]
  · simp at h
theorem getSL_vrl {xs : List Operand} {ts : List TypeId} {l : List AO} (he : EnvR C hp.length ρ env a) (h : cOps C.P ts xs = some l) : VRL C hp.length ρ (getSL env l) (xs.map a.eval) := by
  induction xs generalizing ts l with
  | nil => cases ts <;> simp [cOps] at h <;> subst h <;> exact .nil
  | cons x xs ih =>
    have key : ∀ {t : TypeId} {y : AO}, cOp C.P t x = some y → VR C hp.length ρ (getS env y) (a.eval x) := by
      intro t y hy
      have h1 := cOp_ok hy he
      unfold getS
      cases e : (getO env y).sv <;> first | exact .undef _ | exact e ▸ (h1.sv_of (by rw [e]; simp)).2
    cases ts with
    | nil =>
      simp only [cOps, Option.bind_eq_some_iff, Option.map_eq_some_iff] at h
      obtain ⟨s, hs, l', hl, rfl⟩ := h
      exact .cons _ _ _ _ (key hs) (ih hl)
    | cons t ts =>
      simp only [cOps, Option.bind_eq_some_iff, Option.map_eq_some_iff] at h
      obtain ⟨s, hs, l', hl, rfl⟩ := h
      exact .cons _ _ _ _ (key hs) (ih hl)
theorem g_mkfn {f : Nat} {first caps : Array Operand} {l : List AO} (ho : o.op = .makeFunc (.func f) first caps) (h0 : first.size = 0) (hl : cOps C.P [] caps.toList = some l) (he : EnvR C hp.length ρ env a) (hH : HR C ρ hp w) (hF : FR C w) :
    Good C ρ hp o a w (.one (.fn f (getSL env l)), hp) := by
  have h1 := getSL_vrl he hl
  obtain ⟨dst, op', type, pos, after, guard⟩ := o
  dsimp only at ho; subst ho
  obtain rfl : first = #[] := Array.eq_empty_of_size_eq_zero h0
  refine good_same (v := .func (.func f) #[] (caps.map a.eval)) ?_ ?_ hH hF
  · simp [execOp, Instr.makeFunc]
  · have := VR.fn f _ _ h1
    have e : (caps.toList.map a.eval).toArray = caps.map a.eval := by rw [← Array.toList_map, Array.toArray_toList]
    rw [e] at this
    exact .one _ _ this
end
section
variable {C : Cx} {ρ : Nat → RV} {hp : List Ob} {o : Oper} {a : Act} {w w' : World} {env : Env}
theorem HR.newCells (hH : HR C ρ hp w) (hF : FR C w) {l : List SV} {vs : List Value} (T : TypeId) (hl : VRL C hp.length ρ l vs) :
    HR C (up ρ hp.length ⟨.pointer (some ⟨w.heap.size, 0, none⟩), 0⟩) (hp ++ [.cells none l]) (w.alloc (.cells vs.toArray T)) := by
  refine (hH.alloc _).push ⟨w.heap.size, T, vs.toArray, by rw [up_at], .inr hF.size, new_block w _, ?_, by simp⟩ (fun k b ha hb => ?_)
  · exact hl.ext (Nat.le_succ _) (up_ext _ _ _)
  · have := (hH.lt ha hb).2
    simp [blkOf]; omega
theorem up_ptr (n : Nat) (b sz : Nat) : VR C (n + 1) (up ρ n ⟨.pointer (some ⟨b, 0, none⟩), sz⟩) (.ptr n 0) (.pointer (some ⟨b, 0, none⟩)) := .ptr n 0 b (Nat.lt_succ_self _) (by rw [up_at])
theorem HR.newRowAt (hH : HR C ρ hp w) (hF : FR C w) {c : RC} (hw : c.wf) (T : TypeId) {fr : Nat × Nat} {cap : Nat} {cur : Array Value} (h1 : c.len ≤ cap) (h2 : cap ≤ maxLen) (h3 : cap * c.size ≤ cur.size) (h4 : ∀ (j : Nat) (u : Value), c.vals[j]? = some u → cur[j]? = some u) (h5 : ∀ (j : Nat), j < cur.size → ¬ (fr.1 ≤ j ∧ j < fr.2)) :
    HR C (up ρ hp.length ⟨.slice (some ⟨w.heap.size, 0, none⟩) c.len cap, c.size⟩) (hp ++ [.rows none c]) (w.alloc (.cells cur T fr)) := by
  refine (hH.alloc _).push ⟨hw, by rw [up_at], by simp, .inr ⟨w.heap.size, 0, cap, cur, T, fr, by rw [up_at], .inr hF.size, new_block w _, h1, h2, by omega, ?_, h5⟩⟩ (fun k b ha hb => ?_)
  · simpa using h4
  · have := (hH.lt ha hb).2
    simp [blkOf]; omega
def zvOk : ZV → Prop
  | .sv (.nils c) => c.len = 0 ∧ c.wf
  | .sv _ => True
  | .nil c => c.len = 0 ∧ c.wf
theorem zvIs_ok {n : Nat} {s : SV} {v : Value} (ho : zvOk (.sv s)) (h : zvIs (.sv s) v = true) : VR C n ρ s v := by
  unfold zvIs at h
  split at h
  · rename_i heq
    simp only [Bool.and_eq_true, decide_eq_true_eq] at h
    cases heq
    obtain ⟨rfl, rfl⟩ := h; exact .int _ _
  · rename_i heq; cases heq; simp at h; subst h; exact .bool _
  · rename_i heq; cases heq; simp at h; subst h; exact .str _
  · rename_i heq; cases heq; exact .nilp
  · rename_i heq; cases heq; exact .nilf
  · rename_i heq; cases heq; exact .nils _ ho.1 ho.2
  · rename_i heq; cases heq
  · simp at h
theorem zcells_ok : ∀ (z : List ZV) (vs : List Value) (hp : List Ob) (ρ : Nat → RV), (∀ x ∈ z, zvOk x) → zvsAre z vs = true → HR C ρ hp w →
    ∃ ρ', Ext hp.length ρ ρ' ∧ hp.length ≤ (zcells z hp).2.length ∧ VRL C (zcells z hp).2.length ρ' (zcells z hp).1 vs ∧ HR C ρ' (zcells z hp).2 w
  | [], [], hp, ρ, _, _, hH => ⟨ρ, Ext.refl _ _, Nat.le_refl _, .nil, hH⟩
  | [], _ :: _, _, _, _, h, _ => by simp [zvsAre] at h
  | _ :: _, [], _, _, _, h, _ => by simp [zvsAre] at h
  | .sv s :: z, v :: vs, hp, ρ, hz, h, hH => by
    simp only [zvsAre, Bool.and_eq_true] at h
    obtain ⟨ρ', E, hl, hv, hH'⟩ := zcells_ok z vs hp ρ (fun x hx => hz x (by simp [hx])) h.2 hH
    exact ⟨ρ', E, hl, .cons _ _ _ _ (zvIs_ok (hz _ (by simp)) h.1) hv, hH'⟩
  | .nil c :: z, v :: vs, hp, ρ, hz, h, hH => by
    simp only [zvsAre, Bool.and_eq_true] at h
    have hc := hz (.nil c) (by simp)
    have hv : v = .slice none 0 0 := by
      have := h.1
      unfold zvIs at this
      split at this <;> first | rfl | (rename_i heq; cases heq) | simp at this
    subst hv
    have hE := up_ext ρ hp.length ⟨.slice none 0 0, c.size⟩
    obtain ⟨ρ', E, hl, hv, hH'⟩ := zcells_ok z vs (hp ++ [.rows none c]) _ (fun x hx => hz x (by simp [hx])) h.2 (hH.newRow (b := none) hc.1 hc.2)
    have hle : hp.length ≤ (hp ++ [Ob.rows none c]).length := by simp
    refine ⟨ρ', hE.trans E hle, Nat.le_trans hle hl, .cons _ _ _ _ ?_ hv, hH'⟩
    have := (up_row (C := C) (ρ := ρ) hp.length none 0 0 c.size)
    exact VR.ext (n := hp.length + 1) (by simpa [zcells] using hl) (by simpa using E) this
theorem zvs_ok {t : TypeId} {z : List ZV} {P : Program} (h : zvs P t = some z) : (∀ x ∈ z, zvOk x) ∧ ∃ i zv, P.info? t = some i ∧ i.zero = some zv ∧ zvsAre z zv.cells.toList = true := by
  simp only [zvs, Option.bind_eq_some_iff] at h
  obtain ⟨z', ⟨l, _, hm⟩, i, hi, zv, hzv, h⟩ := h
  split at h <;> simp at h
  rename_i ha
  subst h
  refine ⟨?_, i, zv, hi, hzv, ha⟩
  have aux : ∀ (l : List TypeId) (z : List ZV), l.mapM (zvT P) = some z → ∀ x ∈ z, zvOk x := by
    intro l
    induction l with
    | nil => intro z h; simp at h; subst h; simp
    | cons t l ih =>
      intro z h
      simp only [List.mapM_cons, Option.bind_eq_bind, Option.bind_eq_some_iff, Option.pure_def, Option.some.injEq] at h
      obtain ⟨y, hy, ys, hys, rfl⟩ := h
      intro x hx
      rcases List.mem_cons.1 hx with rfl | hx
      · unfold zvT at hy
        split at hy <;> first | (simp at hy; subst hy; trivial) | skip
        all_goals first
          | (simp only [Option.map_eq_some_iff] at hy; obtain ⟨⟨c, zz⟩, hr, rfl⟩ := hy; have := rowT_ok hr; split <;> exact ⟨this.len, this.wf⟩)
          | simp at hy
      · exact ih ys hys x hx
  exact aux l z' hm
theorem g_alloc {e : TypeId} {z : List ZV} (ho : o.op = .alloc e) (hz : zvs C.P e = some z) (hH : HR C ρ hp w) (hF : FR C w) :
    Good C ρ hp o a w (.one (.ptr (zcells z hp).2.length 0), (zcells z hp).2 ++ [.cells none (zcells z hp).1]) := by
  obtain ⟨hok, i, zv, hi, hzv, ha⟩ := zvs_ok hz
  obtain ⟨ρ', E, hl, hv, hH'⟩ := zcells_ok z _ hp ρ hok ha hH
  obtain ⟨dst, op', type, pos, after, guard⟩ := o
  dsimp only at ho; subst ho
  have hn := hH'.newCells hF e hv
  refine good_value (v := .pointer (some ⟨w.heap.size, 0, none⟩)) (w' := w.alloc (.cells zv.cells e)) (val_run _ ?_) _ (by simp; omega) (E.trans (up_ext _ _ _) hl) ?_ (by simpa using hn) (hF.alloc _)
  · simp [Instr.alloc, zeroValue, typeInfo, hi, hzv, newVar, Go.newRow]
  · simp only [List.length_append, List.length_cons, List.length_nil, Nat.zero_add]
    exact .one _ _ (up_ptr _ _ _)
theorem g_box {e t : TypeId} {X : Operand} {x : AO} {res : AV × List Ob} (ho : o.op = .box e X) (hx : cOp C.P t X = some x) (he : EnvR C hp.length ρ env a) (hH : HR C ρ hp w) (hF : FR C w)
    (h : (if (getO env x).cells.all okCell = true then some (AV.one (.ptr hp.length 0), hp ++ [Ob.cells none (getO env x).cells]) else none) = some res) : Good C ρ hp o a w res := by
  have h1 := cOp_ok hx he
  split at h <;> simp at h
  rename_i hok
  subst h
  have hv := h1.cells_vrl hok
  obtain ⟨dst, op', type, pos, after, guard⟩ := o
  dsimp only at ho; subst ho
  have hn := hH.newCells hF e hv
  refine good_value (v := .pointer (some ⟨w.heap.size, 0, none⟩)) (w' := w.alloc (.cells (a.eval X).cells e)) (val_run _ ?_) _ (by simp) (up_ext _ _ _) ?_ (by simpa using hn) (hF.alloc _)
  · simp [Instr.box, newVar, Go.newRow]
  · simp only [List.length_append, List.length_cons, List.length_nil, Nat.zero_add]
    exact .one _ _ (up_ptr _ _ _)
theorem fold_lay : ∀ (vs : List Value) (cells : Array Value) (off i : Nat), (vs.zipIdx i).foldl (fun cs p => cs.setIfInBounds (off + p.2) p.1) cells = (layV cells.toList (off + i) vs).toArray
  | [], cells, _, _ => by simp [layV]
  | v :: vs, cells, off, i => by
    rw [List.zipIdx_cons, List.foldl_cons, fold_lay vs]
    simp [layV, Nat.add_assoc]
theorem fold_lay' (v : Value) (cells : Array Value) (off : Nat) : v.cells.zipIdx.foldl (fun cs (c, j) => cs.setIfInBounds (off + j) c) cells = (layV cells.toList off v.cells.toList).toArray := by
  have := fold_lay v.cells.toList cells off 0
  rw [Nat.add_zero] at this
  rw [← this, ← Array.foldl_toList]
  simp
inductive PR {α β : Type} (R : α → β → Prop) : List α → List β → Prop where
  | nil : PR R [] []
  | cons (x : α) (y : β) (xs : List α) (ys : List β) (h : R x y) (t : PR R xs ys) : PR R (x :: xs) (y :: ys)
theorem fill_ok {n : Nat} (place : Nat → Option (Nat × Nat)) : ∀ (ps : List (Nat × Value)) (qs : List ((Nat × Nat) × AV)) (l l' : List SV) (cs : List Value), VRL C n ρ l cs →
    PR (fun (p : Nat × Value) (q : (Nat × Nat) × AV) => place p.1 = some q.1 ∧ AVR C n ρ q.2 p.2) ps qs → fillAll l qs = some l' → (∀ q ∈ qs, q.2.cells.all okCell = true) → ∃ cs', Instr.fill place cs.toArray ps = some cs'.toArray ∧ VRL C n ρ l' cs'
  | [], [], l, l', cs, hl, _, h, _ => by simp [fillAll] at h; subst h; exact ⟨cs, rfl, hl⟩
  | [], _ :: _, _, _, _, _, h, _, _ => by cases h
  | _ :: _, [], _, _, _, _, h, _, _ => by cases h
  | (i, v) :: ps, ((off, sz), av) :: qs, l, l', cs, hl, hf, h, hok => by
    cases hf with
    | cons _ _ _ _ hd hf =>
      simp only [fillAll] at h
      split at h
      · rename_i hc
        have hv := hd.2.cells_vrl (hok _ (by simp))
        have hlen := hv.length
        have hlen' := hl.length
        simp at hlen
        obtain ⟨cs', h1, h2⟩ := fill_ok place ps qs _ l' _ (layV_vrl hv hl off) hf h (fun q hq => hok q (by simp [hq]))
        refine ⟨cs', ?_, h2⟩
        have hp1 : place i = some (off, sz) := hd.1
        have e1 : ¬ (v.cells.size ≠ sz ∨ off + v.cells.size > cs.toArray.size) := by simp; omega
        simp only [Instr.fill, hp1]
        rw [if_neg (by simpa using e1), fold_lay']
        exact h1
      · simp at h
theorem fillAll_okCell : ∀ (qs : List ((Nat × Nat) × AV)), True := fun _ => trivial
theorem g_build {t : TypeId} {parts : Array (Nat × Operand)} {z : List ZV} {qs : List ((Nat × Nat) × AO)} {place : Nat → Option (Nat × Nat)} {res : AV × List Ob} (ho : o.op = .build t parts) (hz : zvs C.P t = some z)
    (hb : ∀ i zv, C.P.info? t = some i → i.zero = some zv → ∀ ps cells, Instr.fill place zv.cells ps = some cells → C.P.built t ps = some cells)
    (hq : PR (fun (p : Nat × Operand) (q : (Nat × Nat) × AO) => place p.1 = some q.1 ∧ ∃ t', cOp C.P t' p.2 = some q.2) parts.toList qs)
    (he : EnvR C hp.length ρ env a) (hH : HR C ρ hp w) (hF : FR C w) (h : (if (getPP env qs).all (fun q => q.2.cells.all okCell) = true then putL (zcells z hp).2 (fillAll (zcells z hp).1 (getPP env qs)) else none) = some res) : Good C ρ hp o a w res := by
  split at h
  · rename_i hok
    obtain ⟨hzok, i, zv, hi, hzv, ha⟩ := zvs_ok hz
    obtain ⟨ρ', E, hl, hv, hH'⟩ := zcells_ok z _ hp ρ hzok ha hH
    cases hf : fillAll (zcells z hp).1 (getPP env qs) with
    | none => simp [hf, putL] at h
    | some l =>
      simp [hf, putL] at h; subst h
      have hpr : PR (fun (p : Nat × Value) (q : (Nat × Nat) × AV) => place p.1 = some q.1 ∧ AVR C (zcells z hp).2.length ρ' q.2 p.2) (parts.toList.map fun p => (p.1, a.eval p.2)) (getPP env qs) := by
        clear hb hf hok
        generalize parts.toList = ps at hq
        induction hq with
        | nil => exact .nil
        | cons x y xs ys h t ih =>
          obtain ⟨h1, t', h2⟩ := h
          exact .cons _ _ _ _ ⟨h1, (cOp_ok h2 he).ext hl E⟩ ih
      obtain ⟨cs', h1, h2⟩ := fill_ok place _ _ _ _ _ hv hpr hf (by
        intro q hq'
        have := List.all_eq_true.1 hok q hq'
        exact this)
      have h3 := hb i zv hi hzv _ _ (by simpa using h1)
      obtain ⟨dst, op', type, pos, after, guard⟩ := o
      dsimp only at ho; subst ho
      refine good_value (v := .agg cs'.toArray) (w' := w) (val_run _ ?_) ρ' hl E (.agg _ _ h2) hH' hF
      refine run_build w t _ _ ?_
      simpa using h3
  · simp at h
end
theorem mapM_some {α β : Type} {f : α → Option β} : ∀ {l : List α} {r : List β}, l.mapM f = some r → r.length = l.length ∧ ∀ (i : Nat) (x : α), l[i]? = some x → ∃ y : β, r[i]? = some y ∧ f x = some y
  | [], r, h => by simp at h; subst h; simp
  | a :: l, r, h => by
    simp only [List.mapM_cons, Option.bind_eq_bind, Option.bind_eq_some_iff, Option.pure_def, Option.some.injEq] at h
    obtain ⟨y, hy, ys, hys, rfl⟩ := h
    obtain ⟨h1, h2⟩ := mapM_some hys
    refine ⟨by simp [h1], fun i x hi => ?_⟩
    cases i with
    | zero => simp at hi; subst hi; exact ⟨y, rfl, hy⟩
    | succ i => simpa using h2 i x (by simpa using hi)
theorem list_ext_map {α β : Type} {l : List α} {r : List β} {g : α → Value} {k : β → Value} (h1 : r.length = l.length) (h2 : ∀ (i : Nat) (x : α), l[i]? = some x → ∃ y : β, r[i]? = some y ∧ g x = k y) : l.map g = r.map k := by
  apply List.ext_getElem?
  intro i
  simp only [List.getElem?_map]
  cases h : l[i]? with
  | none =>
    have : l.length ≤ i := List.getElem?_eq_none_iff.1 h
    rw [List.getElem?_eq_none (by omega)]; rfl
  | some x =>
    obtain ⟨y, hy, e⟩ := h2 i x h
    rw [hy]; simp [e]
namespace RC
theorem ofElems_ok {c0 c : RC} {l : List (List Sc)} (hw : c0.wf) (h : ofElems c0 l = some c) : c.vals = l.flatMap (fun e => e.map Sc.val) ∧ c.len = l.length ∧ c.size = c0.size ∧ c.wf ∧ ∀ e ∈ l, e.length = c0.size := by
  have one : ∀ (l : List (List Sc)) (g : List Sc → Value), (∀ e ∈ l, e.map Sc.val = [g e]) → l.flatMap (fun e => e.map Sc.val) = l.map g := by
    intro l g hg
    induction l with
    | nil => rfl
    | cons e l ih =>
      rw [List.flatMap_cons, hg e (by simp), ih (fun x hx => hg x (by simp [hx]))]
      rfl
  cases c0 with
  | ints k xs0 =>
    simp only [ofElems, Option.map_eq_some_iff] at h
    obtain ⟨xs, hx, rfl⟩ := h
    obtain ⟨h1, h2⟩ := mapM_some hx
    have key : ∀ (i : Nat) (e : List Sc), l[i]? = some e → ∃ x, xs[i]? = some x ∧ e = [Sc.int k x] := by
      intro i e he
      obtain ⟨y, hy, hf⟩ := h2 i e he
      refine ⟨y, hy, ?_⟩
      split at hf
      · split at hf <;> simp at hf
        rename_i hk; subst hk; subst hf; rfl
      · simp at hf
    have hmem : ∀ e ∈ l, ∃ x, e = [Sc.int k x] := by
      intro e he
      obtain ⟨i, hi⟩ := List.mem_iff_getElem?.1 he
      obtain ⟨x, _, hx⟩ := key i e hi
      exact ⟨x, hx⟩
    refine ⟨?_, h1, rfl, trivial, fun e he => by obtain ⟨x, rfl⟩ := hmem e he; rfl⟩
    rw [one l (fun e => (e.map Sc.val).getD 0 (.int k 0)) (fun e he => by obtain ⟨x, rfl⟩ := hmem e he; rfl)]
    refine (list_ext_map h1 fun i e he => ?_).symm
    obtain ⟨x, hx1, rfl⟩ := key i e he
    exact ⟨x, hx1, rfl⟩
  | strs xs0 =>
    simp only [ofElems, Option.map_eq_some_iff] at h
    obtain ⟨xs, hx, rfl⟩ := h
    obtain ⟨h1, h2⟩ := mapM_some hx
    have key : ∀ (i : Nat) (e : List Sc), l[i]? = some e → ∃ x, xs[i]? = some x ∧ e = [Sc.str x] := by
      intro i e he
      obtain ⟨y, hy, hf⟩ := h2 i e he
      refine ⟨y, hy, ?_⟩
      split at hf
      · simp at hf; subst hf; rfl
      · simp at hf
    have hmem : ∀ e ∈ l, ∃ x, e = [Sc.str x] := by
      intro e he
      obtain ⟨i, hi⟩ := List.mem_iff_getElem?.1 he
      obtain ⟨x, _, hx⟩ := key i e hi
      exact ⟨x, hx⟩
    refine ⟨?_, h1, rfl, trivial, fun e he => by obtain ⟨x, rfl⟩ := hmem e he; rfl⟩
    rw [one l (fun e => (e.map Sc.val).getD 0 (.string .empty)) (fun e he => by obtain ⟨x, rfl⟩ := hmem e he; rfl)]
    refine (list_ext_map h1 fun i e he => ?_).symm
    obtain ⟨x, hx1, rfl⟩ := key i e he
    exact ⟨x, hx1, rfl⟩
  | bools xs0 =>
    simp only [ofElems, Option.map_eq_some_iff] at h
    obtain ⟨xs, hx, rfl⟩ := h
    obtain ⟨h1, h2⟩ := mapM_some hx
    have key : ∀ (i : Nat) (e : List Sc), l[i]? = some e → ∃ x, xs[i]? = some x ∧ e = [Sc.bool x] := by
      intro i e he
      obtain ⟨y, hy, hf⟩ := h2 i e he
      refine ⟨y, hy, ?_⟩
      split at hf
      · simp at hf; subst hf; rfl
      · simp at hf
    have hmem : ∀ e ∈ l, ∃ x, e = [Sc.bool x] := by
      intro e he
      obtain ⟨i, hi⟩ := List.mem_iff_getElem?.1 he
      obtain ⟨x, _, hx⟩ := key i e hi
      exact ⟨x, hx⟩
    refine ⟨?_, h1, rfl, trivial, fun e he => by obtain ⟨x, rfl⟩ := hmem e he; rfl⟩
    rw [one l (fun e => (e.map Sc.val).getD 0 (.bool false)) (fun e he => by obtain ⟨x, rfl⟩ := hmem e he; rfl)]
    refine (list_ext_map h1 fun i e he => ?_).symm
    obtain ⟨x, hx1, rfl⟩ := key i e he
    exact ⟨x, hx1, rfl⟩
  | recs n xs0 =>
    simp only [ofElems] at h
    split at h <;> simp at h
    rename_i ha
    subst h
    have hl : ∀ e ∈ l, e.length = n := fun e he => by simpa using List.all_eq_true.1 ha e he
    exact ⟨rfl, rfl, rfl, ⟨hw.1, hl⟩, hl⟩
end RC
section
variable {C : Cx} {ρ : Nat → RV} {hp : List Ob} {o : Oper} {a : Act} {w w' : World} {env : Env}
theorem scsOf_ok {n : Nat} : ∀ {l : List SV} {vs : List Value} {ss : List Sc}, VRL C n ρ l vs → scsOf l = some ss → vs = ss.map Sc.val
  | _, _, _, .nil, h => by simp [scsOf] at h; subst h; rfl
  | _, _, _, .cons s v l vs hv hl, h => by
    simp only [scsOf, Option.bind_eq_some_iff, Option.map_eq_some_iff] at h
    obtain ⟨sc, hsc, ss', hss, rfl⟩ := h
    rw [scsOf_ok hl hss]
    cases hv <;> simp [SV.sc] at hsc <;> subst hsc <;> rfl
theorem scsOf_okCell : ∀ {l : List SV} {ss : List Sc}, scsOf l = some ss → l.all okCell = true
  | [], _, _ => rfl
  | s :: l, ss, h => by
    simp only [scsOf, Option.bind_eq_some_iff, Option.map_eq_some_iff] at h
    obtain ⟨sc, hsc, ss', hss, rfl⟩ := h
    simp only [List.all_cons, Bool.and_eq_true]
    refine ⟨?_, scsOf_okCell hss⟩
    cases s <;> simp [SV.sc] at hsc <;> rfl
theorem bsFrom_ok {zero : List Sc} {ps : List (Nat × AV)} : ∀ {n i : Nat} {l : List (List Sc)}, bsFrom zero ps i n = some l → l.length = n ∧ ∀ j, j < n → ∃ e, l[j]? = some e ∧ partAt zero (i + j) ps = some e
  | 0, i, l, h => by simp [bsFrom] at h; subst h; simp
  | n + 1, i, l, h => by
    simp only [bsFrom, Option.bind_eq_some_iff, Option.map_eq_some_iff] at h
    obtain ⟨e, he, l', hl, rfl⟩ := h
    obtain ⟨h1, h2⟩ := bsFrom_ok hl
    refine ⟨by simp [h1], fun j hj => ?_⟩
    cases j with
    | zero => exact ⟨e, rfl, he⟩
    | succ j =>
      obtain ⟨e', h3, h4⟩ := h2 j (by omega)
      exact ⟨e', by simpa using h3, by rw [← h4]; congr 1; omega⟩
theorem fill_row {n size : Nat} (hs : 0 < size) : ∀ (ps : List (Nat × Value)) (qs : List (Nat × AV)) (cells : List Value), cells.length = n * size →
    PR (fun (p : Nat × Value) (q : Nat × AV) => p.1 = q.1 ∧ AVR C hp.length ρ q.2 p.2 ∧ p.1 < n ∧ ∃ e, scsOf q.2.cells = some e ∧ e.length = size) ps qs → (∀ (i j : Nat), i ≠ j → ∀ (p q : Nat × Value), ps[i]? = some p → ps[j]? = some q → p.1 ≠ q.1) →
    ∃ cells' : List Value, Instr.fill (fun i => some (i * size, size)) cells.toArray ps = some cells'.toArray ∧ cells'.length = n * size ∧
      ∀ (i o : Nat), i < n → o < size → ∀ (zero : List Sc), zero.length = size → (∀ (k : Nat) (x : Sc), zero[k]? = some x → cells[i * size + k]? = some x.val) → ∀ e : List Sc, partAt zero i qs = some e → ∀ s : Sc, e[o]? = some s → cells'[i * size + o]? = some s.val
  | [], [], cells, hl, _, _ => ⟨cells, rfl, hl, fun i o hi ho zero hzl hz e he s hs => by simp [partAt] at he; subst he; exact hz o s hs⟩
  | [], _ :: _, _, _, h, _ => by cases h
  | _ :: _, [], _, _, h, _ => by cases h
  | (i0, v) :: ps, (j0, av) :: qs, cells, hl, hf, hd => by
    cases hf with
    | cons _ _ _ _ h0 hf =>
      obtain ⟨e0, hav, hi0, sc, hsc, hsl⟩ := h0
      dsimp only at e0 hav hi0 hsc
      subst e0
      have hv := scsOf_ok (hav.cells_vrl (scsOf_okCell hsc)) hsc
      have hvl : v.cells.toList.length = size := by rw [hv]; simpa using hsl
      have hb : i0 * size + size ≤ n * size := by rw [← Nat.succ_mul]; exact Nat.mul_le_mul_right _ hi0
      obtain ⟨cells', h1, h2, h3⟩ := fill_row hs ps qs (layV cells (i0 * size) v.cells.toList) (by rw [layV_length]; exact hl) hf (fun i j hij p q hp hq => hd (i + 1) (j + 1) (by omega) p q (by simpa using hp) (by simpa using hq))
      refine ⟨cells', ?_, h2, fun i o hi ho zero hzl hz e he s hs' => ?_⟩
      · simp at hvl
        simp only [Instr.fill]
        rw [if_neg (by simp; omega), fold_lay']
        exact h1
      · simp only [partAt] at he
        split at he
        · rename_i e1
          subst e1
          rw [hsc] at he
          simp at he; subst he
          -- no later part has this number
          have hno : ∀ (zero' : List Sc), partAt zero' i0 qs = some zero' := by
            intro zero'
            have hne : ∀ q ∈ qs, q.1 ≠ i0 := by
              intro q hq
              obtain ⟨k, hk⟩ := List.mem_iff_getElem?.1 hq
              have aux : ∀ (ps : List (Nat × Value)) (qs : List (Nat × AV)) (k : Nat) (q : Nat × AV), PR (fun (p : Nat × Value) (q : Nat × AV) => p.1 = q.1 ∧ AVR C hp.length ρ q.2 p.2 ∧ p.1 < n ∧ ∃ e, scsOf q.2.cells = some e ∧ e.length = size) ps qs → qs[k]? = some q → ∃ p, ps[k]? = some p ∧ p.1 = q.1 := by
                intro ps qs k q hpr
                induction hpr generalizing k with
                | nil => simp
                | cons x y xs ys h t ih =>
                  intro hk
                  cases k with
                  | zero => simp at hk; subst hk; exact ⟨x, rfl, h.1⟩
                  | succ k => simpa using ih k (by simpa using hk)
              obtain ⟨p, hp1, hp2⟩ := aux ps qs k q hf hk
              rw [← hp2]
              exact (hd 0 (k + 1) (by omega) (i0, v) p rfl (by simpa using hp1)).symm
            clear hf h3 hz
            induction qs with
            | nil => rfl
            | cons q qs ih =>
              obtain ⟨j, u⟩ := q
              simp only [partAt]
              rw [if_neg (hne (j, u) (by simp))]
              exact ih (fun q hq => hne q (by simp [hq]))
          refine h3 i0 o hi ho sc hsl (fun k x hx => ?_) sc (hno sc) s hs'
          have hk : k < size := by have := (List.getElem?_eq_some_iff.1 hx).1; omega
          rw [layV_get _ _ _ _ (by omega), if_pos (by omega), Nat.add_sub_cancel_left, hv]
          simp [hx]
        · rename_i e1
          refine h3 i o hi ho zero hzl (fun k x hx => ?_) e he s hs'
          have h4 := hz k x hx
          have hk : k < size := by have := (List.getElem?_eq_some_iff.1 hx).1; omega
          rw [layV_get _ _ _ _ (by omega)]
          rw [if_neg]
          · exact h4
          · intro hh
            rw [hvl] at hh
            rcases Nat.lt_or_gt_of_ne e1 with hlt | hlt
            · have : i0 * size + size ≤ i * size := by rw [← Nat.succ_mul]; exact Nat.mul_le_mul_right _ hlt
              omega
            · have : i * size + size ≤ i0 * size := by rw [← Nat.succ_mul]; exact Nat.mul_le_mul_right _ hlt
              omega
end
theorem partsAt_ok {P : Program} {e len : Nat} : ∀ {ps : List (Nat × Operand)} {qs : List (Nat × AO)}, partsAt P e len ps = some qs →
    PR (fun (p : Nat × Operand) (q : Nat × AO) => p.1 = q.1 ∧ p.1 < len ∧ cOp P e p.2 = some q.2) ps qs ∧ ∀ (i j : Nat), i ≠ j → ∀ (p q : Nat × Operand), ps[i]? = some p → ps[j]? = some q → p.1 ≠ q.1
  | [], qs, h => by simp [partsAt] at h; subst h; exact ⟨.nil, by simp⟩
  | (i, x) :: ps, qs, h => by
    simp only [partsAt] at h
    split at h
    · rename_i hc
      simp only [Option.bind_eq_some_iff, Option.map_eq_some_iff] at h
      obtain ⟨b, hb, qs', hq, rfl⟩ := h
      obtain ⟨h1, h2⟩ := partsAt_ok hq
      refine ⟨.cons _ _ _ _ ⟨rfl, hc.1, hb⟩ h1, ?_⟩
      have hno : ∀ (j : Nat) (q : Nat × Operand), ps[j]? = some q → i ≠ q.1 := by
        intro j q hj
        have := List.all_eq_true.1 hc.2 q (List.mem_of_getElem? hj)
        simp at this
        exact fun e => this e.symm
      intro k j hkj p q hp hq
      cases k with
      | zero =>
        simp at hp; subst hp
        cases j with
        | zero => exact absurd rfl hkj
        | succ j => exact hno j q (by simpa using hq)
      | succ k =>
        cases j with
        | zero => simp at hq; subst hq; exact (hno k p (by simpa using hp)).symm
        | succ j => exact h2 k j (by omega) p q (by simpa using hp) (by simpa using hq)
    · simp at h
section
variable {C : Cx} {ρ : Nat → RV} {hp : List Ob} {o : Oper} {a : Act} {w w' : World} {env : Env}
theorem partAt_of {zero : List Sc} : ∀ {qs : List (Nat × AV)}, (∀ (i j : Nat), i ≠ j → ∀ (p q : Nat × AV), qs[i]? = some p → qs[j]? = some q → p.1 ≠ q.1) → ∀ (k : Nat) (q : Nat × AV), qs[k]? = some q → partAt zero q.1 qs = scsOf q.2.cells
  | [], _, k, q, h => by simp at h
  | (i, v) :: qs, hd, k, q, h => by
    cases k with
    | zero => simp at h; subst h; simp [partAt]
    | succ k =>
      have hne := hd 0 (k + 1) (by omega) (i, v) q rfl h
      simp only [partAt]
      rw [if_neg hne]
      exact partAt_of (fun i j hij p q hp hq => hd (i + 1) (j + 1) (by omega) p q (by simpa using hp) (by simpa using hq)) k q (by simpa using h)
theorem PR.get {α β : Type} {R : α → β → Prop} {xs : List α} {ys : List β} (h : PR R xs ys) : ∀ {k : Nat} {y : β}, ys[k]? = some y → ∃ x, xs[k]? = some x ∧ R x y := by
  induction h with
  | nil => simp
  | cons x y xs ys h t ih =>
    intro k z hz
    cases k with
    | zero => simp at hz; subst hz; exact ⟨x, rfl, h⟩
    | succ k => simpa using ih (by simpa using hz)
theorem putR_row {n : Nat} {res : AV × List Ob} {r : Option RC} (h : putR hp r = some res) : ∃ c, r = some c ∧ res = (.one (.row hp.length), hp ++ [.rows none c]) := by
  cases r with
  | none => simp [putR] at h
  | some c => simp [putR, Go.X.newRow] at h; exact ⟨c, rfl, h.symm⟩
theorem good_row {c : RC} {cap : Nat} {cur : Array Value} {T : TypeId} {fr : Nat × Nat} {w1 : World} (hr : (execOp a.eval o).run C.P w = .ok (.value (.slice (some ⟨w.heap.size, 0, none⟩) c.len cap)) (w1.alloc (.cells cur T fr))) (hw1 : w1 = w ∨ w1 = w.drew) (hH : HR C ρ hp w) (hF : FR C w) (hw : c.wf)
    (h1 : c.len ≤ cap) (h2 : cap ≤ maxLen) (h3 : cap * c.size ≤ cur.size) (h4 : ∀ (j : Nat) (u : Value), c.vals[j]? = some u → cur[j]? = some u) (h5 : ∀ (j : Nat), j < cur.size → ¬ (fr.1 ≤ j ∧ j < fr.2)) : Good C ρ hp o a w (.one (.row hp.length), hp ++ [.rows none c]) := by
  have hH1 : HR C ρ hp w1 := by rcases hw1 with rfl | rfl; exact hH; exact hH.drew
  have hF1 : FR C w1 := by rcases hw1 with rfl | rfl; exact hF; exact hF.drew
  have hs : w1.heap.size = w.heap.size := by rcases hw1 with rfl | rfl <;> rfl
  have hn := hH1.newRowAt hF1 hw T (fr := fr) h1 h2 h3 h4 h5
  rw [hs] at hn
  refine good_value hr _ (by simp) (up_ext _ _ _) ?_ hn (hF1.alloc _)
  simp only [List.length_append, List.length_cons, List.length_nil, Nat.zero_add]
  exact .one _ _ (up_row _ _ _ _ _)
theorem g_bslice {T e : TypeId} {len : Nat} {parts : Array (Nat × Operand)} {c0 : RC} {z : List Sc} {qs : List (Nat × AO)} {res : AV × List Ob} (ho : o.op = .buildSlice T len parts) (hT : C.P.underlying T = some (.slice e)) (hr : rowT C.P e = some (c0, z)) (hlen : len * z.length ≤ 16777216)
    (hq : partsAt C.P e len parts.toList = some qs) (he : EnvR C hp.length ρ env a) (hH : HR C ρ hp w) (hF : FR C w) (h : putR hp (ofElemsO c0 (bsFrom z (getPs env qs) 0 len)) = some res) : Good C ρ hp o a w res := by
  have hk := rowT_ok hr
  obtain ⟨i, zv, hi, hzv, hsz, hzl, hpos, hzc⟩ := hk.info
  obtain ⟨c, hc, rfl⟩ := putR_row (n := 0) h
  cases hb : bsFrom z (getPs env qs) 0 len with
  | none => simp [hb, ofElemsO] at hc
  | some elems =>
    simp only [hb, ofElemsO] at hc
    obtain ⟨v1, v2, v3, v4, v5⟩ := RC.ofElems_ok hk.wf hc
    obtain ⟨b1, b2⟩ := bsFrom_ok hb
    obtain ⟨p1, p2⟩ := partsAt_ok hq
    have hzs : zv.cells.size = c0.size := by
      have := congrArg List.length hzc; simp at this; omega
    -- the parts' values
    have hpr0 : PR (fun (p : Nat × Value) (q : Nat × AV) => p.1 = q.1 ∧ AVR C hp.length ρ q.2 p.2 ∧ p.1 < len) (parts.toList.map fun p => (p.1, a.eval p.2)) (getPs env qs) := by
      clear hb hc p2 hq h b2
      generalize parts.toList = ps at p1
      induction p1 with
      | nil => exact .nil
      | cons x y xs ys h t ih => exact .cons _ _ _ _ ⟨h.1, cOp_ok h.2.2 he, h.2.1⟩ ih
    have hd : ∀ (i j : Nat), i ≠ j → ∀ (p q : Nat × Value), (parts.toList.map fun p => (p.1, a.eval p.2))[i]? = some p → (parts.toList.map fun p => (p.1, a.eval p.2))[j]? = some q → p.1 ≠ q.1 := by
      intro i j hij p q hp hq
      simp only [List.getElem?_map, Option.map_eq_some_iff] at hp hq
      obtain ⟨p', hp', rfl⟩ := hp
      obtain ⟨q', hq', rfl⟩ := hq
      exact p2 i j hij p' q' hp' hq'
    have hd' : ∀ (i j : Nat), i ≠ j → ∀ (p q : Nat × AV), (getPs env qs)[i]? = some p → (getPs env qs)[j]? = some q → p.1 ≠ q.1 := by
      intro i j hij p q hp hq
      obtain ⟨p', hp', e1, _⟩ := hpr0.get hp
      obtain ⟨q', hq', e2, _⟩ := hpr0.get hq
      rw [← e1, ← e2]
      exact hd i j hij p' q' hp' hq'
    have hpr : PR (fun (p : Nat × Value) (q : Nat × AV) => p.1 = q.1 ∧ AVR C hp.length ρ q.2 p.2 ∧ p.1 < len ∧ ∃ e, scsOf q.2.cells = some e ∧ e.length = c0.size) (parts.toList.map fun p => (p.1, a.eval p.2)) (getPs env qs) := by
      have hall : ∀ (k : Nat) (q : Nat × AV), (getPs env qs)[k]? = some q → ∃ e, scsOf q.2.cells = some e ∧ e.length = c0.size := by
        intro k q hq
        obtain ⟨p, _, e1, _, e2⟩ := hpr0.get hq
        obtain ⟨el, h1, h2⟩ := b2 q.1 (by omega)
        rw [Nat.zero_add, partAt_of hd' k q hq] at h2
        exact ⟨el, h2, v5 el (List.mem_of_getElem? h1)⟩
      clear hb b2 hd hd' h
      generalize (parts.toList.map fun p => (p.1, a.eval p.2)) = ps at hpr0
      generalize getPs env qs = qs' at hpr0 hall
      induction hpr0 with
      | nil => exact .nil
      | cons x y xs ys h t ih => exact .cons _ _ _ _ ⟨h.1, h.2.1, h.2.2, hall 0 y rfl⟩ (ih (fun k q hk => hall (k + 1) q (by simpa using hk)))
    have hbase : ∀ (i : Nat), i < len → ∀ (k : Nat) (x : Sc), z[k]? = some x → (madeCells zv.cells (len * c0.size)).toList[i * c0.size + k]? = some x.val := by
      intro i hi k x hx
      have hkl : k < c0.size := by have := (List.getElem?_eq_some_iff.1 hx).1; omega
      have hb : i * c0.size + c0.size ≤ len * c0.size := by rw [← Nat.succ_mul]; exact Nat.mul_le_mul_right _ hi
      have hm : (i * c0.size + k) % zv.cells.size = k := by
        rw [hzs, Nat.mul_comm, Nat.mul_add_mod]; exact Nat.mod_eq_of_lt hkl
      have hz2 : zv.cells[k]? = some x.val := by
        have := congrArg (fun l => l[k]?) hzc
        simp only [List.getElem?_map, hx, Option.map_some] at this
        rw [← this]; simp
      simp only [madeCells, Array.toList_map, List.getElem?_map, Array.toList_range]
      rw [List.getElem?_range (by omega)]
      simp only [Option.map_some, Option.some.injEq, hm]
      rw [getElem!_def, hz2]
    obtain ⟨cells', f1, f2, f3⟩ := fill_row (C := C) (ρ := ρ) (hp := hp) (n := len) (size := c0.size) hpos _ _ (madeCells zv.cells (len * c0.size)).toList (by simp [madeCells]) hpr hd
    obtain ⟨dst, op', type, pos, after, guard⟩ := o
    dsimp only at ho; subst ho
    have hrun : (Instr.buildSlice T len (parts.map fun (i, x) => (i, a.eval x))).run C.P w = .ok (.slice (some ⟨w.heap.size, 0, none⟩) len len) (w.alloc (.cells cells'.toArray e)) := by
      have hpl : (parts.map fun (i, x) => (i, a.eval x)).toList = parts.toList.map fun p => (p.1, a.eval p.2) := by simp
      have e1 : ¬ (16777216 < len * i.size) := by rw [hsz, hzl]; omega
      rw [Array.toArray_toList] at f1
      by_cases h0 : len * c0.size = 0
      · have f1' : Instr.fill (fun i => some (i * c0.size, c0.size)) #[] (parts.toList.map fun p => (p.1, a.eval p.2)) = some cells'.toArray := by
          have : madeCells zv.cells (len * c0.size) = #[] := by rw [h0]; simp [madeCells]
          rwa [this] at f1
        simp only [Instr.buildSlice, Sem.run_bind, run_underlying hT, Result.andThen_ok, Go.sizeOf, typeInfo]
        simp [hi, hsz, h0, f1', Go.newRow, Array.range_zero']
      · simp only [Instr.buildSlice, Sem.run_bind, run_underlying hT, Result.andThen_ok, Go.sizeOf, typeInfo]
        simp only [madeCells] at f1
        rw [hsz] at e1
        simp [hi, hsz, e1, h0, f1, Go.newRow, zeroValue, typeInfo, hzv]
    refine good_row (w1 := w) (cur := cells'.toArray) (T := e) (fr := (0, 0)) (cap := c.len) ?_ (.inl rfl) hH hF v4 (Nat.le_refl _) ?_ ?_ ?_ ?_
    · rw [v2, b1]; exact val_run _ hrun
    · rw [v2, b1]
      have : len * 1 ≤ len * z.length := Nat.mul_le_mul_left _ (by omega)
      simp only [maxLen]; omega
    · rw [v2, b1, v3]; simp [f2]
    · intro j u hu
      obtain ⟨hj, _⟩ := RC.val_at v4 hu
      rw [v2, b1, v3] at hj
      have e0 : j = (j / c0.size) * c0.size + j % c0.size := by rw [Nat.mul_comm]; exact (Nat.div_add_mod j _).symm
      have e1 : j / c0.size < len := Nat.div_lt_of_lt_mul (by rw [Nat.mul_comm]; exact hj)
      have e2 : j % c0.size < c0.size := Nat.mod_lt _ hpos
      obtain ⟨el, g1, g2⟩ := b2 (j / c0.size) e1
      rw [Nat.zero_add] at g2
      have hel := v5 el (List.mem_of_getElem? g1)
      rw [v1, e0, flat_get c0.size elems v5 _ _ (by rw [b1]; exact e1) e2] at hu
      simp only [List.getD, g1, Option.getD_some, Option.map_eq_some_iff] at hu
      obtain ⟨sc, hsc, rfl⟩ := hu
      have := f3 (j / c0.size) (j % c0.size) e1 e2 z hzl.symm (hbase _ e1) el g2 sc hsc
      rw [e0]; simpa using this
    · intro j _; simp
theorem madeCells_at {zv : Value} {z : List Sc} {n size : Nat} (hzc : zv.cells.toList = z.map Sc.val) (hzl : size = z.length) (hpos : 0 < size) {i k : Nat} {x : Sc} (hi : i < n) (hx : z[k]? = some x) : (madeCells zv.cells (n * size))[i * size + k]? = some x.val := by
  have hkl : k < size := by have := (List.getElem?_eq_some_iff.1 hx).1; omega
  have hzs : zv.cells.size = size := by have := congrArg List.length hzc; simp at this; omega
  have hb : i * size + size ≤ n * size := by rw [← Nat.succ_mul]; exact Nat.mul_le_mul_right _ hi
  have hm : (i * size + k) % zv.cells.size = k := by
    rw [hzs, Nat.mul_comm, Nat.mul_add_mod]; exact Nat.mod_eq_of_lt hkl
  have hz2 : zv.cells[k]? = some x.val := by
    have := congrArg (fun l => l[k]?) hzc
    simp only [List.getElem?_map, hx, Option.map_some] at this
    rw [← this]; simp
  have hlt : i * size + k < (Array.range (n * size)).size := by simp; omega
  simp only [madeCells, Array.getElem?_map]
  rw [Array.getElem?_eq_getElem hlt]
  simp only [Array.getElem_range, Option.map_some, Option.some.injEq, hm]
  rw [getElem!_def, hz2]
theorem g_mks {T e t t' : TypeId} {L K : Operand} {l k : AO} {c0 : RC} {z : List Sc} {bytes : Nat} {res : AV × List Ob} (ho : o.op = .makeSlice T L K) (hT : C.P.underlying T = some (.slice e)) (hr : rowT C.P e = some (c0, z)) (hb : bytesT C.P e = some bytes) (hb0 : bytes ≠ 0) (hl : cOp C.P t L = some l) (hk : cOp C.P t' K = some k)
    (he : EnvR C hp.length ρ env a) (hH : HR C ρ hp w) (hF : FR C w) (h : oMks hp c0 z bytes (getO env l) (getO env k) = some res) : Good C ρ hp o a w res := by
  have hkr := rowT_ok hr
  obtain ⟨i, zv, hi, hzv, hsz, hzl, hpos, hzc⟩ := hkr.info
  have hbi : i.bytes = bytes := by simp only [bytesT, hi, Option.map_some, Option.some.injEq] at hb; exact hb
  have h1 := cOp_ok hl he
  have h2 := cOp_ok hk he
  generalize getO env l = s1 at h h1
  generalize getO env k = s2 at h h2
  generalize hv1 : a.eval L = v1 at h1
  generalize hv2 : a.eval K = v2 at h2
  obtain ⟨dst, op', type, pos, after, guard⟩ := o
  dsimp only at ho; subst ho
  unfold oMks at h
  split at h
  · rename_i k1 n k2 c
    cases h1 with | one _ _ h1 => ?_
    cases h2 with | one _ _ h2 => ?_
    cases h1; cases h2
    split at h
    · rename_i hc
      obtain ⟨q, hq, rfl⟩ := putR_row (n := 0) h
      obtain ⟨v1, v2, v3, v4, v5⟩ := RC.ofElems_ok hkr.wf hq
      have hbc : (i.bytes : Int) * c ≤ 140737488355328 := by rw [hbi, Int.mul_comm]; exact hc.2.2
      have hcc : c ≤ 140737488355328 := by
        have h3 : 1 ≤ (bytes : Int) := by omega
        have h4 : c * 1 ≤ c * (bytes : Int) := Int.mul_le_mul_of_nonneg_left h3 (by omega)
        have := hc.2.2
        omega
      have hrun := run_make (P := C.P) w T e i zv hT hi hzv k1 k2 n c hc.1 hc.2.1 (by omega) (by omega)
      rw [List.length_replicate] at v2
      refine good_row (w1 := w) (cap := c.toNat) (cur := madeCells zv.cells (c.toNat * i.size)) (T := e) (fr := (0, 0)) ?_ (.inl rfl) hH hF v4 (by rw [v2]; omega) (by simp only [maxLen]; omega) ?_ ?_ (by intro j _; simp)
      · rw [v2]
        refine val_run _ ?_
        rw [hv1, hv2]; exact hrun
      · rw [size_madeCells, hsz, v3]; exact Nat.le_refl _
      · intro j u hu
        obtain ⟨hj, _⟩ := RC.val_at v4 hu
        rw [v2, v3] at hj
        have e0 : j = (j / c0.size) * c0.size + j % c0.size := by rw [Nat.mul_comm]; exact (Nat.div_add_mod j _).symm
        have e1 : j / c0.size < n.toNat := Nat.div_lt_of_lt_mul (by rw [Nat.mul_comm]; exact hj)
        have e2 : j % c0.size < c0.size := Nat.mod_lt _ hpos
        rw [v1, e0, flat_get c0.size _ v5 _ _ (by simpa using e1) e2] at hu
        simp only [List.getD, List.getElem?_replicate, if_pos e1, Option.getD_some, Option.map_eq_some_iff] at hu
        obtain ⟨sc, hsc, rfl⟩ := hu
        rw [e0, hsz]
        exact madeCells_at hzc hzl hpos (by omega) hsc
    · simp at h
  · simp at h
theorem g_s2b {S T e t : TypeId} {X : Operand} {x : AO} {res : AV × List Ob} (ho : o.op = .convert S T X) (hS : C.P.underlying S = some .string) (hT : C.P.underlying T = some (.slice e)) (hE : C.P.underlying e = some (.int .u8)) (hx : cOp C.P t X = some x)
    (he : EnvR C hp.length ρ env a) (hH : HR C ρ hp w) (hF : FR C w) (h : oS2b hp (getO env x) = some res) : Good C ρ hp o a w res := by
  have h1 := cOp_ok hx he
  generalize getO env x = s1 at h h1
  generalize hv1 : a.eval X = v1 at h1
  obtain ⟨dst, op', type, pos, after, guard⟩ := o
  dsimp only at ho; subst ho
  unfold oS2b at h
  split at h
  · rename_i s
    cases h1 with | one _ _ h1 => ?_
    cases h1
    split at h
    · rename_i hs
      simp [Go.X.newRow] at h; subst h
      have hrun := run_bytes_of_string (P := C.P) w S T e s hS hT hE
      have hlen : (RC.ints .u8 (toBytes s)).len = s.size := by simp [RC.len, toBytes]
      have hmax : s.size ≤ maxLen := by simp only [maxLen]; omega
      have hge := grownCap_ge w s.size 0 e
      have hsz : (bytesRow s (grownCap w s.size 0 e)).size = grownCap w s.size 0 e := by
        simp [bytesRow]; omega
      refine good_row (w1 := w.drew) (cap := grownCap w s.size 0 e) (cur := bytesRow s (grownCap w s.size 0 e)) (T := e) (fr := ((bytesRow s (grownCap w s.size 0 e)).size, (bytesRow s (grownCap w s.size 0 e)).size + 1)) ?_ (.inr rfl) hH hF trivial (by rw [hlen]; exact hge) (grownCap_le_maxLen w _ _ _ hmax) ?_ ?_ (by intro j hj; simp; omega)
      · rw [hlen]
        refine val_run _ ?_
        rw [hv1]; exact hrun
      · rw [hsz]; simp [RC.size]
      · intro j u hu
        simp only [RC.vals, toBytes, List.map_map, List.getElem?_map, Option.map_eq_some_iff] at hu
        obtain ⟨b, hb, rfl⟩ := hu
        have hj : j < s.data.size := by have := (List.getElem?_eq_some_iff.1 hb).1; simpa using this
        rw [bytesRow_at s _ j hj]
        have : s.data[j] = b := by
          rw [Array.getElem?_toList, Array.getElem?_eq_getElem hj] at hb
          simpa using hb
        simp [this]
    · simp at h
  · simp at h
theorem content_ok {s : SV} {v : Value} {c : RC} (hH : HR C ρ hp w) (hF : FR C w) (hv : VR C hp.length ρ s v) (hc : content hp s = some c) (hc' : ∀ (k o n : Nat), s = .view k o n → ∀ g d, hp[k]? = some (.rows g d) → o + n ≤ d.len) :
    c.wf ∧ ∃ ad cap, v = .slice ad c.len cap ∧ (0 < c.len → ∃ b q, ad = some ⟨b, q, none⟩ ∧ ∀ (j : Nat) (u : Value), c.vals[j]? = some u → w.cell? ⟨b, q + j, none⟩ = some u) := by
  unfold content at hc
  split at hc
  · rename_i k
    unfold rowAt at hc
    split at hc <;> simp at hc
    rename_i d hd
    subst hc
    obtain ⟨hw, _, a', cap', hd'⟩ := rows_wf hH hd
    cases hv with
    | row _ ad m cap hk hh =>
      obtain ⟨rfl, _, _⟩ := rows_cap hH hd hh
      refine ⟨hw, ad, cap, rfl, fun hpos => ?_⟩
      obtain ⟨b, q, cap2, cur, T, fr, e, _, hb, _, _, _, hvals, _⟩ := row_cells hH hd hpos
      rw [hh] at e; simp at e; obtain ⟨rfl, rfl⟩ := e
      exact ⟨b, q, rfl, fun j u hu => by rw [cell_at hb]; exact hvals j u hu⟩
  · rename_i k o n
    have hc2 := hc' k o n rfl
    unfold cutAt at hc
    split at hc <;> simp at hc
    rename_i d hd
    subst hc
    obtain ⟨hw, hsz, _⟩ := rows_wf hH hd
    have hle := hc2 _ d hd
    obtain ⟨k1, k2, k3, k4⟩ := RC.cut_vals hw hle
    refine ⟨k3, ?_⟩
    rw [k1]
    cases hv with
    | viewNil _ hk hh => exact ⟨none, 0, rfl, fun h => absurd h (Nat.lt_irrefl 0)⟩
    | view _ _ _ b q len cap q' hk hh hl hlc hq hq' =>
      refine ⟨_, _, rfl, fun hpos => ?_⟩
      obtain ⟨b2, q2, cap2, cur, T, fr, e, _, hb, _, _, _, hvals, _⟩ := row_cells hH hd (by omega)
      rw [hh] at e; simp at e; obtain ⟨⟨rfl, rfl⟩, rfl, rfl⟩ := e
      refine ⟨b, q', rfl, fun j u hu => ?_⟩
      rw [k4] at hu
      rw [cell_at hb, hq (by omega), hsz, Nat.add_assoc]
      exact hvals _ _ (take_get hu)
  · simp at hc; subst hc
    cases hv with
    | ro _ _ ad cap hr hcap =>
      refine ⟨hr.1, ad, cap, rfl, fun hpos => ?_⟩
      obtain ⟨b, q, rfl, _⟩ := hr.2 hpos
      exact ⟨b, q, rfl, fun j u hu => reads_cell hF hr hu⟩
  · simp at hc; subst hc
    cases hv with
    | nils _ h0 hw => exact ⟨hw, none, 0, by rw [h0], fun h => by omega⟩
  · simp at hc
theorem view_in {k o n : Nat} {v : Value} {g : Option Nat} {d : RC} (hH : HR C ρ hp w) (hv : VR C hp.length ρ (.view k o n) v) (hd : hp[k]? = some (.rows g d)) : o + n ≤ d.len := by
  obtain ⟨_, _, a', cap', hd'⟩ := rows_wf hH hd
  cases hv with
  | viewNil _ hk hh => omega
  | view _ _ _ b q len cap q' hk hh hl hlc hq hq' => rw [hd'] at hh; simp at hh; omega
theorem content_ok' {s : SV} {v : Value} {c : RC} (hH : HR C ρ hp w) (hF : FR C w) (hv : VR C hp.length ρ s v) (hc : content hp s = some c) :
    c.wf ∧ ∃ ad cap, v = .slice ad c.len cap ∧ (0 < c.len → ∃ b q, ad = some ⟨b, q, none⟩ ∧ ∀ (j : Nat) (u : Value), c.vals[j]? = some u → w.cell? ⟨b, q + j, none⟩ = some u) :=
  content_ok hH hF hv hc (fun k o n e g d hd => by subst e; exact view_in hH hv hd)
theorem g_b2s {S T e t : TypeId} {X : Operand} {x : AO} {res : AV × List Ob} (ho : o.op = .convert S T X) (hS : C.P.underlying S = some (.slice e)) (hT : C.P.underlying T = some .string) (hE : C.P.underlying e = some (.int .u8)) (hx : cOp C.P t X = some x)
    (he : EnvR C hp.length ρ env a) (hH : HR C ρ hp w) (hF : FR C w) (h : oB2s hp (content hp (getS env x)) = some res) : Good C ρ hp o a w res := by
  have h1 := cOp_ok hx he
  obtain ⟨dst, op', type, pos, after, guard⟩ := o
  dsimp only at ho; subst ho
  unfold oB2s at h
  split at h <;> simp at h
  rename_i xs hc
  subst h
  obtain ⟨_, h2⟩ := h1.sv_of (by intro e; rw [getS, e] at hc; simp [content] at hc)
  obtain ⟨hw, ad, cap, hv, hcell⟩ := content_ok' hH hF h2 hc
  refine good_same (v := .string (ofBytes xs)) (val_run _ ?_) (.one _ _ (.str _)) hH hF
  rw [hv]
  have hl : (RC.ints .u8 xs).len = xs.length := rfl
  rcases Nat.eq_zero_or_pos xs.length with h0 | h0
  · obtain rfl : xs = [] := List.eq_nil_of_length_eq_zero h0
    cases ad with
    | none => exact run_convert_bytes_nil w S e hS hE _ _ T hT
    | some ad =>
      obtain ⟨b, off, sp⟩ := ad
      have hr : (loadCells ⟨b, off, sp⟩ 0).run C.P w = .ok #[] w := by simp [loadCells, loadCellsFrom]
      rw [run_convert_bytes_string (P := C.P) w S T e _ _ _ hS hE hT]
      simp [RC.len, Conv.bytesToString, hr, ofBytes]
      rfl
  · obtain ⟨b, q, rfl, hcell'⟩ := hcell h0
    exact run_convert_bytes_arg w S e hS hE b q _ cap xs rfl (fun i hi => hcell' i _ (by simp [RC.vals, hi, List.getD])) T hT
end
end Go.X
