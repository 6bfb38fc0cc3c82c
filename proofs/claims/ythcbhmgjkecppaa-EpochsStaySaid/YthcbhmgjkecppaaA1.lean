/- The data of an abstract run of the program's code: values by keys in place of addresses, and what each operation does to them. -/
import GoSem.Dispatch
import GoSem.Core.Code
import GoSem.Core.Program
set_option linter.unusedVariables false
namespace Go.X
/-- One cell's value that holds no address. -/
inductive Sc where
  | int (k : IntKind) (x : Int)
  | bool (b : Bool)
  | str (s : ByteArray)
  deriving DecidableEq
def Sc.val : Sc → Value
  | .int k x => .int k x
  | .bool b => .bool b
  | .str s => .string s
/-- What a row of elements holds. -/
inductive RC where
  | ints (k : IntKind) (xs : List Int)
  | strs (xs : List ByteArray)
  | bools (xs : List Bool)
  | recs (n : Nat) (xs : List (List Sc))
  deriving DecidableEq
namespace RC
def len : RC → Nat
  | ints _ xs => xs.length
  | strs xs => xs.length
  | bools xs => xs.length
  | recs _ xs => xs.length
def size : RC → Nat
  | ints _ _ => 1
  | strs _ => 1
  | bools _ => 1
  | recs n _ => n
def vals : RC → List Value
  | ints k xs => xs.map (Value.int k)
  | strs xs => xs.map Value.string
  | bools xs => xs.map Value.bool
  | recs _ xs => xs.flatMap (fun l => l.map Sc.val)
/-- Each element has as many cells as are told. -/
def wf : RC → Prop
  | recs n xs => 0 < n ∧ ∀ l ∈ xs, l.length = n
  | _ => True
def get : RC → Nat → Nat → Option Sc
  | ints k xs, i, off => if off = 0 then some (.int k (xs.getD i 0)) else none
  | strs xs, i, off => if off = 0 then some (.str (xs.getD i .empty)) else none
  | bools xs, i, off => if off = 0 then some (.bool (xs.getD i false)) else none
  | recs _ xs, i, off => (xs.getD i [])[off]?
def elem : RC → Nat → List Sc
  | ints k xs, i => [.int k (xs.getD i 0)]
  | strs xs, i => [.str (xs.getD i .empty)]
  | bools xs, i => [.bool (xs.getD i false)]
  | recs _ xs, i => xs.getD i []
def set : RC → Nat → Nat → Sc → Option RC
  | ints k xs, i, off, .int j x => if off = 0 ∧ k = j then some (ints k (xs.set i x)) else none
  | strs xs, i, off, .str x => if off = 0 then some (strs (xs.set i x)) else none
  | bools xs, i, off, .bool x => if off = 0 then some (bools (xs.set i x)) else none
  | recs n xs, i, off, c => if off < n then some (recs n (xs.set i ((xs.getD i []).set off c))) else none
  | _, _, _, _ => none
def cut : RC → Nat → Nat → RC
  | ints k xs, a, n => ints k ((xs.drop a).take n)
  | strs xs, a, n => strs ((xs.drop a).take n)
  | bools xs, a, n => bools ((xs.drop a).take n)
  | recs m xs, a, n => recs m ((xs.drop a).take n)
def app : RC → RC → Option RC
  | ints k xs, ints j ys => if k = j then some (ints k (xs ++ ys)) else none
  | strs xs, strs ys => some (strs (xs ++ ys))
  | bools xs, bools ys => some (bools (xs ++ ys))
  | recs n xs, recs m ys => if n = m then some (recs n (xs ++ ys)) else none
  | _, _ => none
/-- Elements, the last one first, behind an empty row of the kind. -/
def ofElems : RC → List (List Sc) → Option RC
  | ints k _, l => (l.mapM (fun e => match e with | [Sc.int j x] => if k = j then some x else none | _ => none)).map (ints k)
  | strs _, l => (l.mapM (fun e => match e with | [Sc.str x] => some x | _ => none)).map strs
  | bools _, l => (l.mapM (fun e => match e with | [Sc.bool x] => some x | _ => none)).map bools
  | recs n _, l => if l.all (fun e => e.length == n) then some (recs n l) else none
end RC
inductive SV where
  | undef
  | int (k : IntKind) (x : Int)
  | bool (b : Bool)
  | str (s : ByteArray)
  | nilp
  | ptr (key off : Nat)
  | eptr (key i off : Nat)
  | row (key : Nat)
  | view (key off len : Nat)
  | cview (key off n : Nat)
  | ro (tag : Nat) (c : RC)
  | rptr (tag : Nat) (c : RC) (i off : Nat)
  | nils (c0 : RC)
  | nilf
  | fn (f : Nat) (caps : List SV)
def Sc.sv : Sc → SV
  | .int k x => .int k x
  | .bool b => .bool b
  | .str s => .str s
def SV.sc : SV → Option Sc
  | .int k x => some (.int k x)
  | .bool b => some (.bool b)
  | .str s => some (.str s)
  | _ => none
inductive AV where
  | one (v : SV)
  | agg (l : List SV)
  | tup (l : List AV)
def AV.cells : AV → List SV
  | .one v => [v]
  | .agg l => l
  | .tup _ => [.undef]
/-- An object: cells (and, of one that was handed in, its number), a row's elements, or nothing any more. -/
inductive Ob where
  | cells (org : Option Nat) (l : List SV)
  | rows (g : Option Nat) (c : RC)
  | dead
abbrev Env := List (Nat × AV)
/-- A state: what temporaries hold, what was handed in, the objects. -/
structure St where
  env : Env
  rts : List SV
  hp : List Ob
inductive AO where
  | tmp (t : Nat)
  | const (v : AV)
/-- A cell of a new variable: a value, or a slice that is nil. -/
inductive ZV where
  | sv (v : SV)
  | nil (c0 : RC)
inductive AOp where
  | mv (x : AO)
  | newNil (c0 : RC)
  | pick (c a b : AO)
  | alloc (z : List ZV)
  | box (x : AO)
  | build (z : List ZV) (ps : List ((Nat × Nat) × AO))
  | bslice (c0 : RC) (zero : List Sc) (len : Nat) (ps : List (Nat × AO))
  | load (n : Option Nat) (x : AO)
  | store (n : Nat) (x v : AO)
  | storeNil (c0 : RC) (x : AO)
  | nilCheck (x : AO)
  | bin (op : BinOp) (x y : AO)
  | eqNil (neq : Bool) (x : AO)
  | eqAgg (neq : Bool) (z : List Sc) (x y : AO)
  | eqB (neq : Bool) (x y : AO)
  | un (op : UnOp) (x : AO)
  | conv (k : IntKind) (x : AO)
  | sconv (x : AO)
  | s2b (x : AO)
  | b2s (x : AO)
  | cutS (x : AO) (lo hi : Option AO)
  | cutR (size : Nat) (x : AO) (lo hi : Option AO)
  | cutA (n : Nat) (x : AO) (lo hi : Option AO)
  | fadr (off : Nat) (x : AO)
  | fld (off : Nat) (n : Option Nat) (x : AO)
  | iadrR (size : Nat) (x i : AO)
  | iadrA (len size : Nat) (x i : AO)
  | idxA (len size : Nat) (n : Option Nat) (x i : AO)
  | idxS (x i : AO)
  | extract (i : Nat) (x : AO)
  | call (f : Nat) (args : List AO)
  | callo (f : Nat) (args : List AO)
  | calli (f : Nat) (args : List AO)
  | pcall (f : Nat) (args : List AO)
  | callv (x : AO) (args : List AO)
  | lenS (x : AO)
  | len (x : AO)
  | append (c0 : RC) (bytes : Nat) (s x : AO)
  | appZ (c0 : RC) (zero : List Sc) (bytes : Nat) (s n : AO)
  | copy (d s : AO)
  | min (l : List AO)
  | max (l : List AO)
  | mkfn (f : Nat) (caps : List AO)
  | mks (c0 : RC) (zero : List Sc) (bytes : Nat) (len cap : AO)
  | bad
structure AI where
  dst : Option Nat
  guard : Option (Nat × Bool)
  op : AOp
inductive AC where
  | skip
  | ops (l : List AI)
  | opsD (l : List (AI × Bool)) (ck : List (Nat × List Nat))
  | opsF (l : List (AI × Bool × Option Nat)) (ck : List (Nat × List Nat)) (cf : List (Nat × List Nat))
  | seq (a b : AC)
  | cond (c : AO) (a b : AC)
  | block (id : Nat) (a : AC)
  | loop (live : List Nat) (a : AC)
  | exit (id : Nat)
  | scope (a : AC)
  | ret
structure AF where
  results : List (Nat × Option (Option Nat))
  body : AC

/-! ### values -/
def getT (t : Nat) : Env → AV
  | [] => .one .undef
  | (k, v) :: l => if t = k then v else getT t l
def getO (env : Env) : AO → AV
  | .tmp t => getT t env
  | .const v => v
def putE (env : Env) : Option Nat → AV → Env
  | none, _ => env
  | some d, v => (d, v) :: env
def AV.sv : AV → SV
  | .one v => v
  | _ => .undef
def getS (env : Env) (x : AO) : SV := (getO env x).sv
def getSo (env : Env) : Option AO → Option SV
  | none => none
  | some x => some (getS env x)

/-! ### integers -/
def bitsI (op : BinOp) (k : IntKind) (x y : Int) : Int :=
  match op with
  | .and => k.wrap ((BitVec.ofInt k.bits x &&& BitVec.ofInt k.bits y).toNat)
  | .or => k.wrap ((BitVec.ofInt k.bits x ||| BitVec.ofInt k.bits y).toNat)
  | .xor => k.wrap ((BitVec.ofInt k.bits x ^^^ BitVec.ofInt k.bits y).toNat)
  | _ => k.wrap ((BitVec.ofInt k.bits x &&& ~~~BitVec.ofInt k.bits y).toNat)
def shlI (k : IntKind) (x y : Int) : Int := k.wrap (x * 2 ^ Nat.min y.toNat k.bits)
def shrI (k : IntKind) (x y : Int) : Int := x.fdiv (2 ^ Nat.min y.toNat k.bits)
def binI (op : BinOp) (k : IntKind) (x y : Int) : Option SV :=
  match op with
  | .add => some (.int k (k.wrap (x + y)))
  | .sub => some (.int k (k.wrap (x - y)))
  | .mul => some (.int k (k.wrap (x * y)))
  | .quo => if y = 0 then none else some (.int k (k.wrap (x.tdiv y)))
  | .rem => if y = 0 then none else some (.int k (x.tmod y))
  | .and => some (.int k (bitsI .and k x y))
  | .or => some (.int k (bitsI .or k x y))
  | .xor => some (.int k (bitsI .xor k x y))
  | .andNot => some (.int k (bitsI .andNot k x y))
  | .eql => some (.bool (x == y))
  | .neq => some (.bool (x != y))
  | .lss => some (.bool (decide (x < y)))
  | .leq => some (.bool (decide (x ≤ y)))
  | .gtr => some (.bool (decide (y < x)))
  | .geq => some (.bool (decide (y ≤ x)))
  | _ => none
def binS (op : BinOp) (x y : ByteArray) : Option SV :=
  match op with
  | .add => if x.size + y.size ≤ 9223372036854775807 then some (.str (x ++ y)) else none
  | .eql => some (.bool (x.toList == y.toList))
  | .neq => some (.bool (!(x.toList == y.toList)))
  | _ => none
def bin (op : BinOp) : SV → SV → Option SV
  | .int k x, .int j y =>
    match op with
    | .shl => if y < 0 then none else some (.int k (shlI k x y))
    | .shr => if y < 0 then none else some (.int k (shrI k x y))
    | op => if k = j then binI op k x y else none
  | .str x, .str y => binS op x y
  | _, _ => none
def eqSc : Sc → SV → SV → Option Bool
  | .int _ _, .int k x, .int j y => if k = j then some (x == y) else none
  | .bool _, .bool x, .bool y => some (x == y)
  | .str _, .str x, .str y => some (x == y)
  | _, _, _ => none
/-- Cell by cell, of the kinds that are told. -/
def eqScs : List Sc → List SV → List SV → Option Bool
  | [], [], [] => some true
  | z :: zs, x :: xs, y :: ys => (eqSc z x y).bind fun a => (eqScs zs xs ys).map fun b => a && b
  | _, _, _ => none
def un (op : UnOp) : SV → Option SV
  | .int k x => match op with
    | .neg => some (.int k (k.wrap (0 - x)))
    | .xor => some (.int k (bitsI .xor k (if k.signed then -1 else k.max) x))
    | _ => none
  | .bool b => match op with
    | .not => some (.bool (!b))
    | _ => none
  | _ => none

/-! ### strings and bytes -/
def ofBytes (xs : List Int) : ByteArray := ⟨(xs.map fun x => UInt8.ofNat x.toNat).toArray⟩
def toBytes (s : ByteArray) : List Int := s.data.toList.map fun b => (b.toNat : Int)

/-! ### slices -/
def rowAt : Option Ob → Option RC
  | some (.rows _ c) => some c
  | _ => none
def cutAt (o n : Nat) : Option Ob → Option RC
  | some (.rows _ c) => some (c.cut o n)
  | _ => none
/-- What a slice reads. -/
def content (hp : List Ob) : SV → Option RC
  | .row k => rowAt hp[k]?
  | .view k o n => cutAt o n hp[k]?
  | .ro _ c => some c
  | .nils c => some c
  | _ => none
def sizeAt : Option Ob → Option Nat
  | some (.rows _ c) => some c.size
  | _ => none
/-- How many cells an element of a slice has. -/
def sizeOf (hp : List Ob) : SV → Option Nat
  | .row k => sizeAt hp[k]?
  | .view k _ _ => sizeAt hp[k]?
  | .cview _ _ _ => some 1
  | .ro _ c => some c.size
  | .nils c => some c.size
  | _ => none
def lenAt : Option Ob → Option Nat
  | some (.rows _ c) => some c.len
  | _ => none
def lenOf (hp : List Ob) : SV → Option Nat
  | .row k => lenAt hp[k]?
  | .view _ _ n => some n
  | .cview _ _ n => some n
  | .ro _ c => some c.len
  | .nils _ => some 0
  | _ => none
abbrev Res := Option (AV × List Ob)
def newRow (hp : List Ob) (c : RC) : Res := some (.one (.row hp.length), hp ++ [.rows none c])
/-- Cells of a new variable: each nil slice is a row of its own. -/
def zcells : List ZV → List Ob → List SV × List Ob
  | [], hp => ([], hp)
  | .sv v :: z, hp => (v :: (zcells z hp).1, (zcells z hp).2)
  | .nil c :: z, hp => (.row hp.length :: (zcells z (hp ++ [.rows none c])).1, (zcells z (hp ++ [.rows none c])).2)
def putAt (l : List SV) (off : Nat) : List SV → List SV
  | [] => l
  | v :: vs => putAt (l.set off v) (off + 1) vs
def optInt (d : Nat) : Option SV → Option Int
  | none => some d
  | some (.int _ x) => some x
  | _ => none
/-- The source of an append. -/
def source (hp : List Ob) (c0 : RC) : SV → Option RC
  | .str s => match c0 with
    | .ints .u8 _ => some (.ints .u8 (toBytes s))
    | _ => none
  | v => content hp v
def keyOf : SV → Option Nat
  | .row k => some k
  | .view k _ _ => some k
  | _ => none
def putR (hp : List Ob) : Option RC → Res
  | none => none
  | some c => newRow hp c
def app3 (hp : List Ob) (c0 : RC) (bytes k : Nat) (y : RC) : Option RC → Res
  | none => none
  | some c => if (c.len + y.len) * bytes ≤ 140737488355328 ∧ c.size = c0.size ∧ y.size = c0.size then putR (hp.set k .dead) (c.app y) else none
def app2 (hp : List Ob) (c0 : RC) (bytes : Nat) (s x : SV) (y : RC) : Res :=
  match s with
  | .nils _ => if y.len * bytes ≤ 140737488355328 ∧ y.size = c0.size then putR hp (RC.app c0 y) else none
  | .row k => if keyOf x = some k then none else app3 hp c0 bytes k y (rowAt hp[k]?)
  | .view k o n => if keyOf x = some k then none else app3 hp c0 bytes k y (cutAt o n hp[k]?)
  | _ => none
def app1 (hp : List Ob) (c0 : RC) (bytes : Nat) (s x : SV) : Option RC → Res
  | none => none
  | some y => app2 hp c0 bytes s x y
def append (hp : List Ob) (c0 : RC) (bytes : Nat) (s x : SV) : Res := app1 hp c0 bytes s x (source hp c0 x)

/-- So many zeros more. -/
def oAppZ (hp : List Ob) (c0 : RC) (zero : List Sc) (bytes : Nat) (s : SV) : AV → Res
  | .one (.int _ l) => if 0 ≤ l ∧ l * bytes ≤ 140737488355328 then app1 hp c0 bytes s .undef (RC.ofElems c0 (List.replicate l.toNat zero)) else none
  | _ => none

/-! ### memory -/
def scSV : Option Sc → Option SV
  | none => none
  | some c => some c.sv
def loadP (b : Option Ob) (o : Nat) : Option SV :=
  match b with
  | some (.cells _ l) => l[o]?
  | _ => none
def loadE (b : Option Ob) (i o : Nat) : Option SV :=
  match b with
  | some (.rows _ c) => scSV (c.get i o)
  | _ => none
def loadOne (hp : List Ob) : SV → Option SV
  | .ptr k o => loadP hp[k]? o
  | .eptr k i o => loadE hp[k]? i o
  | .rptr _ c i o => scSV (c.get i o)
  | _ => none
def takeE (c : RC) (n i o : Nat) : Option (List SV) := if o + n ≤ c.size then some ((((c.elem i).drop o).take n).map Sc.sv) else none
def loadPN (b : Option Ob) (n o : Nat) : Option (List SV) :=
  match b with
  | some (.cells _ l) => if o + n ≤ l.length then some ((l.drop o).take n) else none
  | _ => none
def loadEN (b : Option Ob) (n i o : Nat) : Option (List SV) :=
  match b with
  | some (.rows _ c) => takeE c n i o
  | _ => none
def loadN (hp : List Ob) (n : Nat) : SV → Option (List SV)
  | .ptr k o => loadPN hp[k]? n o
  | .eptr k i o => loadEN hp[k]? n i o
  | .rptr _ c i o => takeE c n i o
  | _ => none
def okCell : SV → Bool
  | .undef => false
  | _ => true
def setScs (c : RC) (i off : Nat) : List SV → Option RC
  | [] => some c
  | v :: vs => (v.sc).bind fun s => (c.set i off s).bind fun c' => setScs c' i (off + 1) vs
def rowsH (hp : List Ob) (k : Nat) (g : Option Nat) : Option RC → Option (List Ob)
  | none => none
  | some c => some (hp.set k (.rows g c))
def storeP (hp : List Ob) (k : Nat) (vs : List SV) (o : Nat) : Option Ob → Option (List Ob)
  | some (.cells g l) => if o + vs.length ≤ l.length ∧ vs.all okCell = true then some (hp.set k (.cells g (putAt l o vs))) else none
  | _ => none
def storeE (hp : List Ob) (k : Nat) (vs : List SV) (i o : Nat) : Option Ob → Option (List Ob)
  | some (.rows g c) => rowsH hp k g (setScs c i o vs)
  | _ => none
def storeCells (hp : List Ob) (vs : List SV) : SV → Option (List Ob)
  | .ptr k o => storeP hp k vs o hp[k]?
  | .eptr k i o => storeE hp k vs i o hp[k]?
  | _ => none

/-! ### which objects are reached; new numbers for them -/
mutual
def reachSV (hp : List Ob) : Nat → SV → List Nat → List Nat
  | 0, _, ks => ks
  | f + 1, .ptr k _, ks => if ks.elem k then ks else reachOb hp f hp[k]? k ks
  | f + 1, .eptr k _ _, ks => if ks.elem k then ks else reachOb hp f hp[k]? k ks
  | f + 1, .row k, ks => if ks.elem k then ks else reachOb hp f hp[k]? k ks
  | f + 1, .view k _ _, ks => if ks.elem k then ks else reachOb hp f hp[k]? k ks
  | f + 1, .cview k _ _, ks => if ks.elem k then ks else reachOb hp f hp[k]? k ks
  | f + 1, .fn _ caps, ks => reachL hp f caps ks
  | _ + 1, _, ks => ks
def reachOb (hp : List Ob) : Nat → Option Ob → Nat → List Nat → List Nat
  | f + 1, some (.cells _ l), k, ks => reachL hp f l (ks ++ [k])
  | 0, some (.cells _ _), k, ks => ks ++ [k]
  | _, some (.rows _ _), k, ks => ks ++ [k]
  | _, _, _, ks => ks
def reachL (hp : List Ob) : Nat → List SV → List Nat → List Nat
  | f + 1, v :: l, ks => reachL hp f l (reachSV hp f v ks)
  | _, _, ks => ks
end
def pos (k : Nat) : List Nat → Option Nat
  | [] => none
  | j :: ks => if k = j then some 0 else (pos k ks).map (· + 1)
def posPtr (o : Nat) : Option Nat → SV
  | some j => .ptr j o
  | none => .undef
def posEptr (i o : Nat) : Option Nat → SV
  | some j => .eptr j i o
  | none => .undef
def posRow : Option Nat → SV
  | some j => .row j
  | none => .undef
def posView (o n : Nat) : Option Nat → SV
  | some j => .view j o n
  | none => .undef
def posCview (o n : Nat) : Option Nat → SV
  | some j => .cview j o n
  | none => .undef
mutual
/-- A value, its keys turned by f. -/
def SV.ren (f : Nat → Option Nat) : SV → SV
  | .ptr k o => posPtr o (f k)
  | .eptr k i o => posEptr i o (f k)
  | .row k => posRow (f k)
  | .view k o n => posView o n (f k)
  | .cview k o n => posCview o n (f k)
  | .fn g caps => .fn g (renL f caps)
  | .undef => .undef
  | .int k x => .int k x
  | .bool b => .bool b
  | .str s => .str s
  | .nilp => .nilp
  | .ro t c => .ro t c
  | .rptr t c i o => .rptr t c i o
  | .nils c => .nils c
  | .nilf => .nilf
def renL (f : Nat → Option Nat) : List SV → List SV
  | [] => []
  | v :: l => SV.ren f v :: renL f l
end
mutual
def AV.ren (f : Nat → Option Nat) : AV → AV
  | .one v => .one (v.ren f)
  | .agg l => .agg (renL f l)
  | .tup l => .tup (renT f l)
def renT (f : Nat → Option Nat) : List AV → List AV
  | [] => []
  | v :: l => AV.ren f v :: renT f l
end
def Env.ren (f : Nat → Option Nat) : Env → Env
  | [] => []
  | p :: e => (p.1, p.2.ren f) :: Env.ren f e
def Ob.ren (f : Nat → Option Nat) : Ob → Ob
  | .cells g l => .cells g (renL f l)
  | .rows g c => .rows g c
  | .dead => .dead
def Ob.ofOpt : Option Ob → Ob
  | some o => o
  | none => .dead
/-- The objects that are told, in that order, with new numbers. -/
def pick (hp : List Ob) (f : Nat → Option Nat) : List Nat → List Ob
  | [] => []
  | k :: ks => (Ob.ofOpt hp[k]?).ren f :: pick hp f ks
def posF (ks : List Nat) (k : Nat) : Option Nat := pos k ks

/-! ### calls -/
mutual
def avCells : AV → List SV
  | .one v => [v]
  | .agg l => l
  | .tup l => avsCells l
def avsCells : List AV → List SV
  | [] => []
  | v :: l => avCells v ++ avsCells l
end
/-- Of an argument only pointers and functions hand memory over: a slice is read. -/
def handed : List SV → List SV
  | [] => []
  | .row _ :: l => handed l
  | .view _ _ _ :: l => handed l
  | .cview _ _ _ :: l => handed l
  | .eptr _ _ _ :: l => handed l
  | v :: l => v :: handed l
def intsOf (k : IntKind) : List SV → Option (List Int)
  | [] => some []
  | .int j x :: l => if j = k then (intsOf k l).map (x :: ·) else none
  | _ => none
/-- Cells one behind the other, as a row. -/
def rcCells : List SV → Option RC
  | .int k x :: l => (intsOf k l).map (fun xs => .ints k (x :: xs))
  | _ => none
def cviewAt (o n : Nat) : Option Ob → Option RC
  | some (.cells _ l) => if o + n ≤ l.length then rcCells ((l.drop o).take n) else none
  | _ => none
def roOf (t : Nat) (v : SV) : Option RC → SV
  | some c => .ro t c
  | none => v
mutual
/-- Without what is read of memory that lies elsewhere. -/
def SV.strip : SV → SV
  | .ro _ _ => .undef
  | .rptr _ _ _ _ => .undef
  | .fn f caps => .fn f (stripL caps)
  | .undef => .undef
  | .int k x => .int k x
  | .bool b => .bool b
  | .str s => .str s
  | .nilp => .nilp
  | .ptr k o => .ptr k o
  | .eptr k i o => .eptr k i o
  | .row k => .row k
  | .view k o n => .view k o n
  | .cview k o n => .cview k o n
  | .nils c => .nils c
  | .nilf => .nilf
def stripL : List SV → List SV
  | [] => []
  | v :: l => SV.strip v :: stripL l
end
def Ob.strip : Ob → Ob
  | .cells g l => .cells g (stripL l)
  | .rows g c => .rows g c
  | .dead => .dead
/-- A slice that is not handed over with a pointer is what it reads. -/
def SV.lend (hp : List Ob) (ks : List Nat) (t : Nat) : SV → SV
  | .row k => if ks.elem k then .row k else roOf t .undef (rowAt hp[k]?)
  | .view k o n => if ks.elem k then .view k o n else roOf t .undef (cutAt o n hp[k]?)
  | .ro _ c => .ro t c
  | .rptr _ c i o => .rptr t c i o
  | .eptr k i o => if ks.elem k then .eptr k i o else .undef
  | .cview k o n => if ks.elem k then .cview k o n else roOf t .undef (cviewAt o n hp[k]?)
  | v => v.strip
def lendL (hp : List Ob) (ks : List Nat) (t : Nat) : List SV → List SV
  | [] => []
  | v :: l => v.lend hp ks t :: lendL hp ks (t + 1) l
def AV.lend (hp : List Ob) (ks : List Nat) (t : Nat) : AV → AV
  | .one v => .one (v.lend hp ks t)
  | .agg l => .agg (lendL hp ks t l)
  | .tup _ => .one .undef
def lendArgs (hp : List Ob) (ks : List Nat) (t : Nat) : List AV → List AV
  | [] => []
  | v :: l => (v.lend hp ks t).ren (posF ks) :: lendArgs hp ks (t + v.cells.length) l
/-- The cells of the arguments; by their place a slice that is lent bears its number. -/
def argCells : List AV → List SV
  | [] => []
  | v :: l => v.cells ++ argCells l
/-- Objects that are handed over bear their numbers. -/
def Ob.tag (m : Bool) (i : Nat) : Ob → Ob
  | .rows _ c => .rows (if m = true then some i else none) c
  | .cells _ l => .cells (some i) l
  | o => o
def tagAll (m : Bool) (i : Nat) : List Ob → List Ob
  | [] => []
  | o :: l => (o.tag m i).strip :: tagAll m (i + 1) l
/-- What a function comes to: of its arguments and the objects that they lead to: its result, and the objects behind it. -/
abbrev Callee := List AV → List Ob → Res
/-- The caller's keys of the objects that come back: their own, or new ones from n on. -/
def backKeys (ks : List Nat) (n : Nat) : List Ob → List Nat
  | [] => []
  | .cells (some i) _ :: l => ks.getD i 0 :: backKeys ks n l
  | .rows (some i) _ :: l => ks.getD i 0 :: backKeys ks n l
  | _ :: l => n :: backKeys ks (n + 1) l
def killAll (hp : List Ob) : List Nat → List Ob
  | [] => hp
  | k :: ks => killAll (hp.set k .dead) ks
def orgOf : Option Ob → Option Nat
  | some (.cells g _) => g
  | some (.rows g _) => g
  | _ => none
def roArg (t : Nat) (c : RC) : Option SV → SV
  | some (.ro t' _) => .ro t' c
  | _ => .undef
/-- What comes back reads of an argument that the caller reads itself. -/
def SV.back (cs : List SV) : SV → SV
  | .ro t c => roArg t c cs[t]?
  | v => v.strip
def backL (cs : List SV) : List SV → List SV
  | [] => []
  | v :: l => v.back cs :: backL cs l
mutual
def AV.back (cs : List SV) : AV → AV
  | .one v => .one (v.back cs)
  | .agg l => .agg (backL cs l)
  | .tup l => .tup (backT cs l)
def backT (cs : List SV) : List AV → List AV
  | [] => []
  | v :: l => AV.back cs v :: backT cs l
end
def Ob.back (cs : List SV) : Ob → Ob
  | .cells g l => .cells g (backL cs l)
  | .rows g c => .rows g c
  | .dead => .dead
/-- The objects laid back: hp0: as it was ahead of the call; hp: as it comes to be. -/
def layBack (hp0 : List Ob) (ks : List Nat) (f : Nat → Option Nat) (cs : List SV) : List Ob → List Ob → List Ob
  | [], hp => hp
  | .cells (some i) l :: os, hp => layBack hp0 ks f cs os (hp.set (ks.getD i 0) (.cells (orgOf hp0[ks.getD i 0]?) (renL f (backL cs l))))
  | .rows (some i) c :: os, hp => layBack hp0 ks f cs os (hp.set (ks.getD i 0) (.rows (orgOf hp0[ks.getD i 0]?) c))
  | o :: os, hp => layBack hp0 ks f cs os (hp ++ [(o.back cs).ren f])
def backF (ks : List Nat) (n : Nat) (os : List Ob) (j : Nat) : Option Nat := (backKeys ks n os)[j]?
def comeBack (hp : List Ob) (ks : List Nat) (args : List AV) : Res → Res
  | none => none
  | some (r, os) => some ((r.back (argCells args)).ren (backF ks hp.length os), layBack hp ks (backF ks hp.length os) (argCells args) os (killAll hp ks))
def callKs (m : Bool) (Γ : Nat → Callee) (hp : List Ob) (f : Nat) (args : List AV) (ks : List Nat) : Res :=
  comeBack hp ks args (Γ f (lendArgs hp ks 0 args) (tagAll m 0 (pick hp (posF ks) ks)))
def handKs (hp : List Ob) (args : List AV) : List Nat := reachL hp 64 (handed (avsCells args)) []
def callee (Γ : Nat → Callee) (hp : List Ob) (f : Nat) (args : List AV) : Res := callKs false Γ hp f args (handKs hp args)

/-- Values that hold no memory. -/
def SV.plain : SV → Bool
  | .int _ _ => true
  | .bool _ => true
  | .str _ => true
  | _ => false
def plainL : List SV → Bool
  | [] => true
  | v :: l => v.plain && plainL l
mutual
def AV.plain : AV → Bool
  | .one v => v.plain
  | .agg l => plainL l
  | .tup l => plainT l
def plainT : List AV → Bool
  | [] => true
  | v :: l => AV.plain v && plainT l
end
def plainArgs : List AV → Bool
  | [] => true
  | .one v :: l => v.plain && plainArgs l
  | .agg m :: l => plainL m && plainArgs l
  | .tup _ :: _ => false
def plainOut (hp : List Ob) : Res → Res
  | some (r, []) => if r.plain = true then some (r, hp) else none
  | _ => none
/-- A call that is handed no memory, and hands none back. -/
def pureCall (Γ : Nat → Callee) (hp : List Ob) (f : Nat) (args : List AV) : Res := if plainArgs args = true then plainOut hp (Γ f args []) else none

/-! ### operations -/
def put1 (hp : List Ob) : Option SV → Res
  | none => none
  | some v => some (.one v, hp)
def putA (hp : List Ob) : Option AV → Res
  | none => none
  | some v => some (v, hp)
def putL (hp : List Ob) : Option (List SV) → Res
  | none => none
  | some l => some (.agg l, hp)
def putH : Option (List Ob) → Res
  | none => none
  | some h => some (.one .undef, h)
def putB (hp : List Ob) (neq : Bool) : Option Bool → Res
  | none => none
  | some b => some (.one (.bool (if neq = true then !b else b)), hp)
def inBounds (i : Int) (n : Nat) : Bool := decide (0 ≤ i) && decide (i < n)
def takeAV (l : List SV) (off : Nat) : Option Nat → Option AV
  | none => (l[off]?).map AV.one
  | some n => if off + n ≤ l.length then some (.agg ((l.drop off).take n)) else none
def oPick (hp : List Ob) (a b : AV) : AV → Res
  | .one (.bool t) => some (if t = true then a else b, hp)
  | _ => none
def oNilCheck (hp : List Ob) : AV → Res
  | .one (.ptr k o) => some (.one (.ptr k o), hp)
  | .one (.eptr k i o) => some (.one (.eptr k i o), hp)
  | .one (.rptr t c i o) => some (.one (.rptr t c i o), hp)
  | .one (.fn f caps) => some (.one (.fn f caps), hp)
  | _ => none
def oEqNil (hp : List Ob) (neq : Bool) : AV → Res
  | .one .nilp => some (.one (.bool (!neq)), hp)
  | .one (.ptr _ _) => some (.one (.bool neq), hp)
  | .one (.eptr _ _ _) => some (.one (.bool neq), hp)
  | _ => none
def oEqAgg (hp : List Ob) (neq : Bool) (z : List Sc) : AV → AV → Res
  | .agg l, .agg m => putB hp neq (eqScs z l m)
  | _, _ => none
def oEqB (hp : List Ob) (neq : Bool) : AV → AV → Res
  | .one (.bool x), .one (.bool y) => putB hp neq (some (x == y))
  | _, _ => none
def oConv (hp : List Ob) (k : IntKind) : AV → Res
  | .one (.int _ n) => some (.one (.int k (k.wrap n)), hp)
  | _ => none
def oSconv (hp : List Ob) : AV → Res
  | .one (.str s) => some (.one (.str s), hp)
  | _ => none
def oS2b (hp : List Ob) : AV → Res
  | .one (.str s) => if s.size ≤ 140737488355328 then newRow hp (.ints .u8 (toBytes s)) else none
  | _ => none
def oB2s (hp : List Ob) : Option RC → Res
  | some (.ints .u8 xs) => some (.one (.str (ofBytes xs)), hp)
  | _ => none
def cutS2 (hp : List Ob) (s : ByteArray) : Option Int → Option Int → Res
  | some a, some b => if 0 ≤ a ∧ a ≤ b ∧ b ≤ s.size then some (.one (.str (s.extract a.toNat b.toNat)), hp) else none
  | _, _ => none
def oCutS (hp : List Ob) (lo hi : Option SV) : AV → Res
  | .one (.str s) => cutS2 hp s (optInt 0 lo) (optInt s.size hi)
  | _ => none
def cutSV (a n : Nat) : SV → Option SV
  | .row k => some (.view k a n)
  | .view k o _ => some (.view k (o + a) n)
  | .cview k o _ => some (.cview k (o + a) n)
  | .ro t c => some (.ro t (c.cut a n))
  | .nils c => some (.nils c)
  | _ => none
def cutR2 (hp : List Ob) (x : SV) (n : Nat) : Option Int → Option Int → Res
  | some a, some b => if 0 ≤ a ∧ a ≤ b ∧ b ≤ n then put1 hp (cutSV a.toNat (b.toNat - a.toNat) x) else none
  | _, _ => none
def oCutR (hp : List Ob) (lo hi : Option SV) (x : SV) : Option Nat → Res
  | some n => cutR2 hp x n (optInt 0 lo) (optInt n hi)
  | none => none
def cutA2 (hp : List Ob) (n k o : Nat) : Option Int → Option Int → Res
  | some a, some b => if 0 ≤ a ∧ a ≤ b ∧ b ≤ n then some (.one (.cview k (o + a.toNat) (b.toNat - a.toNat)), hp) else none
  | _, _ => none
def oCutA (hp : List Ob) (n : Nat) (lo hi : Option SV) : AV → Res
  | .one (.ptr k o) => cutA2 hp n k o (optInt 0 lo) (optInt n hi)
  | _ => none
def oFadr (hp : List Ob) (off : Nat) : AV → Res
  | .one (.ptr k o) => some (.one (.ptr k (o + off)), hp)
  | .one (.eptr k i o) => some (.one (.eptr k i (o + off)), hp)
  | .one (.rptr t c i o) => some (.one (.rptr t c i (o + off)), hp)
  | _ => none
def oFld (hp : List Ob) (off : Nat) (n : Option Nat) : AV → Res
  | .agg l => putA hp (takeAV l off n)
  | _ => none
def elemPtr (i : Nat) : SV → Option SV
  | .row k => some (.eptr k i 0)
  | .view k o _ => some (.eptr k (o + i) 0)
  | .cview k o _ => some (.ptr k (o + i))
  | .ro t c => some (.rptr t c i 0)
  | _ => none
def oIadrR (hp : List Ob) (x : SV) : Option Nat → AV → Res
  | some n, .one (.int _ i) => if inBounds i n = true then put1 hp (elemPtr i.toNat x) else none
  | _, _ => none
def oIadrA (hp : List Ob) (len size : Nat) : AV → AV → Res
  | .one (.ptr k o), .one (.int _ i) => if inBounds i len = true then some (.one (.ptr k (o + i.toNat * size)), hp) else none
  | _, _ => none
def oIdxA (hp : List Ob) (len size : Nat) (n : Option Nat) : AV → AV → Res
  | .agg l, .one (.int _ i) => if inBounds i len = true then putA hp (takeAV l (i.toNat * size) n) else none
  | _, _ => none
def oIdxS (hp : List Ob) : AV → AV → Res
  | .one (.str s), .one (.int _ i) => if inBounds i s.size = true then some (.one (.int .u8 ((toBytes s).getD i.toNat 0)), hp) else none
  | _, _ => none
def oExtract (hp : List Ob) (i : Nat) : AV → Res
  | .tup l => putA hp l[i]?
  | _ => none
def oCallv (Γ : Nat → Callee) (hp : List Ob) (args : List AV) : AV → Res
  | .one (.fn f caps) => callKs true Γ hp f (args ++ caps.map AV.one) (handKs hp (args ++ caps.map AV.one))
  | _ => none
def oLen (hp : List Ob) : Option Nat → Res
  | some n => some (.one (.int .i64 n), hp)
  | none => none
def oLenS (hp : List Ob) : AV → Res
  | .one (.str s) => some (.one (.int .i64 s.size), hp)
  | _ => none
def oMin (hp : List Ob) : List AV → Res
  | [.one (.int k x), .one (.int _ y)] => some (.one (.int k (if y < x then y else x)), hp)
  | _ => none
def oMax (hp : List Ob) : List AV → Res
  | [.one (.int k x), .one (.int _ y)] => some (.one (.int k (if x < y then y else x)), hp)
  | _ => none
def oMks (hp : List Ob) (c0 : RC) (zero : List Sc) (bytes : Nat) : AV → AV → Res
  | .one (.int _ n), .one (.int _ c) => if 0 ≤ n ∧ n ≤ c ∧ c * bytes ≤ 140737488355328 then putR hp (RC.ofElems c0 (List.replicate n.toNat zero)) else none
  | _, _ => none
def scsOf : List SV → Option (List Sc)
  | [] => some []
  | v :: l => (v.sc).bind fun s => (scsOf l).map (s :: ·)
def partAt (zero : List Sc) (i : Nat) : List (Nat × AV) → Option (List Sc)
  | [] => some zero
  | (j, v) :: ps => if j = i then scsOf v.cells else partAt zero i ps
def bsFrom (zero : List Sc) (ps : List (Nat × AV)) : Nat → Nat → Option (List (List Sc))
  | _, 0 => some []
  | i, n + 1 => (partAt zero i ps).bind fun e => (bsFrom zero ps (i + 1) n).map (e :: ·)
def ofElemsO (c0 : RC) : Option (List (List Sc)) → Option RC
  | none => none
  | some l => RC.ofElems c0 l
def fillAll (l : List SV) : List ((Nat × Nat) × AV) → Option (List SV)
  | [] => some l
  | p :: ps => if p.2.cells.length = p.1.2 ∧ p.1.1 + p.1.2 ≤ l.length then fillAll (putAt l p.1.1 p.2.cells) ps else none
def getPP (env : Env) : List ((Nat × Nat) × AO) → List ((Nat × Nat) × AV)
  | [] => []
  | p :: ps => (p.1, getO env p.2) :: getPP env ps
def getPs (env : Env) : List (Nat × AO) → List (Nat × AV)
  | [] => []
  | p :: ps => (p.1, getO env p.2) :: getPs env ps
def getL (env : Env) : List AO → List AV
  | [] => []
  | x :: l => getO env x :: getL env l
def getSL (env : Env) : List AO → List SV
  | [] => []
  | x :: l => getS env x :: getSL env l
def copyR (n : Nat) : Option (List Ob) → Res
  | none => none
  | some h => some (.one (.int .i64 n), h)
def copyV (hp : List Ob) (k o n : Nat) : Option (List SV) → Res
  | none => none
  | some vs => copyR n (storeP hp k vs o hp[k]?)
/-- From a part of an object of cells to a part of one: all is read first. -/
def oCopy (hp : List Ob) : SV → SV → Res
  | .cview k o n, .cview j p m => copyV hp k o (Nat.min m n) (loadPN hp[j]? (Nat.min m n) p)
  | _, _ => none
def evOp (Γ : Nat → Callee) (env : Env) (hp : List Ob) : AOp → Res
  | .mv x => some (getO env x, hp)
  | .newNil c0 => newRow hp c0
  | .pick c a b => oPick hp (getO env a) (getO env b) (getO env c)
  | .alloc z => some (.one (.ptr (zcells z hp).2.length 0), (zcells z hp).2 ++ [.cells none (zcells z hp).1])
  | .box x => if (getO env x).cells.all okCell = true then some (.one (.ptr hp.length 0), hp ++ [.cells none (getO env x).cells]) else none
  | .build z ps => if (getPP env ps).all (fun q => q.2.cells.all okCell) = true then putL (zcells z hp).2 (fillAll (zcells z hp).1 (getPP env ps)) else none
  | .bslice c0 zero len ps => putR hp (ofElemsO c0 (bsFrom zero (getPs env ps) 0 len))
  | .load none x => put1 hp (loadOne hp (getS env x))
  | .load (some n) x => putL hp (loadN hp n (getS env x))
  | .store n x v => if (getO env v).cells.length = n then putH (storeCells hp (getO env v).cells (getS env x)) else none
  | .storeNil c0 x => putH (storeCells (hp ++ [.rows none c0]) [.row hp.length] (getS env x))
  | .nilCheck x => oNilCheck hp (getO env x)
  | .bin op x y => put1 hp (bin op (getS env x) (getS env y))
  | .eqNil neq x => oEqNil hp neq (getO env x)
  | .eqAgg neq z x y => oEqAgg hp neq z (getO env x) (getO env y)
  | .eqB neq x y => oEqB hp neq (getO env x) (getO env y)
  | .un op x => put1 hp (un op (getS env x))
  | .conv k x => oConv hp k (getO env x)
  | .sconv x => oSconv hp (getO env x)
  | .s2b x => oS2b hp (getO env x)
  | .b2s x => oB2s hp (content hp (getS env x))
  | .cutS x lo hi => oCutS hp (getSo env lo) (getSo env hi) (getO env x)
  | .cutR size x lo hi => if sizeOf hp (getS env x) = some size then oCutR hp (getSo env lo) (getSo env hi) (getS env x) (lenOf hp (getS env x)) else none
  | .cutA n x lo hi => oCutA hp n (getSo env lo) (getSo env hi) (getO env x)
  | .fadr off x => oFadr hp off (getO env x)
  | .fld off n x => oFld hp off n (getO env x)
  | .iadrR size x i => if sizeOf hp (getS env x) = some size then oIadrR hp (getS env x) (lenOf hp (getS env x)) (getO env i) else none
  | .iadrA len size x i => oIadrA hp len size (getO env x) (getO env i)
  | .idxA len size n x i => oIdxA hp len size n (getO env x) (getO env i)
  | .idxS x i => oIdxS hp (getO env x) (getO env i)
  | .extract i x => oExtract hp i (getO env x)
  | .call f args => callee Γ hp f (getL env args)
  | .callo f args => callKs false Γ hp f (getL env args) (reachL hp 64 (avsCells (getL env args)) [])
  | .calli f args => callKs true Γ hp f (getL env args) (reachL hp 64 (avsCells (getL env args)) [])
  | .pcall f args => pureCall Γ hp f (getL env args)
  | .callv x args => oCallv Γ hp (getL env args) (getO env x)
  | .lenS x => oLenS hp (getO env x)
  | .len x => oLen hp (lenOf hp (getS env x))
  | .append c0 bytes s x => append hp c0 bytes (getS env s) (getS env x)
  | .appZ c0 zero bytes s n => oAppZ hp c0 zero bytes (getS env s) (getO env n)
  | .copy d s => oCopy hp (getS env d) (getS env s)
  | .min l => oMin hp (getL env l)
  | .max l => oMax hp (getL env l)
  | .mkfn f caps => some (.one (.fn f (getSL env caps)), hp)
  | .mks c0 zero bytes len cap => oMks hp c0 zero bytes (getO env len) (getO env cap)
  | .bad => none

/-! ### code -/
inductive Ex where
  | norm
  | exit (id : Nat)
  | ret
def thenI (env : Env) (rts : List SV) (dst : Option Nat) (f : St → Option St) : Res → Option St
  | none => none
  | some (v, hp) => f ⟨putE env dst v, rts, hp⟩
def guardI (b : Bool) (yes no : Option St) : AV → Option St
  | .one (.bool c) => if c = b then yes else no
  | .tup [] => no
  | _ => none
def evIs (Γ : Nat → Callee) : List AI → St → Option St
  | [], st => some st
  | ⟨dst, none, op⟩ :: l, st => thenI st.env st.rts dst (evIs Γ l) (evOp Γ st.env st.hp op)
  | ⟨dst, some (t, b), op⟩ :: l, st => guardI b (thenI st.env st.rts dst (evIs Γ l) (evOp Γ st.env st.hp op)) (evIs Γ l ⟨putE st.env dst (.tup []), st.rts, st.hp⟩) (getT t st.env)
/-! Operations in any order that their edges let: reckoned in the text's order; and what reads memory is asked at each heap that it may meet. -/
def stepG (b : Bool) (r : Res) (hp : List Ob) : AV → Res
  | .one (.bool c) => if c = b then r else some (.tup [], hp)
  | .tup [] => some (.tup [], hp)
  | _ => none
def stepI (Γ : Nat → Callee) (env : Env) (hp : List Ob) : AI → Res
  | ⟨_, none, op⟩ => evOp Γ env hp op
  | ⟨_, some (t, b), op⟩ => stepG b (evOp Γ env hp op) hp (getT t env)
abbrev ResD := Option (Env × List Ob × List (List Ob))
def thenD (dst : Option Nat) (b : Bool) (f : Env → List Ob → List (List Ob) → ResD) (env : Env) (hs : List (List Ob)) : Res → ResD
  | none => none
  | some (v, hp) => f (putE env dst v) hp (if b = true then hs ++ [hp] else hs)
def evDs (Γ : Nat → Callee) : List (AI × Bool) → Env → List Ob → List (List Ob) → ResD
  | [], env, hp, hs => some (env, hp, hs)
  | (i, b) :: l, env, hp, hs => thenD i.dst b (evDs Γ l) env hs (stepI Γ env hp i)
/-! The same value, by its parts. -/
mutual
def SV.same : SV → SV → Bool
  | .undef, .undef => true
  | .int k x, .int j y => decide (k = j) && decide (x = y)
  | .bool b, .bool c => b == c
  | .str s, .str t => decide (s = t)
  | .nilp, .nilp => true
  | .ptr k o, .ptr j p => k == j && o == p
  | .eptr k i o, .eptr j i' p => k == j && i == i' && o == p
  | .row k, .row j => k == j
  | .view k o n, .view j p m => k == j && o == p && n == m
  | .cview k o n, .cview j p m => k == j && o == p && n == m
  | .ro t c, .ro u d => t == u && decide (c = d)
  | .rptr t c i o, .rptr u d j p => t == u && decide (c = d) && i == j && o == p
  | .nils c, .nils d => decide (c = d)
  | .nilf, .nilf => true
  | .fn f l, .fn g m => f == g && sameL l m
  | _, _ => false
def sameL : List SV → List SV → Bool
  | [], [] => true
  | x :: l, y :: m => SV.same x y && sameL l m
  | _, _ => false
end
mutual
def AV.same : AV → AV → Bool
  | .one v, .one u => v.same u
  | .agg l, .agg m => sameL l m
  | .tup l, .tup m => sameT l m
  | _, _ => false
def sameT : List AV → List AV → Bool
  | [], [] => true
  | x :: l, y :: m => AV.same x y && sameT l m
  | _, _ => false
end
def ckR (v : AV) : Res → Bool
  | none => false
  | some (u, _) => u.same v
def ckKs (Γ : Nat → Callee) (env : Env) (hs : List (List Ob)) (ai : AI) (v : AV) : List Nat → Bool
  | [] => true
  | k :: ks => ckR v (stepI Γ env (hs.getD k []) ai) && ckKs Γ env hs ai v ks
def ckAt (Γ : Nat → Callee) (env : Env) (hs : List (List Ob)) (ks : List Nat) : Option (AI × Bool) → Bool
  | some (⟨some d, g, op⟩, _) => ckKs Γ env hs ⟨some d, g, op⟩ (getT d env) ks
  | _ => false
def ckAll (Γ : Nat → Callee) (l : List (AI × Bool)) (env : Env) (hs : List (List Ob)) : List (Nat × List Nat) → Bool
  | [] => true
  | c :: cs => ckAt Γ env hs c.2 l[c.1]? && ckAll Γ l env hs cs
def finD (Γ : Nat → Callee) (l : List (AI × Bool)) (ck : List (Nat × List Nat)) (rts : List SV) : ResD → Option St
  | none => none
  | some (env, hp, hs) => if ckAll Γ l env hs ck = true then some ⟨env, rts, hp⟩ else none
/-! New rows in an order that nobody knows: each has a slot of its own; first what they hold is reckoned, then the rest as if all were there. -/
def repl1 (n0 : Nat) : AI × Bool × Option Nat → AI × Bool
  | (ai, b, none) => (ai, b)
  | (ai, _, some j) => (⟨ai.dst, none, .mv (.const (.one (.row (n0 + j))))⟩, false)
def rowOf : Res → Option RC
  | some (.one (.row 0), [.rows none c]) => some c
  | _ => none
def consO (c : RC) : Option (List RC) → Option (List RC)
  | none => none
  | some l => some (c :: l)
def passN (dst : Option Nat) (f : Env → List Ob → Option (List RC)) (env : Env) : Res → Option (List RC)
  | none => none
  | some (v, hp) => f (putE env dst v) hp
def passR (dst : Option Nat) (s : Nat) (f : Env → List Ob → Option (List RC)) (env : Env) (hp : List Ob) : Option RC → Option (List RC)
  | none => none
  | some c => consO c (f (putE env dst (.one (.row s))) (hp.set s (.rows none c)))
def passF (Γ : Nat → Callee) (n0 : Nat) : List (AI × Bool × Option Nat) → Env → List Ob → Option (List RC)
  | [], _, _ => some []
  | (ai, _, none) :: l, env, hp => passN ai.dst (passF Γ n0 l) env (stepI Γ env hp ai)
  | (ai, _, some j) :: l, env, hp => passR ai.dst (n0 + j) (passF Γ n0 l) env hp (rowOf (evOp Γ env [] ai.op))
def obIs (c : RC) : Option Ob → Bool
  | some (.rows none d) => decide (d = c)
  | _ => false
def ckSl (hs : List (List Ob)) (s : Nat) (c : RC) : List Nat → Bool
  | [] => true
  | r :: rs => obIs c (hs.getD r [])[s]? && ckSl hs s c rs
def rcIs (c : RC) : Option RC → Bool
  | some d => decide (d = c)
  | none => false
def ckF1 (Γ : Nat → Callee) (env : Env) (c : RC) : Option (AI × Bool × Option Nat) → Bool
  | some (ai, _) => rcIs c (rowOf (evOp Γ env [] ai.op))
  | none => false
def ckFs (Γ : Nat → Callee) (l : List (AI × Bool × Option Nat)) (env : Env) (hs : List (List Ob)) : Nat → List RC → List (Nat × List Nat) → Bool
  | _, [], [] => true
  | s, c :: cs, (i, rs) :: cf => ckF1 Γ env c l[i]? && (ckSl hs s c rs && ckFs Γ l env hs (s + 1) cs cf)
  | _, _, _ => false
def finF (Γ : Nat → Callee) (l : List (AI × Bool × Option Nat)) (n0 : Nat) (cs : List RC) (cf : List (Nat × List Nat)) : ResD → ResD
  | none => none
  | some (env, hp, hs) => if ckFs Γ l env hs n0 cs cf = true then some (env, hp, hs) else none
def rowsOf : List RC → List Ob
  | [] => []
  | c :: l => .rows none c :: rowsOf l
def deads : List (Nat × List Nat) → List Ob
  | [] => []
  | _ :: l => .dead :: deads l
def secF (Γ : Nat → Callee) (l : List (AI × Bool × Option Nat)) (ck cf : List (Nat × List Nat)) (env : Env) (rts : List SV) (hp : List Ob) : Option (List RC) → Option St
  | none => none
  | some cs => finD Γ (l.map (repl1 hp.length)) ck rts (finF Γ l hp.length cs cf (evDs Γ (l.map (repl1 hp.length)) env (hp ++ rowsOf cs) [hp ++ rowsOf cs]))
def keep (env : Env) : List Nat → Env
  | [] => []
  | t :: l => (t, getT t env) :: keep env l
def envCells : Env → List SV
  | [] => []
  | p :: e => avCells p.2 ++ envCells e
def tidyKs (env : Env) (rts : List SV) (hp : List Ob) (ks : List Nat) : St := ⟨env.ren (posF ks), renL (posF ks) rts, pick hp (posF ks) ks⟩
/-- What lives alone, and the objects that it leads to, in order. -/
def tidy (env : Env) (rts : List SV) (hp : List Ob) : St := tidyKs env rts hp (reachL hp 64 (rts ++ envCells env) [])
def St.head (live : List Nat) (st : St) : St := tidy (keep st.env live) st.rts st.hp
def thenC (f : St → Option (Ex × St)) : Option (Ex × St) → Option (Ex × St)
  | none => none
  | some (.norm, st) => f st
  | some (.exit i, st) => some (.exit i, st)
  | some (.ret, st) => some (.ret, st)
def blockC (id : Nat) : Option (Ex × St) → Option (Ex × St)
  | none => none
  | some (.norm, st) => some (.norm, st)
  | some (.exit i, st) => if id = i then some (.norm, st) else some (.exit i, st)
  | some (.ret, st) => some (.ret, st)
def normC : Option St → Option (Ex × St)
  | none => none
  | some st => some (.norm, st)
def branchC (f g : St → Option (Ex × St)) (st : St) : AV → Option (Ex × St)
  | .one (.bool t) => if t = true then f st else g st
  | _ => none
def loopN (body : St → Option (Ex × St)) (live : List Nat) : Nat → St → Option (Ex × St)
  | 0, _ => none
  | k + 1, st => thenC (loopN body live k) (body (st.head live))
def evC (Γ : Nat → Callee) (K : Nat) : AC → St → Option (Ex × St)
  | .skip, st => some (.norm, st)
  | .ops l, st => normC (evIs Γ l st)
  | .opsD l ck, st => normC (finD Γ l ck st.rts (evDs Γ l st.env st.hp [st.hp]))
  | .opsF l ck cf, st => normC (secF Γ l ck cf st.env st.rts st.hp (passF Γ st.hp.length l st.env (st.hp ++ deads cf)))
  | .seq a b, st => thenC (evC Γ K b) (evC Γ K a st)
  | .cond c a b, st => branchC (evC Γ K a) (evC Γ K b) st (getO st.env c)
  | .block id a, st => blockC id (evC Γ K a st)
  | .loop live a, st => loopN (evC Γ K a) live K st
  | .exit id, st => some (.exit id, st)
  | .scope a, st => evC Γ K a st
  | .ret, st => some (.ret, st)
def oneAV : Option SV → Option AV
  | none => none
  | some v => some (.one v)
def aggAV : Option (List SV) → Option AV
  | none => none
  | some l => some (.agg l)
def resOf (env : Env) (hp : List Ob) : Nat × Option (Option Nat) → Option AV
  | (t, none) => some (getT t env)
  | (t, some none) => oneAV (loadOne hp (getT t env).sv)
  | (t, some (some n)) => aggAV (loadN hp n (getT t env).sv)
def resL (env : Env) (hp : List Ob) : List (Nat × Option (Option Nat)) → Option (List AV)
  | [] => some []
  | r :: rs => (resOf env hp r).bind fun v => (resL env hp rs).map (v :: ·)
def tupOf : List AV → AV
  | [v] => v
  | l => .tup l
def giveKs (v : AV) (hp : List Ob) (ks : List Nat) : Res := some (v.ren (posF ks), pick hp (posF ks) ks)
/-- The result, and the objects that what was handed in and it lead to, in order. -/
def give (rts : List SV) (hp : List Ob) : Option (List AV) → Res
  | none => none
  | some l => giveKs (tupOf l) hp (reachL hp 64 (rts ++ avCells (tupOf l)) [])
def resC (rs : List (Nat × Option (Option Nat))) : Option (Ex × St) → Res
  | some (.norm, st) => give st.rts st.hp (resL st.env st.hp rs)
  | some (.ret, st) => give st.rts st.hp (resL st.env st.hp rs)
  | _ => none
def argEnv (n : Nat) : List AV → Env
  | [] => []
  | v :: l => (n, v) :: argEnv (n + 1) l
def evF (Γ : Nat → Callee) (K : Nat) (f : AF) : Callee := fun args hp => resC f.results (evC Γ K f.body ⟨argEnv 0 args, avsCells args, hp⟩)
mutual
theorem SV.same_eq : ∀ {v u : SV}, v.same u = true → v = u
  | .undef, u, h => by cases u <;> simp [SV.same] at h ⊢
  | .int k x, u, h => by cases u <;> simp [SV.same] at h ⊢; exact h
  | .bool b, u, h => by cases u <;> simp [SV.same] at h ⊢; exact h
  | .str s, u, h => by cases u <;> simp [SV.same] at h ⊢; exact h
  | .nilp, u, h => by cases u <;> simp [SV.same] at h ⊢
  | .ptr k o, u, h => by cases u <;> simp [SV.same] at h ⊢; exact h
  | .eptr k i o, u, h => by cases u <;> simp [SV.same] at h ⊢; exact ⟨h.1.1, h.1.2, h.2⟩
  | .row k, u, h => by cases u <;> simp [SV.same] at h ⊢; exact h
  | .view k o n, u, h => by cases u <;> simp [SV.same] at h ⊢; exact ⟨h.1.1, h.1.2, h.2⟩
  | .cview k o n, u, h => by cases u <;> simp [SV.same] at h ⊢; exact ⟨h.1.1, h.1.2, h.2⟩
  | .ro t c, u, h => by cases u <;> simp [SV.same] at h ⊢; exact h
  | .rptr t c i o, u, h => by cases u <;> simp [SV.same] at h ⊢; exact ⟨h.1.1.1, h.1.1.2, h.1.2, h.2⟩
  | .nils c, u, h => by cases u <;> simp [SV.same] at h ⊢; exact h
  | .nilf, u, h => by cases u <;> simp [SV.same] at h ⊢
  | .fn f l, u, h => by cases u <;> simp [SV.same] at h ⊢; exact ⟨h.1, sameL_eq h.2⟩
theorem sameL_eq : ∀ {l m : List SV}, sameL l m = true → l = m
  | [], m, h => by cases m <;> simp [sameL] at h ⊢
  | x :: l, m, h => by cases m <;> simp [sameL] at h ⊢; exact ⟨SV.same_eq h.1, sameL_eq h.2⟩
end
mutual
theorem AV.same_eq : ∀ {v u : AV}, v.same u = true → v = u
  | .one v, u, h => by cases u <;> simp [AV.same] at h ⊢; exact SV.same_eq h
  | .agg l, u, h => by cases u <;> simp [AV.same] at h ⊢; exact sameL_eq h
  | .tup l, u, h => by cases u <;> simp [AV.same] at h ⊢; exact sameT_eq h
theorem sameT_eq : ∀ {l m : List AV}, sameT l m = true → l = m
  | [], m, h => by cases m <;> simp [sameT] at h ⊢
  | x :: l, m, h => by cases m <;> simp [sameT] at h ⊢; exact ⟨AV.same_eq h.1, sameT_eq h.2⟩
end
mutual
theorem SV.same_refl : ∀ v : SV, v.same v = true
  | .undef => by simp [SV.same]
  | .int k x => by simp [SV.same]
  | .bool b => by simp [SV.same]
  | .str s => by simp [SV.same]
  | .nilp => by simp [SV.same]
  | .ptr k o => by simp [SV.same]
  | .eptr k i o => by simp [SV.same]
  | .row k => by simp [SV.same]
  | .view k o n => by simp [SV.same]
  | .cview k o n => by simp [SV.same]
  | .ro t c => by simp [SV.same]
  | .rptr t c i o => by simp [SV.same]
  | .nils c => by simp [SV.same]
  | .nilf => by simp [SV.same]
  | .fn f l => by simp [SV.same, sameL_refl l]
theorem sameL_refl : ∀ l : List SV, sameL l l = true
  | [] => rfl
  | x :: l => by simp [sameL, SV.same_refl x, sameL_refl l]
end
mutual
theorem AV.same_refl : ∀ v : AV, v.same v = true
  | .one v => by simp [AV.same, SV.same_refl v]
  | .agg l => by simp [AV.same, sameL_refl l]
  | .tup l => by simp [AV.same, sameT_refl l]
theorem sameT_refl : ∀ l : List AV, sameT l l = true
  | [] => rfl
  | x :: l => by simp [sameT, AV.same_refl x, sameT_refl l]
end
end Go.X
