/- The program's code turned into code for an abstract run: types are looked up once and for all. What is not served gives none. -/
import Derived.Test.YthcbhmgjkecppaaA1
set_option linter.unusedVariables false
namespace Go.X
def isAggT (P : Program) (t : TypeId) : Option Bool :=
  match P.underlying t with
  | some (.struct _) => some true
  | some (.array _ _) => some true
  | some _ => some false
  | none => none
def sizeT (P : Program) (t : TypeId) : Option Nat := (P.info? t).map (·.size)
def bytesT (P : Program) (t : TypeId) : Option Nat := (P.info? t).map (·.bytes)
def leavesL (P : Program) (go : TypeId → Option (List TypeId)) : List Field → Option (List TypeId)
  | [] => some []
  | f :: fs => (go f.type).bind fun l => (leavesL P go fs).map (l ++ ·)
def repeatL (l : List TypeId) : Nat → List TypeId
  | 0 => []
  | n + 1 => l ++ repeatL l n
def leaves (P : Program) : Nat → TypeId → Option (List TypeId)
  | 0, _ => none
  | n + 1, t => match P.underlying t with
    | some (.struct fs) => leavesL P (leaves P n) fs.toList
    | some (.array m e) => (leaves P n e).map fun l => repeatL l m
    | some _ => some [t]
    | none => none
def scT (P : Program) (t : TypeId) : Option Sc :=
  match P.underlying t with
  | some (.int k) => some (.int k 0)
  | some .bool => some (.bool false)
  | some .string => some (.str .empty)
  | _ => none
/-- The zero of an element that holds no address. -/
def zeroSc (P : Program) (t : TypeId) : Option (List Sc) := (leaves P 12 t).bind fun l => l.mapM (scT P)
def scIs : Sc → Value → Bool
  | .int k x, .int j y => decide (k = j) && decide (x = y)
  | .bool b, .bool c => b == c
  | .str s, .string u => decide (s = u)
  | _, _ => false
def scsAre : List Sc → List Value → Bool
  | [], [] => true
  | s :: ss, v :: vs => scIs s v && scsAre ss vs
  | _, _ => false
/-- An empty row of a kind of element, and the element's zero. -/
def rowT (P : Program) (e : TypeId) : Option (RC × List Sc) :=
  (zeroSc P e).bind fun z =>
  (P.info? e).bind fun i =>
  (i.zero).bind fun zv =>
  (match P.underlying e with
    | some (.int k) => some (RC.ints k [])
    | some .string => some (.strs [])
    | some .bool => some (.bools [])
    | some (.struct _) => some (.recs i.size [])
    | some (.array _ _) => some (.recs i.size [])
    | _ => none).bind fun c => if c.size = i.size ∧ i.size = z.length ∧ 0 < i.size ∧ scsAre z zv.cells.toList = true then some (c, z) else none
def zvT (P : Program) (t : TypeId) : Option ZV :=
  match P.underlying t with
  | some (.int k) => some (.sv (.int k 0))
  | some .bool => some (.sv (.bool false))
  | some .string => some (.sv (.str .empty))
  | some (.pointer _) => some (.sv .nilp)
  | some (.func _ _ _) => some (.sv .nilf)
  | some (.slice e) => (rowT P e).map fun r => .nil r.1
  | _ => none
def zvIs : ZV → Value → Bool
  | .sv (.int k x), .int j y => decide (k = j) && decide (x = y)
  | .sv (.bool b), .bool c => b == c
  | .sv (.str s), .string u => decide (s = u)
  | .sv .nilp, .pointer none => true
  | .sv .nilf, .nilFunc => true
  | .nil _, .slice none 0 0 => true
  | _, _ => false
def zvsAre : List ZV → List Value → Bool
  | [], [] => true
  | s :: ss, v :: vs => zvIs s v && zvsAre ss vs
  | _, _ => false
/-- The cells of a new variable. -/
def zvs (P : Program) (t : TypeId) : Option (List ZV) :=
  ((leaves P 12 t).bind fun l => l.mapM (zvT P)).bind fun z =>
  (P.info? t).bind fun i => (i.zero).bind fun zv => if zvsAre z zv.cells.toList = true then some z else none
theorem zvs_dummy : True := trivial
def constSV (P : Program) (t : TypeId) : Value → Option SV
  | .int k x => some (.int k x)
  | .bool b => some (.bool b)
  | .string s => some (.str s)
  | .pointer none => some .nilp
  | .nilFunc => some .nilf
  | .slice none 0 0 => match P.underlying t with
    | some (.slice e) => (rowT P e).map fun r => .nils r.1
    | _ => none
  | _ => none
def constSVs (P : Program) : List TypeId → List Value → Option (List SV)
  | [], [] => some []
  | t :: ts, v :: vs => (constSV P t v).bind fun s => (constSVs P ts vs).map (s :: ·)
  | _, _ => none
def constAV (P : Program) (t : TypeId) : Value → Option AV
  | .agg cs => (leaves P 12 t).bind fun l => (constSVs P l cs.toList).map .agg
  | v => (constSV P t v).map .one
def cOp (P : Program) (t : TypeId) : Operand → Option AO
  | .tmp n => some (.tmp n)
  | .const v => (constAV P t v).map .const
  | .func f => some (.const (.one (.fn f [])))
  | .global _ => none
def cOps (P : Program) : List TypeId → List Operand → Option (List AO)
  | t :: ts, x :: xs => (cOp P t x).bind fun a => (cOps P ts xs).map (a :: ·)
  | [], x :: xs => (cOp P 0 x).bind fun a => (cOps P [] xs).map (a :: ·)
  | _, [] => some []
def cOpt (P : Program) : Option Operand → Option (Option AO)
  | none => some none
  | some x => (cOp P 0 x).map some
def isNilConst : Operand → Bool
  | .const (.slice none 0 0) => true
  | _ => false
def isNilPtr : Operand → Bool
  | .const (.pointer none) => true
  | _ => false
def eqZs (P : Program) (go : TypeId → Option (List Sc)) : List Field → Nat → Option (List Sc)
  | [], _ => some []
  | f :: fs, off => if f.name ≠ "_" ∧ f.offset = off then (go f.type).bind fun z => if sizeT P f.type = some z.length then (eqZs P go fs (off + z.length)).map (z ++ ·) else none else none
def repeatZ (z : List Sc) : Nat → List Sc
  | 0 => []
  | n + 1 => z ++ repeatZ z n
/-- Structs and arrays whose equality is that of their cells, one behind the other: of which kinds these are. -/
def eqZ (P : Program) : Nat → TypeId → Option (List Sc)
  | 0, _ => none
  | n + 1, t => match P.underlying t with
    | some (.struct fs) => if P.stoodInHeld t = false then eqZs P (eqZ P n) fs.toList 0 else none
    | some (.array m e) => (eqZ P n e).bind fun z => if sizeT P e = some z.length then some (repeatZ z m) else none
    | some (.int k) => some [.int k 0]
    | some .bool => some [.bool false]
    | some .string => some [.str .empty]
    | _ => none
def fieldsAt (P : Program) (fs : Array Field) (pl : List (Nat × Nat)) : List (Nat × Operand) → Option (List ((Nat × Nat) × AO))
  | [] => some []
  | (i, x) :: ps => (fs[i]?).bind fun f => (pl[i]?).bind fun p => (cOp P f.type x).bind fun a => (fieldsAt P fs pl ps).map ((p, a) :: ·)
def elemsAt (P : Program) (e size : Nat) : List (Nat × Operand) → Option (List ((Nat × Nat) × AO))
  | [] => some []
  | (i, x) :: ps => (cOp P e x).bind fun a => (elemsAt P e size ps).map (((i * size, size), a) :: ·)
def partsAt (P : Program) (e len : Nat) : List (Nat × Operand) → Option (List (Nat × AO))
  | [] => some []
  | (i, x) :: ps => if i < len ∧ ps.all (fun p => !(p.1 == i)) = true then (cOp P e x).bind fun a => (partsAt P e len ps).map ((i, a) :: ·) else none
def hasBody (P : Program) (f : Nat) : Bool :=
  match P.funcs[f]? with
  | some fn => !(fn.name == "runtime.NumGoroutine") && fn.body.isSome
  | none => false
def bothOf {α β : Type} (a : Option α) (b : Option β) : Option (α × β) := a.bind fun x => b.map fun y => (x, y)
def cBin (P : Program) (op : BinOp) (t : TypeId) (x y : Operand) (ty : TypeId) : Option AOp :=
  match P.underlying t with
  | some (.int _) => (bothOf (cOp P t x) (cOp P ty y)).map fun p => .bin op p.1 p.2
  | some .string => (bothOf (cOp P t x) (cOp P ty y)).map fun p => .bin op p.1 p.2
  | some .bool => match op with
    | .eql => (bothOf (cOp P t x) (cOp P ty y)).map fun p => .eqB false p.1 p.2
    | .neq => (bothOf (cOp P t x) (cOp P ty y)).map fun p => .eqB true p.1 p.2
    | _ => none
  | some (.pointer _) => match op with
    | .eql => if isNilPtr y = true then (cOp P t x).map (.eqNil false) else if isNilPtr x = true then (cOp P t y).map (.eqNil false) else none
    | .neq => if isNilPtr y = true then (cOp P t x).map (.eqNil true) else if isNilPtr x = true then (cOp P t y).map (.eqNil true) else none
    | _ => none
  | some (.struct _) => if P.eqGuardType P.depth t = false then (eqZ P 12 t).bind fun z => match op with
    | .eql => (bothOf (cOp P t x) (cOp P ty y)).map fun p => .eqAgg false z p.1 p.2
    | .neq => (bothOf (cOp P t x) (cOp P ty y)).map fun p => .eqAgg true z p.1 p.2
    | _ => none else none
  | some (.array _ _) => if P.eqGuardType P.depth t = false then (eqZ P 12 t).bind fun z => match op with
    | .eql => (bothOf (cOp P t x) (cOp P ty y)).map fun p => .eqAgg false z p.1 p.2
    | .neq => (bothOf (cOp P t x) (cOp P ty y)).map fun p => .eqAgg true z p.1 p.2
    | _ => none else none
  | _ => none
def cConv (P : Program) (s d : TypeId) (x : Operand) : Option AOp :=
  match P.underlying s, P.underlying d with
  | some (.int _), some (.int k) => (cOp P s x).map (.conv k)
  | some .string, some .string => (cOp P s x).map .sconv
  | some .string, some (.slice e) => match P.underlying e with
    | some (.int .u8) => (cOp P s x).map .s2b
    | _ => none
  | some (.slice e), some .string => match P.underlying e with
    | some (.int .u8) => (cOp P s x).map .b2s
    | _ => none
  | _, _ => none
def cBuiltin (P : Program) (b : Builtin) (ts : List TypeId) (args : List Operand) : Option AOp :=
  match b, ts, args with
  | .len, [t], [x] => match P.underlying t with
    | some .string => (cOp P t x).map .lenS
    | some (.slice _) => (cOp P t x).map .len
    | _ => none
  | .append, [t, u], [s, x] => match P.underlying t, P.underlying u with
    | some (.slice e), some (.slice _) => (rowT P e).bind fun r => (bytesT P e).bind fun n => if n = 0 then none else (bothOf (cOp P t s) (cOp P u x)).map fun p => .append r.1 n p.1 p.2
    | some (.slice e), some .string => (rowT P e).bind fun r => (bytesT P e).bind fun n => if n = 0 then none else (bothOf (cOp P t s) (cOp P u x)).map fun p => .append r.1 n p.1 p.2
    | some (.slice e), some (.int _) => (rowT P e).bind fun r => (bytesT P e).bind fun n => if n = 0 then none else (bothOf (cOp P t s) (cOp P u x)).map fun p => .appZ r.1 r.2 n p.1 p.2
    | _, _ => none
  | .copy, [t, u], [d, s] => match P.underlying t with
    | some (.slice e) => if sizeT P e = some 1 then (bothOf (cOp P t d) (cOp P u s)).map fun p => .copy p.1 p.2 else none
    | _ => none
  | .min, ts, args => (cOps P ts args).map .min
  | .max, ts, args => (cOps P ts args).map .max
  | _, _, _ => none
def clrOp (o : Oper) : Bool := match o.op with
  | .call c => match c.callee with
    | .builtin .clear => true
    | _ => false
  | _ => false
def clrC : Code → Bool
  | .region _ ops _ => ops.toList.any clrOp
  | .seq a b => clrC a || clrC b
  | .cond _ a b => clrC a || clrC b
  | .block _ a => clrC a
  | .loop a => clrC a
  | .scope a => clrC a
  | _ => false
/-- A function that clears a part of what it was handed: a row goes over to it. -/
def ownsB (P : Program) (f : Nat) : Bool := match P.funcs[f]? with
  | none => false
  | some fn => match fn.body with
    | some c => clrC c
    | none => false
/-- Is a temporary a parameter, or moved from one? -/
def fromP (np : Nat) (ops : List Oper) (t : Nat) : Bool := decide (t < np) || ops.any (fun o => decide (o.dst = some t) && match o.op with
  | .move (.tmp p) => decide (p < np)
  | .assign (.tmp p) => decide (p < np)
  | _ => false)
def stOp (P : Program) (np : Nat) (ops : List Oper) (o : Oper) : Bool := match o.op with
  | .store _ (.tmp a) _ => ops.any (fun q => decide (q.dst = some a) && match q.op with
    | .indexAddr t (.tmp b) _ => (match P.underlying t with | some (.slice _) => fromP np ops b | _ => false)
    | _ => false)
  | _ => false
def stC (P : Program) (np : Nat) : Code → Bool
  | .region _ ops _ => ops.toList.any (stOp P np ops.toList)
  | .seq a b => stC P np a || stC P np b
  | .cond _ a b => stC P np a || stC P np b
  | .block _ a => stC P np a
  | .loop a => stC P np a
  | .scope a => stC P np a
  | _ => false
def callsOp (o : Oper) : List Nat := match o.op with
  | .call c => match c.callee with
    | .value (.func f) => [f]
    | _ => []
  | _ => []
def callsC : Code → List Nat
  | .region _ ops _ => ops.toList.flatMap callsOp
  | .seq a b => callsC a ++ callsC b
  | .cond _ a b => callsC a ++ callsC b
  | .block _ a => callsC a
  | .loop a => callsC a
  | .scope a => callsC a
  | _ => []
def hasSlice (P : Program) (fn : Func) : Bool := fn.params.toList.any fun t => match P.underlying t with | some (.slice _) => true | _ => false
/-- A function that writes into a row that it was handed: the row goes over to it, and comes back. -/
def inplB (P : Program) : Nat → Nat → Bool
  | 0, _ => false
  | d + 1, f => match P.funcs[f]? with
    | none => false
    | some fn => match fn.body with
      | some c => hasSlice P fn && (stC P fn.params.size c || (callsC c).any (fun g => inplB P d g))
      | none => false
def callOf (P : Program) (f : Nat) (l : List AO) : AOp := if ownsB P f = true then .callo f l else if inplB P 3 f = true then .calli f l else .call f l
def cOper (P : Program) (o : Oper) : Option AOp :=
  match o.op with
  | .move x => if isNilConst x = true then match P.underlying o.type with
      | some (.slice e) => (rowT P e).map fun r => .newNil r.1
      | _ => none
    else (cOp P o.type x).map .mv
  | .assign x => if isNilConst x = true then match P.underlying o.type with
      | some (.slice e) => (rowT P e).map fun r => .newNil r.1
      | _ => none
    else (cOp P o.type x).map .mv
  | .pick c a b => (cOp P 0 c).bind fun c => (bothOf (cOp P o.type a) (cOp P o.type b)).map fun p => .pick c p.1 p.2
  | .alloc e => (zvs P e).map .alloc
  | .box e x => (cOp P e x).map .box
  | .build t ps => (zvs P t).bind fun z => match P.underlying t with
    | some (.struct fs) => (fs.toList.mapM (fun f => (P.info? f.type).map fun i => (f.offset, i.size))).bind fun pl => (fieldsAt P fs pl ps.toList).map (.build z)
    | some (.array _ e) => (sizeT P e).bind fun n => (elemsAt P e n ps.toList).map (.build z)
    | _ => none
  | .buildSlice t len ps => match P.underlying t with
    | some (.slice e) => (rowT P e).bind fun r => if len * r.2.length ≤ 16777216 then (partsAt P e len ps.toList).map (.bslice r.1 r.2 len) else none
    | _ => none
  | .load t x => (isAggT P t).bind fun b => if b = true then (bothOf (sizeT P t) (cOp P 0 x)).map fun p => .load (some p.1) p.2 else (cOp P 0 x).map (.load none)
  | .store t a x => if isNilConst x = true then match P.underlying t with
      | some (.slice e) => if sizeT P t = some 1 then (bothOf (rowT P e) (cOp P 0 a)).map fun p => .storeNil p.1.1 p.2 else none
      | _ => none
    else (sizeT P t).bind fun n => (bothOf (cOp P 0 a) (cOp P t x)).map fun p => .store n p.1 p.2
  | .nilCheck x => (cOp P 0 x).map .nilCheck
  | .binOp op t x y ty => cBin P op t x y ty
  | .unOp op t x => (cOp P t x).map (.un op)
  | .convert s d x => cConv P s d x
  | .slice t x lo hi none => match P.underlying t with
    | some .string => (cOp P t x).bind fun a => (bothOf (cOpt P lo) (cOpt P hi)).map fun p => .cutS a p.1 p.2
    | some (.slice e) => (sizeT P e).bind fun n => (cOp P t x).bind fun a => (bothOf (cOpt P lo) (cOpt P hi)).map fun p => .cutR n a p.1 p.2
    | some (.array m e) => if sizeT P e = some 1 then (cOp P t x).bind fun a => (bothOf (cOpt P lo) (cOpt P hi)).map fun p => .cutA m a p.1 p.2 else none
    | _ => none
  | .fieldAddr s x f => match P.underlying s with
    | some (.struct fs) => (fs[f]?).bind fun fd => (sizeT P fd.type).bind fun n => if n = 0 then none else (cOp P 0 x).map (.fadr fd.offset)
    | _ => none
  | .field t x f => match P.underlying t with
    | some (.struct fs) => (fs[f]?).bind fun fd => (isAggT P fd.type).bind fun b => (sizeT P fd.type).bind fun n => (cOp P t x).map (.fld fd.offset (if b = true then some n else none))
    | _ => none
  | .indexAddr t x i => match P.underlying t with
    | some (.slice e) => (sizeT P e).bind fun n => (bothOf (cOp P t x) (cOp P 0 i)).map fun p => .iadrR n p.1 p.2
    | some (.array m e) => (sizeT P e).bind fun n => (bothOf (cOp P 0 x) (cOp P 0 i)).map fun p => .iadrA m n p.1 p.2
    | _ => none
  | .index t x i => match P.underlying t with
    | some .string => (bothOf (cOp P t x) (cOp P 0 i)).map fun p => .idxS p.1 p.2
    | some (.array m e) => (isAggT P e).bind fun b => (sizeT P e).bind fun n => (bothOf (cOp P t x) (cOp P 0 i)).map fun p => .idxA m n (if b = true then some n else none) p.1 p.2
    | _ => none
  | .extract x i => (cOp P 0 x).map (.extract i)
  | .call c => match c.callee with
    | .builtin b => cBuiltin P b c.argTypes.toList c.args.toList
    | .value (.func f) => if hasBody P f = true then (cOps P c.argTypes.toList c.args.toList).map (callOf P f) else none
    | .value (.tmp t) => (cOps P c.argTypes.toList c.args.toList).map (.callv (.tmp t))
    | _ => none
  | .makeFunc (.func f) first caps => if first.size = 0 then (cOps P [] caps.toList).map (.mkfn f) else none
  | .makeSlice t l c => match P.underlying t with
    | some (.slice e) => (rowT P e).bind fun r => (bytesT P e).bind fun n => if n = 0 then none else (bothOf (cOp P 0 l) (cOp P 0 c)).map fun p => .mks r.1 r.2 n p.1 p.2
    | _ => none
  | _ => none
def cGuard (ops : Array Oper) : Option (Nat × Bool) → Option (Option (Nat × Bool))
  | none => some none
  | some (j, b) => ((ops[j]?).bind (·.dst)).map fun t => some (t, b)
def cDst (n : Nat) : Option Nat → Bool
  | none => true
  | some d => decide (d < n)
/-- What is not served comes to nothing. -/
def cOperT (P : Program) (o : Oper) : AOp :=
  match cOper P o with
  | some a => a
  | none => .bad
def cInstr (P : Program) (n : Nat) (ops : Array Oper) (o : Oper) : Option AI :=
  if cDst n o.dst = true then (cGuard ops o.guard).map fun g => ⟨o.dst, g, cOperT P o⟩ else none
def cInstrs (P : Program) (n : Nat) (ops : Array Oper) : List Oper → Option (List AI)
  | [] => some []
  | o :: l => (cInstr P n ops o).bind fun i => (cInstrs P n ops l).map (i :: ·)

/-! ### what lives -/
def addT (l : List Nat) (t : Nat) : List Nat := if l.elem t then l else t :: l
def addAll : List Nat → List Nat → List Nat
  | l, [] => l
  | l, t :: ts => addAll (addT l t) ts
def aoT : AO → List Nat
  | .tmp t => [t]
  | .const _ => []
def opnds (o : Oper) : List Nat := o.op.operands.toList.filterMap fun x => match x with
  | .tmp t => some t
  | _ => none
def liveO (ops : Array Oper) (l : List Nat) (o : Oper) : List Nat :=
  match o.guard with
  | none => addAll (match o.dst with
    | some d => l.erase d
    | none => l) (opnds o)
  | some (j, _) => addAll (match (ops[j]?).bind (·.dst) with
    | some t => addT (match o.dst with
      | some d => l.erase d
      | none => l) t
    | none => l) (opnds o)
def liveC : Code → List Nat → List (Nat × List Nat) → List Nat → List Nat
  | .skip, l, _, _ => l
  | .region _ ops _, l, _, _ => ops.toList.reverse.foldl (liveO ops) l
  | .seq a b, l, xs, r => liveC a (liveC b l xs r) xs r
  | .cond (.tmp c) a b, l, xs, r => addT (addAll (liveC a l xs r) (liveC b l xs r)) c
  | .cond _ a b, l, xs, r => addAll (liveC a l xs r) (liveC b l xs r)
  | .block id a, l, xs, r => liveC a l ((id, l) :: xs) r
  | .loop a, _, xs, r => liveC a (liveC a (liveC a [] xs r) xs r) xs r
  | .exit id, _, xs, _ => (xs.lookup id).getD []
  | .scope a, l, xs, r => liveC a l xs r
  | .ret, _, _, r => r
  | _, l, _, _ => l
/-! ### regions that draw their order -/
def aoL : List AO → List Nat
  | [] => []
  | x :: l => aoT x ++ aoL l
def aoO : Option AO → List Nat
  | none => []
  | some x => aoT x
def aoPP : List ((Nat × Nat) × AO) → List Nat
  | [] => []
  | p :: l => aoT p.2 ++ aoPP l
def aoPs : List (Nat × AO) → List Nat
  | [] => []
  | p :: l => aoT p.2 ++ aoPs l
/-- The temporaries that an operation looks at. -/
def opT : AOp → List Nat
  | .mv x => aoT x
  | .newNil _ => []
  | .pick c a b => aoT c ++ (aoT a ++ aoT b)
  | .alloc _ => []
  | .box x => aoT x
  | .build _ ps => aoPP ps
  | .bslice _ _ _ ps => aoPs ps
  | .load _ x => aoT x
  | .store _ x v => aoT x ++ aoT v
  | .storeNil _ x => aoT x
  | .nilCheck x => aoT x
  | .bin _ x y => aoT x ++ aoT y
  | .eqNil _ x => aoT x
  | .eqAgg _ _ x y => aoT x ++ aoT y
  | .eqB _ x y => aoT x ++ aoT y
  | .un _ x => aoT x
  | .conv _ x => aoT x
  | .sconv x => aoT x
  | .s2b x => aoT x
  | .b2s x => aoT x
  | .cutS x lo hi => aoT x ++ (aoO lo ++ aoO hi)
  | .cutR _ x lo hi => aoT x ++ (aoO lo ++ aoO hi)
  | .cutA _ x lo hi => aoT x ++ (aoO lo ++ aoO hi)
  | .fadr _ x => aoT x
  | .fld _ _ x => aoT x
  | .iadrR _ x i => aoT x ++ aoT i
  | .iadrA _ _ x i => aoT x ++ aoT i
  | .idxA _ _ _ x i => aoT x ++ aoT i
  | .idxS x i => aoT x ++ aoT i
  | .extract _ x => aoT x
  | .call _ args => aoL args
  | .callo _ args => aoL args
  | .calli _ args => aoL args
  | .pcall _ args => aoL args
  | .callv x args => aoT x ++ aoL args
  | .lenS x => aoT x
  | .len x => aoT x
  | .append _ _ s x => aoT s ++ aoT x
  | .appZ _ _ _ s x => aoT s ++ aoT x
  | .copy d s => aoT d ++ aoT s
  | .min l => aoL l
  | .max l => aoL l
  | .mkfn _ caps => aoL caps
  | .mks _ _ _ l c => aoT l ++ aoT c
  | .bad => []
def aiT (a : AI) : List Nat := match a.guard with
  | none => opT a.op
  | some g => g.1 :: opT a.op
def noNil : List ZV → Bool
  | [] => true
  | .sv _ :: l => noNil l
  | .nil _ :: _ => false
/-- 0: neither reads memory nor turns it; 1: reads it; 2: turns it. -/
def opKind : AOp → Nat
  | .mv _ | .pick _ _ _ | .nilCheck _ | .bin _ _ _ | .eqNil _ _ | .eqAgg _ _ _ _ | .eqB _ _ _ | .un _ _ | .conv _ _ | .sconv _ | .cutS _ _ _ | .cutA _ _ _ _ | .fadr _ _ | .fld _ _ _ | .iadrA _ _ _ _ | .idxA _ _ _ _ _ | .idxS _ _ | .extract _ _ | .lenS _ | .min _ | .max _ | .mkfn _ _ | .pcall _ _ => 0
  | .build z _ => if noNil z = true then 0 else 2
  | .load _ _ | .b2s _ | .cutR _ _ _ _ | .iadrR _ _ _ | .len _ => 1
  | _ => 2
def dirs (o : Oper) : List Nat := (o.after.toList.filter (Region.binds .any)).map (·.on)
def ancL : List Oper → List (List Nat) → List (List Nat)
  | [], acc => acc
  | o :: l, acc => ancL l (acc ++ [addAll (dirs o) ((dirs o).flatMap fun j => acc.getD j [])])
def rank (ld : List Bool) (k : Nat) : Nat := ((ld.take k).filter id).length
/-- May the k first loud operations be done when the i-th one comes? Not so: -/
def offD (n : Nat) (ld : List Bool) (anc : List (List Nat)) (i k : Nat) : Bool :=
  ((anc.getD i []).any fun j => ld.getD j false && decide (k ≤ j)) || (List.range n).any fun j => ld.getD j false && decide (j < k) && (anc.getD j []).elem i
def ckFor (n : Nat) (ld : List Bool) (anc : List (List Nat)) (i : Nat) : List Nat :=
  addAll [] ((List.range (n + 1)).filterMap fun k => if offD n ld anc i k || rank ld k == rank ld i then none else some (rank ld k))
def ckOf (n : Nat) (ais : List AI) (ld : List Bool) (anc : List (List Nat)) : List (Nat × List Nat) :=
  (List.range n).filterMap fun i => match ais[i]? with
    | some a => if opKind a.op = 1 then match ckFor n ld anc i with
        | [] => none
        | ks => some (i, ks) else none
    | none => none
def dstAt (ais : List AI) (i : Nat) : Option Nat := (ais[i]?).bind (·.dst)
def okEdge (os : List Oper) (anc : List (List Nat)) (i : Nat) : Bool :=
  match os[i]? with
  | some o => (dirs o).all (fun j => decide (j < i)) && (anc.getD i []).all fun j => (dirs o).elem j || (dirs o).any fun e => (anc.getD e []).elem j
  | none => false
def okTmp (n : Nat) (ais : List AI) (anc : List (List Nat)) (i t : Nat) : Bool :=
  (List.range n).all fun j => !(dstAt ais j == some t) || (j == i) || (if j < i then (anc.getD i []).elem j else (anc.getD j []).elem i)
def okRead (n : Nat) (ais : List AI) (ld : List Bool) (anc : List (List Nat)) (ck : List (Nat × List Nat)) (i : Nat) (a : AI) : Bool :=
  ((List.range (n + 1)).all fun k => offD n ld anc i k || rank ld k == rank ld i || ck.any fun c => c.1 == i && c.2.elem (rank ld k)) &&
  (!(ck.any fun c => c.1 == i) || (a.dst.isSome && (aiT a).all fun t => (List.range n).all fun j => decide (j < i) || !(dstAt ais j == some t)))
def okAt (n : Nat) (os : List Oper) (ais : List AI) (ld : List Bool) (anc : List (List Nat)) (ck : List (Nat × List Nat)) (i : Nat) : Bool :=
  match ais[i]? with
  | none => false
  | some a => okEdge os anc i && (ld.getD i false == decide (opKind a.op = 2)) &&
    ((List.range i).all fun j => !(ld.getD i false && ld.getD j false) || (anc.getD i []).elem j) &&
    ((List.range i).all fun j => a.dst == none || !(a.dst == dstAt ais j)) &&
    ((aiT a).all fun t => okTmp n ais anc i t) &&
    (!(opKind a.op == 1) || okRead n ais ld anc ck i a)
def okD (n : Nat) (os : List Oper) (ais : List AI) (ld : List Bool) (anc : List (List Nat)) (ck : List (Nat × List Nat)) : Bool :=
  ais.length == n && (ld.length == n) && (List.range n).all (okAt n os ais ld anc ck)
def drawC (os : List Oper) (ais : List AI) (ld : List Bool) (anc : List (List Nat)) (ck : List (Nat × List Nat)) : Option AC :=
  if okD os.length os ais ld anc ck = true then some (.opsD (ais.zip ld) ck) else none
def drawD (os : List Oper) (ais : List AI) : Option AC :=
  drawC os ais (ais.map fun a => decide (opKind a.op = 2)) (ancL os []) (ckOf os.length ais (ais.map fun a => decide (opKind a.op = 2)) (ancL os []))
/-- A call is tried as one that holds no memory. -/
def toP : AI → AI
  | ⟨d, g, .call f l⟩ => ⟨d, g, .pcall f l⟩
  | a => a
def drawE (os : List Oper) (ais : List AI) : Option AC := match drawD os ais with
  | some ac => some ac
  | none => drawD os (ais.map toP)
/-! New rows whose order nobody knows. -/
def isF : AOp → Bool
  | .mks _ _ _ _ _ | .bslice _ _ _ _ | .newNil _ => true
  | .append _ _ (.const (.one (.nils _))) _ => true
  | _ => false
def noKey : AO → Bool
  | .tmp _ => true
  | .const v => match v.sv with
    | .ptr _ _ | .eptr _ _ _ | .row _ | .view _ _ _ | .cview _ _ _ => false
    | _ => true
/-- What may be done while a new row is not there yet. -/
def freeK : AOp → Bool
  | .load _ x => noKey x
  | .b2s x => noKey x
  | .cutR _ x _ _ => noKey x
  | .iadrR _ x _ => noKey x
  | .len x => noKey x
  | .append _ _ x y => noKey x && noKey y
  | .appZ _ _ _ x _ => noKey x
  | .mks _ _ _ _ _ | .bslice _ _ _ _ | .newNil _ => true
  | op => decide (opKind op = 0)
def fMark (n : Nat) (ais : List AI) (anc : List (List Nat)) (i : Nat) : Bool :=
  match ais[i]? with
  | some a => isF a.op && a.guard == none && a.dst.isSome && (List.range n).any fun j => !(j == i) && (match ais[j]? with | some b => decide (opKind b.op = 2) | none => false) && !((anc.getD i []).elem j) && !((anc.getD j []).elem i)
  | none => false
def markF : Nat → List AI → List Bool → List (AI × Bool × Option Nat)
  | j, a :: l, true :: fl => (a, false, some j) :: markF (j + 1) l fl
  | j, a :: l, false :: fl => (a, decide (opKind a.op = 2), none) :: markF j l fl
  | _, _, _ => []
def cfFor (n : Nat) (ld : List Bool) (anc : List (List Nat)) (i : Nat) : List Nat :=
  addAll [] ((List.range (n + 1)).filterMap fun k => if offD n ld anc i k then none else some (rank ld k))
def cfOf (n : Nat) (L : List (AI × Bool × Option Nat)) (ld : List Bool) (anc : List (List Nat)) : List (Nat × List Nat) :=
  (List.range n).filterMap fun i => match L[i]? with
    | some (_, _, some _) => some (i, cfFor n ld anc i)
    | _ => none
def okF1 (n : Nat) (ais : List AI) (ld : List Bool) (anc : List (List Nat)) (cf : List (Nat × List Nat)) (i : Nat) : Option (AI × Bool × Option Nat) → Bool
  | some (a, _, some j) => a.guard == none && isF a.op && a.dst.isSome && ((opT a.op).all fun t => (List.range n).all fun x => !(dstAt ais x == some t) || (decide (x < i) && (anc.getD i []).elem x)) &&
    (match cf[j]? with
      | some c => c.1 == i && (List.range (n + 1)).all fun k => offD n ld anc i k || c.2.elem (rank ld k)
      | none => false)
  | some (a, _, none) => freeK a.op || cf.all fun c => (anc.getD i []).elem c.1
  | none => false
def okF2 (L : List (AI × Bool × Option Nat)) (cf : List (Nat × List Nat)) (j : Nat) : Bool :=
  match cf[j]? with
  | some c => match L[c.1]? with
    | some (_, _, some x) => x == j
    | _ => false
  | none => false
def okF (n : Nat) (ais : List AI) (L : List (AI × Bool × Option Nat)) (ld : List Bool) (anc : List (List Nat)) (cf : List (Nat × List Nat)) : Bool :=
  (List.range n).all (fun i => okF1 n ais ld anc cf i L[i]?) && (List.range cf.length).all (okF2 L cf)
def drawG (os : List Oper) (ais : List AI) (L : List (AI × Bool × Option Nat)) (anc : List (List Nat)) (ld : List Bool) (ck cf : List (Nat × List Nat)) : Option AC :=
  if okD os.length os ((L.map (repl1 0)).map (·.1)) ld anc ck = true ∧ (L.map (repl1 0)).map (·.2) = ld ∧ okF os.length ais L ld anc cf = true then some (.opsF L ck cf) else none
def drawF1 (os : List Oper) (ais : List AI) (L : List (AI × Bool × Option Nat)) (anc : List (List Nat)) : Option AC :=
  drawG os ais L anc ((L.map (repl1 0)).map (·.2)) (ckOf os.length ((L.map (repl1 0)).map (·.1)) ((L.map (repl1 0)).map (·.2)) anc) (cfOf os.length L ((L.map (repl1 0)).map (·.2)) anc)
def drawF (os : List Oper) (ais : List AI) : Option AC :=
  drawF1 os ais (markF 0 ais ((List.range ais.length).map (fMark ais.length ais (ancL os [])))) (ancL os [])
def badC : AC := .ops [⟨none, none, .bad⟩]
def drawB (os : List Oper) (ais : List AI) : AC := match drawE os ais with
  | some ac => ac
  | none => match drawF os ais with
    | some ac => ac
    | none => match drawF os (ais.map toP) with
      | some ac => ac
      | none => badC
def insN (x : Nat) : List Nat → List Nat
  | [] => [x]
  | y :: l => if x ≤ y then x :: y :: l else y :: insN x l
def sortN : List Nat → List Nat
  | [] => []
  | x :: l => insN x (sortN l)
def cCode (P : Program) (n : Nat) : Code → List Nat → List (Nat × List Nat) → List Nat → Option AC
  | .skip, _, _, _ => some .skip
  | .region _ ops d, _, _, _ => (cInstrs P n ops ops.toList).map fun l => if d = true then drawB ops.toList l else .ops l
  | .seq a b, l, xs, r => (bothOf (cCode P n a (liveC b l xs r) xs r) (cCode P n b l xs r)).map fun p => .seq p.1 p.2
  | .cond c a b, l, xs, r => (cOp P 0 c).bind fun c => (bothOf (cCode P n a l xs r) (cCode P n b l xs r)).map fun p => .cond c p.1 p.2
  | .block id a, l, xs, r => (cCode P n a l ((id, l) :: xs) r).map (.block id)
  | .loop a, l, xs, r => (cCode P n a (liveC (.loop a) [] xs r) xs r).map (.loop (sortN (liveC (.loop a) [] xs r)))
  | .exit id, _, _, _ => some (.exit id)
  | .scope a, l, xs, r => (cCode P n a l xs r).map .scope
  | .ret, _, _, _ => some .ret
  | _, _, _, _ => some badC
def cRes (P : Program) : ResultVar → Option (Nat × Option (Option Nat))
  | .tmp t => some (t, none)
  | .cell t ty => (isAggT P ty).bind fun b => if b = true then (sizeT P ty).map fun n => (t, some (some n)) else some (t, some none)
def resT (l : List ResultVar) : List Nat := l.map fun r => match r with
  | .tmp t => t
  | .cell t _ => t
def cFunc (P : Program) (f : Nat) : Option AF :=
  (P.funcs[f]?).bind fun fn => (fn.body).bind fun c =>
  if fn.params.size + fn.nfree ≤ fn.ntmps ∧ hasBody P f = true then
  (fn.results.toList.mapM (cRes P)).bind fun rs => (cCode P fn.ntmps c (resT fn.results.toList) [] (resT fn.results.toList)).map fun b => ⟨rs, b⟩ else none
end Go.X
