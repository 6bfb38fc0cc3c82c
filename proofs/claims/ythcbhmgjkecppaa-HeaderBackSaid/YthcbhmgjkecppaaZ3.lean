import Derived.IntWalk
import Derived.Test.YthcbhmgjkecppaaZ2
set_option linter.unusedVariables false
set_option linter.unusedSimpArgs false
/- The rules by which an abstract run is reckoned: each a step of simp. -/
set_option linter.unusedVariables false
set_option linter.unusedSimpArgs false
namespace Go.X
/-! What is reckoned first: what decides the way. -/
@[congr] theorem guardI_cg {b : Bool} {x y : Option St} {v v' : AV} (h : v = v') : guardI b x y v = guardI b x y v' := by rw [h]
@[congr] theorem stepG_cg {b : Bool} {r : Res} {hp : List Ob} {v v' : AV} (h : v = v') : stepG b r hp v = stepG b r hp v' := by rw [h]
@[congr] theorem thenI_cg {env : Env} {rts : List SV} {d : Option Nat} {f : St → Option St} {r r' : Res} (h : r = r') : thenI env rts d f r = thenI env rts d f r' := by rw [h]
@[congr] theorem thenD_cg {d : Option Nat} {b : Bool} {f : Env → List Ob → List (List Ob) → ResD} {env : Env} {hs : List (List Ob)} {r r' : Res} (h : r = r') : thenD d b f env hs r = thenD d b f env hs r' := by rw [h]
@[congr] theorem thenC_cg {f : St → Option (Ex × St)} {r r' : Option (Ex × St)} (h : r = r') : thenC f r = thenC f r' := by rw [h]
@[congr] theorem blockC_cg {i : Nat} {r r' : Option (Ex × St)} (h : r = r') : blockC i r = blockC i r' := by rw [h]
@[congr] theorem branchC_cg {f g : St → Option (Ex × St)} {st : St} {v v' : AV} (h : v = v') : branchC f g st v = branchC f g st v' := by rw [h]
@[congr] theorem resC_cg {rs : List (Nat × Option (Option Nat))} {r r' : Option (Ex × St)} (h : r = r') : resC rs r = resC rs r' := by rw [h]
@[congr] theorem finD_cg {Γ : Nat → Callee} {l : List (AI × Bool)} {ck : List (Nat × List Nat)} {rts : List SV} {r r' : ResD} (h : r = r') : finD Γ l ck rts r = finD Γ l ck rts r' := by rw [h]
attribute [simp] AV.same_refl SV.same_refl sameL_refl getT evDs ckKs ckAll finD evC zcells putAt eqScs argEnv keep fillAll setScs reachSV reachOb reachL SV.ren renL AV.ren renT Env.ren Ob.ren pick avCells avsCells SV.strip stripL Ob.strip handed lendL lendArgs tagAll backKeys killAll layBack backL Ob.back argCells intsOf rcCells cviewAt AV.back backT scsOf partAt bsFrom getPs getPP getL getSL envCells resL pos
@[simp] theorem posPtr_some (o : Nat) (j : Nat) : posPtr o (some j) = .ptr j o := rfl
@[simp] theorem posPtr_none (o : Nat) : posPtr o none = .undef := rfl
@[simp] theorem posEptr_some (i o : Nat) (j : Nat) : posEptr i o (some j) = .eptr j i o := rfl
@[simp] theorem posEptr_none (i o : Nat) : posEptr i o none = .undef := rfl
@[simp] theorem posRow_some  (j : Nat) : posRow (some j) = .row j := rfl
@[simp] theorem posRow_none  : posRow none = .undef := rfl
@[simp] theorem posView_some (o n : Nat) (j : Nat) : posView o n (some j) = .view j o n := rfl
@[simp] theorem posView_none (o n : Nat) : posView o n none = .undef := rfl
@[simp] theorem posCview_some (o n : Nat) (j : Nat) : posCview o n (some j) = .cview j o n := rfl
@[simp] theorem posCview_none (o n : Nat) : posCview o n none = .undef := rfl
@[simp] theorem posF_def (ks : List Nat) (k : Nat) : posF ks k = pos k ks := rfl
@[simp] theorem ofOpt_some (o : Ob) : Ob.ofOpt (some o) = o := rfl
@[simp] theorem ofOpt_none  : Ob.ofOpt none = .dead := rfl
@[simp] theorem roOf_some (t : Nat) (v : SV) (c : RC) : roOf t v (some c) = .ro t c := rfl
@[simp] theorem lend_row (hp : List Ob) (ks : List Nat) (t : Nat) (k : Nat) : SV.lend hp ks t (.row k) = if ks.elem k then .row k else roOf t .undef (rowAt hp[k]?) := by simp [SV.lend, SV.strip]
@[simp] theorem back_row (args : List SV) (k : Nat) : SV.back args (.row k) = .row k := by simp [SV.back, SV.strip]
@[simp] theorem lend_view (hp : List Ob) (ks : List Nat) (t : Nat) (k o n : Nat) : SV.lend hp ks t (.view k o n) = if ks.elem k then .view k o n else roOf t .undef (cutAt o n hp[k]?) := by simp [SV.lend, SV.strip]
@[simp] theorem back_view (args : List SV) (k o n : Nat) : SV.back args (.view k o n) = .view k o n := by simp [SV.back, SV.strip]
@[simp] theorem lend_ro (hp : List Ob) (ks : List Nat) (t : Nat) (u : Nat) (c : RC) : SV.lend hp ks t (.ro u c) = .ro t c := by simp [SV.lend, SV.strip]
@[simp] theorem lend_rptr (hp : List Ob) (ks : List Nat) (t : Nat) (u : Nat) (c : RC) (i o : Nat) : SV.lend hp ks t (.rptr u c i o) = .rptr t c i o := by simp [SV.lend, SV.strip]
@[simp] theorem lend_eptr (hp : List Ob) (ks : List Nat) (t : Nat) (k i o : Nat) : SV.lend hp ks t (.eptr k i o) = if ks.elem k then .eptr k i o else .undef := by simp [SV.lend, SV.strip]
@[simp] theorem back_eptr (args : List SV) (k i o : Nat) : SV.back args (.eptr k i o) = .eptr k i o := by simp [SV.back, SV.strip]
@[simp] theorem lend_cview (hp : List Ob) (ks : List Nat) (t : Nat) (k o n : Nat) : SV.lend hp ks t (.cview k o n) = if ks.elem k then .cview k o n else roOf t .undef (cviewAt o n hp[k]?) := by simp [SV.lend, SV.strip]
@[simp] theorem back_cview (args : List SV) (k o n : Nat) : SV.back args (.cview k o n) = .cview k o n := by simp [SV.back, SV.strip]
@[simp] theorem lend_undef (hp : List Ob) (ks : List Nat) (t : Nat)  : SV.lend hp ks t .undef = .undef := by simp [SV.lend, SV.strip]
@[simp] theorem back_undef (args : List SV)  : SV.back args .undef = .undef := by simp [SV.back, SV.strip]
@[simp] theorem lend_int (hp : List Ob) (ks : List Nat) (t : Nat) (k : IntKind) (x : Int) : SV.lend hp ks t (.int k x) = .int k x := by simp [SV.lend, SV.strip]
@[simp] theorem back_int (args : List SV) (k : IntKind) (x : Int) : SV.back args (.int k x) = .int k x := by simp [SV.back, SV.strip]
@[simp] theorem lend_bool (hp : List Ob) (ks : List Nat) (t : Nat) (b : Bool) : SV.lend hp ks t (.bool b) = .bool b := by simp [SV.lend, SV.strip]
@[simp] theorem back_bool (args : List SV) (b : Bool) : SV.back args (.bool b) = .bool b := by simp [SV.back, SV.strip]
@[simp] theorem lend_str (hp : List Ob) (ks : List Nat) (t : Nat) (s : ByteArray) : SV.lend hp ks t (.str s) = .str s := by simp [SV.lend, SV.strip]
@[simp] theorem back_str (args : List SV) (s : ByteArray) : SV.back args (.str s) = .str s := by simp [SV.back, SV.strip]
@[simp] theorem lend_nilp (hp : List Ob) (ks : List Nat) (t : Nat)  : SV.lend hp ks t .nilp = .nilp := by simp [SV.lend, SV.strip]
@[simp] theorem back_nilp (args : List SV)  : SV.back args .nilp = .nilp := by simp [SV.back, SV.strip]
@[simp] theorem lend_ptr (hp : List Ob) (ks : List Nat) (t : Nat) (k o : Nat) : SV.lend hp ks t (.ptr k o) = .ptr k o := by simp [SV.lend, SV.strip]
@[simp] theorem back_ptr (args : List SV) (k o : Nat) : SV.back args (.ptr k o) = .ptr k o := by simp [SV.back, SV.strip]
@[simp] theorem lend_nils (hp : List Ob) (ks : List Nat) (t : Nat) (c : RC) : SV.lend hp ks t (.nils c) = .nils c := by simp [SV.lend, SV.strip]
@[simp] theorem back_nils (args : List SV) (c : RC) : SV.back args (.nils c) = .nils c := by simp [SV.back, SV.strip]
@[simp] theorem lend_fn (hp : List Ob) (ks : List Nat) (t : Nat) (f : Nat) (caps : List SV) : SV.lend hp ks t (.fn f caps) = .fn f (stripL caps) := by simp [SV.lend, SV.strip]
@[simp] theorem back_fn (args : List SV) (f : Nat) (caps : List SV) : SV.back args (.fn f caps) = .fn f (stripL caps) := by simp [SV.back, SV.strip]
@[simp] theorem lend_nilf (hp : List Ob) (ks : List Nat) (t : Nat)  : SV.lend hp ks t .nilf = .nilf := by simp [SV.lend, SV.strip]
@[simp] theorem back_nilf (args : List SV)  : SV.back args .nilf = .nilf := by simp [SV.back, SV.strip]
@[simp] theorem back_ro (args : List SV) (t : Nat) (c : RC) : SV.back args (.ro t c) = roArg t c args[t]? := rfl
@[simp] theorem roArg_ro (t u : Nat) (c d : RC) : roArg t c (some (.ro u d)) = .ro u c := rfl
@[simp] theorem avlend_one (hp : List Ob) (ks : List Nat) (t : Nat) (v : SV) : AV.lend hp ks t (.one v) = .one (v.lend hp ks t) := rfl
@[simp] theorem avlend_agg (hp : List Ob) (ks : List Nat) (t : Nat) (l : List SV) : AV.lend hp ks t (.agg l) = .agg (lendL hp ks t l) := rfl
@[simp] theorem tag_cells (i : Nat) (g : Option Nat) (l : List SV) : Ob.tag i (.cells g l) = .cells (some i) l := rfl
@[simp] theorem tag_rows (i : Nat) (c : RC) : Ob.tag i (.rows c) = .rows c := rfl
@[simp] theorem tag_dead (i : Nat) : Ob.tag i .dead = .dead := rfl
@[simp] theorem orgOf_cells (g : Option Nat) (l : List SV) : orgOf (some (.cells g l)) = g := rfl
@[simp] theorem backF_def (ks : List Nat) (n : Nat) (os : List Ob) (j : Nat) : backF ks n os j = (backKeys ks n os)[j]? := rfl
@[simp] theorem comeBack_none (hp : List Ob) (ks : List Nat) (args : List AV) : comeBack hp ks args none = none := rfl
@[simp] theorem comeBack_some (hp : List Ob) (ks : List Nat) (args : List AV) (r : AV) (os : List Ob) : comeBack hp ks args (some (r, os)) = some ((r.back (argCells args)).ren (backF ks hp.length os), layBack hp ks (backF ks hp.length os) (argCells args) os (killAll hp ks)) := rfl
@[simp] theorem callKs_def (Γ : Nat → Callee) (hp : List Ob) (f : Nat) (args : List AV) (ks : List Nat) : callKs Γ hp f args ks = comeBack hp ks args (Γ f (lendArgs hp ks 0 args) (tagAll 0 (Go.X.pick hp (posF ks) ks))) := rfl
@[simp] theorem pureCall_def (Γ : Nat → Callee) (hp : List Ob) (f : Nat) (args : List AV) : pureCall Γ hp f args = if plainArgs args = true then plainOut hp (Γ f args []) else none := rfl
@[simp] theorem plainOut_some (hp : List Ob) (r : AV) : plainOut hp (some (r, [])) = if r.plain = true then some (r, hp) else none := rfl
@[simp] theorem plainArgs_nil  : plainArgs [] = true := rfl
@[simp] theorem plainArgs_one (v : SV) (l : List AV) : plainArgs (.one v :: l) = (v.plain && plainArgs l) := rfl
@[simp] theorem plainArgs_agg (m : List SV) (l : List AV) : plainArgs (.agg m :: l) = (plainL m && plainArgs l) := rfl
@[simp] theorem plainL_nil  : plainL [] = true := rfl
@[simp] theorem plainL_cons (v : SV) (l : List SV) : plainL (v :: l) = (v.plain && plainL l) := rfl
@[simp] theorem plainT_nil  : plainT [] = true := rfl
@[simp] theorem plainT_cons (v : AV) (l : List AV) : plainT (v :: l) = (v.plain && plainT l) := rfl
@[simp] theorem plain_int (k : IntKind) (x : Int) : SV.plain (.int k x) = true := rfl
@[simp] theorem plain_bool (b : Bool) : SV.plain (.bool b) = true := rfl
@[simp] theorem plain_str (s : ByteArray) : SV.plain (.str s) = true := rfl
@[simp] theorem plain_one (v : SV) : AV.plain (.one v) = v.plain := rfl
@[simp] theorem plain_agg (l : List SV) : AV.plain (.agg l) = plainL l := rfl
@[simp] theorem plain_tup (l : List AV) : AV.plain (.tup l) = plainT l := rfl
@[simp] theorem callee_def (Γ : Nat → Callee) (hp : List Ob) (f : Nat) (args : List AV) : callee Γ hp f args = callKs Γ hp f args (handKs hp args) := rfl
@[simp] theorem handKs_def (hp : List Ob) (args : List AV) : handKs hp args = reachL hp 64 (handed (avsCells args)) [] := rfl
@[simp] theorem tidyKs_def (env : Env) (rts : List SV) (hp : List Ob) (ks : List Nat) : tidyKs env rts hp ks = ⟨env.ren (posF ks), renL (posF ks) rts, Go.X.pick hp (posF ks) ks⟩ := rfl
@[simp] theorem tidy_def (env : Env) (rts : List SV) (hp : List Ob) : tidy env rts hp = tidyKs env rts hp (reachL hp 64 (rts ++ envCells env) []) := rfl
@[simp] theorem head_def (live : List Nat) (env : Env) (rts : List SV) (hp : List Ob) : St.head live ⟨env, rts, hp⟩ = tidy (keep env live) rts hp := rfl
@[simp] theorem giveKs_def (v : AV) (hp : List Ob) (ks : List Nat) : giveKs v hp ks = some (v.ren (posF ks), Go.X.pick hp (posF ks) ks) := rfl
@[simp] theorem give_none (rts : List SV) (hp : List Ob) : give rts hp none = none := rfl
@[simp] theorem give_some (rts : List SV) (hp : List Ob) (l : List AV) : give rts hp (some l) = giveKs (tupOf l) hp (reachL hp 64 (rts ++ avCells (tupOf l)) []) := rfl
@[simp] theorem getO_tmp (env : Env) (t : Nat) : getO env (.tmp t) = getT t env := rfl
@[simp] theorem getO_const (env : Env) (v : AV) : getO env (.const v) = v := rfl
@[simp] theorem getS_def (env : Env) (x : AO) : getS env x = (getO env x).sv := rfl
@[simp] theorem getSo_none (env : Env) : getSo env none = none := rfl
@[simp] theorem getSo_some (env : Env) (x : AO) : getSo env (some x) = some (getS env x) := rfl
@[simp] theorem putE_some (env : Env) (d : Nat) (v : AV) : putE env (some d) v = (d, v) :: env := rfl
@[simp] theorem putE_none (env : Env) (v : AV) : putE env none v = env := rfl
@[simp] theorem sv_one (v : SV) : AV.sv (.one v) = v := rfl
@[simp] theorem sv_agg (l : List SV) : AV.sv (.agg l) = .undef := rfl
@[simp] theorem cells_one (v : SV) : AV.cells (.one v) = [v] := rfl
@[simp] theorem cells_agg (l : List SV) : AV.cells (.agg l) = l := rfl
@[simp] theorem thenC_norm (f : St → Option (Ex × St)) (st : St) : thenC f (some (.norm, st)) = f st := rfl
@[simp] theorem thenC_exit (f : St → Option (Ex × St)) (st : St) (i : Nat) : thenC f (some (.exit i, st)) = some (.exit i, st) := rfl
@[simp] theorem thenC_ret (f : St → Option (Ex × St)) (st : St) : thenC f (some (.ret, st)) = some (.ret, st) := rfl
@[simp] theorem blockC_norm (i : Nat) (st : St) : blockC i (some (.norm, st)) = some (.norm, st) := rfl
@[simp] theorem blockC_exit (i j : Nat) (st : St) : blockC i (some (.exit j, st)) = if i = j then some (.norm, st) else some (.exit j, st) := rfl
@[simp] theorem blockC_ret (i : Nat) (st : St) : blockC i (some (.ret, st)) = some (.ret, st) := rfl
@[simp] theorem normC_some (st : St) : normC (some st) = some (.norm, st) := rfl
@[simp] theorem branchC_bool (f g : St → Option (Ex × St)) (st : St) (t : Bool) : branchC f g st (.one (.bool t)) = if t = true then f st else g st := rfl
@[simp] theorem thenI_none (env : Env) (rts : List SV) (d : Option Nat) (f : St → Option St) : thenI env rts d f none = none := rfl
@[simp] theorem thenI_some (env : Env) (rts : List SV) (d : Option Nat) (f : St → Option St) (v : AV) (hp : List Ob) : thenI env rts d f (some (v, hp)) = f ⟨putE env d v, rts, hp⟩ := rfl
@[simp] theorem evIs_nil (Γ : Nat → Callee) (st : St) : evIs Γ [] st = some st := rfl
@[simp] theorem evIs_plain (Γ : Nat → Callee) (env : Env) (rts : List SV) (hp : List Ob) (dst : Option Nat) (op : AOp) (l : List AI) : evIs Γ (⟨dst, none, op⟩ :: l) ⟨env, rts, hp⟩ = thenI env rts dst (evIs Γ l) (evOp Γ env hp op) := rfl
@[simp] theorem evIs_guard (Γ : Nat → Callee) (env : Env) (rts : List SV) (hp : List Ob) (dst : Option Nat) (t : Nat) (b : Bool) (op : AOp) (l : List AI) : evIs Γ (⟨dst, some (t, b), op⟩ :: l) ⟨env, rts, hp⟩ = guardI b (thenI env rts dst (evIs Γ l) (evOp Γ env hp op)) (evIs Γ l ⟨putE env dst (.tup []), rts, hp⟩) (getT t env) := rfl
@[simp] theorem stepI_plain (Γ : Nat → Callee) (env : Env) (hp : List Ob) (d : Option Nat) (op : AOp) : stepI Γ env hp ⟨d, none, op⟩ = evOp Γ env hp op := rfl
@[simp] theorem stepI_guard (Γ : Nat → Callee) (env : Env) (hp : List Ob) (d : Option Nat) (t : Nat) (b : Bool) (op : AOp) : stepI Γ env hp ⟨d, some (t, b), op⟩ = stepG b (evOp Γ env hp op) hp (getT t env) := rfl
@[simp] theorem stepG_bool (b c : Bool) (r : Res) (hp : List Ob) : stepG b r hp (.one (.bool c)) = if c = b then r else some (.tup [], hp) := rfl
@[simp] theorem stepG_skip (b : Bool) (r : Res) (hp : List Ob) : stepG b r hp (.tup []) = some (.tup [], hp) := rfl
@[simp] theorem thenD_none (d : Option Nat) (b : Bool) (f : Env → List Ob → List (List Ob) → ResD) (env : Env) (hs : List (List Ob)) : thenD d b f env hs none = none := rfl
@[simp] theorem thenD_some (d : Option Nat) (b : Bool) (f : Env → List Ob → List (List Ob) → ResD) (env : Env) (hs : List (List Ob)) (v : AV) (hp : List Ob) : thenD d b f env hs (some (v, hp)) = f (putE env d v) hp (if b = true then hs ++ [hp] else hs) := rfl
@[simp] theorem ckAt_some (Γ : Nat → Callee) (env : Env) (hs : List (List Ob)) (ks : List Nat) (d : Nat) (g : Option (Nat × Bool)) (op : AOp) (b : Bool) : ckAt Γ env hs ks (some (⟨some d, g, op⟩, b)) = ckKs Γ env hs ⟨some d, g, op⟩ (getT d env) ks := rfl
@[simp] theorem ckR_none (v : AV) : ckR v none = false := rfl
@[simp] theorem ckR_some (v u : AV) (hp : List Ob) : ckR v (some (u, hp)) = u.same v := rfl
@[simp] theorem finD_none (Γ : Nat → Callee) (l : List (AI × Bool)) (ck : List (Nat × List Nat)) (rts : List SV) : finD Γ l ck rts none = none := rfl
@[simp] theorem tupOf_nil  : tupOf [] = .tup [] := rfl
@[simp] theorem thenC_none (f : St → Option (Ex × St)) : thenC f none = none := rfl
@[simp] theorem blockC_none (i : Nat) : blockC i none = none := rfl
@[simp] theorem normC_none  : normC none = none := rfl
@[simp] theorem guardI_skip (b : Bool) (x y : Option St) : guardI b x y (.tup []) = y := rfl
@[simp] theorem guardI_bool (b c : Bool) (x y : Option St) : guardI b x y (.one (.bool c)) = if c = b then x else y := rfl
@[simp] theorem put1_none (hp : List Ob) : put1 hp none = none := rfl
@[simp] theorem put1_some (hp : List Ob) (v : SV) : put1 hp (some v) = some (.one v, hp) := rfl
@[simp] theorem putA_none (hp : List Ob) : putA hp none = none := rfl
@[simp] theorem putA_some (hp : List Ob) (v : AV) : putA hp (some v) = some (v, hp) := rfl
@[simp] theorem putL_none (hp : List Ob) : putL hp none = none := rfl
@[simp] theorem putL_some (hp : List Ob) (v : List SV) : putL hp (some v) = some (.agg v, hp) := rfl
@[simp] theorem putR_none (hp : List Ob) : putR hp none = none := rfl
@[simp] theorem putR_some (hp : List Ob) (v : RC) : putR hp (some v) = newRow hp v := rfl
@[simp] theorem putH_none  : putH none = none := rfl
@[simp] theorem putH_some (h : List Ob) : putH (some h) = some (.one .undef, h) := rfl
@[simp] theorem putB_none (hp : List Ob) (n : Bool) : putB hp n none = none := rfl
@[simp] theorem putB_some (hp : List Ob) (n b : Bool) : putB hp n (some b) = some (.one (.bool (if n = true then !b else b)), hp) := rfl
@[simp] theorem evOp_mv (Γ : Nat → Callee) (env : Env) (hp : List Ob) (x : AO) : evOp Γ env hp (.mv x) = some (getO env x, hp) := rfl
@[simp] theorem evOp_newNil (Γ : Nat → Callee) (env : Env) (hp : List Ob) (c0 : RC) : evOp Γ env hp (.newNil c0) = newRow hp c0 := rfl
@[simp] theorem evOp_pick (Γ : Nat → Callee) (env : Env) (hp : List Ob) (a b c : AO) : evOp Γ env hp (.pick c a b) = oPick hp (getO env a) (getO env b) (getO env c) := rfl
@[simp] theorem evOp_alloc (Γ : Nat → Callee) (env : Env) (hp : List Ob) (z : List ZV) : evOp Γ env hp (.alloc z) = some (.one (.ptr (zcells z hp).2.length 0), (zcells z hp).2 ++ [.cells none (zcells z hp).1]) := rfl
@[simp] theorem evOp_box (Γ : Nat → Callee) (env : Env) (hp : List Ob) (x : AO) : evOp Γ env hp (.box x) = if (getO env x).cells.all okCell = true then some (.one (.ptr hp.length 0), hp ++ [.cells none (getO env x).cells]) else none := rfl
@[simp] theorem evOp_build (Γ : Nat → Callee) (env : Env) (hp : List Ob) (z : List ZV) (ps : List ((Nat × Nat) × AO)) : evOp Γ env hp (.build z ps) = if (getPP env ps).all (fun q => q.2.cells.all okCell) = true then putL (zcells z hp).2 (fillAll (zcells z hp).1 (getPP env ps)) else none := rfl
@[simp] theorem evOp_bslice (Γ : Nat → Callee) (env : Env) (hp : List Ob) (c0 : RC) (zero : List Sc) (len : Nat) (ps : List (Nat × AO)) : evOp Γ env hp (.bslice c0 zero len ps) = putR hp (ofElemsO c0 (bsFrom zero (getPs env ps) 0 len)) := rfl
@[simp] theorem evOp_load (Γ : Nat → Callee) (env : Env) (hp : List Ob) (x : AO) : evOp Γ env hp (.load none x) = put1 hp (loadOne hp (getS env x)) := rfl
@[simp] theorem evOp_load1 (Γ : Nat → Callee) (env : Env) (hp : List Ob) (n : Nat) (x : AO) : evOp Γ env hp (.load (some n) x) = putL hp (loadN hp n (getS env x)) := rfl
@[simp] theorem evOp_store (Γ : Nat → Callee) (env : Env) (hp : List Ob) (n : Nat) (x v : AO) : evOp Γ env hp (.store n x v) = if (getO env v).cells.length = n then putH (storeCells hp (getO env v).cells (getS env x)) else none := rfl
@[simp] theorem evOp_storeNil (Γ : Nat → Callee) (env : Env) (hp : List Ob) (c0 : RC) (x : AO) : evOp Γ env hp (.storeNil c0 x) = putH (storeCells (hp ++ [.rows c0]) [.row hp.length] (getS env x)) := rfl
@[simp] theorem evOp_nilCheck (Γ : Nat → Callee) (env : Env) (hp : List Ob) (x : AO) : evOp Γ env hp (.nilCheck x) = oNilCheck hp (getO env x) := rfl
@[simp] theorem evOp_bin (Γ : Nat → Callee) (env : Env) (hp : List Ob) (op : BinOp) (x y : AO) : evOp Γ env hp (.bin op x y) = put1 hp (Go.X.bin op (getS env x) (getS env y)) := rfl
@[simp] theorem evOp_eqNil (Γ : Nat → Callee) (env : Env) (hp : List Ob) (neq : Bool) (x : AO) : evOp Γ env hp (.eqNil neq x) = oEqNil hp neq (getO env x) := rfl
@[simp] theorem evOp_eqAgg (Γ : Nat → Callee) (env : Env) (hp : List Ob) (neq : Bool) (z : List Sc) (x y : AO) : evOp Γ env hp (.eqAgg neq z x y) = oEqAgg hp neq z (getO env x) (getO env y) := rfl
@[simp] theorem evOp_eqB (Γ : Nat → Callee) (env : Env) (hp : List Ob) (neq : Bool) (x y : AO) : evOp Γ env hp (.eqB neq x y) = oEqB hp neq (getO env x) (getO env y) := rfl
@[simp] theorem evOp_un (Γ : Nat → Callee) (env : Env) (hp : List Ob) (op : UnOp) (x : AO) : evOp Γ env hp (.un op x) = put1 hp (Go.X.un op (getS env x)) := rfl
@[simp] theorem evOp_conv (Γ : Nat → Callee) (env : Env) (hp : List Ob) (k : IntKind) (x : AO) : evOp Γ env hp (.conv k x) = oConv hp k (getO env x) := rfl
@[simp] theorem evOp_sconv (Γ : Nat → Callee) (env : Env) (hp : List Ob) (x : AO) : evOp Γ env hp (.sconv x) = oSconv hp (getO env x) := rfl
@[simp] theorem evOp_s2b (Γ : Nat → Callee) (env : Env) (hp : List Ob) (x : AO) : evOp Γ env hp (.s2b x) = oS2b hp (getO env x) := rfl
@[simp] theorem evOp_b2s (Γ : Nat → Callee) (env : Env) (hp : List Ob) (x : AO) : evOp Γ env hp (.b2s x) = oB2s hp (content hp (getS env x)) := rfl
@[simp] theorem evOp_cutS (Γ : Nat → Callee) (env : Env) (hp : List Ob) (x : AO) (lo hi : Option AO) : evOp Γ env hp (.cutS x lo hi) = oCutS hp (getSo env lo) (getSo env hi) (getO env x) := rfl
@[simp] theorem evOp_cutR (Γ : Nat → Callee) (env : Env) (hp : List Ob) (size : Nat) (x : AO) (lo hi : Option AO) : evOp Γ env hp (.cutR size x lo hi) = if Go.X.sizeOf hp (getS env x) = some size then oCutR hp (getSo env lo) (getSo env hi) (getS env x) (lenOf hp (getS env x)) else none := rfl
@[simp] theorem evOp_cutA (Γ : Nat → Callee) (env : Env) (hp : List Ob) (n : Nat) (x : AO) (lo hi : Option AO) : evOp Γ env hp (.cutA n x lo hi) = oCutA hp n (getSo env lo) (getSo env hi) (getO env x) := rfl
@[simp] theorem evOp_fadr (Γ : Nat → Callee) (env : Env) (hp : List Ob) (off : Nat) (x : AO) : evOp Γ env hp (.fadr off x) = oFadr hp off (getO env x) := rfl
@[simp] theorem evOp_fld (Γ : Nat → Callee) (env : Env) (hp : List Ob) (off : Nat) (n : Option Nat) (x : AO) : evOp Γ env hp (.fld off n x) = oFld hp off n (getO env x) := rfl
@[simp] theorem evOp_iadrR (Γ : Nat → Callee) (env : Env) (hp : List Ob) (size : Nat) (x i : AO) : evOp Γ env hp (.iadrR size x i) = if Go.X.sizeOf hp (getS env x) = some size then oIadrR hp (getS env x) (lenOf hp (getS env x)) (getO env i) else none := rfl
@[simp] theorem evOp_iadrA (Γ : Nat → Callee) (env : Env) (hp : List Ob) (len size : Nat) (x i : AO) : evOp Γ env hp (.iadrA len size x i) = oIadrA hp len size (getO env x) (getO env i) := rfl
@[simp] theorem evOp_idxA (Γ : Nat → Callee) (env : Env) (hp : List Ob) (len size : Nat) (n : Option Nat) (x i : AO) : evOp Γ env hp (.idxA len size n x i) = oIdxA hp len size n (getO env x) (getO env i) := rfl
@[simp] theorem evOp_idxS (Γ : Nat → Callee) (env : Env) (hp : List Ob) (x i : AO) : evOp Γ env hp (.idxS x i) = oIdxS hp (getO env x) (getO env i) := rfl
@[simp] theorem evOp_extract (Γ : Nat → Callee) (env : Env) (hp : List Ob) (i : Nat) (x : AO) : evOp Γ env hp (.extract i x) = oExtract hp i (getO env x) := rfl
@[simp] theorem evOp_call (Γ : Nat → Callee) (env : Env) (hp : List Ob) (f : Nat) (args : List AO) : evOp Γ env hp (.call f args) = callee Γ hp f (getL env args) := rfl
@[simp] theorem evOp_pcall (Γ : Nat → Callee) (env : Env) (hp : List Ob) (f : Nat) (args : List AO) : evOp Γ env hp (.pcall f args) = pureCall Γ hp f (getL env args) := rfl
@[simp] theorem evOp_callv (Γ : Nat → Callee) (env : Env) (hp : List Ob) (x : AO) (args : List AO) : evOp Γ env hp (.callv x args) = oCallv Γ hp (getL env args) (getO env x) := rfl
@[simp] theorem evOp_lenS (Γ : Nat → Callee) (env : Env) (hp : List Ob) (x : AO) : evOp Γ env hp (.lenS x) = oLenS hp (getO env x) := rfl
@[simp] theorem evOp_len (Γ : Nat → Callee) (env : Env) (hp : List Ob) (x : AO) : evOp Γ env hp (.len x) = oLen hp (lenOf hp (getS env x)) := rfl
@[simp] theorem evOp_append (Γ : Nat → Callee) (env : Env) (hp : List Ob) (c0 : RC) (bytes : Nat) (s x : AO) : evOp Γ env hp (.append c0 bytes s x) = Go.X.append hp c0 bytes (getS env s) (getS env x) := rfl
@[simp] theorem evOp_min (Γ : Nat → Callee) (env : Env) (hp : List Ob) (l : List AO) : evOp Γ env hp (.min l) = oMin hp (getL env l) := rfl
@[simp] theorem evOp_max (Γ : Nat → Callee) (env : Env) (hp : List Ob) (l : List AO) : evOp Γ env hp (.max l) = oMax hp (getL env l) := rfl
@[simp] theorem evOp_mkfn (Γ : Nat → Callee) (env : Env) (hp : List Ob) (f : Nat) (caps : List AO) : evOp Γ env hp (.mkfn f caps) = some (.one (.fn f (getSL env caps)), hp) := rfl
@[simp] theorem evOp_mks (Γ : Nat → Callee) (env : Env) (hp : List Ob) (c0 : RC) (zero : List Sc) (bytes : Nat) (len cap : AO) : evOp Γ env hp (.mks c0 zero bytes len cap) = oMks hp c0 zero bytes (getO env len) (getO env cap) := rfl
@[simp] theorem newRow_def (hp : List Ob) (c : RC) : newRow hp c = some (.one (.row hp.length), hp ++ [.rows c]) := rfl
@[simp] theorem append_def (hp : List Ob) (c0 : RC) (bytes : Nat) (s x : SV) : Go.X.append hp c0 bytes s x = app1 hp c0 bytes s x (source hp c0 x) := rfl
@[simp] theorem app1_some (hp : List Ob) (c0 : RC) (bytes : Nat) (s x : SV) (y : RC) : app1 hp c0 bytes s x (some y) = app2 hp c0 bytes s x y := rfl
@[simp] theorem app2_nils (hp : List Ob) (c0 c : RC) (bytes : Nat) (x : SV) (y : RC) : app2 hp c0 bytes (.nils c) x y = if y.len * bytes ≤ 140737488355328 ∧ y.size = c0.size then putR hp (RC.app c0 y) else none := rfl
@[simp] theorem app2_row (hp : List Ob) (c0 : RC) (bytes k : Nat) (x : SV) (y : RC) : app2 hp c0 bytes (.row k) x y = if keyOf x = some k then none else app3 hp c0 bytes k y (rowAt (hp[k]?)) := rfl
@[simp] theorem app2_view (hp : List Ob) (c0 : RC) (bytes k o n : Nat) (x : SV) (y : RC) : app2 hp c0 bytes (.view k o n) x y = if keyOf x = some k then none else app3 hp c0 bytes k y (cutAt o n (hp[k]?)) := rfl
@[simp] theorem app3_some (hp : List Ob) (c0 : RC) (bytes k : Nat) (y c : RC) : app3 hp c0 bytes k y (some c) = if (c.len + y.len) * bytes ≤ 140737488355328 ∧ c.size = c0.size ∧ y.size = c0.size then putR (hp.set k .dead) (c.app y) else none := rfl
@[simp] theorem ofElemsO_some (c0 : RC) (l : List (List Sc)) : ofElemsO c0 (some l) = RC.ofElems c0 l := rfl
@[simp] theorem resC_norm (rs : List (Nat × Option (Option Nat))) (env : Env) (rts : List SV) (hp : List Ob) : resC rs (some (.norm, ⟨env, rts, hp⟩)) = give rts hp (resL env hp rs) := rfl
@[simp] theorem resC_ret (rs : List (Nat × Option (Option Nat))) (env : Env) (rts : List SV) (hp : List Ob) : resC rs (some (.ret, ⟨env, rts, hp⟩)) = give rts hp (resL env hp rs) := rfl
@[simp] theorem resC_none (rs : List (Nat × Option (Option Nat))) : resC rs none = none := rfl
@[simp] theorem resOf_tmp (env : Env) (hp : List Ob) (t : Nat) : resOf env hp (t, none) = some (getT t env) := rfl
@[simp] theorem resOf_one (env : Env) (hp : List Ob) (t : Nat) : resOf env hp (t, some none) = oneAV (loadOne hp (getT t env).sv) := rfl
@[simp] theorem resOf_agg (env : Env) (hp : List Ob) (t n : Nat) : resOf env hp (t, some (some n)) = aggAV (loadN hp n (getT t env).sv) := rfl
@[simp] theorem evF_def (Γ : Nat → Callee) (K : Nat) (f : AF) (args : List AV) (hp : List Ob) : evF Γ K f args hp = resC f.results (evC Γ K f.body ⟨argEnv 0 args, handed (avsCells args), hp⟩) := rfl
@[simp] theorem oPick_bool (hp : List Ob) (a b : AV) (t : Bool) : oPick hp a b (.one (.bool t)) = some (if t = true then a else b, hp) := rfl
@[simp] theorem oNilCheck_ptr (hp : List Ob) (k o : Nat) : oNilCheck hp (.one (.ptr k o)) = some (.one (.ptr k o), hp) := rfl
@[simp] theorem oNilCheck_eptr (hp : List Ob) (k i o : Nat) : oNilCheck hp (.one (.eptr k i o)) = some (.one (.eptr k i o), hp) := rfl
@[simp] theorem oNilCheck_rptr (hp : List Ob) (t : Nat) (c : RC) (i o : Nat) : oNilCheck hp (.one (.rptr t c i o)) = some (.one (.rptr t c i o), hp) := rfl
@[simp] theorem oNilCheck_fn (hp : List Ob) (f : Nat) (caps : List SV) : oNilCheck hp (.one (.fn f caps)) = some (.one (.fn f caps), hp) := rfl
@[simp] theorem oNilCheck_nilp (hp : List Ob) : oNilCheck hp (.one .nilp) = none := rfl
@[simp] theorem oEqNil_nilp (hp : List Ob) (neq : Bool) : oEqNil hp neq (.one .nilp) = some (.one (.bool (!neq)), hp) := rfl
@[simp] theorem oEqNil_ptr (hp : List Ob) (neq : Bool) (k o : Nat) : oEqNil hp neq (.one (.ptr k o)) = some (.one (.bool neq), hp) := rfl
@[simp] theorem oEqNil_eptr (hp : List Ob) (neq : Bool) (k i o : Nat) : oEqNil hp neq (.one (.eptr k i o)) = some (.one (.bool neq), hp) := rfl
@[simp] theorem oEqAgg_agg (hp : List Ob) (neq : Bool) (z : List Sc) (l m : List SV) : oEqAgg hp neq z (.agg l) (.agg m) = putB hp neq (eqScs z l m) := rfl
@[simp] theorem oConv_int (hp : List Ob) (k j : IntKind) (n : Int) : oConv hp k (.one (.int j n)) = some (.one (.int k (k.wrap n)), hp) := rfl
@[simp] theorem oSconv_str (hp : List Ob) (s : ByteArray) : oSconv hp (.one (.str s)) = some (.one (.str s), hp) := rfl
@[simp] theorem oS2b_str (hp : List Ob) (s : ByteArray) : oS2b hp (.one (.str s)) = if s.size ≤ 140737488355328 then newRow hp (.ints .u8 (toBytes s)) else none := rfl
@[simp] theorem oB2s_ints (hp : List Ob) (xs : List Int) : oB2s hp (some (.ints .u8 xs)) = some (.one (.str (ofBytes xs)), hp) := rfl
@[simp] theorem optInt_none (d : Nat) : optInt d none = some (d : Int) := rfl
@[simp] theorem optInt_int (d : Nat) (k : IntKind) (z : Int) : optInt d (some (.int k z)) = some z := rfl
@[simp] theorem oCutS_str (hp : List Ob) (lo hi : Option SV) (s : ByteArray) : oCutS hp lo hi (.one (.str s)) = cutS2 hp s (optInt 0 lo) (optInt s.size hi) := rfl
@[simp] theorem cutS2_some (hp : List Ob) (s : ByteArray) (a b : Int) : cutS2 hp s (some a) (some b) = if 0 ≤ a ∧ a ≤ b ∧ b ≤ s.size then some (.one (.str (s.extract a.toNat b.toNat)), hp) else none := rfl
@[simp] theorem oCutR_some (hp : List Ob) (lo hi : Option SV) (x : SV) (n : Nat) : oCutR hp lo hi x (some n) = cutR2 hp x n (optInt 0 lo) (optInt n hi) := rfl
@[simp] theorem cutR2_some (hp : List Ob) (x : SV) (n : Nat) (a b : Int) : cutR2 hp x n (some a) (some b) = if 0 ≤ a ∧ a ≤ b ∧ b ≤ n then put1 hp (cutSV a.toNat (b.toNat - a.toNat) x) else none := rfl
@[simp] theorem cutSV_row (a n k : Nat) : cutSV a n (.row k) = some (.view k a n) := rfl
@[simp] theorem cutSV_view (a n k o m : Nat) : cutSV a n (.view k o m) = some (.view k (o + a) n) := rfl
@[simp] theorem cutSV_cview (a n k o m : Nat) : cutSV a n (.cview k o m) = some (.cview k (o + a) n) := rfl
@[simp] theorem cutSV_ro (a n t : Nat) (c : RC) : cutSV a n (.ro t c) = some (.ro t (c.cut a n)) := rfl
@[simp] theorem cutSV_nils (a n : Nat) (c : RC) : cutSV a n (.nils c) = some (.nils c) := rfl
@[simp] theorem oCutA_ptr (hp : List Ob) (n : Nat) (lo hi : Option SV) (k o : Nat) : oCutA hp n lo hi (.one (.ptr k o)) = cutA2 hp n k o (optInt 0 lo) (optInt n hi) := rfl
@[simp] theorem cutA2_some (hp : List Ob) (n k o : Nat) (a b : Int) : cutA2 hp n k o (some a) (some b) = if 0 ≤ a ∧ a ≤ b ∧ b ≤ n then some (.one (.cview k (o + a.toNat) (b.toNat - a.toNat)), hp) else none := rfl
@[simp] theorem oFadr_ptr (hp : List Ob) (off k o : Nat) : oFadr hp off (.one (.ptr k o)) = some (.one (.ptr k (o + off)), hp) := rfl
@[simp] theorem oFadr_eptr (hp : List Ob) (off k i o : Nat) : oFadr hp off (.one (.eptr k i o)) = some (.one (.eptr k i (o + off)), hp) := rfl
@[simp] theorem oFadr_rptr (hp : List Ob) (off t : Nat) (c : RC) (i o : Nat) : oFadr hp off (.one (.rptr t c i o)) = some (.one (.rptr t c i (o + off)), hp) := rfl
@[simp] theorem oFld_agg (hp : List Ob) (off : Nat) (n : Option Nat) (l : List SV) : oFld hp off n (.agg l) = putA hp (takeAV l off n) := rfl
@[simp] theorem takeAV_none (l : List SV) (off : Nat) : takeAV l off none = (l[off]?).map AV.one := rfl
@[simp] theorem takeAV_some (l : List SV) (off n : Nat) : takeAV l off (some n) = if off + n ≤ l.length then some (.agg ((l.drop off).take n)) else none := rfl
@[simp] theorem elemPtr_row (i k : Nat) : elemPtr i (.row k) = some (.eptr k i 0) := rfl
@[simp] theorem elemPtr_view (i k o n : Nat) : elemPtr i (.view k o n) = some (.eptr k (o + i) 0) := rfl
@[simp] theorem elemPtr_cview (i k o n : Nat) : elemPtr i (.cview k o n) = some (.ptr k (o + i)) := rfl
@[simp] theorem elemPtr_ro (i t : Nat) (c : RC) : elemPtr i (.ro t c) = some (.rptr t c i 0) := rfl
@[simp] theorem oIadrR_some (hp : List Ob) (x : SV) (n : Nat) (k : IntKind) (i : Int) : oIadrR hp x (some n) (.one (.int k i)) = if inBounds i n = true then put1 hp (elemPtr i.toNat x) else none := rfl
@[simp] theorem oIadrA_ptr (hp : List Ob) (len size k o : Nat) (j : IntKind) (i : Int) : oIadrA hp len size (.one (.ptr k o)) (.one (.int j i)) = if inBounds i len = true then some (.one (.ptr k (o + i.toNat * size)), hp) else none := rfl
@[simp] theorem oIdxA_agg (hp : List Ob) (len size : Nat) (n : Option Nat) (l : List SV) (j : IntKind) (i : Int) : oIdxA hp len size n (.agg l) (.one (.int j i)) = if inBounds i len = true then putA hp (takeAV l (i.toNat * size) n) else none := rfl
@[simp] theorem oIdxS_str (hp : List Ob) (s : ByteArray) (j : IntKind) (i : Int) : oIdxS hp (.one (.str s)) (.one (.int j i)) = if inBounds i s.size = true then some (.one (.int .u8 ((toBytes s).getD i.toNat 0)), hp) else none := rfl
@[simp] theorem oExtract_tup (hp : List Ob) (i : Nat) (l : List AV) : oExtract hp i (.tup l) = putA hp l[i]? := rfl
@[simp] theorem oCallv_fn (Γ : Nat → Callee) (hp : List Ob) (args : List AV) (f : Nat) (caps : List SV) : oCallv Γ hp args (.one (.fn f caps)) = callee Γ hp f (args ++ caps.map AV.one) := rfl
@[simp] theorem oLen_some (hp : List Ob) (n : Nat) : oLen hp (some n) = some (.one (.int .i64 n), hp) := rfl
@[simp] theorem oMin_two (hp : List Ob) (k j : IntKind) (x y : Int) : oMin hp [.one (.int k x), .one (.int j y)] = some (.one (.int k (if y < x then y else x)), hp) := rfl
@[simp] theorem oMax_two (hp : List Ob) (k j : IntKind) (x y : Int) : oMax hp [.one (.int k x), .one (.int j y)] = some (.one (.int k (if x < y then y else x)), hp) := rfl
@[simp] theorem oMks_int (hp : List Ob) (c0 : RC) (zero : List Sc) (bytes : Nat) (k j : IntKind) (n c : Int) : oMks hp c0 zero bytes (.one (.int k n)) (.one (.int j c)) = if 0 ≤ n ∧ n ≤ c ∧ c * bytes ≤ 140737488355328 then putR hp (RC.ofElems c0 (List.replicate n.toNat zero)) else none := rfl
@[simp] theorem loadOne_eptr (hp : List Ob) (k i o : Nat) : loadOne hp (.eptr k i o) = loadE (hp[k]?) i o := rfl
@[simp] theorem loadOne_ptr (hp : List Ob) (k o : Nat) : loadOne hp (.ptr k o) = loadP (hp[k]?) o := rfl
@[simp] theorem loadOne_rptr (hp : List Ob) (t : Nat) (c : RC) (i o : Nat) : loadOne hp (.rptr t c i o) = scSV (c.get i o) := rfl
@[simp] theorem loadP_cells (g : Option Nat) (l : List SV) (o : Nat) : loadP (some (.cells g l)) o = l[o]? := rfl
@[simp] theorem loadE_rows (c : RC) (i o : Nat) : loadE (some (.rows c)) i o = scSV (c.get i o) := rfl
@[simp] theorem scSV_none  : scSV none = none := rfl
@[simp] theorem scSV_some (c : Sc) : scSV (some c) = some c.sv := rfl
@[simp] theorem loadN_ptr (hp : List Ob) (n k o : Nat) : loadN hp n (.ptr k o) = loadPN (hp[k]?) n o := rfl
@[simp] theorem loadN_eptr (hp : List Ob) (n k i o : Nat) : loadN hp n (.eptr k i o) = loadEN (hp[k]?) n i o := rfl
@[simp] theorem loadN_rptr (hp : List Ob) (n t : Nat) (c : RC) (i o : Nat) : loadN hp n (.rptr t c i o) = takeE c n i o := rfl
@[simp] theorem loadPN_cells (g : Option Nat) (l : List SV) (n o : Nat) : loadPN (some (.cells g l)) n o = if o + n ≤ l.length then some ((l.drop o).take n) else none := rfl
@[simp] theorem loadEN_rows (c : RC) (n i o : Nat) : loadEN (some (.rows c)) n i o = takeE c n i o := rfl
@[simp] theorem storeCells_ptr (hp : List Ob) (vs : List SV) (k o : Nat) : storeCells hp vs (.ptr k o) = storeP hp k vs o (hp[k]?) := rfl
@[simp] theorem storeCells_eptr (hp : List Ob) (vs : List SV) (k i o : Nat) : storeCells hp vs (.eptr k i o) = storeE hp k vs i o (hp[k]?) := rfl
@[simp] theorem storeP_cells (hp : List Ob) (g : Option Nat) (k : Nat) (vs : List SV) (o : Nat) (l : List SV) : storeP hp k vs o (some (.cells g l)) = if o + vs.length ≤ l.length ∧ vs.all okCell = true then some (hp.set k (.cells g (putAt l o vs))) else none := rfl
@[simp] theorem storeE_rows (hp : List Ob) (k : Nat) (vs : List SV) (i o : Nat) (c : RC) : storeE hp k vs i o (some (.rows c)) = rowsH hp k (setScs c i o vs) := rfl
@[simp] theorem rowsH_some (hp : List Ob) (k : Nat) (c : RC) : rowsH hp k (some c) = some (hp.set k (.rows c)) := rfl
@[simp] theorem rowsH_none (hp : List Ob) (k : Nat) : rowsH hp k none = none := rfl
@[simp] theorem sc_int (k : IntKind) (x : Int) : SV.sc (.int k x) = some (.int k x) := rfl
@[simp] theorem svsc_int (k : IntKind) (x : Int) : Sc.sv (.int k x) = .int k x := rfl
@[simp] theorem sc_bool (b : Bool) : SV.sc (.bool b) = some (.bool b) := rfl
@[simp] theorem svsc_bool (b : Bool) : Sc.sv (.bool b) = .bool b := rfl
@[simp] theorem sc_str (s : ByteArray) : SV.sc (.str s) = some (.str s) := rfl
@[simp] theorem svsc_str (s : ByteArray) : Sc.sv (.str s) = .str s := rfl
@[simp] theorem okCell_undef  : okCell .undef = false := rfl
@[simp] theorem okCell_int (k : IntKind) (x : Int) : okCell (.int k x) = true := rfl
@[simp] theorem okCell_bool (b : Bool) : okCell (.bool b) = true := rfl
@[simp] theorem okCell_str (s : ByteArray) : okCell (.str s) = true := rfl
@[simp] theorem okCell_nilp  : okCell .nilp = true := rfl
@[simp] theorem okCell_ptr (k o : Nat) : okCell (.ptr k o) = true := rfl
@[simp] theorem okCell_row (k : Nat) : okCell (.row k) = true := rfl
@[simp] theorem okCell_view (k o n : Nat) : okCell (.view k o n) = true := rfl
@[simp] theorem okCell_ro (t : Nat) (c : RC) : okCell (.ro t c) = true := rfl
@[simp] theorem okCell_fn (f : Nat) (caps : List SV) : okCell (.fn f caps) = true := rfl
@[simp] theorem okCell_nilf  : okCell .nilf = true := rfl
@[simp] theorem len_ints (k : IntKind) (xs : List (Int)) : RC.len (.ints k xs) = xs.length := rfl
@[simp] theorem size_ints (k : IntKind) (xs : List (Int)) : RC.size (.ints k xs) = 1 := rfl
@[simp] theorem cut_ints (k : IntKind) (xs : List (Int)) (a m : Nat) : RC.cut (.ints k xs) a m = .ints k ((xs.drop a).take m) := rfl
@[simp] theorem len_strs (xs : List (ByteArray)) : RC.len (.strs xs) = xs.length := rfl
@[simp] theorem size_strs (xs : List (ByteArray)) : RC.size (.strs xs) = 1 := rfl
@[simp] theorem cut_strs (xs : List (ByteArray)) (a m : Nat) : RC.cut (.strs xs) a m = .strs ((xs.drop a).take m) := rfl
@[simp] theorem len_bools (xs : List (Bool)) : RC.len (.bools xs) = xs.length := rfl
@[simp] theorem size_bools (xs : List (Bool)) : RC.size (.bools xs) = 1 := rfl
@[simp] theorem cut_bools (xs : List (Bool)) (a m : Nat) : RC.cut (.bools xs) a m = .bools ((xs.drop a).take m) := rfl
@[simp] theorem len_recs (n : Nat) (xs : List (List Sc)) : RC.len (.recs n xs) = xs.length := rfl
@[simp] theorem size_recs (n : Nat) (xs : List (List Sc)) : RC.size (.recs n xs) = n := rfl
@[simp] theorem cut_recs (n : Nat) (xs : List (List Sc)) (a m : Nat) : RC.cut (.recs n xs) a m = .recs n ((xs.drop a).take m) := rfl
@[simp] theorem get_ints (k : IntKind) (xs : List Int) (i off : Nat) : RC.get (.ints k xs) i off = if off = 0 then some (.int k (xs.getD i 0)) else none := rfl
@[simp] theorem get_strs (xs : List ByteArray) (i off : Nat) : RC.get (.strs xs) i off = if off = 0 then some (.str (xs.getD i .empty)) else none := rfl
@[simp] theorem get_bools (xs : List Bool) (i off : Nat) : RC.get (.bools xs) i off = if off = 0 then some (.bool (xs.getD i false)) else none := rfl
@[simp] theorem get_recs (n : Nat) (xs : List (List Sc)) (i off : Nat) : RC.get (.recs n xs) i off = (xs.getD i [])[off]? := rfl
@[simp] theorem elem_ints (k : IntKind) (xs : List Int) (i : Nat) : RC.elem (.ints k xs) i = [.int k (xs.getD i 0)] := rfl
@[simp] theorem elem_recs (n : Nat) (xs : List (List Sc)) (i : Nat) : RC.elem (.recs n xs) i = xs.getD i [] := rfl
@[simp] theorem set_ints (k j : IntKind) (xs : List Int) (i off : Nat) (x : Int) : RC.set (.ints k xs) i off (.int j x) = if off = 0 ∧ k = j then some (.ints k (xs.set i x)) else none := rfl
@[simp] theorem set_recs (n : Nat) (xs : List (List Sc)) (i off : Nat) (c : Sc) : RC.set (.recs n xs) i off c = if off < n then some (.recs n (xs.set i ((xs.getD i []).set off c))) else none := rfl
@[simp] theorem app_ints (k j : IntKind) (xs ys : List Int) : RC.app (.ints k xs) (.ints j ys) = if k = j then some (.ints k (xs ++ ys)) else none := rfl
@[simp] theorem app_strs (xs ys : List ByteArray) : RC.app (.strs xs) (.strs ys) = some (.strs (xs ++ ys)) := rfl
@[simp] theorem app_bools (xs ys : List Bool) : RC.app (.bools xs) (.bools ys) = some (.bools (xs ++ ys)) := rfl
@[simp] theorem app_recs (n m : Nat) (xs ys : List (List Sc)) : RC.app (.recs n xs) (.recs m ys) = if n = m then some (.recs n (xs ++ ys)) else none := rfl
@[simp] theorem content_row (hp : List Ob) (k : Nat) : content hp (.row k) = rowAt (hp[k]?) := rfl
@[simp] theorem content_view (hp : List Ob) (k o n : Nat) : content hp (.view k o n) = cutAt o n (hp[k]?) := rfl
@[simp] theorem content_ro (hp : List Ob) (t : Nat) (c : RC) : content hp (.ro t c) = some c := rfl
@[simp] theorem content_nils (hp : List Ob) (c : RC) : content hp (.nils c) = some c := rfl
@[simp] theorem rowAt_rows (c : RC) : rowAt (some (.rows c)) = some c := rfl
@[simp] theorem cutAt_rows (o n : Nat) (c : RC) : cutAt o n (some (.rows c)) = some (c.cut o n) := rfl
@[simp] theorem sizeAt_rows (c : RC) : sizeAt (some (.rows c)) = some c.size := rfl
@[simp] theorem sizeOf_row (hp : List Ob) (k : Nat) : Go.X.sizeOf hp (.row k) = sizeAt (hp[k]?) := rfl
@[simp] theorem sizeOf_view (hp : List Ob) (k o n : Nat) : Go.X.sizeOf hp (.view k o n) = sizeAt (hp[k]?) := rfl
@[simp] theorem sizeOf_cview (hp : List Ob) (k o n : Nat) : Go.X.sizeOf hp (.cview k o n) = some 1 := rfl
@[simp] theorem sizeOf_ro (hp : List Ob) (t : Nat) (c : RC) : Go.X.sizeOf hp (.ro t c) = some c.size := rfl
@[simp] theorem sizeOf_nils (hp : List Ob) (c : RC) : Go.X.sizeOf hp (.nils c) = some c.size := rfl
@[simp] theorem lenOf_row (hp : List Ob) (k : Nat) : lenOf hp (.row k) = lenAt (hp[k]?) := rfl
@[simp] theorem lenAt_rows (c : RC) : lenAt (some (.rows c)) = some c.len := rfl
@[simp] theorem lenOf_view (hp : List Ob) (k o n : Nat) : lenOf hp (.view k o n) = some n := rfl
@[simp] theorem lenOf_cview (hp : List Ob) (k o n : Nat) : lenOf hp (.cview k o n) = some n := rfl
@[simp] theorem lenOf_ro (hp : List Ob) (t : Nat) (c : RC) : lenOf hp (.ro t c) = some c.len := rfl
@[simp] theorem lenOf_nils (hp : List Ob) (c : RC) : lenOf hp (.nils c) = some 0 := rfl
@[simp] theorem oLenS_str (hp : List Ob) (s : ByteArray) : oLenS hp (.one (.str s)) = some (.one (.int .i64 s.size), hp) := rfl
@[simp] theorem source_str (hp : List Ob) (l : List Int) (s : ByteArray) : source hp (.ints .u8 l) (.str s) = some (.ints .u8 (toBytes s)) := rfl
@[simp] theorem source_row (hp : List Ob) (c0 : RC) (k : Nat) : source hp c0 (.row k) = content hp (.row k) := rfl
@[simp] theorem keyOf_row (k : Nat) : keyOf (.row k) = some k := rfl
@[simp] theorem source_view (hp : List Ob) (c0 : RC) (k o n : Nat) : source hp c0 (.view k o n) = content hp (.view k o n) := rfl
@[simp] theorem keyOf_view (k o n : Nat) : keyOf (.view k o n) = some k := rfl
@[simp] theorem source_ro (hp : List Ob) (c0 : RC) (t : Nat) (c : RC) : source hp c0 (.ro t c) = content hp (.ro t c) := rfl
@[simp] theorem keyOf_ro (t : Nat) (c : RC) : keyOf (.ro t c) = none := rfl
@[simp] theorem source_nils (hp : List Ob) (c0 : RC) (c : RC) : source hp c0 (.nils c) = content hp (.nils c) := rfl
@[simp] theorem keyOf_nils (c : RC) : keyOf (.nils c) = none := rfl
@[simp] theorem keyOf_str (s : ByteArray) : keyOf (.str s) = none := rfl
@[simp] theorem bin_add (k j : IntKind) (x y : Int) : Go.X.bin .add (.int k x) (.int j y) = if k = j then some (.int k (k.wrap (x + y))) else none := rfl
@[simp] theorem bin_sub (k j : IntKind) (x y : Int) : Go.X.bin .sub (.int k x) (.int j y) = if k = j then some (.int k (k.wrap (x - y))) else none := rfl
@[simp] theorem bin_mul (k j : IntKind) (x y : Int) : Go.X.bin .mul (.int k x) (.int j y) = if k = j then some (.int k (k.wrap (x * y))) else none := rfl
@[simp] theorem bin_and (k j : IntKind) (x y : Int) : Go.X.bin .and (.int k x) (.int j y) = if k = j then some (.int k (bitsI .and k x y)) else none := rfl
@[simp] theorem bin_or (k j : IntKind) (x y : Int) : Go.X.bin .or (.int k x) (.int j y) = if k = j then some (.int k (bitsI .or k x y)) else none := rfl
@[simp] theorem bin_xor (k j : IntKind) (x y : Int) : Go.X.bin .xor (.int k x) (.int j y) = if k = j then some (.int k (bitsI .xor k x y)) else none := rfl
@[simp] theorem bin_andNot (k j : IntKind) (x y : Int) : Go.X.bin .andNot (.int k x) (.int j y) = if k = j then some (.int k (bitsI .andNot k x y)) else none := rfl
@[simp] theorem bin_quo (k j : IntKind) (x y : Int) : Go.X.bin .quo (.int k x) (.int j y) = if k = j then (if y = 0 then none else some (.int k (k.wrap (x.tdiv y)))) else none := rfl
@[simp] theorem bin_rem (k j : IntKind) (x y : Int) : Go.X.bin .rem (.int k x) (.int j y) = if k = j then (if y = 0 then none else some (.int k (x.tmod y))) else none := rfl
@[simp] theorem bin_shl (k j : IntKind) (x y : Int) : Go.X.bin .shl (.int k x) (.int j y) = if y < 0 then none else some (.int k (shlI k x y)) := rfl
@[simp] theorem bin_shr (k j : IntKind) (x y : Int) : Go.X.bin .shr (.int k x) (.int j y) = if y < 0 then none else some (.int k (shrI k x y)) := rfl
@[simp] theorem bin_eql (k j : IntKind) (x y : Int) : Go.X.bin .eql (.int k x) (.int j y) = if k = j then some (.bool (x == y)) else none := rfl
@[simp] theorem bin_neq (k j : IntKind) (x y : Int) : Go.X.bin .neq (.int k x) (.int j y) = if k = j then some (.bool (x != y)) else none := rfl
@[simp] theorem bin_lss (k j : IntKind) (x y : Int) : Go.X.bin .lss (.int k x) (.int j y) = if k = j then some (.bool (decide (x < y))) else none := rfl
@[simp] theorem bin_leq (k j : IntKind) (x y : Int) : Go.X.bin .leq (.int k x) (.int j y) = if k = j then some (.bool (decide (x ≤ y))) else none := rfl
@[simp] theorem bin_gtr (k j : IntKind) (x y : Int) : Go.X.bin .gtr (.int k x) (.int j y) = if k = j then some (.bool (decide (y < x))) else none := rfl
@[simp] theorem bin_geq (k j : IntKind) (x y : Int) : Go.X.bin .geq (.int k x) (.int j y) = if k = j then some (.bool (decide (y ≤ x))) else none := rfl
@[simp] theorem oEqB_bool (hp : List Ob) (neq x y : Bool) : oEqB hp neq (.one (.bool x)) (.one (.bool y)) = putB hp neq (some (x == y)) := rfl
@[simp] theorem bin_sadd (x y : ByteArray) : Go.X.bin .add (.str x) (.str y) = if x.size + y.size ≤ 9223372036854775807 then some (.str (x ++ y)) else none := rfl
@[simp] theorem bin_seql (x y : ByteArray) : Go.X.bin .eql (.str x) (.str y) = some (.bool (x.toList == y.toList)) := rfl
@[simp] theorem bin_sneq (x y : ByteArray) : Go.X.bin .neq (.str x) (.str y) = some (.bool (!(x.toList == y.toList))) := rfl
@[simp] theorem un_neg (k : IntKind) (x : Int) : Go.X.un .neg (.int k x) = some (.int k (k.wrap (0 - x))) := rfl
@[simp] theorem un_xor (k : IntKind) (x : Int) : Go.X.un .xor (.int k x) = some (.int k (bitsI .xor k (if k.signed then -1 else k.max) x)) := rfl
@[simp] theorem un_not (b : Bool) : Go.X.un .not (.bool b) = some (.bool (!b)) := rfl
@[simp] theorem eqSc_int (k0 k j : IntKind) (x0 x y : Int) : eqSc (.int k0 x0) (.int k x) (.int j y) = if k = j then some (x == y) else none := rfl
@[simp] theorem eqSc_bool (x0 x y : Bool) : eqSc (.bool x0) (.bool x) (.bool y) = some (x == y) := rfl
@[simp] theorem eqSc_str (x0 x y : ByteArray) : eqSc (.str x0) (.str x) (.str y) = some (x == y) := rfl
@[simp] theorem oneAV_some (v : SV) : oneAV (some v) = some (.one v) := rfl
@[simp] theorem aggAV_some (l : List SV) : aggAV (some l) = some (.agg l) := rfl
@[simp] theorem tupOf_one (v : AV) : tupOf [v] = v := rfl
@[simp] theorem tupOf_two (v u : AV) (l : List AV) : tupOf (v :: u :: l) = .tup (v :: u :: l) := rfl
@[simp] theorem thenC_ite (f : St → Option (Ex × St)) (c : Prop) [Decidable c] (a b : Option (Ex × St)) : thenC f (if c then a else b) = if c then thenC f a else thenC f b := by split <;> rfl
@[simp] theorem thenI_ite (env : Env) (rts : List SV) (d : Option Nat) (f : St → Option St) (c : Prop) [Decidable c] (a b : Res) : thenI env rts d f (if c then a else b) = if c then thenI env rts d f a else thenI env rts d f b := by split <;> rfl
@[simp] theorem blockC_ite (i : Nat) (c : Prop) [Decidable c] (a b : Option (Ex × St)) : blockC i (if c then a else b) = if c then blockC i a else blockC i b := by split <;> rfl
@[simp] theorem normC_ite  (c : Prop) [Decidable c] (a b : Option St) : normC  (if c then a else b) = if c then normC  a else normC  b := by split <;> rfl
@[simp] theorem put1_ite (hp : List Ob) (c : Prop) [Decidable c] (a b : Option SV) : put1 hp (if c then a else b) = if c then put1 hp a else put1 hp b := by split <;> rfl
@[simp] theorem putA_ite (hp : List Ob) (c : Prop) [Decidable c] (a b : Option AV) : putA hp (if c then a else b) = if c then putA hp a else putA hp b := by split <;> rfl
@[simp] theorem putL_ite (hp : List Ob) (c : Prop) [Decidable c] (a b : Option (List SV)) : putL hp (if c then a else b) = if c then putL hp a else putL hp b := by split <;> rfl
@[simp] theorem putH_ite  (c : Prop) [Decidable c] (a b : Option (List Ob)) : putH  (if c then a else b) = if c then putH  a else putH  b := by split <;> rfl
@[simp] theorem putR_ite (hp : List Ob) (c : Prop) [Decidable c] (a b : Option RC) : putR hp (if c then a else b) = if c then putR hp a else putR hp b := by split <;> rfl
@[simp] theorem ofElemsO_ite (c0 : RC) (c : Prop) [Decidable c] (a b : Option (List (List Sc))) : ofElemsO c0 (if c then a else b) = if c then ofElemsO c0 a else ofElemsO c0 b := by split <;> rfl
@[simp] theorem putB_ite (hp : List Ob) (n : Bool) (c : Prop) [Decidable c] (a b : Option Bool) : putB hp n (if c then a else b) = if c then putB hp n a else putB hp n b := by split <;> rfl
@[simp] theorem resC_ite (rs : List (Nat × Option (Option Nat))) (c : Prop) [Decidable c] (a b : Option (Ex × St)) : resC rs (if c then a else b) = if c then resC rs a else resC rs b := by split <;> rfl
@[simp] theorem rowsH_ite (hp : List Ob) (k : Nat) (c : Prop) [Decidable c] (a b : Option RC) : rowsH hp k (if c then a else b) = if c then rowsH hp k a else rowsH hp k b := by split <;> rfl
@[simp] theorem scSV_ite  (c : Prop) [Decidable c] (a b : Option Sc) : scSV  (if c then a else b) = if c then scSV  a else scSV  b := by split <;> rfl
@[simp] theorem give_ite (rts : List SV) (hp : List Ob) (c : Prop) [Decidable c] (a b : Option (List AV)) : give rts hp (if c then a else b) = if c then give rts hp a else give rts hp b := by split <;> rfl
@[simp] theorem comeBack_ite (hp : List Ob) (ks : List Nat) (args : List AV) (c : Prop) [Decidable c] (a b : Res) : comeBack hp ks args (if c then a else b) = if c then comeBack hp ks args a else comeBack hp ks args b := by split <;> rfl
@[simp] theorem inBounds_nat (i : Int) (n : Nat) : (inBounds i n = true) = (0 ≤ i ∧ i < n) := by simp [inBounds]
end Go.X
set_option linter.unusedVariables false
namespace Go.X
/-! ### plain numbers -/
theorem shrI_eq (k : IntKind) (x y : Int) : shrI k x y = x / ((2 ^ Nat.min y.toNat k.bits : Nat) : Int) := by
  unfold shrI
  have h : ((2 ^ Nat.min y.toNat k.bits : Nat) : Int) = (2 : Int) ^ Nat.min y.toNat k.bits := by simp
  rw [← h, Int.fdiv_eq_ediv_of_nonneg _ (Int.natCast_nonneg _)]
/-- How many bits a number has. -/
def bl (n : Nat) : Nat := if n = 0 then 0 else Nat.log2 n + 1
theorem bl_pos {n : Nat} (h : 0 < n) : 2 ^ (bl n - 1) ≤ n ∧ n < 2 ^ bl n ∧ 0 < bl n := by
  have h' : n ≠ 0 := by omega
  simp only [bl, if_neg h', Nat.add_sub_cancel]
  exact ⟨Nat.log2_self_le h', Nat.lt_log2_self, by omega⟩
theorem bl_unique {n k : Nat} (h1 : 2 ^ k ≤ n) (h2 : n < 2 ^ (k + 1)) : bl n = k + 1 := by
  have h' : n ≠ 0 := by have := Nat.two_pow_pos k; omega
  simp only [bl, if_neg h']
  have h3 := (Nat.le_log2 h').2 h1
  have h4 := (Nat.log2_lt h').2 h2
  omega
theorem bl_div {n : Nat} (k : Nat) (h : 2 ^ k ≤ n) : bl n = k + bl (n / 2 ^ k) := by
  have hp := Nat.two_pow_pos k
  have hq : 0 < n / 2 ^ k := Nat.div_pos h hp
  obtain ⟨h1, h2, h3⟩ := bl_pos hq
  generalize bl (n / 2 ^ k) = b at *
  obtain ⟨c, rfl⟩ : ∃ c, b = c + 1 := ⟨b - 1, by omega⟩
  simp only [Nat.add_sub_cancel] at h1
  rw [show k + (c + 1) = (k + c) + 1 by omega]
  refine bl_unique ?_ ?_
  · rw [Nat.pow_add, Nat.mul_comm]
    exact (Nat.le_div_iff_mul_le hp).1 h1
  · rw [show k + c + 1 = (c + 1) + k by omega, Nat.pow_add]
    exact (Nat.div_lt_iff_lt_mul hp).1 h2
theorem bl_zero : bl 0 = 0 := rfl
theorem bl_le {n k : Nat} (h : n < 2 ^ k) : bl n ≤ k := by
  rcases Nat.eq_zero_or_pos n with e | e
  · subst e; simp [bl]
  · obtain ⟨h1, _, h3⟩ := bl_pos e
    have : 2 ^ (bl n - 1) < 2 ^ k := by omega
    have := (Nat.pow_lt_pow_iff_right (by omega : 1 < 2)).1 this
    omega
theorem bl_half {n : Nat} (h : 0 < n) : bl n = bl (n / 2) + 1 := by
  rcases Nat.lt_or_ge n 2 with h2 | h2
  · obtain rfl : n = 1 := by omega
    rfl
  · have := bl_div (n := n) 1 (by simpa using h2)
    simp at this; omega
end Go.X
set_option maxRecDepth 100000
namespace Go.X
/-! ### loops by their heads -/
def loopH (body : St → Option (Ex × St)) (live : List Nat) (k : Nat) (st : St) : Option (Ex × St) := thenC (loopN body live (k - 1)) (body st)
theorem loop_head {body : St → Option (Ex × St)} {live : List Nat} {k : Nat} (st : St) (h : k ≠ 0) : loopN body live k st = loopH body live k (st.head live) := by
  cases k with
  | zero => exact absurd rfl h
  | succ k => rfl
@[simp] theorem loop_KK (body : St → Option (Ex × St)) (live : List Nat) (st : St) : loopN body live KK st = loopH body live KK (st.head live) := loop_head st (by rw [KK_eq]; omega)
theorem loopH_norm {body : St → Option (Ex × St)} {live : List Nat} {k : Nat} {st st1 : St} (h : body st = some (.norm, st1)) (hk : 1 < k) : loopH body live k st = loopH body live (k - 1) (st1.head live) := by
  rw [loopH, h]; exact loop_head st1 (by omega)
theorem loopH_exit {body : St → Option (Ex × St)} {live : List Nat} {k : Nat} {st st1 : St} {i : Nat} (h : body st = some (.exit i, st1)) : loopH body live k st = some (.exit i, st1) := by
  rw [loopH, h]; rfl
theorem loopH_ret {body : St → Option (Ex × St)} {live : List Nat} {k : Nat} {st st1 : St} (h : body st = some (.ret, st1)) : loopH body live k st = some (.ret, st1) := by
  rw [loopH, h]; rfl
/-- A loop whose every round leads from a state told by a to one told by another, of less measure, or out of it. -/
theorem loopH_ind {α : Type} {body : St → Option (Ex × St)} {live : List Nat} (canon : α → St) (I : α → Prop) (P : α → Ex × St → Prop) (m : α → Nat)
    (hs : ∀ a, I a → (∃ r, body (canon a) = some r ∧ r.1 ≠ .norm ∧ P a r) ∨ (∃ st1 a', body (canon a) = some (.norm, st1) ∧ St.head live st1 = canon a' ∧ I a' ∧ m a' < m a ∧ ∀ r, P a' r → P a r)) :
    ∀ (k : Nat) (a : α), I a → m a < k → ∃ r, loopH body live k (canon a) = some r ∧ P a r
  | 0, a, _, hk => by omega
  | k + 1, a, ha, hk => by
    rcases hs a ha with ⟨r, h1, h2, h3⟩ | ⟨st1, a', h1, h2, h3, h4, h5⟩
    · obtain ⟨x, st1⟩ := r
      cases x with
      | norm => exact absurd rfl h2
      | exit i => exact ⟨_, loopH_exit h1, h3⟩
      | ret => exact ⟨_, loopH_ret h1, h3⟩
    · cases k with
      | zero => omega
      | succ k =>
        obtain ⟨r, e, hp⟩ := loopH_ind canon I P m hs (k + 1) a' h3 (by omega)
        exact ⟨r, by rw [loopH_norm h1 (by omega), h2]; exact e, h5 r hp⟩
/-! ### concrete runs: a loop turned round by round (simp with loop_go0, loop_go1) -/
def loopG (body : St → Option (Ex × St)) (live : List Nat) (n : Nat) (st : St) : Option (Ex × St) := loopH body live (KK - n) st
@[congr] theorem loopG_cg {body : St → Option (Ex × St)} {live : List Nat} {n : Nat} {st st' : St} (h : st = st') : loopG body live n st = loopG body live n st' := by rw [h]
@[congr] theorem loopH_cg {body : St → Option (Ex × St)} {live : List Nat} {k : Nat} {st st' : St} (h : st = st') : loopH body live k st = loopH body live k st' := by rw [h]
theorem loop_go0 (body : St → Option (Ex × St)) (live : List Nat) (st : St) : loopH body live KK st = loopG body live 0 st := rfl
theorem loop_go1 {body : St → Option (Ex × St)} {live : List Nat} {n : Nat} {st : St} (hn : n < 1000) : loopG body live n st = thenC (fun st => loopG body live (n + 1) (st.head live)) (body st) := by
  have hK := KK_eq
  unfold loopG loopH
  cases hb : body st with
  | none => rfl
  | some p =>
    obtain ⟨x, st1⟩ := p
    cases x with
    | norm =>
      have h1 : KK - n - 1 = KK - (n + 1) := by omega
      rw [h1]
      exact loop_head st1 (by omega)
    | exit i => rfl
    | ret => rfl

/-! ### a slice at a key: all of a row, or a part -/
def slv (k : Nat) : Option (Nat × Nat) → SV
  | none => .row k
  | some (o, n) => .view k o n
def slvO (s : Option (Nat × Nat)) : Option Nat → SV
  | some j => slv j s
  | none => .undef
@[simp] theorem slvO_some (s : Option (Nat × Nat)) (j : Nat) : slvO s (some j) = slv j s := rfl
@[simp ↓ high] theorem reachSV_slv (hp : List Ob) (f k : Nat) (s : Option (Nat × Nat)) (ks : List Nat) : reachSV hp (f + 1) (slv k s) ks = if ks.elem k then ks else reachOb hp f hp[k]? k ks := by
  cases s <;> simp only [slv, reachSV]
@[simp ↓ high] theorem ren_slv (f : Nat → Option Nat) (k : Nat) (s : Option (Nat × Nat)) : SV.ren f (slv k s) = slvO s (f k) := by
  cases s <;> simp only [slv, SV.ren, slvO] <;> cases f k <;> rfl
@[simp ↓ high] theorem back_slv (cs : List SV) (k : Nat) (s : Option (Nat × Nat)) : SV.back cs (slv k s) = slv k s := by
  cases s <;> simp [slv]
@[simp ↓ high] theorem strip_slv (k : Nat) (s : Option (Nat × Nat)) : SV.strip (slv k s) = slv k s := by
  cases s <;> simp [slv]
@[simp ↓ high] theorem okCell_slv (k : Nat) (s : Option (Nat × Nat)) : okCell (slv k s) = true := by
  cases s <;> simp [slv]
@[simp ↓ high] theorem handed_slv (k : Nat) (s : Option (Nat × Nat)) (l : List SV) : handed (slv k s :: l) = handed l := by
  cases s <;> simp [slv]
def vw {α : Type} (X : List α) : Option (Nat × Nat) → List α
  | none => X
  | some (o, n) => (X.drop o).take n
def vwn {α : Type} (X : List α) : Option (Nat × Nat) → Nat
  | none => X.length
  | some (_, n) => n
def vok {α : Type} (X : List α) : Option (Nat × Nat) → Prop
  | none => True
  | some (o, n) => o + n ≤ X.length
theorem vw_len {α : Type} (X : List α) (s : Option (Nat × Nat)) (h : vok X s) : (vw X s).length = vwn X s := by
  cases s with
  | none => rfl
  | some p =>
    obtain ⟨o, n⟩ := p
    simp only [vok] at h
    simp only [vw, vwn, List.length_take, List.length_drop]
    omega
@[simp ↓ high] theorem reachSV_sc (hp : List Ob) (f : Nat) (c : Sc) (ks : List Nat) : reachSV hp f c.sv ks = ks := by cases f <;> cases c <;> rfl
@[simp ↓ high] theorem ren_sc (f : Nat → Option Nat) (c : Sc) : SV.ren f c.sv = c.sv := by cases c <;> rfl
@[simp ↓ high] theorem back_sc (cs : List SV) (c : Sc) : SV.back cs c.sv = c.sv := by cases c <;> rfl
@[simp ↓ high] theorem okCell_sc (c : Sc) : okCell c.sv = true := by cases c <;> rfl
end Go.X
set_option maxRecDepth 100000
set_option linter.unusedVariables false
namespace Go.X
open Go.IntWalk
/-! ### bits as plain numbers -/
theorem bitsI_and {k : IntKind} {x y : Nat} (h : k.signed = false) (hx : x < 2 ^ k.bits) (hy : y < 2 ^ k.bits) : bitsI .and k (x : Int) (y : Int) = ((x &&& y : Nat) : Int) := by
  have e : ((BitVec.ofInt k.bits (x : Int) &&& BitVec.ofInt k.bits (y : Int)).toNat : Int) = ((x &&& y : Nat) : Int) := by
    rw [BitVec.toNat_and, BitVec.ofInt_natCast, BitVec.ofInt_natCast, BitVec.toNat_ofNat, BitVec.toNat_ofNat, Nat.mod_eq_of_lt hx, Nat.mod_eq_of_lt hy]
  have hlt : x &&& y < 2 ^ k.bits := Nat.lt_of_le_of_lt Nat.and_le_left hx
  show k.wrap _ = _
  rw [e]
  cases k <;> first | (exact absurd h (by decide)) | (simp only [IntKind.bits] at hlt; first | exact u8_in _ (by omega) | exact u16_in _ (by omega) | exact u32_in _ (by omega) | exact u64_in _ (by omega))
theorem bitsI_or {k : IntKind} {x y : Nat} (h : k.signed = false) (hx : x < 2 ^ k.bits) (hy : y < 2 ^ k.bits) : bitsI .or k (x : Int) (y : Int) = ((x ||| y : Nat) : Int) := by
  have e : ((BitVec.ofInt k.bits (x : Int) ||| BitVec.ofInt k.bits (y : Int)).toNat : Int) = ((x ||| y : Nat) : Int) := by
    rw [BitVec.toNat_or, BitVec.ofInt_natCast, BitVec.ofInt_natCast, BitVec.toNat_ofNat, BitVec.toNat_ofNat, Nat.mod_eq_of_lt hx, Nat.mod_eq_of_lt hy]
  have hlt : x ||| y < 2 ^ k.bits := Nat.or_lt_two_pow hx hy
  show k.wrap _ = _
  rw [e]
  cases k <;> first | (exact absurd h (by decide)) | (simp only [IntKind.bits] at hlt; first | exact u8_in _ (by omega) | exact u16_in _ (by omega) | exact u32_in _ (by omega) | exact u64_in _ (by omega))
theorem bitsI_and_i64 {x y : Nat} (hx : x < 2 ^ 63) (hy : y < 2 ^ 63) : bitsI .and .i64 (x : Int) (y : Int) = ((x &&& y : Nat) : Int) := by
  have e : ((BitVec.ofInt 64 (x : Int) &&& BitVec.ofInt 64 (y : Int)).toNat : Int) = ((x &&& y : Nat) : Int) := by
    rw [BitVec.toNat_and, BitVec.ofInt_natCast, BitVec.ofInt_natCast, BitVec.toNat_ofNat, BitVec.toNat_ofNat, Nat.mod_eq_of_lt (by omega), Nat.mod_eq_of_lt (by omega)]
  have hlt : x &&& y < 2 ^ 63 := Nat.lt_of_le_of_lt Nat.and_le_left hx
  show IntKind.i64.wrap _ = _
  have e2 : ((BitVec.ofInt IntKind.i64.bits (x : Int) &&& BitVec.ofInt IntKind.i64.bits (y : Int)).toNat : Int) = ((x &&& y : Nat) : Int) := e
  rw [e2]
  exact i64_in _ (by omega)
/-- The lowest bits of an index. -/
theorem and7_i64 {x : Nat} (hx : x < 2 ^ 63) : bitsI .and .i64 (x : Int) 7 = ((x % 8 : Nat) : Int) := by
  have := bitsI_and_i64 (y := 7) hx (by omega)
  rw [show ((7 : Nat) : Int) = 7 from rfl] at this
  rw [this, show (7 : Nat) = 2 ^ 3 - 1 from rfl, Nat.and_two_pow_sub_one_eq_mod]
/-- A number's lowest bits by a mask. -/
theorem mask_and {k : IntKind} {x n : Nat} (h : k.signed = false) (hx : x < 2 ^ k.bits) (hn : n ≤ k.bits) : bitsI .and k (x : Int) (((2 ^ n - 1 : Nat)) : Int) = ((x % 2 ^ n : Nat) : Int) := by
  have hp := Nat.pow_le_pow_right (n := 2) (by omega) hn
  have := Nat.two_pow_pos n
  rw [bitsI_and h hx (by omega), Nat.and_two_pow_sub_one_eq_mod]
/-- Bits laid above others. -/
theorem or_add {k : IntKind} {x y n : Nat} (h : k.signed = false) (hx : x < 2 ^ n) (hn : x + y * 2 ^ n < 2 ^ k.bits) : bitsI .or k (x : Int) ((y * 2 ^ n : Nat) : Int) = ((x + y * 2 ^ n : Nat) : Int) := by
  rw [bitsI_or h (by omega) (by omega)]
  have := Nat.shiftLeft_add_eq_or_of_lt hx y
  rw [Nat.shiftLeft_eq] at this
  rw [Nat.or_comm, ← this, Nat.add_comm]
theorem shl_in {k : IntKind} {x n : Nat} (h : k.signed = false) (hn : n ≤ k.bits) (hlt : x * 2 ^ n < 2 ^ k.bits) : shlI k (x : Int) (n : Int) = ((x * 2 ^ n : Nat) : Int) := by
  have e : (x : Int) * 2 ^ Nat.min (n : Int).toNat k.bits = ((x * 2 ^ n : Nat) : Int) := by
    rw [Int.toNat_natCast, show Nat.min n k.bits = n from Nat.min_eq_left hn]
    simp
  show k.wrap _ = _
  rw [e]
  cases k <;> first | (exact absurd h (by decide)) | (simp only [IntKind.bits] at hlt; first | exact u8_in _ (by omega) | exact u16_in _ (by omega) | exact u32_in _ (by omega) | exact u64_in _ (by omega))
theorem shr_in {k : IntKind} {x n : Nat} (hn : n ≤ k.bits) : shrI k (x : Int) (n : Int) = ((x / 2 ^ n : Nat) : Int) := by
  rw [shrI_eq, Int.toNat_natCast, show Nat.min n k.bits = n from Nat.min_eq_left hn]
  simp
/-! ### bytes as one number, the first one lowest -/
def leB : List Int → Nat
  | [] => 0
  | b :: l => b.toNat + 256 * leB l
def isB (l : List Int) : Prop := ∀ b ∈ l, 0 ≤ b ∧ b < 256
theorem isB.tail {b : Int} {l : List Int} (h : isB (b :: l)) : isB l := fun x hx => h x (List.mem_cons_of_mem _ hx)
theorem leB_lt : ∀ {l : List Int}, isB l → leB l < 2 ^ (8 * l.length)
  | [], _ => by simp [leB]
  | b :: l, h => by
    have h1 := leB_lt h.tail
    have h2 := h b (by simp)
    have e : 2 ^ (8 * (l.length + 1)) = 256 * 2 ^ (8 * l.length) := by rw [Nat.mul_add, Nat.pow_add]; omega
    simp only [leB, List.length_cons]
    rw [e]
    omega
theorem leB_at : ∀ {l : List Int} {i : Nat} {b : Int}, isB l → l[i]? = some b → leB l / 2 ^ (8 * i) % 256 = b.toNat
  | [], i, b, _, h => by simp at h
  | c :: l, 0, b, hB, h => by
    simp only [List.getElem?_cons_zero, Option.some.injEq] at h
    subst h
    have := hB c (by simp)
    simp only [leB, Nat.mul_zero, Nat.pow_zero, Nat.div_one]
    omega
  | c :: l, i + 1, b, hB, h => by
    simp only [List.getElem?_cons_succ] at h
    have := hB c (by simp)
    rw [← leB_at hB.tail h, show 8 * (i + 1) = 8 + 8 * i by omega, Nat.pow_add, ← Nat.div_div_eq_div_mul]
    congr 2
    simp only [leB]
    omega
theorem leB_append : ∀ (l m : List Int), leB (l ++ m) = leB l + 2 ^ (8 * l.length) * leB m
  | [], m => by simp [leB]
  | b :: l, m => by
    have e : 2 ^ (8 * (l.length + 1)) = 256 * 2 ^ (8 * l.length) := by rw [Nat.mul_add, Nat.pow_add]; omega
    simp only [List.cons_append, leB, List.length_cons, leB_append l m]
    rw [e, Nat.mul_assoc]
    generalize 2 ^ (8 * l.length) * leB m = Q
    omega
theorem leB_set : ∀ {l : List Int} {i : Nat} {b : Int} {d : Nat}, isB l → l[i]? = some b → leB (l.set i (b + d)) = leB l + d * 2 ^ (8 * i)
  | [], i, b, d, _, h => by simp at h
  | c :: l, 0, b, d, hB, h => by
    simp only [List.getElem?_cons_zero, Option.some.injEq] at h
    subst h
    have := hB c (by simp)
    simp only [List.set_cons_zero, leB, Nat.mul_zero, Nat.pow_zero]
    omega
  | c :: l, i + 1, b, d, hB, h => by
    simp only [List.getElem?_cons_succ] at h
    have e : 2 ^ (8 * (i + 1)) = 256 * 2 ^ (8 * i) := by rw [Nat.mul_add, Nat.pow_add]; omega
    simp only [List.set_cons_succ, leB, leB_set hB.tail h]
    rw [e, Nat.mul_left_comm]
    generalize d * 2 ^ (8 * i) = Q
    omega
theorem leB_inj : ∀ {l m : List Int}, isB l → isB m → l.length = m.length → leB l = leB m → l = m
  | [], [], _, _, _, _ => rfl
  | [], _ :: _, _, _, h, _ => by simp at h
  | _ :: _, [], _, _, h, _ => by simp at h
  | b :: l, c :: m, hl, hm, h, e => by
    have h1 := hl b (by simp)
    have h2 := hm c (by simp)
    simp only [leB] at e
    have e1 : b = c := by omega
    subst e1
    rw [leB_inj hl.tail hm.tail (by simpa using h) (by omega)]
/-- Bits out of a byte. -/
theorem byte_bits {N i a k : Nat} (h : a + k ≤ 8) : N / 2 ^ (8 * i) % 256 / 2 ^ a % 2 ^ k = N / 2 ^ (8 * i + a) % 2 ^ k := by
  rw [Nat.pow_add, ← Nat.div_div_eq_div_mul]
  generalize N / 2 ^ (8 * i) = M
  have e : (256 : Nat) = 2 ^ a * 2 ^ (8 - a) := by rw [← Nat.pow_add, show a + (8 - a) = 8 by omega]
  rw [e, Nat.mod_mul_right_div_self, Nat.mod_mod_of_dvd _ (Nat.pow_dvd_pow 2 (by omega))]
/-- More bits above. -/
theorem mod_more (N g k : Nat) : N % 2 ^ (g + k) = N % 2 ^ g + N / 2 ^ g % 2 ^ k * 2 ^ g := by
  rw [Nat.pow_add, Nat.mod_mul, Nat.mul_comm (2 ^ g)]
/-! ### noughts and ones, the lowest one first -/
def leN : List Int → Nat
  | [] => 0
  | b :: l => b.toNat + 2 * leN l
def isN (l : List Int) : Prop := ∀ b ∈ l, b = 0 ∨ b = 1
theorem isN.tail {b : Int} {l : List Int} (h : isN (b :: l)) : isN l := fun x hx => h x (List.mem_cons_of_mem _ hx)
theorem leN_lt : ∀ {l : List Int}, isN l → leN l < 2 ^ l.length
  | [], _ => by simp [leN]
  | b :: l, h => by
    have h1 := leN_lt h.tail
    have h2 := h b (by simp)
    simp only [leN, List.length_cons, Nat.pow_succ]
    omega
theorem leN_append : ∀ (l m : List Int), leN (l ++ m) = leN l + 2 ^ l.length * leN m
  | [], m => by simp [leN]
  | b :: l, m => by
    simp only [List.cons_append, leN, List.length_cons, leN_append l m, Nat.pow_succ]
    rw [Nat.mul_comm (2 ^ l.length) 2, Nat.mul_assoc]
    generalize 2 ^ l.length * leN m = Q
    omega
theorem leN_take : ∀ {l : List Int} (n : Nat), isN l → leN (l.take n) = leN l % 2 ^ n
  | [], n, _ => by simp [leN]
  | b :: l, 0, _ => by simp [leN, Nat.mod_one]
  | b :: l, n + 1, h => by
    have h2 := h b (by simp)
    have e : (b.toNat + 2 * leN l) / 2 = leN l := by omega
    simp only [List.take_succ_cons, leN, leN_take n h.tail, Nat.pow_succ]
    rw [Nat.mul_comm (2 ^ n) 2, Nat.mod_mul, e]
    generalize leN l % 2 ^ n = Q
    omega
theorem leN_drop : ∀ {l : List Int} (n : Nat), isN l → leN (l.drop n) = leN l / 2 ^ n
  | [], n, _ => by simp [leN]
  | b :: l, 0, _ => by simp
  | b :: l, n + 1, h => by
    have h2 := h b (by simp)
    simp only [List.drop_succ_cons, leN, leN_drop n h.tail, Nat.pow_succ]
    rw [Nat.mul_comm (2 ^ n) 2, ← Nat.div_div_eq_div_mul]
    congr 1
    omega
theorem leN_at {l : List Int} {i : Nat} {b : Int} (hN : isN l) (h : l[i]? = some b) : leN l / 2 ^ i % 2 = b.toNat := by
  obtain ⟨hlt, e⟩ := List.getElem?_eq_some_iff.1 h
  have hb := hN b (List.mem_of_getElem? h)
  rw [← leN_drop i hN, List.drop_eq_getElem_cons hlt, e]
  simp only [leN]
  omega
theorem leN_inj : ∀ {l m : List Int}, isN l → isN m → l.length = m.length → leN l = leN m → l = m
  | [], [], _, _, _, _ => rfl
  | [], _ :: _, _, _, h, _ => by simp at h
  | _ :: _, [], _, _, h, _ => by simp at h
  | b :: l, c :: m, hl, hm, h, e => by
    have h1 := hl b (by simp)
    have h2 := hm c (by simp)
    simp only [leN] at e
    have e1 : b = c := by omega
    subst e1
    rw [leN_inj hl.tail hm.tail (by simpa using h) (by omega)]
/-- The lowest n bits of v. -/
def ofN (v : Nat) : Nat → List Int
  | 0 => []
  | n + 1 => ((v % 2 : Nat) : Int) :: ofN (v / 2) n
theorem ofN_length : ∀ (n v : Nat), (ofN v n).length = n
  | 0, _ => rfl
  | n + 1, v => by simp [ofN, ofN_length n]
theorem ofN_isN : ∀ (n v : Nat), isN (ofN v n)
  | 0, _ => by simp [ofN, isN]
  | n + 1, v => fun b hb => by
    rcases List.mem_cons.1 hb with rfl | hb
    · omega
    · exact ofN_isN n _ b hb
theorem leN_ofN : ∀ (n v : Nat), leN (ofN v n) = v % 2 ^ n
  | 0, v => by simp [ofN, leN, Nat.mod_one]
  | n + 1, v => by
    simp only [ofN, leN, leN_ofN n, Nat.pow_succ]
    rw [Nat.mul_comm (2 ^ n) 2, Nat.mod_mul]
    omega
theorem ofN_snoc : ∀ (n v : Nat), ofN v (n + 1) = ofN v n ++ [((v / 2 ^ n % 2 : Nat) : Int)]
  | 0, v => by simp [ofN]
  | n + 1, v => by
    rw [ofN, ofN_snoc n (v / 2), ofN, List.cons_append, Nat.div_div_eq_div_mul, Nat.pow_succ, Nat.mul_comm 2]
end Go.X
set_option maxRecDepth 100000
set_option linter.unusedSimpArgs false
namespace Go.X.Try
open Go.IntWalk
def bufHp (g : Option Nat) (bs : List Int) (n : Int) : List Ob := [.cells g [.row 1, .int .i64 n], .rows (.ints .u8 bs)]
theorem f97a (n : Int) (h : 0 ≤ n ∧ n ≤ 32) : F97 [.one (.int .i64 n)] [] = some (.one (.bool true), []) := by
  obtain ⟨h1, h2⟩ := h
  simp -implicitDefEqProofs [F97, c97, h1, h2]
theorem f97b (n : Int) (h : n < 0 ∨ 32 < n) : F97 [.one (.int .i64 n)] [] = some (.one (.bool false), []) := by
  by_cases h1 : 0 ≤ n
  · have h2 : ¬ n ≤ 32 := by omega
    simp -implicitDefEqProofs [F97, c97, h1, h2]
  · simp -implicitDefEqProofs [F97, c97, h1]
theorem f48 (t : Nat) (bs : List Int) (h : bs.length ≤ 100000) : F48 [.one (.ro t (.ints .u8 bs))] [] = some (.one (.ptr 0 0), bufHp none bs 0) := by
  have hm : bs.length ≤ 140737488355328 := by omega
  simp -implicitDefEqProofs [F48, c48, bufHp, hm, RC.len, RC.size, RC.app]
theorem f53n : F53 [.one .nilp] [] = some (.one (.int .i64 0), []) := by
  simp -implicitDefEqProofs [F53, c53]
theorem f53 (bs : List Int) (at_ : Nat) (h : bs.length ≤ 100000) (ha : at_ ≤ 8 * bs.length) : F53 [.one (.ptr 0 0)] (bufHp (some 0) bs at_) = some (.one (.int .i64 (8 * bs.length - at_ : Nat)), bufHp (some 0) bs at_) := by
  have w1 : IntKind.i64.wrap (8 * (bs.length : Int)) = 8 * bs.length := i64_in _ (by omega)
  have w2 : IntKind.i64.wrap (8 * (bs.length : Int) - at_) = ((8 * bs.length - at_ : Nat) : Int) := by rw [i64_in _ (by omega)]; omega
  simp -implicitDefEqProofs [F53, c53, bufHp, RC.len, w1, w2]
def canon75 (n v got : Int) (bs : List Int) (at_ : Int) : St :=
  ⟨[(0, .one (.ptr 0 0)), (1, .one (.int .i64 n)), (6, .one (.int .u32 v)), (7, .one (.int .i64 got))], [.ptr 0 0, .int .i64 n], bufHp (some 0) bs at_⟩
theorem body75 (n v got at_ : Int) (bs : List Int) (a m e k i β s1 q mk p r v' got' at' : Int) (c : k = if e < m then e else m) (hgn : got < n)
    (ea : bitsI .and .i64 at_ 7 = a) (em : IntKind.i64.wrap (n - got) = m) (ee : IntKind.i64.wrap (8 - a) = e) (ei : shrI .i64 at_ 3 = i) (hi : i < bs.length) (hi0 : 0 ≤ i) (hβ : bs[i.toNat]?.getD 0 = β) (ha0 : ¬ a < 0) (hk0 : ¬ k < 0) (hg0 : ¬ got < 0)
    (es : shrI .u8 β a = s1) (ec : IntKind.u32.wrap s1 = s1) (eq : shlI .u32 1 k = q) (emk : IntKind.u32.wrap (q - 1) = mk) (ep : bitsI .and .u32 s1 mk = p) (er : shlI .u32 p got = r) (ev : bitsI .or .u32 v r = v') (eg : IntKind.i64.wrap (got + k) = got') (eat : IntKind.i64.wrap (at_ + k) = at') :
    ∃ st1, evC T75 KK b75x0 (canon75 n v got bs at_) = some (.norm, st1) ∧ St.head [0, 1, 6, 7] st1 = canon75 n v' got' bs at' := by
  have hβ' : bs[i.toNat]'(by omega) = β := by rw [List.getElem?_eq_getElem (by omega)] at hβ; exact hβ
  by_cases hc : e < m
  · rw [if_pos hc] at c
    subst c
    simp -implicitDefEqProofs [b75x0, canon75, bufHp, upd, hgn, ea, em, ee, ei, hi, hi0, hβ, hβ', ha0, hk0, hg0, hc, es, ec, eq, emk, ep, er, ev, eg, eat, RC.len, RC.size, RC.get]
  · rw [if_neg hc] at c
    subst c
    simp -implicitDefEqProofs [b75x0, canon75, bufHp, upd, hgn, ea, em, ee, ei, hi, hi0, hβ, hβ', ha0, hk0, hg0, hc, es, ec, eq, emk, ep, er, ev, eg, eat, RC.len, RC.size, RC.get]
theorem end75 (n v got at_ : Int) (bs : List Int) (hgn : ¬ got < n) :
    ∃ env, evC T75 KK b75x0 (canon75 n v got bs at_) = some (.exit 0, ⟨env, [.ptr 0 0, .int .i64 n], bufHp (some 0) bs at_⟩) ∧ getT 6 env = .one (.int .u32 v) := by
  simp -implicitDefEqProofs [b75x0, canon75, upd, hgn]
/-- The bits of a byte, and those below. -/
theorem take_step {N at0 got k β a i : Nat} (hat : at0 + got = 8 * i + a) (hak : a + k ≤ 8) (hβ : N / 2 ^ (8 * i) % 256 = β) : N / 2 ^ at0 % 2 ^ got + β / 2 ^ a % 2 ^ k * 2 ^ got = N / 2 ^ at0 % 2 ^ (got + k) := by
  rw [mod_more, Nat.div_div_eq_div_mul, ← Nat.pow_add, hat, ← byte_bits hak, hβ]
theorem loop75 (n : Nat) (bs : List Int) (at0 : Nat) (hb : isB bs) (hn : n ≤ 32) (hle : at0 + n ≤ 8 * bs.length) (hl : bs.length ≤ 100000) : ∀ (j got : Nat) (K : Nat), got + j = n → j < K →
    ∃ env, loopH (evC T75 KK b75x0) [0, 1, 6, 7] K (canon75 n ((leB bs / 2 ^ at0 % 2 ^ got : Nat) : Int) got bs (at0 + got : Nat)) = some (.exit 0, ⟨env, [.ptr 0 0, .int .i64 n], bufHp (some 0) bs (at0 + n : Nat)⟩) ∧ getT 6 env = .one (.int .u32 ((leB bs / 2 ^ at0 % 2 ^ n : Nat) : Int)) := by
  intro j
  induction j using Nat.strongRecOn with
  | ind j ih =>
  intro got K hj hK
  by_cases hlt : got < n
  · obtain ⟨a, ha⟩ : ∃ a, a = (at0 + got) % 8 := ⟨_, rfl⟩
    obtain ⟨i, hi⟩ : ∃ i, i = (at0 + got) / 8 := ⟨_, rfl⟩
    obtain ⟨k, hk⟩ : ∃ k, k = if 8 - a < n - got then 8 - a else n - got := ⟨_, rfl⟩
    have hat : at0 + got = 8 * i + a := by omega
    have hk1 : 0 < k ∧ a + k ≤ 8 ∧ got + k ≤ n := by subst hk; split <;> omega
    have hib : i < bs.length := by omega
    obtain ⟨b, hbi⟩ : ∃ b, bs[i]? = some b := ⟨_, List.getElem?_eq_getElem hib⟩
    have hbr := hb b (List.mem_of_getElem? hbi)
    obtain ⟨β, rfl⟩ : ∃ β : Nat, b = β := ⟨b.toNat, by omega⟩
    have hβ := leB_at hb hbi
    simp only [Int.toNat_natCast] at hβ
    have hv : leB bs / 2 ^ at0 % 2 ^ got < 2 ^ got := Nat.mod_lt _ (Nat.two_pow_pos got)
    have hstep := take_step (N := leB bs) (k := k) hat hk1.2.1 hβ
    have hlim : leB bs / 2 ^ at0 % 2 ^ (got + k) < 2 ^ 32 := Nat.lt_of_lt_of_le (Nat.mod_lt _ (Nat.two_pow_pos _)) (Nat.pow_le_pow_right (by omega) (by omega))
    have hs1 : β / 2 ^ a < 256 := Nat.lt_of_le_of_lt (Nat.div_le_self _ _) (by omega)
    have hpk : (2 : Nat) ^ k ≤ 2 ^ 8 := Nat.pow_le_pow_right (by omega) (by omega)
    have hp0 := Nat.two_pow_pos k
    have hr0 : leB bs / 2 ^ at0 % 2 ^ got + β / 2 ^ a % 2 ^ k * 2 ^ got < 2 ^ 32 := by rw [hstep]; exact hlim
    have hr : β / 2 ^ a % 2 ^ k * 2 ^ got < 2 ^ 32 := Nat.lt_of_le_of_lt (Nat.le_add_left _ _) hr0
    have eq1 : shlI .u32 1 (k : Int) = ((2 ^ k : Nat) : Int) := by
      have := shl_in (k := .u32) (x := 1) (n := k) rfl (by simp only [IntKind.bits]; omega) (by simp only [IntKind.bits]; omega)
      rw [Nat.one_mul] at this
      exact this
    have emk : IntKind.u32.wrap (((2 ^ k : Nat) : Int) - 1) = ((2 ^ k - 1 : Nat) : Int) := by
      generalize (2 : Nat) ^ k = P at hpk hp0 ⊢
      rw [u32_in _ (by omega)]; omega
    have ec : IntKind.u32.wrap ((β / 2 ^ a : Nat) : Int) = ((β / 2 ^ a : Nat) : Int) := by
      generalize β / 2 ^ a = s1 at hs1 ⊢
      exact u32_in _ (by omega)
    obtain ⟨st1, e1, e2⟩ := body75 n ((leB bs / 2 ^ at0 % 2 ^ got : Nat) : Int) got (at0 + got : Nat) bs a (n - got : Nat) (8 - a : Nat) k i β (β / 2 ^ a : Nat) (2 ^ k : Nat) (2 ^ k - 1 : Nat) (β / 2 ^ a % 2 ^ k : Nat) (β / 2 ^ a % 2 ^ k * 2 ^ got : Nat) ((leB bs / 2 ^ at0 % 2 ^ (got + k) : Nat) : Int) (got + k : Nat) (at0 + (got + k) : Nat)
      (by rw [hk]; by_cases c : 8 - a < n - got
          · rw [if_pos c, if_pos (by omega)]
          · rw [if_neg c, if_neg (by omega)])
      (by omega) (by rw [and7_i64 (by omega), ← ha]) (by rw [i64_in _ (by omega)]; omega) (by rw [i64_in _ (by omega)]; omega)
      (by rw [show (3 : Int) = ((3 : Nat) : Int) from rfl, shr_in (by simp only [IntKind.bits]; omega), show (2 : Nat) ^ 3 = 8 from rfl, ← hi]) (by omega) (by omega) (by rw [Int.toNat_natCast, hbi]; rfl) (by omega) (by omega) (by omega)
      (shr_in (by simp only [IntKind.bits]; omega)) ec eq1 emk
      (mask_and rfl (by simp only [IntKind.bits]; omega) (by simp only [IntKind.bits]; omega)) (shl_in rfl (by simp only [IntKind.bits]; omega) (by simp only [IntKind.bits]; exact hr))
      (by rw [← hstep]; exact or_add rfl hv (by simp only [IntKind.bits]; exact hr0)) (by rw [i64_in _ (by omega)]; omega) (by rw [i64_in _ (by omega)]; omega)
    obtain ⟨env, e, g⟩ := ih (j - k) (by omega) (got + k) (K - 1) (by omega) (by omega)
    exact ⟨env, by rw [loopH_norm e1 (by omega), e2]; exact e, g⟩
  · obtain rfl : got = n := by omega
    obtain ⟨env, e, g⟩ := end75 got ((leB bs / 2 ^ at0 % 2 ^ got : Nat) : Int) got (at0 + got : Nat) bs (by omega)
    exact ⟨env, loopH_exit e, g⟩
def tup2 (v : Int) (ok : Bool) : AV := .tup [.one (.int .u32 v), .one (.bool ok)]
theorem f75n (n : Int) : F75 [.one .nilp, .one (.int .i64 n)] [] = some (tup2 0 false, []) := by
  simp -implicitDefEqProofs [F75, c75, upd, tup2]
theorem f75a (bs : List Int) (at_ : Nat) (n : Int) (h : n < 0 ∨ 32 < n) : F75 [.one (.ptr 0 0), .one (.int .i64 n)] (bufHp (some 0) bs at_) = some (tup2 0 false, bufHp (some 0) bs at_) := by
  have e97 := f97b n h
  simp -implicitDefEqProofs [F75, c75, upd, tup2, bufHp, e97]
theorem f75b (bs : List Int) (at_ : Nat) (n : Int) (h : 0 ≤ n ∧ n ≤ 32) (hl : bs.length ≤ 100000) (ha : at_ ≤ 8 * bs.length) (hn : (8 * bs.length - at_ : Nat) < n) : F75 [.one (.ptr 0 0), .one (.int .i64 n)] (bufHp (some 0) bs at_) = some (tup2 0 false, bufHp (some 0) bs at_) := by
  have e97 := f97a n h
  have e53 := f53 bs at_ hl ha
  simp only [bufHp] at e53
  generalize ((8 * bs.length - at_ : Nat) : Int) = q at *
  simp -implicitDefEqProofs [F75, c75, upd, tup2, bufHp, e97, e53, hn]
theorem f75 (bs : List Int) (at_ n : Nat) (hb : isB bs) (h : n ≤ 32) (hl : bs.length ≤ 100000) (hn : at_ + n ≤ 8 * bs.length) : F75 [.one (.ptr 0 0), .one (.int .i64 n)] (bufHp (some 0) bs at_) = some (tup2 ((leB bs / 2 ^ at_ % 2 ^ n : Nat) : Int) true, bufHp (some 0) bs (at_ + n : Nat)) := by
  have e97 := f97a (n : Int) (by omega)
  have e53 := f53 bs at_ hl (by omega)
  obtain ⟨env, e, g⟩ := loop75 n bs at_ hb h hn hl n 0 KK (by omega) (by rw [KK_eq]; omega)
  have z : ((0 : Nat) : Int) = 0 := rfl
  have hq : ¬ ((8 * bs.length - at_ : Nat) : Int) < (n : Int) := by omega
  simp only [canon75, bufHp, Nat.pow_zero, Nat.mod_one, z, Nat.add_zero] at e e53
  generalize ((8 * bs.length - at_ : Nat) : Int) = q at *
  generalize ((leB bs / 2 ^ at_ % 2 ^ n : Nat) : Int) = v at *
  generalize ((at_ + n : Nat) : Int) = at' at *
  simp -implicitDefEqProofs [F75, c75, upd, tup2, bufHp, e97, e53, hq, e, g]
end Go.X.Try
set_option maxRecDepth 100000
set_option linter.unusedSimpArgs false
namespace Go.X.Try
open Go.IntWalk
def canon74 (v n i : Int) (out : List Int) : St :=
  ⟨[(0, .one (.int .u32 v)), (1, .one (.int .i64 n)), (5, .one (.row 0)), (6, .one (.int .i64 i))], [.int .u32 v, .int .i64 n], [.rows (.ints .i64 out)]⟩
theorem body74 (v n i i' s r : Int) (out : List Int) (h : i < n) (hi0 : ¬ i < 0) (es : shrI .u32 v i = s) (ew : IntKind.i64.wrap s = s) (er : s.tmod 2 = r) (ei : IntKind.i64.wrap (i + 1) = i') (hm : (out.length + 1) * 8 ≤ 140737488355328) :
    ∃ st1, evC T74 KK b74x0 (canon74 v n i out) = some (.norm, st1) ∧ St.head [0, 1, 5, 6] st1 = canon74 v n i' (out ++ [r]) := by
  simp -implicitDefEqProofs [b74x0, canon74, upd, h, hi0, es, ew, er, ei, hm, RC.len, RC.size, RC.app, RC.ofElems]
theorem end74 (v n i : Int) (out : List Int) (h : ¬ i < n) :
    ∃ env, evC T74 KK b74x0 (canon74 v n i out) = some (.exit 0, ⟨env, [.int .u32 v, .int .i64 n], [.rows (.ints .i64 out)]⟩) ∧ getT 5 env = .one (.row 0) := by
  simp -implicitDefEqProofs [b74x0, canon74, upd, h]
theorem loop74 (v n : Nat) (hv : v < 2 ^ 32) (hn : n ≤ 32) : ∀ (j i : Nat) (K : Nat), i + j = n → j < K →
    ∃ env, loopH (evC T74 KK b74x0) [0, 1, 5, 6] K (canon74 v n i (ofN v i)) = some (.exit 0, ⟨env, [.int .u32 v, .int .i64 n], [.rows (.ints .i64 (ofN v n))]⟩) ∧ getT 5 env = .one (.row 0)
  | 0, i, K, hi, hK => by
    obtain rfl : i = n := by omega
    obtain ⟨env, e, g⟩ := end74 v i i (ofN v i) (by omega)
    exact ⟨env, loopH_exit e, g⟩
  | j + 1, i, K, hi, hK => by
    have hs : v / 2 ^ i < 2 ^ 32 := Nat.lt_of_le_of_lt (Nat.div_le_self _ _) hv
    have ew : IntKind.i64.wrap ((v / 2 ^ i : Nat) : Int) = ((v / 2 ^ i : Nat) : Int) := by
      generalize v / 2 ^ i = s at hs ⊢
      exact i64_in _ (by omega)
    have er : ((v / 2 ^ i : Nat) : Int).tmod 2 = ((v / 2 ^ i % 2 : Nat) : Int) := by
      generalize v / 2 ^ i = s
      rw [Int.tmod_eq_emod_of_nonneg (by omega)]; omega
    obtain ⟨st1, e1, e2⟩ := body74 v n i (i + 1 : Nat) (v / 2 ^ i : Nat) (v / 2 ^ i % 2 : Nat) (ofN v i) (by omega) (by omega) (shr_in (by simp only [IntKind.bits]; omega)) ew er (by rw [i64_in _ (by omega)]; omega) (by rw [ofN_length]; omega)
    obtain ⟨env, e, g⟩ := loop74 v n hv hn j (i + 1) (K - 1) (by omega) (by omega)
    refine ⟨env, ?_, g⟩
    rw [loopH_norm e1 (by omega), e2, ← ofN_snoc]
    exact e
theorem f74 (v n : Nat) (hv : v < 2 ^ 32) (hn : n ≤ 32) : F74 [.one (.int .u32 v), .one (.int .i64 n)] [] = some (.one (.row 0), [.rows (.ints .i64 (ofN v n))]) := by
  obtain ⟨env, e, g⟩ := loop74 v n hv hn n 0 KK (by omega) (by rw [KK_eq]; omega)
  have z : ((0 : Nat) : Int) = 0 := rfl
  simp only [canon74, ofN, z] at e
  simp -implicitDefEqProofs [F74, c74, upd, e, g]
def canon91 (t : Nat) (l : List Int) (v i : Int) : St :=
  ⟨[(0, .one (.ro t (.ints .i64 l))), (3, .one (.int .u32 v)), (4, .one (.int .i64 i))], [.ro t (.ints .i64 l)], []⟩
theorem body91 (t : Nat) (l : List Int) (v i i' b m s : Int) (h : 0 ≤ i) (hi : i < l.length) (hb : l[i.toNat]?.getD 0 = b) (em : IntKind.u32.wrap (v * 2) = m) (ew : IntKind.u32.wrap b = b) (es : IntKind.u32.wrap (m + b) = s) (ei : IntKind.i64.wrap (i - 1) = i') :
    ∃ st1, evC T91 KK b91x0 (canon91 t l v i) = some (.norm, st1) ∧ St.head [0, 3, 4] st1 = canon91 t l s i' := by
  have hb' : l[i.toNat]'(by omega) = b := by rw [List.getElem?_eq_getElem (by omega)] at hb; exact hb
  simp -implicitDefEqProofs [b91x0, canon91, upd, h, hi, hb, hb', em, ew, es, ei, RC.len, RC.size, RC.get]
theorem end91 (t : Nat) (l : List Int) (v i : Int) (h : ¬ 0 ≤ i) :
    ∃ env, evC T91 KK b91x0 (canon91 t l v i) = some (.exit 0, ⟨env, [.ro t (.ints .i64 l)], []⟩) ∧ getT 3 env = .one (.int .u32 v) := by
  simp -implicitDefEqProofs [b91x0, canon91, upd, h]
theorem loop91 (t : Nat) (l : List Int) (hN : isN l) (hl : l.length ≤ 32) : ∀ (j : Nat) (K : Nat), j ≤ l.length → j < K →
    ∃ env, loopH (evC T91 KK b91x0) [0, 3, 4] K (canon91 t l (leN (l.drop j) : Nat) ((j : Int) - 1)) = some (.exit 0, ⟨env, [.ro t (.ints .i64 l)], []⟩) ∧ getT 3 env = .one (.int .u32 (leN l : Nat))
  | 0, K, hj, hK => by
    obtain ⟨env, e, g⟩ := end91 t l (leN (l.drop 0) : Nat) (((0 : Nat) : Int) - 1) (by omega)
    exact ⟨env, loopH_exit e, g⟩
  | j + 1, K, hj, hK => by
    have hlt : j < l.length := by omega
    have hd : l.drop j = l[j] :: l.drop (j + 1) := List.drop_eq_getElem_cons hlt
    have hb := hN l[j] (List.getElem_mem hlt)
    have hN2 : isN (l.drop (j + 1)) := fun x hx => hN x (List.mem_of_mem_drop hx)
    have hv := leN_lt hN2
    rw [List.length_drop] at hv
    have hv2 : leN (l.drop (j + 1)) < 2 ^ 31 := Nat.lt_of_lt_of_le hv (Nat.pow_le_pow_right (by omega) (by omega))
    have hs : leN (l.drop j) = l[j].toNat + 2 * leN (l.drop (j + 1)) := by rw [hd]; rfl
    have hg : l[(((j + 1 : Nat) : Int) - 1).toNat]?.getD 0 = l[j] := by
      rw [show (((j + 1 : Nat) : Int) - 1).toNat = j by omega, List.getElem?_eq_getElem hlt]; rfl
    have hs2 : (leN (l.drop j) : Int) = 2 * leN (l.drop (j + 1)) + l[j] := by omega
    obtain ⟨st1, e1, e2⟩ := body91 t l (leN (l.drop (j + 1)) : Nat) (((j + 1 : Nat) : Int) - 1) ((j : Int) - 1) l[j] (2 * leN (l.drop (j + 1)) : Nat) (leN (l.drop j) : Nat) (by omega) (by omega) hg (by rw [u32_in _ (by omega)]; omega) (u32_in _ (by omega)) (by rw [u32_in _ (by omega)]; omega) (by rw [i64_in _ (by omega)]; omega)
    obtain ⟨env, e, g⟩ := loop91 t l hN hl j (K - 1) (by omega) (by omega)
    exact ⟨env, by rw [loopH_norm e1 (by omega), e2]; exact e, g⟩
theorem f91 (t : Nat) (l : List Int) (hN : isN l) (hl : l.length ≤ 32) : F91 [.one (.ro t (.ints .i64 l))] [] = some (.one (.int .u32 (leN l : Nat)), []) := by
  obtain ⟨env, e, g⟩ := loop91 t l hN hl l.length KK (by omega) (by rw [KK_eq]; omega)
  have w : IntKind.i64.wrap ((l.length : Int) - 1) = (l.length : Int) - 1 := i64_in _ (by omega)
  have z : ((0 : Nat) : Int) = 0 := rfl
  rw [List.drop_length] at e
  simp only [canon91, leN, z] at e
  simp -implicitDefEqProofs [F91, c91, upd, RC.len, w, e, g]
def canon51 (t : Nat) (bs : List Int) (i : Int) (out : List Int) : St :=
  ⟨[(0, .one (.ro t (.ints .u8 bs))), (3, .one (.row 0)), (4, .one (.int .i64 i))], [.ro t (.ints .u8 bs)], [.rows (.ints .i64 out)]⟩
theorem body51 (t : Nat) (bs : List Int) (i : Nat) (b : Int) (out add : List Int) (hi : i < bs.length) (hl : bs.length ≤ 100000) (hb : bs[i]?.getD 0 = b) (ew : IntKind.u32.wrap b = b) (e74 : F74 [.one (.int .u32 b), .one (.int .i64 8)] [] = some (.one (.row 0), [.rows (.ints .i64 add)])) (hm : (out.length + add.length) * 8 ≤ 140737488355328) :
    ∃ st1, evC T51 KK b51x0 (canon51 t bs i out) = some (.norm, st1) ∧ St.head [0, 3, 4] st1 = canon51 t bs (i + 1 : Nat) (out ++ add) := by
  have hb' : bs[i] = b := by rw [List.getElem?_eq_getElem hi] at hb; exact hb
  have hi2 : (i : Int) < bs.length := by omega
  have w : IntKind.i64.wrap ((i : Int) + 1) = (i : Int) + 1 := i64_in _ (by omega)
  simp -implicitDefEqProofs [b51x0, canon51, upd, hi, hi2, hb, hb', ew, e74, hm, w, RC.len, RC.size, RC.get, RC.app]
theorem end51 (t : Nat) (bs : List Int) (i : Nat) (out : List Int) (hi : bs.length ≤ i) :
    ∃ env, evC T51 KK b51x0 (canon51 t bs i out) = some (.exit 0, ⟨env, [.ro t (.ints .u8 bs)], [.rows (.ints .i64 out)]⟩) ∧ getT 3 env = .one (.row 0) := by
  have hi2 : ¬ (i : Int) < bs.length := by omega
  simp -implicitDefEqProofs [b51x0, canon51, upd, hi2, RC.len]
theorem loop51 (t : Nat) (bs : List Int) (hB : isB bs) (hl : bs.length ≤ 100000) : ∀ (j i : Nat) (out : List Int) (K : Nat), i + j = bs.length → isN out → out.length = 8 * i → leN out = leB (bs.take i) → j < K →
    ∃ env out', loopH (evC T51 KK b51x0) [0, 3, 4] K (canon51 t bs i out) = some (.exit 0, ⟨env, [.ro t (.ints .u8 bs)], [.rows (.ints .i64 out')]⟩) ∧ getT 3 env = .one (.row 0) ∧ isN out' ∧ out'.length = 8 * bs.length ∧ leN out' = leB bs
  | 0, i, out, K, hi, hN, hlen, hv, hK => by
    obtain rfl : i = bs.length := by omega
    obtain ⟨env, e, g⟩ := end51 t bs bs.length out (Nat.le_refl _)
    rw [List.take_length] at hv
    exact ⟨env, out, loopH_exit e, g, hN, hlen, hv⟩
  | j + 1, i, out, K, hi, hN, hlen, hv, hK => by
    have hlt : i < bs.length := by omega
    have hb := hB bs[i] (List.getElem_mem hlt)
    have hg : bs[i]?.getD 0 = bs[i] := by rw [List.getElem?_eq_getElem hlt]; rfl
    obtain ⟨β, hβ⟩ : ∃ β : Nat, bs[i] = β := ⟨bs[i].toNat, by omega⟩
    have e74 := f74 β 8 (by omega) (by omega)
    rw [← hβ] at e74
    obtain ⟨st1, e1, e2⟩ := body51 t bs i bs[i] out (ofN β 8) hlt hl hg (u32_in _ (by omega)) e74 (by rw [ofN_length]; omega)
    obtain ⟨env, out', e, g, r1, r2, r3⟩ := loop51 t bs hB hl j (i + 1) (out ++ ofN β 8) (K - 1) (by omega) (fun x hx => by
        rcases List.mem_append.1 hx with hx | hx
        · exact hN x hx
        · exact ofN_isN 8 β x hx) (by rw [List.length_append, ofN_length]; omega) (by
        rw [← List.take_append_getElem hlt, leB_append, leN_append, hv, hlen, List.length_take, Nat.min_eq_left (by omega), leN_ofN, Nat.mod_eq_of_lt (by omega), hβ]
        simp [leB]) (by omega)
    exact ⟨env, out', by rw [loopH_norm e1 (by omega), e2]; exact e, g, r1, r2, r3⟩
theorem f51 (t : Nat) (bs : List Int) (hB : isB bs) (hl : bs.length ≤ 90000) : ∃ out, F51 [.one (.ro t (.ints .u8 bs))] [] = some (.one (.row 0), [.rows (.ints .i64 out)]) ∧ isN out ∧ out.length = 8 * bs.length ∧ leN out = leB bs := by
  obtain ⟨env, out, e, g, r⟩ := loop51 t bs hB (by omega) bs.length 0 [] KK (by omega) (by simp [isN]) rfl rfl (by rw [KK_eq]; omega)
  have z : ((0 : Nat) : Int) = 0 := rfl
  simp only [canon51, z] at e
  refine ⟨out, ?_, r⟩
  simp -implicitDefEqProofs [F51, c51, upd, e, g]
end Go.X.Try
set_option maxRecDepth 100000
set_option linter.unusedSimpArgs false
namespace Go.X.Try
open Go.IntWalk
def canon67 (v0 n0 v n : Int) (bs : List Int) (c : Int) : St :=
  ⟨[(0, .one (.ptr 0 0)), (1, .one (.int .u32 v)), (2, .one (.int .i64 n))], [.ptr 0 0, .int .u32 v0, .int .i64 n0], bufHp (some 0) bs c⟩
theorem body67z (v0 n0 v n c e k q mk p r y v' c' n' : Int) (bs : List Int) (hn : 0 < n) (hk : k = if e < n then e else n) (hk0 : ¬ k < 0) (hm : bs.length + 1 ≤ 100000)
    (ea : bitsI .and .i64 c 7 = 0) (ee : IntKind.i64.wrap 8 = e) (eq : shlI .u32 1 k = q) (emk : IntKind.u32.wrap (q - 1) = mk) (ep : bitsI .and .u32 v mk = p) (epc : IntKind.u8.wrap p = p) (er : shlI .u8 p 0 = r) (ey : bitsI .or .u8 0 r = y)
    (ev : shrI .u32 v k = v') (ec : IntKind.i64.wrap (c + k) = c') (en : IntKind.i64.wrap (n - k) = n') :
    ∃ st1, evC T67 KK b67x0 (canon67 v0 n0 v n bs c) = some (.norm, st1) ∧ St.head [0, 1, 2] st1 = canon67 v0 n0 v' n' (bs ++ [y]) c' := by
  have hm' : bs.length + 1 ≤ 140737488355328 := by omega
  have w : IntKind.i64.wrap (bs.length : Int) = bs.length := i64_in _ (by omega)
  have hb1 : (bs.length : Int) < (bs.length : Int) + 1 := by omega
  by_cases hc : e < n
  · rw [if_pos hc] at hk
    subst hk
    simp -implicitDefEqProofs [b67x0, canon67, bufHp, upd, hn, hc, hk0, hm', hb1, ea, ee, eq, emk, ep, epc, er, ey, ev, ec, en, w, RC.len, RC.size, RC.get, RC.set, RC.app, RC.ofElems]
  · rw [if_neg hc] at hk
    subst hk
    have en0 : IntKind.i64.wrap 0 = n' := by rw [← en]; congr 1; omega
    simp -implicitDefEqProofs [b67x0, canon67, bufHp, upd, hn, hc, hk0, hm', hb1, ea, ee, eq, emk, ep, epc, er, ey, ev, ec, en, en0, w, RC.len, RC.size, RC.get, RC.set, RC.app, RC.ofElems]
theorem body67s (v0 n0 v n c a e k q mk p r x y v' c' n' : Int) (i : Nat) (bs : List Int) (hn : 0 < n) (hk : k = if e < n then e else n) (hk0 : ¬ k < 0) (ha : ¬ a = 0) (ha0 : ¬ a < 0) (hi : i < bs.length) (hx : bs[i]?.getD 0 = x)
    (ea : bitsI .and .i64 c 7 = a) (ee : IntKind.i64.wrap (8 - a) = e) (ei : IntKind.i64.wrap ((bs.length : Int) - 1) = i) (eq : shlI .u32 1 k = q) (emk : IntKind.u32.wrap (q - 1) = mk) (ep : bitsI .and .u32 v mk = p) (epc : IntKind.u8.wrap p = p) (er : shlI .u8 p a = r) (ey : bitsI .or .u8 x r = y)
    (ev : shrI .u32 v k = v') (ec : IntKind.i64.wrap (c + k) = c') (en : IntKind.i64.wrap (n - k) = n') :
    ∃ st1, evC T67 KK b67x0 (canon67 v0 n0 v n bs c) = some (.norm, st1) ∧ St.head [0, 1, 2] st1 = canon67 v0 n0 v' n' (bs.set i y) c' := by
  have hx' : bs[i] = x := by rw [List.getElem?_eq_getElem hi] at hx; exact hx
  have hi2 : (i : Int) < bs.length := by omega
  by_cases hc : e < n
  · rw [if_pos hc] at hk
    subst hk
    simp -implicitDefEqProofs [b67x0, canon67, bufHp, upd, hn, hc, hk0, ha, ha0, hi, hi2, hx, hx', ea, ee, ei, eq, emk, ep, epc, er, ey, ev, ec, en, RC.len, RC.size, RC.get, RC.set, RC.app, RC.ofElems]
  · rw [if_neg hc] at hk
    subst hk
    have en0 : IntKind.i64.wrap 0 = n' := by rw [← en]; congr 1; omega
    simp -implicitDefEqProofs [b67x0, canon67, bufHp, upd, hn, hc, hk0, ha, ha0, hi, hi2, hx, hx', ea, ee, ei, eq, emk, ep, epc, er, ey, ev, ec, en, en0, RC.len, RC.size, RC.get, RC.set, RC.app, RC.ofElems]
theorem end67 (v0 n0 v n c : Int) (bs : List Int) (hn : ¬ 0 < n) :
    ∃ env, evC T67 KK b67x0 (canon67 v0 n0 v n bs c) = some (.exit 0, ⟨env, [.ptr 0 0, .int .u32 v0, .int .i64 n0], bufHp (some 0) bs c⟩) := by
  simp -implicitDefEqProofs [b67x0, canon67, upd, hn]
/-- What a writer holds: c bits, the number N. -/
structure Holds (bs : List Int) (c N : Nat) : Prop where
  isB : isB bs
  len : bs.length = (c + 7) / 8
  val : leB bs = N
  lt : N < 2 ^ c
theorem u8_mask {v k : Nat} (hk : k ≤ 8) : v % 2 ^ k < 256 := by
  have e1 : v % 2 ^ k < 2 ^ k := Nat.mod_lt _ (Nat.two_pow_pos k)
  have e2 : 2 ^ k ≤ 2 ^ 8 := Nat.pow_le_pow_right (n := 2) (by omega) hk
  omega
theorem shl1_u32 {k : Nat} (hk : k ≤ 8) : shlI .u32 1 (k : Int) = ((2 ^ k : Nat) : Int) := by
  have hpk : (2 : Nat) ^ k ≤ 2 ^ 8 := Nat.pow_le_pow_right (by omega) (by omega)
  have := shl_in (k := .u32) (x := 1) (n := k) rfl (by simp only [IntKind.bits]; omega) (by simp only [IntKind.bits]; omega)
  rw [Nat.one_mul] at this
  exact this
theorem mask_u32 {k : Nat} (hk : k ≤ 8) : IntKind.u32.wrap (((2 ^ k : Nat) : Int) - 1) = ((2 ^ k - 1 : Nat) : Int) := by
  have hpk : (2 : Nat) ^ k ≤ 2 ^ 8 := Nat.pow_le_pow_right (by omega) (by omega)
  have hp0 := Nat.two_pow_pos k
  generalize (2 : Nat) ^ k = P at hpk hp0 ⊢
  rw [u32_in _ (by omega)]; omega
theorem step67 (v0 n0 : Int) (v n c N : Nat) (bs : List Int) (h : Holds bs c N) (hn : 0 < n) (hn2 : n ≤ 32) (hv : v < 2 ^ 32) (hc : c ≤ 700000) :
    ∃ st1 bs' k, evC T67 KK b67x0 (canon67 v0 n0 v n bs c) = some (.norm, st1) ∧ St.head [0, 1, 2] st1 = canon67 v0 n0 (v / 2 ^ k : Nat) (n - k : Nat) bs' (c + k : Nat) ∧ Holds bs' (c + k) (N + v % 2 ^ k * 2 ^ c) ∧ 0 < k ∧ k ≤ n := by
  obtain ⟨hB, hlen, hval, hlt⟩ := h
  obtain ⟨a, ha⟩ : ∃ a, a = c % 8 := ⟨_, rfl⟩
  obtain ⟨k, hk⟩ : ∃ k, k = if 8 - a < n then 8 - a else n := ⟨_, rfl⟩
  have hk1 : 0 < k ∧ a + k ≤ 8 ∧ k ≤ n := by subst hk; split <;> omega
  have hkI : (k : Int) = if ((8 - a : Nat) : Int) < (n : Int) then ((8 - a : Nat) : Int) else n := by
    rw [hk]
    by_cases d : 8 - a < n
    · rw [if_pos d, if_pos (by omega)]
    · rw [if_neg d, if_neg (by omega)]
  have hp : v % 2 ^ k < 256 := u8_mask (by omega)
  have hpk : v % 2 ^ k < 2 ^ k := Nat.mod_lt _ (Nat.two_pow_pos k)
  have ea : bitsI .and .i64 (c : Int) 7 = (a : Int) := by rw [and7_i64 (by omega), ← ha]
  have ee : IntKind.i64.wrap (8 - (a : Int)) = ((8 - a : Nat) : Int) := by rw [i64_in _ (by omega)]; omega
  have ep := mask_and (k := .u32) (x := v) (n := k) rfl (by simp only [IntKind.bits]; omega) (by simp only [IntKind.bits]; omega)
  have epc : IntKind.u8.wrap ((v % 2 ^ k : Nat) : Int) = ((v % 2 ^ k : Nat) : Int) := by
    generalize v % 2 ^ k = p at hp ⊢
    exact u8_in _ (by omega)
  have ev : shrI .u32 (v : Int) (k : Int) = ((v / 2 ^ k : Nat) : Int) := shr_in (by simp only [IntKind.bits]; omega)
  have ec : IntKind.i64.wrap ((c : Int) + k) = ((c + k : Nat) : Int) := by rw [i64_in _ (by omega)]; omega
  have en : IntKind.i64.wrap ((n : Int) - k) = ((n - k : Nat) : Int) := by rw [i64_in _ (by omega)]; omega
  have hpa : v % 2 ^ k * 2 ^ a < 256 := by
    have e1 : v % 2 ^ k * 2 ^ a < 2 ^ k * 2 ^ a := Nat.mul_lt_mul_of_pos_right hpk (Nat.two_pow_pos a)
    rw [← Nat.pow_add] at e1
    have e2 : 2 ^ (k + a) ≤ 2 ^ 8 := Nat.pow_le_pow_right (n := 2) (by omega) (by omega)
    omega
  have hlt' : N + v % 2 ^ k * 2 ^ c < 2 ^ (c + k) := by
    have e1 : (v % 2 ^ k + 1) * 2 ^ c ≤ 2 ^ k * 2 ^ c := Nat.mul_le_mul_right _ hpk
    rw [← Nat.pow_add, Nat.add_mul, Nat.one_mul, Nat.add_comm k c] at e1
    omega
  have er : shlI .u8 ((v % 2 ^ k : Nat) : Int) (a : Int) = ((v % 2 ^ k * 2 ^ a : Nat) : Int) := shl_in rfl (by simp only [IntKind.bits]; omega) (by simp only [IntKind.bits]; exact hpa)
  by_cases h0 : a = 0
  · subst h0
    have ey : bitsI .or .u8 0 ((v % 2 ^ k * 2 ^ 0 : Nat) : Int) = ((v % 2 ^ k * 2 ^ 0 : Nat) : Int) := by
      have := or_add (k := .u8) (x := 0) (y := v % 2 ^ k) (n := 0) rfl (by omega) (by simp only [IntKind.bits]; rw [Nat.zero_add]; exact hpa)
      rw [Nat.zero_add] at this
      exact this
    have ee0 : IntKind.i64.wrap 8 = ((8 - 0 : Nat) : Int) := by rw [i64_in _ (by omega)]; rfl
    obtain ⟨st1, e1, e2⟩ := body67z v0 n0 v n c (8 - 0 : Nat) k (2 ^ k : Nat) (2 ^ k - 1 : Nat) (v % 2 ^ k : Nat) (v % 2 ^ k * 2 ^ 0 : Nat) (v % 2 ^ k * 2 ^ 0 : Nat) (v / 2 ^ k : Nat) (c + k : Nat) (n - k : Nat) bs (by omega) hkI (by omega) (by omega) ea ee0 (shl1_u32 (by omega)) (mask_u32 (by omega)) ep epc er ey ev ec en
    refine ⟨st1, _, k, e1, e2, ⟨?_, ?_, ?_, hlt'⟩, hk1.1, hk1.2.2⟩
    · intro x hx
      rcases List.mem_append.1 hx with hx | hx
      · exact hB x hx
      · simp only [List.mem_cons, List.not_mem_nil, or_false] at hx
        subst hx
        rw [Nat.pow_zero, Nat.mul_one]
        generalize v % 2 ^ k = p at hp ⊢
        omega
    · rw [List.length_append, List.length_cons, List.length_nil]; omega
    · rw [leB_append, hval, show 8 * bs.length = c by omega]
      simp only [leB, Int.toNat_natCast, Nat.pow_zero, Nat.mul_one, Nat.mul_zero, Nat.add_zero]
      rw [Nat.mul_comm]
  · obtain ⟨i, hi⟩ : ∃ i, i = c / 8 := ⟨_, rfl⟩
    have hca : c = 8 * i + a := by omega
    have hil : i < bs.length := by omega
    obtain ⟨b, hbi⟩ : ∃ b, bs[i]? = some b := ⟨_, List.getElem?_eq_getElem hil⟩
    have hbr := hB b (List.mem_of_getElem? hbi)
    obtain ⟨β, rfl⟩ : ∃ β : Nat, b = β := ⟨b.toNat, by omega⟩
    have hβ := leB_at hB hbi
    rw [hval, Int.toNat_natCast] at hβ
    have hβa : β < 2 ^ a := by
      rw [← hβ]
      refine Nat.lt_of_le_of_lt (Nat.mod_le _ _) ?_
      rw [Nat.div_lt_iff_lt_mul (Nat.two_pow_pos _), ← Nat.pow_add, show a + 8 * i = c by omega]
      exact hlt
    have hy : β + v % 2 ^ k * 2 ^ a < 256 := by
      have e1 : (v % 2 ^ k + 1) * 2 ^ a ≤ 2 ^ k * 2 ^ a := Nat.mul_le_mul_right _ hpk
      have e2 : 2 ^ (k + a) ≤ 2 ^ 8 := Nat.pow_le_pow_right (n := 2) (by omega) (by omega)
      rw [← Nat.pow_add, Nat.add_mul, Nat.one_mul] at e1
      omega
    have ey : bitsI .or .u8 (β : Int) ((v % 2 ^ k * 2 ^ a : Nat) : Int) = ((β + v % 2 ^ k * 2 ^ a : Nat) : Int) := or_add rfl hβa (by simp only [IntKind.bits]; exact hy)
    obtain ⟨st1, e1, e2⟩ := body67s v0 n0 v n c a (8 - a : Nat) k (2 ^ k : Nat) (2 ^ k - 1 : Nat) (v % 2 ^ k : Nat) (v % 2 ^ k * 2 ^ a : Nat) β (β + v % 2 ^ k * 2 ^ a : Nat) (v / 2 ^ k : Nat) (c + k : Nat) (n - k : Nat) i bs (by omega) hkI (by omega) (by omega) (by omega) hil (by rw [hbi]; rfl) ea ee (by rw [i64_in _ (by omega)]; omega) (shl1_u32 (by omega)) (mask_u32 (by omega)) ep epc er ey ev ec en
    refine ⟨st1, _, k, e1, e2, ⟨?_, ?_, ?_, hlt'⟩, hk1.1, hk1.2.2⟩
    · intro x hx
      rcases List.mem_or_eq_of_mem_set hx with hx | hx
      · exact hB x hx
      · subst hx
        generalize β + v % 2 ^ k * 2 ^ a = y at hy ⊢
        omega
    · rw [List.length_set]; omega
    · have := leB_set (d := v % 2 ^ k * 2 ^ a) hB hbi
      rw [hval, Nat.mul_assoc, ← Nat.pow_add, show a + 8 * i = c by omega] at this
      rw [← this]
      congr 2
theorem loop67 (v0 n0 : Int) : ∀ (n v c N : Nat) (bs : List Int) (K : Nat), Holds bs c N → n ≤ 32 → v < 2 ^ 32 → c + n ≤ 700000 → n < K →
    ∃ env bs', loopH (evC T67 KK b67x0) [0, 1, 2] K (canon67 v0 n0 v n bs c) = some (.exit 0, ⟨env, [.ptr 0 0, .int .u32 v0, .int .i64 n0], bufHp (some 0) bs' (c + n : Nat)⟩) ∧ Holds bs' (c + n) (N + v % 2 ^ n * 2 ^ c) := by
  intro n
  induction n using Nat.strongRecOn with
  | ind n ih =>
  intro v c N bs K h hn hv hc hK
  by_cases h0 : 0 < n
  · obtain ⟨st1, bs', k, e1, e2, h', hk0, hkn⟩ := step67 v0 n0 v n c N bs h h0 hn hv (by omega)
    obtain ⟨env, bs2, e, h2⟩ := ih (n - k) (by omega) (v / 2 ^ k) (c + k) _ bs' (K - 1) h' (by omega) (Nat.lt_of_le_of_lt (Nat.div_le_self _ _) hv) (by omega) (by omega)
    rw [show c + k + (n - k) = c + n by omega] at e h2
    refine ⟨env, bs2, by rw [loopH_norm e1 (by omega), e2]; exact e, ?_⟩
    have hm := mod_more v k (n - k)
    rw [show k + (n - k) = n by omega] at hm
    rw [hm, Nat.add_mul, Nat.mul_assoc, ← Nat.pow_add, show k + c = c + k by omega, ← Nat.add_assoc]
    exact h2
  · obtain rfl : n = 0 := by omega
    obtain ⟨env, e⟩ := end67 v0 n0 v (0 : Nat) c bs (by omega)
    refine ⟨env, bs, loopH_exit e, ?_⟩
    rw [Nat.pow_zero, Nat.mod_one, Nat.zero_mul]
    exact h
theorem f67a (v n c : Int) (bs : List Int) (h : n < 0 ∨ 32 < n) : F67 [.one (.ptr 0 0), .one (.int .u32 v), .one (.int .i64 n)] (bufHp (some 0) bs c) = some (.one (.bool false), bufHp (some 0) bs c) := by
  have e97 := f97b n h
  simp -implicitDefEqProofs [F67, c67, upd, bufHp, e97]
theorem f67 (v n c N : Nat) (bs : List Int) (h : Holds bs c N) (hn : n ≤ 32) (hv : v < 2 ^ 32) (hc : c + n ≤ 700000) :
    ∃ bs', F67 [.one (.ptr 0 0), .one (.int .u32 v), .one (.int .i64 n)] (bufHp (some 0) bs c) = some (.one (.bool true), bufHp (some 0) bs' (c + n : Nat)) ∧ Holds bs' (c + n) (N + v % 2 ^ n * 2 ^ c) := by
  have e97 := f97a (n : Int) (by omega)
  obtain ⟨env, bs', e, h'⟩ := loop67 v n n v c N bs KK h hn hv hc (by rw [KK_eq]; omega)
  refine ⟨bs', ?_, h'⟩
  simp only [canon67, bufHp] at e
  generalize ((c + n : Nat) : Int) = c' at *
  simp -implicitDefEqProofs [F67, c67, upd, bufHp, e97, e]
theorem f72 (bs : List Int) (c : Int) (h : bs.length ≤ 100000) : F72 [.one (.ptr 0 0)] (bufHp (some 0) bs c) = some (.one (.row 2), bufHp (some 0) bs c ++ [.rows (.ints .u8 bs)]) := by
  have hm : bs.length ≤ 140737488355328 := by omega
  simp -implicitDefEqProofs [F72, c72, upd, bufHp, hm, RC.len, RC.size, RC.app]
theorem f69 (bs : List Int) (c : Int) : F69 [.one (.ptr 0 0)] (bufHp (some 0) bs c) = some (.one (.int .i64 c), bufHp (some 0) bs c) := by
  simp -implicitDefEqProofs [F69, c69, upd, bufHp]
end Go.X.Try
set_option maxRecDepth 100000
set_option linter.unusedVariables false
namespace Go.X
open Go.IntWalk
/-! ### strings as lists of bytes -/
theorem size_toBytes (s : ByteArray) : (toBytes s).length = s.size := by
  unfold toBytes; rw [List.length_map, Array.length_toList]; rfl
theorem isB_toBytes (s : ByteArray) : isB (toBytes s) := fun b hb => by
  simp only [toBytes, List.mem_map] at hb
  obtain ⟨x, _, rfl⟩ := hb
  have := x.toNat_lt
  omega
theorem size_ofBytes (l : List Int) : (ofBytes l).size = l.length := by
  simp [ofBytes, ByteArray.size]
theorem ofBytes_nil : ofBytes [] = ⟨#[]⟩ := rfl
theorem toBytes_ofBytes {l : List Int} (h : isB l) : toBytes (ofBytes l) = l := by
  simp only [toBytes, ofBytes, List.map_map]
  induction l with
  | nil => rfl
  | cons b l ih =>
    have hb := h b (by simp)
    simp only [List.map_cons, Function.comp]
    rw [ih h.tail]
    congr 1
    simp only [UInt8.toNat_ofNat']
    omega
theorem ofBytes_toBytes (s : ByteArray) : ofBytes (toBytes s) = s := by
  obtain ⟨⟨l⟩⟩ := s
  simp only [toBytes, ofBytes, List.map_map]
  congr 2
  induction l with
  | nil => rfl
  | cons x l ih =>
    simp only [List.map_cons, Function.comp, ih]
    congr 1
    simp
theorem ofBytes_append (l m : List Int) : ofBytes l ++ ofBytes m = ofBytes (l ++ m) := by
  apply ByteArray.ext
  simp [ofBytes]
theorem ofBytes_extract (l : List Int) (a b : Nat) : (ofBytes l).extract a b = ofBytes ((l.drop a).take (b - a)) := by
  apply ByteArray.ext
  simp [ofBytes, ByteArray.data_extract, List.extract_eq_take_drop]
theorem ofBytes_inj {l m : List Int} (hl : isB l) (hm : isB m) : ofBytes l = ofBytes m ↔ l = m :=
  ⟨fun h => by rw [← toBytes_ofBytes hl, h, toBytes_ofBytes hm], fun h => by rw [h]⟩
theorem beqS (a b : ByteArray) : (a.toList == b.toList) = decide (a = b) := by
  rw [Bool.eq_iff_iff]
  simp only [beq_iff_eq, decide_eq_true_eq, ByteArray.toList_eq]
  constructor
  · intro h
    apply ByteArray.ext
    exact Array.toList_inj.1 h
  · intro h; rw [h]
theorem eqS {l m : List Int} (hl : isB l) (hm : isB m) : ((ofBytes l).toList == (ofBytes m).toList) = decide (l = m) := by
  rw [beqS]
  exact decide_eq_decide.2 (ofBytes_inj hl hm)
theorem eqS0 (l : List Int) : ((ofBytes l).toList == ({ data := #[] } : ByteArray).toList) = decide (l = []) := by
  rw [beqS]
  refine decide_eq_decide.2 ⟨fun h => ?_, fun h => by rw [h]; rfl⟩
  have := congrArg ByteArray.size h
  rw [size_ofBytes] at this
  exact List.eq_nil_of_length_eq_zero this
theorem emptyS (l : List Int) : (ofBytes l).toList.isEmpty = decide (l = []) := by
  rw [ByteArray.toList_eq]
  cases l <;> simp [ofBytes]
theorem empty_ofBytes : ByteArray.empty = ofBytes [] := rfl
theorem isB_append {l m : List Int} (hl : isB l) (hm : isB m) : isB (l ++ m) := fun b hb => by
  rcases List.mem_append.1 hb with h | h
  · exact hl b h
  · exact hm b h
theorem isB_take {l : List Int} (n : Nat) (hl : isB l) : isB (l.take n) := fun b hb => hl b (List.mem_of_mem_take hb)
theorem isB_drop {l : List Int} (n : Nat) (hl : isB l) : isB (l.drop n) := fun b hb => hl b (List.mem_of_mem_drop hb)
theorem isB_one {b : Int} (h : 0 ≤ b ∧ b < 256) : isB [b] := fun x hx => by
  simp only [List.mem_cons, List.not_mem_nil, or_false] at hx
  omega
end Go.X
set_option maxRecDepth 100000
set_option linter.unusedSimpArgs false
namespace Go.X.Try
open Go.IntWalk
@[simp ↓ high] theorem lenOf_slv_none' (hp : List Ob) (k : Nat) : lenOf hp (slv k none) = lenAt hp[k]? := rfl
@[simp ↓ high] theorem lenOf_slv_some' (hp : List Ob) (k o n : Nat) : lenOf hp (slv k (some (o, n))) = some n := rfl
theorem holds0 : Holds [] 0 0 := ⟨by simp [isB], rfl, rfl, by omega⟩
theorem holds13 {bs : List Int} (h : Holds bs 4 13) : bs = [13] := by
  obtain ⟨hB, hl, hv, _⟩ := h
  match bs, hl with
  | [b], _ =>
    have := hB b (by simp)
    simp only [leB] at hv
    have : b = 13 := by omega
    rw [this]
abbrev rts5 (bs L : List Int) : List SV := [.ro 0 (.ints .u8 bs), .ro 1 (.ints .i64 L)]
def canon5 (bs L : List Int) (i : Int) (sa : Option (Nat × Nat)) (A : List Int) (at_ : Int) : St :=
  ⟨[(5, .one (.ptr 0 0)), (6, .one (slv 2 sa)), (25, .one (.ro 1 (.ints .i64 L))), (26, .one (.int .i64 L.length)), (27, .one (.int .i64 i))], rts5 bs L, [.cells none [.row 1, .int .i64 at_], .rows (.ints .u8 bs), .rows (.ints .i64 A)]⟩
end Go.X.Try
set_option maxRecDepth 100000
set_option linter.unusedSimpArgs false
namespace Go.X.Try
open Go.IntWalk
def canon73 (t : Nat) (l : List Int) (i : Int) (out : List Int) : St :=
  ⟨[(0, .one (.ro t (.ints .i64 l))), (3, .one (.row 0)), (4, .one (.int .i64 i))], [.ro t (.ints .i64 l)], [.rows (.ints .u8 out)]⟩
theorem body73a (t : Nat) (l : List Int) (i : Nat) (out : List Int) (hi : i < l.length) (hl : l.length ≤ 100000) (ho : out.length ≤ 100000) (ea : (i : Int).tmod 8 = 0) (hb : l[i]?.getD 0 = 0) :
    ∃ st1, evC T73 KK b73x0 (canon73 t l i out) = some (.norm, st1) ∧ St.head [0, 3, 4] st1 = canon73 t l (i + 1 : Nat) (out ++ [0]) := by
  have hb' : l[i] = 0 := by rw [List.getElem?_eq_getElem hi] at hb; exact hb
  have hi2 : (i : Int) < l.length := by omega
  have w : IntKind.i64.wrap ((i : Int) + 1) = (i : Int) + 1 := i64_in _ (by omega)
  have hm : out.length + 1 ≤ 140737488355328 := by omega
  simp -implicitDefEqProofs [b73x0, canon73, upd, hi, hi2, ea, hb, hb', hm, w, RC.len, RC.size, RC.get, RC.app, RC.ofElems]
theorem body73b (t : Nat) (l : List Int) (i : Nat) (out : List Int) (hi : i < l.length) (hl : l.length ≤ 100000) (ho : out.length ≤ 100000) (ea : (i : Int).tmod 8 = 0) (hb : l[i]?.getD 0 = 1) (eq : IntKind.i64.wrap ((i : Int) / 8) = out.length) :
    ∃ st1, evC T73 KK b73x0 (canon73 t l i out) = some (.norm, st1) ∧ St.head [0, 3, 4] st1 = canon73 t l (i + 1 : Nat) (out ++ [1]) := by
  have hb' : l[i] = 1 := by rw [List.getElem?_eq_getElem hi] at hb; exact hb
  have hi2 : (i : Int) < l.length := by omega
  have w : IntKind.i64.wrap ((i : Int) + 1) = (i : Int) + 1 := i64_in _ (by omega)
  have hm : out.length + 1 ≤ 140737488355328 := by omega
  have hb1 : (out.length : Int) < (out.length : Int) + 1 := by omega
  have s1 : shlI .u8 1 0 = 1 := by decide
  have s2 : bitsI .or .u8 0 1 = 1 := by decide
  simp -implicitDefEqProofs [b73x0, canon73, upd, hi, hi2, ea, hb, hb', hm, hb1, w, eq, s1, s2, RC.len, RC.size, RC.get, RC.set, RC.app, RC.ofElems]
theorem body73c (t : Nat) (l : List Int) (i : Nat) (a : Int) (out : List Int) (hi : i < l.length) (hl : l.length ≤ 100000) (ho : out.length ≤ 100000) (ea : (i : Int).tmod 8 = a) (ha : ¬ a = 0) (hb : l[i]?.getD 0 = 0) :
    ∃ st1, evC T73 KK b73x0 (canon73 t l i out) = some (.norm, st1) ∧ St.head [0, 3, 4] st1 = canon73 t l (i + 1 : Nat) out := by
  have hb' : l[i] = 0 := by rw [List.getElem?_eq_getElem hi] at hb; exact hb
  have hi2 : (i : Int) < l.length := by omega
  have w : IntKind.i64.wrap ((i : Int) + 1) = (i : Int) + 1 := i64_in _ (by omega)
  simp -implicitDefEqProofs [b73x0, canon73, upd, hi, hi2, ea, ha, hb, hb', w, RC.len, RC.size, RC.get]
theorem body73d (t : Nat) (l : List Int) (i q : Nat) (a s x y : Int) (out : List Int) (hi : i < l.length) (hl : l.length ≤ 100000) (ho : out.length ≤ 100000) (ea : (i : Int).tmod 8 = a) (ha : ¬ a = 0) (ha0 : ¬ a < 0) (hb : l[i]?.getD 0 = 1) (eq : IntKind.i64.wrap ((i : Int) / 8) = q) (hq : q < out.length) (hx : out[q]?.getD 0 = x) (es : shlI .u8 1 a = s) (ey : bitsI .or .u8 x s = y) :
    ∃ st1, evC T73 KK b73x0 (canon73 t l i out) = some (.norm, st1) ∧ St.head [0, 3, 4] st1 = canon73 t l (i + 1 : Nat) (out.set q y) := by
  have hb' : l[i] = 1 := by rw [List.getElem?_eq_getElem hi] at hb; exact hb
  have hx' : out[q] = x := by rw [List.getElem?_eq_getElem hq] at hx; exact hx
  have hi2 : (i : Int) < l.length := by omega
  have hq2 : (q : Int) < out.length := by omega
  have w : IntKind.i64.wrap ((i : Int) + 1) = (i : Int) + 1 := i64_in _ (by omega)
  simp -implicitDefEqProofs [b73x0, canon73, upd, hi, hi2, hq, hq2, ea, ha, ha0, hb, hb', hx, hx', eq, es, ey, w, RC.len, RC.size, RC.get, RC.set]
theorem end73 (t : Nat) (l : List Int) (i : Nat) (out : List Int) (hi : l.length ≤ i) :
    ∃ env, evC T73 KK b73x0 (canon73 t l i out) = some (.exit 0, ⟨env, [.ro t (.ints .i64 l)], [.rows (.ints .u8 out)]⟩) ∧ getT 3 env = .one (.row 0) := by
  have hi2 : ¬ (i : Int) < l.length := by omega
  simp -implicitDefEqProofs [b73x0, canon73, upd, hi2, RC.len]
theorem step73 (t : Nat) (l : List Int) (i N : Nat) (out : List Int) (hN : isN l) (hi : i < l.length) (hl : l.length ≤ 100000) (h : Holds out i N) :
    ∃ st1 out', evC T73 KK b73x0 (canon73 t l i out) = some (.norm, st1) ∧ St.head [0, 3, 4] st1 = canon73 t l (i + 1 : Nat) out' ∧ Holds out' (i + 1) (N + l[i].toNat * 2 ^ i) := by
  obtain ⟨hB, hlen, hval, hlt⟩ := h
  have hg : l[i]?.getD 0 = l[i] := by rw [List.getElem?_eq_getElem hi]; rfl
  have hm : (i : Int).tmod 8 = ((i % 8 : Nat) : Int) := by rw [Int.tmod_eq_emod_of_nonneg (by omega)]; omega
  have hd : IntKind.i64.wrap ((i : Int) / 8) = ((i / 8 : Nat) : Int) := by
    rw [i64_in _ (by omega)]; omega
  have hp : 2 ^ (i + 1) = 2 * 2 ^ i := by rw [Nat.pow_succ]; omega
  rcases hN l[i] (List.getElem_mem hi) with hb | hb <;> rw [hb] at hg ⊢
  · by_cases ha : i % 8 = 0
    · obtain ⟨st1, e1, e2⟩ := body73a t l i out hi hl (by omega) (by rw [hm, ha]; rfl) hg
      refine ⟨st1, _, e1, e2, ⟨?_, ?_, ?_, ?_⟩⟩
      · intro x hx
        rcases List.mem_append.1 hx with hx | hx
        · exact hB x hx
        · simp only [List.mem_cons, List.not_mem_nil, or_false] at hx
          omega
      · rw [List.length_append, List.length_cons, List.length_nil]; omega
      · rw [leB_append, hval]; simp [leB]
      · simp only [Int.toNat_zero, Nat.zero_mul]; omega
    · obtain ⟨st1, e1, e2⟩ := body73c t l i _ out hi hl (by omega) hm (by omega) hg
      refine ⟨st1, _, e1, e2, ⟨hB, by omega, ?_, ?_⟩⟩
      · rw [hval]; simp
      · simp only [Int.toNat_zero, Nat.zero_mul]; omega
  · have one : (1 : Int).toNat = 1 := rfl
    rw [one, Nat.one_mul]
    by_cases ha : i % 8 = 0
    · obtain ⟨st1, e1, e2⟩ := body73b t l i out hi hl (by omega) (by rw [hm, ha]; rfl) hg (by rw [hd]; omega)
      refine ⟨st1, _, e1, e2, ⟨?_, ?_, ?_, ?_⟩⟩
      · intro x hx
        rcases List.mem_append.1 hx with hx | hx
        · exact hB x hx
        · simp only [List.mem_cons, List.not_mem_nil, or_false] at hx
          omega
      · rw [List.length_append, List.length_cons, List.length_nil]; omega
      · rw [leB_append, hval, show 8 * out.length = i by omega]; simp [leB]
      · omega
    · obtain ⟨a, ha'⟩ : ∃ a, a = i % 8 := ⟨_, rfl⟩
      obtain ⟨q, hq⟩ : ∃ q, q = i / 8 := ⟨_, rfl⟩
      rw [← ha'] at hm ha
      rw [← hq] at hd
      have hql : q < out.length := by omega
      obtain ⟨b, hbi⟩ : ∃ b, out[q]? = some b := ⟨_, List.getElem?_eq_getElem hql⟩
      have hbr := hB b (List.mem_of_getElem? hbi)
      obtain ⟨β, rfl⟩ : ∃ β : Nat, b = β := ⟨b.toNat, by omega⟩
      have hβ := leB_at hB hbi
      rw [hval, Int.toNat_natCast] at hβ
      have hβa : β < 2 ^ a := by
        rw [← hβ]
        refine Nat.lt_of_le_of_lt (Nat.mod_le _ _) ?_
        rw [Nat.div_lt_iff_lt_mul (Nat.two_pow_pos _), ← Nat.pow_add, show a + 8 * q = i by omega]
        exact hlt
      have hp7 : 2 ^ a ≤ 2 ^ 7 := Nat.pow_le_pow_right (by omega) (by omega)
      have es : shlI .u8 1 (a : Int) = ((1 * 2 ^ a : Nat) : Int) := shl_in (k := .u8) (x := 1) rfl (by simp only [IntKind.bits]; omega) (by simp only [IntKind.bits]; omega)
      have ey : bitsI .or .u8 (β : Int) ((1 * 2 ^ a : Nat) : Int) = ((β + 1 * 2 ^ a : Nat) : Int) := or_add rfl hβa (by simp only [IntKind.bits]; omega)
      obtain ⟨st1, e1, e2⟩ := body73d t l i q a _ β _ out hi hl (by omega) hm (by omega) (by omega) hg hd hql (by rw [hbi]; rfl) es ey
      refine ⟨st1, _, e1, e2, ⟨?_, ?_, ?_, ?_⟩⟩
      · intro x hx
        rcases List.mem_or_eq_of_mem_set hx with hx | hx
        · exact hB x hx
        · subst hx
          generalize (2 : Nat) ^ a = P at hp7 hβa ⊢
          omega
      · rw [List.length_set]; omega
      · have := leB_set (d := 1 * 2 ^ a) hB hbi
        rw [hval, Nat.one_mul, ← Nat.pow_add, show a + 8 * q = i by omega] at this
        rw [← this, Nat.one_mul]
        congr 2
      · omega
theorem loop73 (t : Nat) (l : List Int) (hN : isN l) (hl : l.length ≤ 90000) : ∀ (j i : Nat) (out : List Int) (K : Nat), i + j = l.length → Holds out i (leN (l.take i)) → j < K →
    ∃ env out', loopH (evC T73 KK b73x0) [0, 3, 4] K (canon73 t l i out) = some (.exit 0, ⟨env, [.ro t (.ints .i64 l)], [.rows (.ints .u8 out')]⟩) ∧ getT 3 env = .one (.row 0) ∧ Holds out' l.length (leN l)
  | 0, i, out, K, hi, h, hK => by
    obtain rfl : i = l.length := by omega
    obtain ⟨env, e, g⟩ := end73 t l l.length out (Nat.le_refl _)
    rw [List.take_length] at h
    exact ⟨env, out, loopH_exit e, g, h⟩
  | j + 1, i, out, K, hi, h, hK => by
    have hlt : i < l.length := by omega
    obtain ⟨st1, out', e1, e2, h'⟩ := step73 t l i _ out hN hlt (by omega) h
    have hv : leN (l.take (i + 1)) = leN (l.take i) + l[i].toNat * 2 ^ i := by
      rw [← List.take_append_getElem hlt, leN_append, List.length_take, Nat.min_eq_left (by omega)]
      simp [leN, Nat.mul_comm]
    rw [← hv] at h'
    obtain ⟨env, out2, e, g, r⟩ := loop73 t l hN hl j (i + 1) out' (K - 1) (by omega) h' (by omega)
    exact ⟨env, out2, by rw [loopH_norm e1 (by omega), e2]; exact e, g, r⟩
theorem f73 (t : Nat) (l : List Int) (hN : isN l) (hl : l.length ≤ 90000) : ∃ out, F73 [.one (.ro t (.ints .i64 l))] [] = some (.one (.row 0), [.rows (.ints .u8 out)]) ∧ Holds out l.length (leN l) := by
  obtain ⟨env, out, e, g, r⟩ := loop73 t l hN hl l.length 0 [] KK (by omega) holds0 (by rw [KK_eq]; omega)
  have z : ((0 : Nat) : Int) = 0 := rfl
  simp only [canon73, z] at e
  refine ⟨out, ?_, r⟩
  simp -implicitDefEqProofs [F73, c73, upd, e, g]
end Go.X.Try
set_option maxRecDepth 100000
set_option linter.unusedSimpArgs false
namespace Go.X.Try
open Go.IntWalk
theorem e83a (t : Nat) : F83 [.one (.ro t (.ints .i64 [3, 1]))] [] = some (.one (.int .i64 4), []) := by
  simp -implicitDefEqProofs [F83, c83, b83x0, upd, loop_go0, loop_go1, IntKind.wrap_i64, RC.len, RC.size, RC.get]
theorem e83b (t : Nat) : F83 [.one (.ro t (.ints .i64 [24, 8]))] [] = some (.one (.int .i64 32), []) := by
  simp -implicitDefEqProofs [F83, c83, b83x0, upd, loop_go0, loop_go1, IntKind.wrap_i64, RC.len, RC.size, RC.get]
theorem e81 (t : Nat) : F81 [.one (.ro t (.ints .i64 [3, 1]))] [] = some (.one (.bool true), []) := by
  simp -implicitDefEqProofs [F81, c81, b81x0, upd, loop_go0, loop_go1, e83a, IntKind.wrap_i64, RC.len, RC.size, RC.get]
theorem e77 (n : Int) : F77 [.one (.int .i64 n)] [] = some (.one (.bool (decide (5 ≤ n ∧ n ≤ 9))), []) := by
  by_cases h : 5 ≤ n
  · by_cases h2 : n ≤ 9
    · simp -implicitDefEqProofs [F77, c77, upd, h, h2]
    · simp -implicitDefEqProofs [F77, c77, upd, h, h2]
  · simp -implicitDefEqProofs [F77, c77, upd, h]
theorem e27a (t : Nat) : F27 [.one (.ro t (.ints .i64 [3, 1]))] [] = some (.one (.int .i64 2), []) := by
  simp -implicitDefEqProofs [F27, c27, b27x0, upd, loop_go0, loop_go1, IntKind.wrap_i64, RC.len, RC.size, RC.get]
theorem e27b (t : Nat) : F27 [.one (.ro t (.ints .i64 [0, 2]))] [] = some (.one (.int .i64 1), []) := by
  simp -implicitDefEqProofs [F27, c27, b27x0, upd, loop_go0, loop_go1, IntKind.wrap_i64, RC.len, RC.size, RC.get]
theorem e82 (t : Nat) : F82 [.one (.ro t (.ints .i64 [3, 1])), .one (.int .i64 32)] [] = some (.one (.row 0), [.rows (.ints .i64 [24, 8])]) := by
  simp (maxSteps := 1000000) -implicitDefEqProofs [F82, c82, b82x0, upd, loop_go0, loop_go1, e83a, IntKind.wrap_i64, RC.len, RC.size, RC.get, RC.set, RC.ofElems]
theorem e29 (t : Nat) : F29 [.one (.ro t (.ints .i64 [3, 1])), .one (.int .i64 5)] [] = some (.tup [.one (.row 0), .one (.bool true)], [.rows (.ints .i64 [24, 8])]) := by
  have s5 : shlI .i64 1 5 = 32 := by decide
  have e77 := e77 5
  simp (maxSteps := 1000000) -implicitDefEqProofs [F29, c29, b29x0, upd, loop_go0, loop_go1, e81, e77, e27a, e82, e83b, s5, IntKind.wrap_i64, RC.len, RC.size, RC.get]
theorem h14 : F14 [] [] = some (.one (.bool true), []) := by
  simp (maxSteps := 1000000) -implicitDefEqProofs [F14, c14, upd, e29, e27b, RC.len, RC.size, RC.get, RC.ofElems]
end Go.X.Try
set_option maxRecDepth 100000
set_option linter.unusedSimpArgs false
namespace Go.X.Try
open Go.IntWalk
theorem l78 (w : Int) (hw : w ≤ 20) : ∀ (k : Nat) (j : Nat) (env : Env), getT 0 env = .one (.int .i64 w) → getT 3 env = .one (.int .i64 ((2 ^ j : Nat) : Int)) → getT 4 env = .one (.int .i64 j) → (j : Int) ≤ w → w - j < k →
    ∃ env', loopN (evC T78 KK b78x0) [0, 3, 4] k ⟨env, [.int .i64 w], []⟩ = some (.exit 0, ⟨env', [.int .i64 w], []⟩) ∧ getT 3 env' = .one (.int .i64 ((2 ^ w.toNat : Nat) : Int))
  | 0, j, env, _, _, _, _, h => by omega
  | k + 1, j, env, e0, e3, e4, hj, hk => by
    have hp : 2 ^ j ≤ 2 ^ 20 := Nat.pow_le_pow_right (by omega) (by omega)
    have hs : (2 ^ (j + 1) : Nat) = 2 ^ j * 2 := Nat.pow_succ 2 j
    by_cases hv : (j : Int) < w
    · obtain ⟨env', p, q⟩ := l78 w hw k (j + 1) [(4, .one (.int .i64 ((j + 1 : Nat) : Int))), (9, .one (.int .i64 ((j + 1 : Nat) : Int))), (8, .one (.int .i64 j)), (3, .one (.int .i64 ((2 ^ (j + 1) : Nat) : Int))), (11, .one (.int .i64 ((2 ^ (j + 1) : Nat) : Int))), (10, .one (.int .i64 ((2 ^ j : Nat) : Int))), (7, .one (.bool true)), (6, .one (.int .i64 w)), (5, .one (.int .i64 j)), (0, .one (.int .i64 w)), (3, .one (.int .i64 ((2 ^ j : Nat) : Int))), (4, .one (.int .i64 j))] rfl rfl rfl (by omega) (by omega)
      refine ⟨env', ?_, q⟩
      rw [← p, hs]
      generalize 2 ^ j = m at hp e3 ⊢
      simp [loopN, b78x0, e0, e3, e4, hv]
      rw [i64_in (m * 2) (by omega), i64_in (j + 1) (by omega)]
    · refine ⟨_, by simp [loopN, b78x0, e0, e3, e4, hv]; rfl, ?_⟩
      have : w.toNat = j := by omega
      rw [this]; simp
theorem e78 (w : Int) (h0 : 0 ≤ w) (h : w ≤ 20) : F78 [.one (.int .i64 w)] [] = some (.one (.int .i64 ((2 ^ w.toNat : Nat) : Int)), []) := by
  obtain ⟨env', p, q⟩ := l78 w h KK 0 [(4, .one (.int .i64 0)), (3, .one (.int .i64 1)), (2, .one (.int .i64 0)), (0, .one (.int .i64 w))] rfl rfl rfl h0 (by rw [KK_eq]; omega)
  simp [-loop_KK, F78, c78, p, q]
end Go.X.Try
set_option maxRecDepth 100000
set_option linter.unusedSimpArgs false
namespace Go.X.Try
open Go.IntWalk
def chk15 : Int → List Int → Bool
  | left, [] => decide (left = 0)
  | left, n :: l => if n < 0 ∨ left < n then false else chk15 (left - n) l
def sumL : List Int → Int
  | [] => 0
  | x :: l => x + sumL l
def okN : List Int → Bool
  | [] => true
  | x :: l => decide (0 ≤ x ∧ x ≤ 1000) && okN l
theorem sumL_nonneg : ∀ {l : List Int}, okN l = true → 0 ≤ sumL l
  | [], _ => Int.le_refl _
  | x :: l, h => by
    simp only [okN, Bool.and_eq_true, decide_eq_true_eq] at h
    have := sumL_nonneg h.2
    simp only [sumL]; omega
theorem chk15_eq : ∀ (l : List Int) (left : Int), 0 ≤ left → left ≤ 1000 → chk15 left l = (okN l && decide (sumL l = left))
  | [], left, _, _ => by
    simp only [chk15, okN, sumL, Bool.true_and]
    exact decide_eq_decide.2 ⟨fun h => h.symm, fun h => h.symm⟩
  | n :: l, left, h0, h1 => by
    show (if n < 0 ∨ left < n then false else chk15 (left - n) l) = (decide (0 ≤ n ∧ n ≤ 1000) && okN l && decide (n + sumL l = left))
    by_cases h : n < 0 ∨ left < n
    · rw [if_pos h]
      rcases h with h | h
      · rw [decide_eq_false (by omega : ¬ (0 ≤ n ∧ n ≤ 1000))]; rfl
      · cases ho : okN l with
        | false => simp
        | true =>
          have := sumL_nonneg ho
          rw [decide_eq_false (by omega : ¬ (n + sumL l = left))]; simp
    · rw [if_neg h, chk15_eq l (left - n) (by omega) (by omega), decide_eq_true (by omega : 0 ≤ n ∧ n ≤ 1000), Bool.true_and]
      congr 1
      exact decide_eq_decide.2 (by omega)
def canon15 (t : Nat) (l : List Int) (log left i : Int) : St := ⟨[(5, .one (.int .i64 left)), (18, .one (.ro t (.ints .i64 l))), (19, .one (.int .i64 l.length)), (20, .one (.int .i64 i))], [.ro t (.ints .i64 l), .int .i64 log], []⟩
theorem body15 (t : Nat) (l : List Int) (log left n left' i' : Int) (i : Nat) (hi : i < l.length) (hn : l[i]?.getD 0 = n) (h1 : ¬ n < 0) (h2 : ¬ left < n) (el : IntKind.i64.wrap (left - n) = left') (ei : IntKind.i64.wrap ((i : Int) + 1) = i') :
    ∃ st1, evC T15 KK b15x0 (canon15 t l log left i) = some (.norm, st1) ∧ St.head [5, 18, 19, 20] st1 = canon15 t l log left' i' := by
  have hn' : l[i] = n := by rw [List.getElem?_eq_getElem hi] at hn; exact hn
  have hi2 : (i : Int) < l.length := by omega
  simp -implicitDefEqProofs [b15x0, canon15, upd, hi, hi2, hn, hn', h1, h2, el, ei, RC.len, RC.size, RC.get]
theorem bad15 (t : Nat) (l : List Int) (log left n : Int) (i : Nat) (hi : i < l.length) (hn : l[i]?.getD 0 = n) (h : n < 0 ∨ left < n) :
    ∃ env, evC T15 KK b15x0 (canon15 t l log left i) = some (.ret, ⟨env, [.ro t (.ints .i64 l), .int .i64 log], []⟩) ∧ getT 4 env = .one (.bool false) := by
  have hn' : l[i] = n := by rw [List.getElem?_eq_getElem hi] at hn; exact hn
  have hi2 : (i : Int) < l.length := by omega
  by_cases h1 : n < 0
  · simp -implicitDefEqProofs [b15x0, canon15, upd, hi, hi2, hn, hn', h1, RC.len, RC.size, RC.get]
  · have h2 : left < n := by omega
    simp -implicitDefEqProofs [b15x0, canon15, upd, hi, hi2, hn, hn', h1, h2, RC.len, RC.size, RC.get]
theorem end15 (t : Nat) (l : List Int) (log left i : Int) (hi : ¬ i < l.length) :
    ∃ env, evC T15 KK b15x0 (canon15 t l log left i) = some (.exit 0, ⟨env, [.ro t (.ints .i64 l), .int .i64 log], []⟩) ∧ getT 5 env = .one (.int .i64 left) := by
  simp -implicitDefEqProofs [b15x0, canon15, upd, hi]
theorem loop15 (t : Nat) (l : List Int) (log : Int) (hl : l.length ≤ 300) : ∀ (j i : Nat) (left : Int) (K : Nat), i + j = l.length → 0 ≤ left → left ≤ 1000 → j < K →
    (∃ env left', loopH (evC T15 KK b15x0) [5, 18, 19, 20] K (canon15 t l log left i) = some (.exit 0, ⟨env, [.ro t (.ints .i64 l), .int .i64 log], []⟩) ∧ getT 5 env = .one (.int .i64 left') ∧ chk15 left (l.drop i) = decide (left' = 0)) ∨
    (∃ env, loopH (evC T15 KK b15x0) [5, 18, 19, 20] K (canon15 t l log left i) = some (.ret, ⟨env, [.ro t (.ints .i64 l), .int .i64 log], []⟩) ∧ getT 4 env = .one (.bool false) ∧ chk15 left (l.drop i) = false)
  | 0, i, left, K, hi, h0, h1, hK => by
    obtain ⟨env, e, g⟩ := end15 t l log left i (by omega)
    exact .inl ⟨env, left, loopH_exit e, g, by rw [List.drop_eq_nil_of_le (by omega)]; rfl⟩
  | j + 1, i, left, K, hi, h0, h1, hK => by
    have hlt : i < l.length := by omega
    have hg : l[i]?.getD 0 = l[i] := by rw [List.getElem?_eq_getElem hlt]; rfl
    rw [List.drop_eq_getElem_cons hlt]
    generalize l[i] = n at hg
    simp only [chk15]
    by_cases h : n < 0 ∨ left < n
    · obtain ⟨env, e, g⟩ := bad15 t l log left n i hlt hg h
      exact .inr ⟨env, loopH_ret e, g, by rw [if_pos h]⟩
    · obtain ⟨st1, e1, e2⟩ := body15 t l log left n (left - n) (i + 1 : Nat) i hlt hg (by omega) (by omega) (i64_in _ (by omega)) (by rw [i64_in _ (by omega)]; omega)
      rw [if_neg h]
      rcases loop15 t l log hl j (i + 1) (left - n) (K - 1) (by omega) (by omega) (by omega) (by omega) with ⟨env, l', e, g, q⟩ | ⟨env, e, g, q⟩
      · exact .inl ⟨env, l', by rw [loopH_norm e1 (by omega), e2]; exact e, g, q⟩
      · exact .inr ⟨env, by rw [loopH_norm e1 (by omega), e2]; exact e, g, q⟩
def fairB (l : List Int) (log : Int) : Bool := decide (5 ≤ log ∧ log ≤ 9 ∧ l.length ≤ 256) && (okN l && decide (sumL l = ((2 ^ log.toNat : Nat) : Int)))
theorem pow9 {log : Int} (h : 5 ≤ log ∧ log ≤ 9) : 32 ≤ 2 ^ log.toNat ∧ 2 ^ log.toNat ≤ 512 :=
  ⟨(Nat.pow_le_pow_right (n := 2) (by omega) (by omega : 5 ≤ log.toNat) : 2 ^ 5 ≤ _), (Nat.pow_le_pow_right (n := 2) (by omega) (by omega : log.toNat ≤ 9) : _ ≤ 2 ^ 9)⟩
theorem f15 (t : Nat) (l : List Int) (log : Int) (hl : l.length ≤ 300) : F15 [.one (.ro t (.ints .i64 l)), .one (.int .i64 log)] [] = some (.one (.bool (fairB l log)), []) := by
  have e77 := e77 log
  unfold fairB
  by_cases h5 : 5 ≤ log ∧ log ≤ 9
  · rw [decide_eq_true h5] at e77
    by_cases h256 : l.length ≤ 256
    · have hp := pow9 h5
      have n1 : ¬ (256 : Int) < l.length := by omega
      have n2 : ¬ 256 < l.length := by omega
      have es : shlI .i64 1 log = ((2 ^ log.toNat : Nat) : Int) := by
        have e1 : (1 : Int) * 2 ^ Nat.min log.toNat 64 = ((2 ^ log.toNat : Nat) : Int) := by
          rw [show Nat.min log.toNat 64 = log.toNat from Nat.min_eq_left (by omega)]; simp
        show IntKind.i64.wrap _ = _
        have e2 : (1 : Int) * 2 ^ Nat.min log.toNat IntKind.i64.bits = ((2 ^ log.toNat : Nat) : Int) := e1
        rw [e2]
        exact i64_in _ (by omega)
      have hlog : ¬ log < 0 := by omega
      have hpI : (32 : Int) ≤ ((2 ^ log.toNat : Nat) : Int) ∧ ((2 ^ log.toNat : Nat) : Int) ≤ 512 := by omega
      rw [decide_eq_true (by omega : 5 ≤ log ∧ log ≤ 9 ∧ l.length ≤ 256), Bool.true_and, ← chk15_eq l _ (by omega) (by omega)]
      generalize ((2 ^ log.toNat : Nat) : Int) = S at *
      have z : ((0 : Nat) : Int) = 0 := rfl
      rcases loop15 t l log hl l.length 0 S KK (by omega) (by omega) (by omega) (by rw [KK_eq]; omega) with ⟨env, l', e, g, q⟩ | ⟨env, e, g, q⟩
      · rw [List.drop_zero] at q
        simp only [canon15, z] at e
        rw [q]
        by_cases hl0 : l' = 0
        · simp -implicitDefEqProofs [F15, c15, upd, e77, n1, n2, h256, es, hlog, e, g, hl0, RC.len]
        · simp -implicitDefEqProofs [F15, c15, upd, e77, n1, n2, h256, es, hlog, e, g, hl0, RC.len]
      · rw [List.drop_zero] at q
        simp only [canon15, z] at e
        rw [q]
        simp -implicitDefEqProofs [F15, c15, upd, e77, n1, n2, h256, es, hlog, e, g, RC.len]
    · have n1 : (256 : Int) < l.length := by omega
      have n2 : 256 < l.length := by omega
      rw [decide_eq_false (by omega : ¬ (5 ≤ log ∧ log ≤ 9 ∧ l.length ≤ 256)), Bool.false_and]
      simp -implicitDefEqProofs [F15, c15, upd, e77, n1, n2, RC.len]
  · rw [decide_eq_false h5] at e77
    rw [decide_eq_false (by omega : ¬ (5 ≤ log ∧ log ≤ 9 ∧ l.length ≤ 256)), Bool.false_and]
    simp -implicitDefEqProofs [F15, c15, upd, e77]
def canon16 (t : Nat) (l : List Int) (log s i : Int) : St := ⟨[(0, .one (.ro t (.ints .i64 l))), (1, .one (.int .i64 log)), (5, .one (.int .i64 s)), (6, .one (.int .i64 i))], [.ro t (.ints .i64 l), .int .i64 log], []⟩
theorem body16 (t : Nat) (l : List Int) (log s n s' i' : Int) (i : Nat) (hi : i < l.length) (hn : l[i]?.getD 0 = n) (h1 : ¬ n < 0) (h2 : ¬ 1000 < n) (el : IntKind.i64.wrap (s + n) = s') (ei : IntKind.i64.wrap ((i : Int) + 1) = i') :
    ∃ st1, evC T16 KK b16x0 (canon16 t l log s i) = some (.norm, st1) ∧ St.head [0, 1, 5, 6] st1 = canon16 t l log s' i' := by
  have hn' : l[i] = n := by rw [List.getElem?_eq_getElem hi] at hn; exact hn
  have hi2 : (i : Int) < l.length := by omega
  simp -implicitDefEqProofs [b16x0, canon16, upd, hi, hi2, hn, hn', h1, h2, el, ei, RC.len, RC.size, RC.get]
theorem bad16 (t : Nat) (l : List Int) (log s n : Int) (i : Nat) (hi : i < l.length) (hn : l[i]?.getD 0 = n) (h : n < 0 ∨ 1000 < n) :
    ∃ env, evC T16 KK b16x0 (canon16 t l log s i) = some (.ret, ⟨env, [.ro t (.ints .i64 l), .int .i64 log], []⟩) ∧ getT 4 env = .one (.bool false) := by
  have hn' : l[i] = n := by rw [List.getElem?_eq_getElem hi] at hn; exact hn
  have hi2 : (i : Int) < l.length := by omega
  by_cases h1 : n < 0
  · simp -implicitDefEqProofs [b16x0, canon16, upd, hi, hi2, hn, hn', h1, RC.len, RC.size, RC.get]
  · have h2 : 1000 < n := by omega
    simp -implicitDefEqProofs [b16x0, canon16, upd, hi, hi2, hn, hn', h1, h2, RC.len, RC.size, RC.get]
theorem end16 (t : Nat) (l : List Int) (log s i : Int) (hi : ¬ i < l.length) :
    ∃ env, evC T16 KK b16x0 (canon16 t l log s i) = some (.exit 0, ⟨env, [.ro t (.ints .i64 l), .int .i64 log], []⟩) ∧ getT 1 env = .one (.int .i64 log) ∧ getT 5 env = .one (.int .i64 s) := by
  simp -implicitDefEqProofs [b16x0, canon16, upd, hi, RC.len]
theorem loop16 (t : Nat) (l : List Int) (log : Int) (hl : l.length ≤ 300) : ∀ (j i : Nat) (s : Int) (K : Nat), i + j = l.length → 0 ≤ s → s ≤ 1000 * i → j < K →
    (∃ env, loopH (evC T16 KK b16x0) [0, 1, 5, 6] K (canon16 t l log s i) = some (.exit 0, ⟨env, [.ro t (.ints .i64 l), .int .i64 log], []⟩) ∧ getT 1 env = .one (.int .i64 log) ∧ getT 5 env = .one (.int .i64 (s + sumL (l.drop i))) ∧ okN (l.drop i) = true) ∨
    (∃ env, loopH (evC T16 KK b16x0) [0, 1, 5, 6] K (canon16 t l log s i) = some (.ret, ⟨env, [.ro t (.ints .i64 l), .int .i64 log], []⟩) ∧ getT 4 env = .one (.bool false) ∧ okN (l.drop i) = false)
  | 0, i, s, K, hi, h0, h1, hK => by
    obtain ⟨env, e, g1, g⟩ := end16 t l log s i (by omega)
    exact .inl ⟨env, loopH_exit e, g1, by rw [List.drop_eq_nil_of_le (by omega), g]; simp [sumL], by rw [List.drop_eq_nil_of_le (by omega)]; rfl⟩
  | j + 1, i, s, K, hi, h0, h1, hK => by
    have hlt : i < l.length := by omega
    have hg : l[i]?.getD 0 = l[i] := by rw [List.getElem?_eq_getElem hlt]; rfl
    rw [List.drop_eq_getElem_cons hlt]
    generalize l[i] = n at hg
    simp only [okN, sumL]
    by_cases h : n < 0 ∨ 1000 < n
    · obtain ⟨env, e, g⟩ := bad16 t l log s n i hlt hg h
      exact .inr ⟨env, loopH_ret e, g, by rw [decide_eq_false (by omega)]; rfl⟩
    · obtain ⟨st1, e1, e2⟩ := body16 t l log s n (s + n) (i + 1 : Nat) i hlt hg (by omega) (by omega) (i64_in _ (by omega)) (by rw [i64_in _ (by omega)]; omega)
      rw [decide_eq_true (by omega), Bool.true_and]
      rcases loop16 t l log hl j (i + 1) (s + n) (K - 1) (by omega) (by omega) (by omega) (by omega) with ⟨env, e, g1, g, q⟩ | ⟨env, e, g, q⟩
      · exact .inl ⟨env, by rw [loopH_norm e1 (by omega), e2]; exact e, g1, by rw [g, Int.add_assoc], q⟩
      · exact .inr ⟨env, by rw [loopH_norm e1 (by omega), e2]; exact e, g, q⟩
theorem f16 (t : Nat) (l : List Int) (log : Int) (hl : l.length ≤ 300) : F16 [.one (.ro t (.ints .i64 l)), .one (.int .i64 log)] [] = some (.one (.bool (fairB l log)), []) := by
  unfold fairB
  by_cases h5 : log < 5
  · rw [decide_eq_false (by omega : ¬ (5 ≤ log ∧ log ≤ 9 ∧ l.length ≤ 256)), Bool.false_and]
    simp -implicitDefEqProofs [F16, c16, upd, h5]
  · by_cases h9 : 9 < log
    · rw [decide_eq_false (by omega : ¬ (5 ≤ log ∧ log ≤ 9 ∧ l.length ≤ 256)), Bool.false_and]
      simp -implicitDefEqProofs [F16, c16, upd, h5, h9]
    · by_cases h256 : l.length ≤ 256
      · have n1 : ¬ (256 : Int) < l.length := by omega
        have n2 : ¬ 256 < l.length := by omega
        have e78 := e78 log (by omega) (by omega)
        rw [decide_eq_true (by omega : 5 ≤ log ∧ log ≤ 9 ∧ l.length ≤ 256), Bool.true_and]
        generalize ((2 ^ log.toNat : Nat) : Int) = S at *
        have z : ((0 : Nat) : Int) = 0 := rfl
        rcases loop16 t l log hl l.length 0 0 KK (by omega) (by omega) (by omega) (by rw [KK_eq]; omega) with ⟨env, e, g1, g, q⟩ | ⟨env, e, g, q⟩
        · rw [List.drop_zero] at q g
          rw [Int.zero_add] at g
          simp only [canon16, z] at e
          rw [q, Bool.true_and]
          by_cases hs : sumL l = S
          · simp -implicitDefEqProofs [F16, c16, upd, h5, h9, n1, n2, h256, e, g1, g, e78, hs, RC.len]
          · simp -implicitDefEqProofs [F16, c16, upd, h5, h9, n1, n2, h256, e, g1, g, e78, hs, RC.len]
        · rw [List.drop_zero] at q
          simp only [canon16, z] at e
          rw [q, Bool.false_and]
          simp -implicitDefEqProofs [F16, c16, upd, h5, h9, n1, n2, h256, e, g, RC.len]
      · have n1 : (256 : Int) < l.length := by omega
        have n2 : 256 < l.length := by omega
        rw [decide_eq_false (by omega : ¬ (5 ≤ log ∧ log ≤ 9 ∧ l.length ≤ 256)), Bool.false_and]
        simp -implicitDefEqProofs [F16, c16, upd, h5, h9, n1, n2, RC.len]
theorem law3 (l : List Int) (log : Int) (_ : l.length ≤ maxLen) (_ : ∀ z ∈ l, (Lit.int .i64 z).wf = true) (_ : (Lit.int .i64 log).wf = true) : F3 [.one (.ro 0 (.ints .i64 l)), .one (.int .i64 log)] [] = some (.one (.bool true), []) := by
  by_cases hl : l.length ≤ 300
  · have n1 : ¬ (300 : Int) < l.length := by omega
    have n2 : ¬ 300 < l.length := by omega
    have e15 := f15 0 l log hl
    have e16 := f16 0 l log hl
    simp -implicitDefEqProofs [F3, c3, upd, h14, n1, n2, hl, e15, e16, RC.len]
  · have n1 : (300 : Int) < l.length := by omega
    have n2 : 300 < l.length := by omega
    simp -implicitDefEqProofs [F3, c3, upd, h14, n1, n2, RC.len]
end Go.X.Try
set_option maxRecDepth 100000
set_option linter.unusedSimpArgs false
namespace Go.X.Try
open Go.IntWalk
theorem tab108 : ∀ b : Fin 256, (toBytes lit108x0)[b.val]?.getD 0 = (bl b.val : Int) := by decide +kernel
theorem tab59_size : lit108x0.size = 256 := by decide +kernel
theorem blI (v : Int) (k : Nat) (h : (2 ^ k : Nat) ≤ v.toNat) : (bl v.toNat : Int) = k + bl (v / ((2 ^ k : Nat) : Int)).toNat := by
  rw [bl_div k h]
  have : (v / ((2 ^ k : Nat) : Int)).toNat = v.toNat / 2 ^ k := by
    rcases Int.eq_ofNat_of_zero_le (show 0 ≤ v by have := Nat.two_pow_pos k; omega) with ⟨m, rfl⟩
    rw [← Int.natCast_ediv, Int.toNat_natCast, Int.toNat_natCast]
  rw [this]; simp
theorem tabK (x K : Int) (h : 0 ≤ x) (h' : x < 256) (hK : 0 ≤ K ∧ K ≤ 24) : (0 ≤ x ∧ x < 256) ∧ IntKind.i64.wrap (K + IntKind.i64.wrap ((toBytes lit108x0)[x.toNat]?.getD 0)) = K + bl x.toNat := by
  have e : (toBytes lit108x0)[x.toNat]?.getD 0 = (bl x.toNat : Int) := tab108 ⟨x.toNat, by omega⟩
  have := bl_le (n := x.toNat) (k := 8) (by omega)
  refine ⟨⟨h, h'⟩, ?_⟩
  rw [e, i64_in (bl x.toNat) (by omega), i64_in _ (by omega)]
theorem e108 (v : Int) (h0 : 0 ≤ v) (h : v < 4294967296) : F108 [.one (.int .u32 v)] [] = some (.one (.int .i64 (bl v.toNat)), []) := by
  by_cases h1 : 65536 ≤ v
  · have a1 := blI v 16 (by omega)
    by_cases h2 : 256 ≤ v / 65536
    · have a2 := blI (v / 65536) 8 (by omega)
      obtain ⟨p, q⟩ := tabK (v / 65536 / 256) 24 (by omega) (by omega) (by omega)
      simp (disch := omega) [F108, c108, h1, h2, i64_in, u8_in, shrI_eq, IntKind.bits, tab59_size]
      exact ⟨p, by rw [q]; simp at a1 a2 ⊢; omega⟩
    · obtain ⟨p, q⟩ := tabK (v / 65536) 16 (by omega) (by omega) (by omega)
      simp (disch := omega) [F108, c108, h1, h2, i64_in, u8_in, shrI_eq, IntKind.bits, tab59_size]
      exact ⟨p, by rw [q]; simp at a1 ⊢; omega⟩
  · by_cases h2 : 256 ≤ v
    · have a2 := blI v 8 (by omega)
      obtain ⟨p, q⟩ := tabK (v / 256) 8 (by omega) (by omega) (by omega)
      simp (disch := omega) [F108, c108, h1, h2, i64_in, u8_in, shrI_eq, IntKind.bits, tab59_size]
      exact ⟨p, by rw [q]; simp at a2 ⊢; omega⟩
    · obtain ⟨p, q⟩ := tabK v 0 (by omega) (by omega) (by omega)
      simp (disch := omega) [F108, c108, h1, h2, i64_in, u8_in, shrI_eq, IntKind.bits, tab59_size]
      exact ⟨p, by simpa using q⟩
theorem e90 (v : Int) (h0 : 0 ≤ v) (h : v < 4294967296) : F90 [.one (.int .u32 v)] [] = some (.one (.int .i64 (bl v.toNat)), []) := by
  simp [F90, c90, upd, e108 v h0 h]
/-- The numbers that have a code. -/
theorem l92 (r : Int) : ∀ (k : Nat) (v n : Int) (env : Env), getT 0 env = .one (.int .u32 v) → getT 3 env = .one (.int .i64 n) → 0 ≤ v → v < 4294967296 → 0 ≤ n → n + bl v.toNat ≤ 100 → bl v.toNat < k →
    ∃ env', loopN (evC T92 KK b92x0) [0, 3] k ⟨env, [.int .u32 r], []⟩ = some (.exit 0, ⟨env', [.int .u32 r], []⟩) ∧ getT 3 env' = .one (.int .i64 (n + bl v.toNat))
  | 0, v, n, env, _, _, _, _, _, _, h => by omega
  | k + 1, v, n, env, e0, e3, h0, h1, hn, hn', hk => by
    by_cases hv : 0 < v
    · have hb := bl_half (n := v.toNat) (by omega)
      have e2 : (v / 2).toNat = v.toNat / 2 := by omega
      obtain ⟨env', p, q⟩ := l92 r k (v / 2) (n + 1) [(3, .one (.int .i64 (n + 1))), (9, .one (.int .i64 (n + 1))), (8, .one (.int .i64 n)), (0, .one (.int .u32 (v / 2))), (7, .one (.int .u32 (v / 2))), (6, .one (.int .u32 v)), (5, .one (.bool true)), (4, .one (.int .u32 v)), (0, .one (.int .u32 v)), (3, .one (.int .i64 n))] rfl rfl (by omega) (by omega) (by omega) (by rw [e2]; omega) (by rw [e2]; omega)
      refine ⟨env', ?_, by rw [q, e2, hb, show n + 1 + (bl (v.toNat / 2) : Int) = n + ((bl (v.toNat / 2) + 1 : Nat) : Int) by omega]⟩
      rw [← p]
      simp (disch := omega) [loopN, b92x0, e0, e3, hv, u32_quo, i64_in]
    · obtain rfl : v = 0 := by omega
      simp [loopN, b92x0, e0, e3, bl]
theorem e92 (v : Int) (h0 : 0 ≤ v) (h : v < 4294967296) : F92 [.one (.int .u32 v)] [] = some (.one (.int .i64 (bl v.toNat)), []) := by
  have hb := bl_le (n := v.toNat) (k := 32) (by omega)
  obtain ⟨env', p, q⟩ := l92 v KK v 0 [(3, .one (.int .i64 0)), (2, .one (.int .i64 0)), (0, .one (.int .u32 v))] rfl rfl h0 h (by omega) (by omega) (by rw [KK_eq]; omega)
  simp [-loop_KK, F92, c92, p, q]
end Go.X.Try
set_option maxRecDepth 100000
set_option linter.unusedSimpArgs false
set_option linter.unusedVariables false
namespace Go.X.Try
open Go.IntWalk
/-- A share's numbers, as they lie in bits: how many may come, what is left, where. -/
def hlp (N T : Nat) : Nat → Nat → Nat → Option (List Int × Nat)
  | 0, rest, pos => if rest = 0 then some ([], pos) else none
  | j + 1, rest, pos => if rest = 0 then some ([], pos) else if T < pos + bl rest then none else if rest < N / 2 ^ pos % 2 ^ bl rest then none
      else (hlp N T j (rest - N / 2 ^ pos % 2 ^ bl rest) (pos + bl rest)).map fun p => (((N / 2 ^ pos % 2 ^ bl rest : Nat) : Int) :: p.1, p.2)
/-- A share in bits. -/
def hdT (N T pos : Nat) : Option (List Int × Nat × Nat) :=
  if T < pos + 3 then none else if 9 < 5 + N / 2 ^ pos % 8 then none else (hlp N T 256 (2 ^ (5 + N / 2 ^ pos % 8)) (pos + 3)).map fun p => (p.1, 5 + N / 2 ^ pos % 8, p.2)
def hHp (bs : List Int) (pos : Int) (out : List Int) : List Ob := [.cells (some 0) [.row 1, .int .i64 pos], .rows (.ints .u8 bs), .rows (.ints .i64 out)]
def canon49 (log : Int) (bs : List Int) (pos : Int) (rest : Int) (out : List Int) : St := ⟨[(0, .one (.ptr 0 0)), (7, .one (.int .i64 log)), (8, .one (.row 2)), (9, .one (.int .i64 rest))], [.ptr 0 0], hHp bs pos out⟩
def res49 : List (Nat × Option (Option Nat)) := [(2, none), (3, none), (4, none)]
def tup3 (v : SV) (n : Int) (b : Bool) : AV := .tup [.one v, .one (.int .i64 n), .one (.bool b)]
def bad49 (r : Option (Ex × St)) (bs : List Int) : Prop := ∃ st1 pos', r = some (.ret, st1) ∧ give st1.rts st1.hp (resL st1.env st1.hp res49) = some (tup3 (.row 2) 0 false, hHp bs pos' [])
theorem end49 (log : Int) (bs : List Int) (pos : Int) (out : List Int) : ∃ env, evC T49 KK b49x0 (canon49 log bs pos 0 out) = some (.exit 0, ⟨env, [.ptr 0 0], hHp bs pos out⟩) ∧ getT 7 env = .one (.int .i64 log) ∧ getT 8 env = .one (.row 2) := by
  simp -implicitDefEqProofs [b49x0, canon49, hHp]
/-- What the reader answers, and where it is behind it. -/
theorem short49 (log : Int) (bs : List Int) (pos pos' rest w v : Int) (out : List Int) (ok : Bool) (hr : 0 < rest) (wr : IntKind.u32.wrap rest = rest) (e90 : F90 [.one (.int .u32 rest)] [] = some (.one (.int .i64 w), []))
    (e75 : F75 [.one (.ptr 0 0), .one (.int .i64 w)] (bufHp (some 0) bs pos) = some (tup2 v ok, bufHp (some 0) bs pos')) (wv : IntKind.i64.wrap v = v) (h : ok = false ∨ (ok = true ∧ (rest < v ∨ out.length = 256))) : bad49 (evC T49 KK b49x0 (canon49 log bs pos rest out)) bs := by
  unfold bad49
  simp only [bufHp, tup2] at e75
  rcases h with rfl | ⟨rfl, h⟩
  · simp -implicitDefEqProofs [b49x0, canon49, hHp, res49, tup3, upd, hr, wr, e90, e75]
  · by_cases h1 : rest < v
    · simp -implicitDefEqProofs [b49x0, canon49, hHp, res49, tup3, upd, hr, wr, e90, e75, wv, h1]
    · have h2 : out.length = 256 := by
        rcases h with h | h
        · exact absurd h h1
        · exact h
      have h2i : (out.length : Int) = 256 := by omega
      simp -implicitDefEqProofs [b49x0, canon49, hHp, res49, tup3, upd, hr, wr, e90, e75, wv, h1, h2, h2i, RC.len]
theorem body49 (log : Int) (bs : List Int) (pos pos' rest w v rest' : Int) (out : List Int) (hr : 0 < rest) (wr : IntKind.u32.wrap rest = rest) (e90 : F90 [.one (.int .u32 rest)] [] = some (.one (.int .i64 w), []))
    (e75 : F75 [.one (.ptr 0 0), .one (.int .i64 w)] (bufHp (some 0) bs pos) = some (tup2 v true, bufHp (some 0) bs pos')) (wv : IntKind.i64.wrap v = v) (h1 : ¬ rest < v) (h2 : out.length < 256) (ws : IntKind.i64.wrap (rest - v) = rest') :
    ∃ st1, evC T49 KK b49x0 (canon49 log bs pos rest out) = some (.norm, st1) ∧ St.head [0, 7, 8, 9] st1 = canon49 log bs pos' rest' (out ++ [v]) := by
  have h3 : ¬ out.length = 256 := by omega
  have h3i : ¬ (out.length : Int) = 256 := by omega
  have hm : (out.length + 1) * 8 ≤ 140737488355328 := by omega
  simp only [bufHp, tup2] at e75
  simp -implicitDefEqProofs [b49x0, canon49, hHp, upd, hr, wr, e90, e75, wv, h1, h3, h3i, ws, hm, RC.ofElems, RC.app, RC.len, RC.size]
theorem bl9 {r : Nat} (h : r ≤ 512) : bl r ≤ 10 := bl_le (n := r) (k := 10) (by omega)
theorem loop49 (log : Int) (bs : List Int) (hB : isB bs) (hl : bs.length ≤ 90000) : ∀ (j rest pos K : Nat) (out : List Int), out.length + j = 256 → rest ≤ 512 → pos ≤ 8 * bs.length → j + 1 < K →
    match hlp (leB bs) (8 * bs.length) j rest pos with
    | some p => ∃ env, loopH (evC T49 KK b49x0) [0, 7, 8, 9] K (canon49 log bs pos rest out) = some (.exit 0, ⟨env, [.ptr 0 0], hHp bs (p.2 : Nat) (out ++ p.1)⟩) ∧ getT 7 env = .one (.int .i64 log) ∧ getT 8 env = .one (.row 2)
    | none => bad49 (loopH (evC T49 KK b49x0) [0, 7, 8, 9] K (canon49 log bs pos rest out)) bs
  | j, 0, pos, K, out, ho, hr, hp, hK => by
    have e : hlp (leB bs) (8 * bs.length) j 0 pos = some ([], pos) := by cases j <;> rfl
    rw [e]
    obtain ⟨env, e1, g⟩ := end49 log bs pos out
    have z : ((0 : Nat) : Int) = 0 := rfl
    simp only [List.append_nil]
    rw [z]
    exact ⟨env, loopH_exit e1, g⟩
  | 0, rest + 1, pos, K, out, ho, hr, hp, hK => by
    have e : hlp (leB bs) (8 * bs.length) 0 (rest + 1) pos = none := rfl
    rw [e]
    have hb := bl9 hr
    have e90 := e90 ((rest + 1 : Nat) : Int) (by omega) (by omega)
    rw [Int.toNat_natCast] at e90
    have wr : IntKind.u32.wrap ((rest + 1 : Nat) : Int) = ((rest + 1 : Nat) : Int) := u32_in _ (by omega)
    have key : ∃ v pos' ok, F75 [.one (.ptr 0 0), .one (.int .i64 (bl (rest + 1) : Nat))] (bufHp (some 0) bs pos) = some (tup2 v ok, bufHp (some 0) bs pos') ∧ IntKind.i64.wrap v = v := by
      by_cases hn : pos + bl (rest + 1) ≤ 8 * bs.length
      · have e75 := f75 bs pos (bl (rest + 1)) hB (by omega) (by omega) hn
        have hm := Nat.mod_lt (leB bs / 2 ^ pos) (Nat.two_pow_pos (bl (rest + 1)))
        have hp2 : 2 ^ bl (rest + 1) ≤ 2 ^ 10 := Nat.pow_le_pow_right (by omega) hb
        exact ⟨_, _, _, e75, i64_in _ (by omega)⟩
      · exact ⟨_, _, _, f75b bs pos _ (by omega) (by omega) hp (by omega), by decide⟩
    obtain ⟨v, pos', ok, e75, wv⟩ := key
    have hb2 := short49 log bs pos pos' ((rest + 1 : Nat) : Int) _ v out ok (by omega) wr e90 e75 wv (by
      cases ok
      · exact .inl rfl
      · exact .inr ⟨rfl, .inr (by omega)⟩)
    obtain ⟨st1, q, e1, e2⟩ := hb2
    exact ⟨st1, q, loopH_ret e1, e2⟩
  | j + 1, rest + 1, pos, K, out, ho, hr, hp, hK => by
    have hb := bl9 hr
    have hb0 : 0 < bl (rest + 1) := (bl_pos (n := rest + 1) (by omega)).2.2
    have e90 := e90 ((rest + 1 : Nat) : Int) (by omega) (by omega)
    rw [Int.toNat_natCast] at e90
    have wr : IntKind.u32.wrap ((rest + 1 : Nat) : Int) = ((rest + 1 : Nat) : Int) := u32_in _ (by omega)
    rw [hlp, if_neg (by omega)]
    by_cases hn : 8 * bs.length < pos + bl (rest + 1)
    · rw [if_pos hn]
      obtain ⟨st1, q, e1, e2⟩ := short49 log bs pos pos ((rest + 1 : Nat) : Int) _ 0 out false (by omega) wr e90 (f75b bs pos _ (by omega) (by omega) hp (by omega)) (by decide) (.inl rfl)
      exact ⟨st1, q, loopH_ret e1, e2⟩
    · rw [if_neg hn]
      have e75 := f75 bs pos (bl (rest + 1)) hB (by omega) (by omega) (by omega)
      have hm := Nat.mod_lt (leB bs / 2 ^ pos) (Nat.two_pow_pos (bl (rest + 1)))
      have hp2 : 2 ^ bl (rest + 1) ≤ 2 ^ 10 := Nat.pow_le_pow_right (by omega) hb
      generalize leB bs / 2 ^ pos % 2 ^ bl (rest + 1) = v at *
      have wv : IntKind.i64.wrap (v : Int) = v := i64_in _ (by omega)
      by_cases hv : rest + 1 < v
      · rw [if_pos hv]
        obtain ⟨st1, q, e1, e2⟩ := short49 log bs pos _ ((rest + 1 : Nat) : Int) _ v out true (by omega) wr e90 e75 wv (.inr ⟨rfl, .inl (by omega)⟩)
        exact ⟨st1, q, loopH_ret e1, e2⟩
      · rw [if_neg hv]
        obtain ⟨st1, e1, e2⟩ := body49 log bs pos _ ((rest + 1 : Nat) : Int) _ v ((rest + 1 - v : Nat) : Int) out (by omega) wr e90 e75 wv (by omega) (by omega) (by rw [i64_in _ (by omega)]; omega)
        have ih := loop49 log bs hB hl j (rest + 1 - v) (pos + bl (rest + 1)) (K - 1) (out ++ [(v : Int)]) (by rw [List.length_append]; simp only [List.length_cons, List.length_nil]; omega) (by omega) (by omega) (by omega)
        rw [loopH_norm e1 (by omega), e2]
        cases hh : hlp (leB bs) (8 * bs.length) j (rest + 1 - v) (pos + bl (rest + 1)) with
        | none => rw [hh] at ih; exact ih
        | some p =>
          rw [hh] at ih
          simp only [Option.map_some]
          simp only at ih
          rw [List.append_assoc, List.singleton_append] at ih
          exact ih
theorem f49 (bs : List Int) (pos : Nat) (hB : isB bs) (hl : bs.length ≤ 90000) (hp : pos ≤ 8 * bs.length) :
    match hdT (leB bs) (8 * bs.length) pos with
    | some p => F49 [.one (.ptr 0 0)] (bufHp (some 0) bs pos) = some (tup3 (.row 2) (p.2.1 : Nat) true, hHp bs (p.2.2 : Nat) p.1)
    | none => ∃ pos', F49 [.one (.ptr 0 0)] (bufHp (some 0) bs pos) = some (tup3 (.row 2) 0 false, hHp bs pos' []) := by
  unfold hdT
  by_cases h3 : 8 * bs.length < pos + 3
  · rw [if_pos h3]
    have e75 := f75b bs pos 3 (by omega) (by omega) hp (by omega)
    refine ⟨(pos : Nat), ?_⟩
    have w0 : IntKind.i64.wrap (0 : Int) = 0 := by decide
    simp only [bufHp, tup2] at e75 ⊢
    simp -implicitDefEqProofs [F49, c49, upd, e75, hHp, tup3]
  · rw [if_neg h3]
    have e75 := f75 bs pos 3 hB (by omega) (by omega) (by omega)
    have hm := Nat.mod_lt (leB bs / 2 ^ pos) (show 0 < 8 by decide)
    have h8 : (2 : Nat) ^ 3 = 8 := rfl
    have c3 : ((3 : Nat) : Int) = 3 := rfl
    rw [h8, c3] at e75
    generalize hg : leB bs / 2 ^ pos % 8 = g at *
    have wg : IntKind.i64.wrap (g : Int) = g := i64_in _ (by omega)
    have wg5 : IntKind.i64.wrap (5 + (g : Int)) = ((5 + g : Nat) : Int) := by rw [i64_in _ (by omega)]; omega
    by_cases h9 : 9 < 5 + g
    · rw [if_pos h9]
      have h9i : (9 : Int) < ((5 + g : Nat) : Int) := by omega
      refine ⟨((pos + 3 : Nat) : Int), ?_⟩
      simp only [bufHp, tup2] at e75 ⊢
      generalize ((pos + 3 : Nat) : Int) = q at *
      generalize ((5 + g : Nat) : Int) = lg at *
      simp -implicitDefEqProofs [F49, c49, upd, e75, wg, wg5, h9i, hHp, tup3]
    · rw [if_neg h9]
      have h9i : ¬ (9 : Int) < ((5 + g : Nat) : Int) := by omega
      have h0i : ¬ ((5 + g : Nat) : Int) < 0 := by omega
      have hp2 := pow9 (log := ((5 + g : Nat) : Int)) (by omega)
      rw [Int.toNat_natCast] at hp2
      have es : shlI .i64 1 ((5 + g : Nat) : Int) = ((2 ^ (5 + g) : Nat) : Int) := by
        have hmin : Nat.min (5 + g) 64 = 5 + g := Nat.min_eq_left (by omega)
        have : shlI .i64 1 ((5 + g : Nat) : Int) = IntKind.i64.wrap (1 * 2 ^ Nat.min (5 + g) 64) := rfl
        rw [this, hmin, Int.one_mul]
        have e2 : (2 : Int) ^ (5 + g) = ((2 ^ (5 + g) : Nat) : Int) := by push_cast; rfl
        rw [e2]
        exact i64_in _ (by omega)
      have hlp' := loop49 ((5 + g : Nat) : Int) bs hB hl 256 (2 ^ (5 + g)) (pos + 3) KK [] rfl hp2.2 (by omega) (by rw [KK_eq]; omega)
      cases hh : hlp (leB bs) (8 * bs.length) 256 (2 ^ (5 + g)) (pos + 3) with
      | some p =>
        rw [hh] at hlp'
        simp only [Option.map_some]
        simp only [List.nil_append] at hlp'
        obtain ⟨env, e, g7, g8⟩ := hlp'
        simp only [canon49, hHp] at e
        simp only [bufHp, tup2] at e75 ⊢
        generalize ((pos + 3 : Nat) : Int) = q at *
        generalize ((5 + g : Nat) : Int) = lg at *
        generalize ((2 ^ (5 + g) : Nat) : Int) = sz at *
        simp -implicitDefEqProofs [F49, c49, upd, e75, wg, wg5, h9i, h0i, es, hHp, tup3, e, g7, g8]
      | none =>
        rw [hh] at hlp'
        simp only [Option.map_none]
        obtain ⟨st1, pos', e, e2⟩ := hlp'
        refine ⟨pos', ?_⟩
        rw [← e2]
        obtain ⟨env1, rts1, hp1⟩ := st1
        simp only [canon49, hHp] at e
        have e1' : evF T49 KK c49 [.one (.ptr 0 0)] (bufHp (some 0) bs pos) = resC res49 (some (.ret, ⟨env1, rts1, hp1⟩)) := by
          unfold evF
          have hr2 : c49.results = res49 := rfl
          rw [hr2]
          refine congrArg _ ?_
          simp only [bufHp, tup2] at e75 ⊢
          generalize ((pos + 3 : Nat) : Int) = q at *
          generalize ((5 + g : Nat) : Int) = lg at *
          generalize ((2 ^ (5 + g) : Nat) : Int) = sz at *
          simp -implicitDefEqProofs [c49, upd, e75, wg, wg5, h9i, h0i, es, e]
        exact e1'
end Go.X.Try
set_option maxRecDepth 100000
set_option linter.unusedSimpArgs false
set_option linter.unusedVariables false
namespace Go.X.Try
open Go.IntWalk
/-! ### the document's reading -/
def canon50 (l : List Int) (log pos rest : Int) (out : List Int) : St := ⟨[(0, .one (.ro 0 (.ints .i64 l))), (5, .one (.int .i64 log)), (6, .one (.row 0)), (7, .one (.int .i64 pos)), (8, .one (.int .i64 rest))], [.ro 0 (.ints .i64 l)], [.rows (.ints .i64 out)]⟩
def tup3i (v : SV) (n m : Int) : AV := .tup [.one v, .one (.int .i64 n), .one (.int .i64 m)]
def bad50 (r : Option (Ex × St)) : Prop := ∃ st1, r = some (.ret, st1) ∧ give st1.rts st1.hp (resL st1.env st1.hp res49) = some (tup3i (.row 0) 0 0, [.rows (.ints .i64 [])])
theorem end50 (l : List Int) (log pos : Int) (out : List Int) : ∃ env, evC T50 KK b50x0 (canon50 l log pos 0 out) = some (.exit 0, ⟨env, [.ro 0 (.ints .i64 l)], [.rows (.ints .i64 out)]⟩) ∧ getT 5 env = .one (.int .i64 log) ∧ getT 6 env = .one (.row 0) ∧ getT 7 env = .one (.int .i64 pos) := by
  simp -implicitDefEqProofs [b50x0, canon50]
theorem short50 (l : List Int) (log : Int) (pos pos' : Nat) (rest w : Int) (out : List Int) (hr : 0 < rest) (wr : IntKind.u32.wrap rest = rest) (e92 : F92 [.one (.int .u32 rest)] [] = some (.one (.int .i64 w), [])) (wp : IntKind.i64.wrap ((pos : Int) + w) = pos')
    (h : l.length < pos' ∨ out.length = 256) : bad50 (evC T50 KK b50x0 (canon50 l log pos rest out)) := by
  unfold bad50
  by_cases h1 : l.length < pos'
  · have h1i : (l.length : Int) < pos' := by omega
    simp -implicitDefEqProofs [b50x0, canon50, res49, tup3i, upd, hr, wr, e92, wp, h1, h1i, RC.len]
  · have h1i : ¬ (l.length : Int) < pos' := by omega
    have h2 : out.length = 256 := by
      rcases h with h | h
      · exact absurd h h1
      · exact h
    have h2i : (out.length : Int) = 256 := by omega
    simp -implicitDefEqProofs [b50x0, canon50, res49, tup3i, upd, hr, wr, e92, wp, h1, h1i, h2, h2i, RC.len]
theorem over50 (l : List Int) (log : Int) (pos pos' : Nat) (rest w v : Int) (out : List Int) (hr : 0 < rest) (wr : IntKind.u32.wrap rest = rest) (e92 : F92 [.one (.int .u32 rest)] [] = some (.one (.int .i64 w), [])) (wp : IntKind.i64.wrap ((pos : Int) + w) = pos')
    (h1 : pos' ≤ l.length) (h0 : pos ≤ pos') (h2 : out.length < 256) (e91 : F91 [.one (.ro 0 (.ints .i64 ((l.drop pos).take (pos' - pos))))] [] = some (.one (.int .u32 v), [])) (wv : IntKind.i64.wrap v = v) (h3 : rest < v) : bad50 (evC T50 KK b50x0 (canon50 l log pos rest out)) := by
  unfold bad50
  have h1n : ¬ l.length < pos' := by omega
  have h1i : ¬ (l.length : Int) < pos' := by omega
  have h1j : (pos' : Int) ≤ l.length := by omega
  have h0i : (pos : Int) ≤ pos' := by omega
  have h2n : ¬ out.length = 256 := by omega
  have h2i : ¬ (out.length : Int) = 256 := by omega
  simp -implicitDefEqProofs [b50x0, canon50, res49, tup3i, upd, hr, wr, e92, wp, h1, h1n, h1i, h1j, h0, h0i, h2n, h2i, e91, wv, h3, RC.len, RC.size, RC.cut]
theorem body50 (l : List Int) (log : Int) (pos pos' : Nat) (rest w v rest' : Int) (out : List Int) (hr : 0 < rest) (wr : IntKind.u32.wrap rest = rest) (e92 : F92 [.one (.int .u32 rest)] [] = some (.one (.int .i64 w), [])) (wp : IntKind.i64.wrap ((pos : Int) + w) = pos')
    (h1 : pos' ≤ l.length) (h0 : pos ≤ pos') (h2 : out.length < 256) (e91 : F91 [.one (.ro 0 (.ints .i64 ((l.drop pos).take (pos' - pos))))] [] = some (.one (.int .u32 v), [])) (wv : IntKind.i64.wrap v = v) (h3 : ¬ rest < v) (ws : IntKind.i64.wrap (rest - v) = rest') :
    ∃ st1, evC T50 KK b50x0 (canon50 l log pos rest out) = some (.norm, st1) ∧ St.head [0, 5, 6, 7, 8] st1 = canon50 l log pos' rest' (out ++ [v]) := by
  have h1n : ¬ l.length < pos' := by omega
  have h1i : ¬ (l.length : Int) < pos' := by omega
  have h1j : (pos' : Int) ≤ l.length := by omega
  have h0i : (pos : Int) ≤ pos' := by omega
  have h2n : ¬ out.length = 256 := by omega
  have h2i : ¬ (out.length : Int) = 256 := by omega
  have hm : (out.length + 1) * 8 ≤ 140737488355328 := by omega
  simp -implicitDefEqProofs [b50x0, canon50, upd, hr, wr, e92, wp, h1, h1n, h1i, h1j, h0, h0i, h2n, h2i, e91, wv, h3, ws, hm, RC.len, RC.size, RC.cut, RC.ofElems, RC.app]
theorem cutN {l : List Int} (hN : isN l) (pos w : Nat) : leN ((l.drop pos).take w) = leN l / 2 ^ pos % 2 ^ w := by
  rw [leN_take _ (fun b hb => hN b (List.mem_of_mem_drop hb)), leN_drop _ hN]
theorem loop50 (log : Int) (l : List Int) (hN : isN l) (hl : l.length ≤ 90000) : ∀ (j rest pos K : Nat) (out : List Int), out.length + j = 256 → rest ≤ 512 → pos ≤ l.length → j + 1 < K →
    match hlp (leN l) l.length j rest pos with
    | some p => ∃ env, loopH (evC T50 KK b50x0) [0, 5, 6, 7, 8] K (canon50 l log pos rest out) = some (.exit 0, ⟨env, [.ro 0 (.ints .i64 l)], [.rows (.ints .i64 (out ++ p.1))]⟩) ∧ getT 5 env = .one (.int .i64 log) ∧ getT 6 env = .one (.row 0) ∧ getT 7 env = .one (.int .i64 (p.2 : Nat))
    | none => bad50 (loopH (evC T50 KK b50x0) [0, 5, 6, 7, 8] K (canon50 l log pos rest out))
  | j, 0, pos, K, out, ho, hr, hp, hK => by
    have e : hlp (leN l) l.length j 0 pos = some ([], pos) := by cases j <;> rfl
    rw [e]
    obtain ⟨env, e1, g⟩ := end50 l log pos out
    have z : ((0 : Nat) : Int) = 0 := rfl
    simp only [List.append_nil]
    rw [z]
    exact ⟨env, loopH_exit e1, g⟩
  | 0, rest + 1, pos, K, out, ho, hr, hp, hK => by
    have e : hlp (leN l) l.length 0 (rest + 1) pos = none := rfl
    rw [e]
    have hb := bl9 hr
    have e92 := e92 ((rest + 1 : Nat) : Int) (by omega) (by omega)
    rw [Int.toNat_natCast] at e92
    have wr : IntKind.u32.wrap ((rest + 1 : Nat) : Int) = ((rest + 1 : Nat) : Int) := u32_in _ (by omega)
    obtain ⟨st1, e1, e2⟩ := short50 l log pos (pos + bl (rest + 1)) ((rest + 1 : Nat) : Int) _ out (by omega) wr e92 (by rw [i64_in _ (by omega)]; omega) (.inr (by omega))
    exact ⟨st1, loopH_ret e1, e2⟩
  | j + 1, rest + 1, pos, K, out, ho, hr, hp, hK => by
    have hb := bl9 hr
    have hb0 : 0 < bl (rest + 1) := (bl_pos (n := rest + 1) (by omega)).2.2
    have e92 := e92 ((rest + 1 : Nat) : Int) (by omega) (by omega)
    rw [Int.toNat_natCast] at e92
    have wr : IntKind.u32.wrap ((rest + 1 : Nat) : Int) = ((rest + 1 : Nat) : Int) := u32_in _ (by omega)
    have wp : IntKind.i64.wrap ((pos : Int) + (bl (rest + 1) : Nat)) = ((pos + bl (rest + 1) : Nat) : Int) := by rw [i64_in _ (by omega)]; omega
    rw [hlp, if_neg (by omega)]
    by_cases hn : l.length < pos + bl (rest + 1)
    · rw [if_pos hn]
      obtain ⟨st1, e1, e2⟩ := short50 l log pos (pos + bl (rest + 1)) ((rest + 1 : Nat) : Int) _ out (by omega) wr e92 wp (.inl hn)
      exact ⟨st1, loopH_ret e1, e2⟩
    · rw [if_neg hn]
      have e91 := f91 0 ((l.drop pos).take (bl (rest + 1))) (fun b hb => hN b (List.mem_of_mem_drop (List.mem_of_mem_take hb))) (by rw [List.length_take]; omega)
      rw [cutN hN, show bl (rest + 1) = pos + bl (rest + 1) - pos by omega] at e91
      rw [show pos + bl (rest + 1) - pos = bl (rest + 1) by omega] at e91
      have hm := Nat.mod_lt (leN l / 2 ^ pos) (Nat.two_pow_pos (bl (rest + 1)))
      have hp2 : 2 ^ bl (rest + 1) ≤ 2 ^ 10 := Nat.pow_le_pow_right (by omega) hb
      generalize leN l / 2 ^ pos % 2 ^ bl (rest + 1) = v at *
      have wv : IntKind.i64.wrap (v : Int) = v := i64_in _ (by omega)
      have e91' : F91 [.one (.ro 0 (.ints .i64 ((l.drop pos).take (pos + bl (rest + 1) - pos))))] [] = some (.one (.int .u32 v), []) := by rw [show pos + bl (rest + 1) - pos = bl (rest + 1) by omega]; exact e91
      by_cases hv : rest + 1 < v
      · rw [if_pos hv]
        obtain ⟨st1, e1, e2⟩ := over50 l log pos (pos + bl (rest + 1)) ((rest + 1 : Nat) : Int) _ v out (by omega) wr e92 wp (by omega) (by omega) (by omega) e91' wv (by omega)
        exact ⟨st1, loopH_ret e1, e2⟩
      · rw [if_neg hv]
        obtain ⟨st1, e1, e2⟩ := body50 l log pos (pos + bl (rest + 1)) ((rest + 1 : Nat) : Int) _ v ((rest + 1 - v : Nat) : Int) out (by omega) wr e92 wp (by omega) (by omega) (by omega) e91' wv (by omega) (by rw [i64_in _ (by omega)]; omega)
        have ih := loop50 log l hN hl j (rest + 1 - v) (pos + bl (rest + 1)) (K - 1) (out ++ [(v : Int)]) (by rw [List.length_append]; simp only [List.length_cons, List.length_nil]; omega) (by omega) (by omega) (by omega)
        rw [loopH_norm e1 (by omega), e2]
        cases hh : hlp (leN l) l.length j (rest + 1 - v) (pos + bl (rest + 1)) with
        | none => rw [hh] at ih; exact ih
        | some p =>
          rw [hh] at ih
          simp only [Option.map_some]
          simp only at ih
          rw [List.append_assoc, List.singleton_append] at ih
          exact ih
theorem f50 (l : List Int) (hN : isN l) (hl : l.length ≤ 90000) : F50 [.one (.ro 0 (.ints .i64 l))] [] = some (match hdT (leN l) l.length 0 with
    | some p => (tup3i (.row 0) (p.2.1 : Nat) (p.2.2 : Nat), [.rows (.ints .i64 p.1)])
    | none => (tup3i (.row 0) 0 0, [.rows (.ints .i64 [])])) := by
  unfold hdT
  rw [Nat.pow_zero, Nat.div_one, Nat.zero_add]
  by_cases h3 : l.length < 3
  · rw [if_pos h3]
    have h3i : (l.length : Int) < 3 := by omega
    simp -implicitDefEqProofs [F50, c50, upd, h3, h3i, tup3i, RC.len]
  · rw [if_neg h3]
    have h3i : ¬ (l.length : Int) < 3 := by omega
    have h3j : (3 : Int) ≤ l.length := by omega
    have h3k : 3 ≤ l.length := by omega
    have e91 := f91 0 ((l.drop 0).take 3) (fun b hb => hN b (List.mem_of_mem_drop (List.mem_of_mem_take hb))) (by rw [List.length_take]; omega)
    rw [cutN hN, Nat.pow_zero, Nat.div_one, List.drop_zero] at e91
    have h8 : (2 : Nat) ^ 3 = 8 := rfl
    rw [h8] at e91
    have hm := Nat.mod_lt (leN l) (show 0 < 8 by decide)
    generalize hg : leN l % 8 = g at *
    have wg : IntKind.i64.wrap (g : Int) = g := i64_in _ (by omega)
    have wg5 : IntKind.i64.wrap (5 + (g : Int)) = ((5 + g : Nat) : Int) := by rw [i64_in _ (by omega)]; omega
    by_cases h9 : 9 < 5 + g
    · rw [if_pos h9]
      have h9i : (9 : Int) < ((5 + g : Nat) : Int) := by omega
      generalize ((5 + g : Nat) : Int) = lg at *
      simp -implicitDefEqProofs [F50, c50, upd, h3, h3i, h3j, h3k, e91, wg, wg5, h9i, tup3i, RC.len, RC.size, RC.cut]
    · rw [if_neg h9]
      have h9i : ¬ (9 : Int) < ((5 + g : Nat) : Int) := by omega
      have hp2 := pow9 (log := ((5 + g : Nat) : Int)) (by omega)
      have e78 := e78 ((5 + g : Nat) : Int) (by omega) (by omega)
      rw [Int.toNat_natCast] at hp2 e78
      have hlp' := loop50 ((5 + g : Nat) : Int) l hN hl 256 (2 ^ (5 + g)) 3 KK [] rfl hp2.2 h3k (by rw [KK_eq]; omega)
      have c3 : ((3 : Nat) : Int) = 3 := rfl
      cases hh : hlp (leN l) l.length 256 (2 ^ (5 + g)) 3 with
      | some p =>
        rw [hh] at hlp'
        simp only [Option.map_some]
        simp only [List.nil_append] at hlp'
        obtain ⟨env, e, g5, g6, g7⟩ := hlp'
        simp only [canon50, c3] at e
        generalize ((5 + g : Nat) : Int) = lg at *
        generalize ((2 ^ (5 + g) : Nat) : Int) = sz at *
        simp -implicitDefEqProofs [F50, c50, upd, h3, h3i, h3j, h3k, e91, wg, wg5, h9i, e78, tup3i, RC.len, RC.size, RC.cut, e, g5, g6, g7]
      | none =>
        rw [hh] at hlp'
        simp only [Option.map_none]
        obtain ⟨st1, e, e2⟩ := hlp'
        rw [← e2]
        obtain ⟨env1, rts1, hp1⟩ := st1
        simp only [canon50, c3] at e
        have e1' : evF T50 KK c50 [.one (.ro 0 (.ints .i64 l))] [] = resC res49 (some (.ret, ⟨env1, rts1, hp1⟩)) := by
          unfold evF
          have hr2 : c50.results = res49 := rfl
          rw [hr2]
          refine congrArg _ ?_
          generalize ((5 + g : Nat) : Int) = lg at *
          generalize ((2 ^ (5 + g) : Nat) : Int) = sz at *
          simp -implicitDefEqProofs [c50, upd, h3, h3i, h3j, h3k, e91, wg, wg5, h9i, e78, RC.len, RC.size, RC.cut, e]
        exact e1'
/-! ### the same numbers -/
def canon52 (A : List Int) (i : Int) : St := ⟨[(0, .one (.ro 0 (.ints .i64 A))), (1, .one (.ro 1 (.ints .i64 A))), (12, .one (.int .i64 A.length)), (13, .one (.int .i64 i))], [.ro 0 (.ints .i64 A), .ro 1 (.ints .i64 A)], []⟩
theorem body52 (A : List Int) (i : Nat) (hi : i < A.length) (i' : Int) (wi : IntKind.i64.wrap ((i : Int) + 1) = i') :
    ∃ st1, evC T52 KK b52x0 (canon52 A i) = some (.norm, st1) ∧ St.head [0, 1, 12, 13] st1 = canon52 A i' := by
  have hii : (i : Int) < A.length := by omega
  have hg : A[i]?.getD 0 = A[i] := by rw [List.getElem?_eq_getElem hi]; rfl
  simp -implicitDefEqProofs [b52x0, canon52, upd, hi, hii, hg, RC.len, RC.size, RC.get, wi]
theorem end52 (A : List Int) : ∃ env, evC T52 KK b52x0 (canon52 A A.length) = some (.exit 0, ⟨env, [.ro 0 (.ints .i64 A), .ro 1 (.ints .i64 A)], []⟩) := by
  simp -implicitDefEqProofs [b52x0, canon52, upd]
theorem loop52 (A : List Int) (hA : A.length ≤ 90000) : ∀ (j i K : Nat), i + j = A.length → j < K →
    ∃ env, loopH (evC T52 KK b52x0) [0, 1, 12, 13] K (canon52 A i) = some (.exit 0, ⟨env, [.ro 0 (.ints .i64 A), .ro 1 (.ints .i64 A)], []⟩)
  | 0, i, K, hi, hK => by
    obtain rfl : i = A.length := by omega
    obtain ⟨env, e⟩ := end52 A
    exact ⟨env, loopH_exit e⟩
  | j + 1, i, K, hi, hK => by
    obtain ⟨st1, e1, e2⟩ := body52 A i (by omega) ((i + 1 : Nat) : Int) (by rw [i64_in _ (by omega)]; omega)
    obtain ⟨env, e⟩ := loop52 A hA j (i + 1) (K - 1) (by omega) (by omega)
    exact ⟨env, by rw [loopH_norm e1 (by omega), e2]; exact e⟩
theorem f52 (A : List Int) (hA : A.length ≤ 90000) : F52 [.one (.ro 0 (.ints .i64 A)), .one (.ro 1 (.ints .i64 A))] [] = some (.one (.bool true), []) := by
  obtain ⟨env, e⟩ := loop52 A hA A.length 0 KK (by omega) (by rw [KK_eq]; omega)
  have z : ((0 : Nat) : Int) = 0 := rfl
  simp only [canon52, z] at e
  simp -implicitDefEqProofs [F52, c52, upd, RC.len, e]
theorem hlp_ok {N T : Nat} : ∀ {j rest pos : Nat} {o : List Int} {pos' : Nat}, hlp N T j rest pos = some (o, pos') → rest ≤ 512 → pos ≤ T → okN o = true ∧ sumL o = (rest : Int) ∧ o.length ≤ j ∧ pos ≤ pos' ∧ pos' ≤ T
  | 0, rest, pos, o, pos', h, hr, hp => by
    simp only [hlp] at h
    split at h
    · simp only [Option.some.injEq, Prod.mk.injEq] at h
      obtain ⟨rfl, rfl⟩ := h
      rename_i h0
      subst h0
      exact ⟨rfl, rfl, Nat.le_refl _, Nat.le_refl _, hp⟩
    · cases h
  | j + 1, rest, pos, o, pos', h, hr, hp => by
    rw [hlp] at h
    split at h
    · simp only [Option.some.injEq, Prod.mk.injEq] at h
      obtain ⟨rfl, rfl⟩ := h
      rename_i h0
      subst h0
      exact ⟨rfl, rfl, Nat.zero_le _, Nat.le_refl _, hp⟩
    · split at h
      · cases h
      · split at h
        · cases h
        · obtain ⟨q, h1, h2⟩ := Option.map_eq_some_iff.1 h
          simp only [Prod.mk.injEq] at h2
          obtain ⟨rfl, rfl⟩ := h2
          obtain ⟨p1, p2, p3, p4, p5⟩ := hlp_ok h1 (by omega) (by omega)
          generalize N / 2 ^ pos % 2 ^ bl rest = v at *
          refine ⟨?_, ?_, ?_, by omega, p5⟩
          · simp only [okN, Bool.and_eq_true, decide_eq_true_eq]; exact ⟨by omega, p1⟩
          · simp only [sumL]; rw [p2]; omega
          · simp only [List.length_cons]; omega
theorem hdT_ok {N T pos : Nat} {o : List Int} {lg pos' : Nat} (h : hdT N T pos = some (o, lg, pos')) : fairB o (lg : Nat) = true ∧ o.length ≤ 256 ∧ pos + 3 ≤ pos' ∧ pos' ≤ T ∧ 5 ≤ lg ∧ lg ≤ 9 := by
  unfold hdT at h
  split at h
  · cases h
  · split at h
    · cases h
    · obtain ⟨q, h1, h2⟩ := Option.map_eq_some_iff.1 h
      simp only [Prod.mk.injEq] at h2
      obtain ⟨rfl, rfl, rfl⟩ := h2
      have hp2 := pow9 (log := ((5 + N / 2 ^ pos % 8 : Nat) : Int)) (by omega)
      rw [Int.toNat_natCast] at hp2
      obtain ⟨p1, p2, p3, p4, p5⟩ := hlp_ok h1 hp2.2 (by omega)
      refine ⟨?_, p3, p4, p5, by omega, by omega⟩
      unfold fairB
      rw [p1, p2, Int.toNat_natCast, decide_eq_true (show (5 : Int) ≤ ((5 + N / 2 ^ pos % 8 : Nat) : Int) ∧ ((5 + N / 2 ^ pos % 8 : Nat) : Int) ≤ 9 ∧ q.1.length ≤ 256 by omega)]
      simp
end Go.X.Try
set_option maxRecDepth 100000
set_option linter.unusedSimpArgs false
set_option linter.unusedVariables false
namespace Go.X.Try
open Go.IntWalk
/-! ### a share's numbers, and in how many bits -/
def hpr : Nat → List Int → List (Nat × Nat)
  | _, [] => []
  | rest, n :: l => if rest = 0 then [] else (n.toNat, bl rest) :: hpr (rest - n.toNat) l
def allP (log : Int) (l : List Int) : List (Nat × Nat) := ((log - 5).toNat, 3) :: hpr (2 ^ log.toNat) l
def prN : List (Nat × Nat) → Nat
  | [] => 0
  | p :: l => p.1 % 2 ^ p.2 + 2 ^ p.2 * prN l
def prL : List (Nat × Nat) → Nat
  | [] => 0
  | p :: l => p.2 + prL l
/-! ### putting -/
def put99 (bs : List Int) (c : Int) : List Ob := [.cells (some 0) [.ptr 1 0], .cells (some 1) [.row 2, .int .i64 c], .rows (.ints .u8 bs)]
theorem f99 (v n : Int) (v' n' c N : Nat) (bs : List Int) (h : Holds bs c N) (hn : n = n') (hn2 : n' ≤ 32) (hv : v = v') (hv2 : v' < 2 ^ 32) (hc : c + n' ≤ 700000) :
    ∃ bs', F99 [.one (.int .i64 v), .one (.int .i64 n), .one (.ptr 0 0)] (put99 bs c) = some (.tup [], put99 bs' (c + n' : Nat)) ∧ Holds bs' (c + n') (N + v' % 2 ^ n' * 2 ^ c) := by
  subst hn hv
  obtain ⟨bs', e67, h'⟩ := f67 v' n' c N bs h hn2 hv2 hc
  refine ⟨bs', ?_, h'⟩
  have wv : IntKind.u32.wrap (v' : Int) = v' := u32_in _ (by omega)
  simp only [bufHp] at e67
  generalize ((c + n' : Nat) : Int) = c' at *
  simp -implicitDefEqProofs [F99, c99, upd, put99, wv, e67]
def fn99 : SV := .fn 99 [.ptr 0 0]
def canon98 (log : Int) (l : List Int) (rest i : Int) (bs : List Int) (c : Int) : St :=
  ⟨[(2, .one fn99), (6, .one (.int .i64 rest)), (15, .one (.ro 0 (.ints .i64 l))), (16, .one (.int .i64 l.length)), (17, .one (.int .i64 i))], [.ro 0 (.ints .i64 l), .int .i64 log, fn99], put99 bs c⟩
theorem end98 (log : Int) (l : List Int) (rest i : Int) (bs : List Int) (c : Int) (hi : ¬ i < l.length) : ∃ env, evC T98 KK b98x0 (canon98 log l rest i bs c) = some (.exit 0, ⟨env, [.ro 0 (.ints .i64 l), .int .i64 log, fn99], put99 bs c⟩) := by
  simp -implicitDefEqProofs [b98x0, canon98, upd, hi]
theorem ret98 (log : Int) (l : List Int) (i : Nat) (bs : List Int) (c : Int) (hi : i < l.length) : ∃ env, evC T98 KK b98x0 (canon98 log l 0 i bs c) = some (.ret, ⟨env, [.ro 0 (.ints .i64 l), .int .i64 log, fn99], put99 bs c⟩) := by
  have hii : (i : Int) < l.length := by omega
  simp -implicitDefEqProofs [b98x0, canon98, put99, fn99, upd, hi, hii, RC.len, RC.size, RC.get]
theorem body98 (log : Int) (l : List Int) (rest w n rest' i' : Int) (i : Nat) (bs bs' : List Int) (c c' : Int) (hi : i < l.length) (hn : l[i]?.getD 0 = n) (hr : ¬ rest = 0) (wr : IntKind.u32.wrap rest = rest) (e90 : F90 [.one (.int .u32 rest)] [] = some (.one (.int .i64 w), []))
    (e99 : F99 [.one (.int .i64 n), .one (.int .i64 w), .one (.ptr 0 0)] (put99 bs c) = some (.tup [], put99 bs' c')) (ws : IntKind.i64.wrap (rest - n) = rest') (wi : IntKind.i64.wrap ((i : Int) + 1) = i') :
    ∃ st1, evC T98 KK b98x0 (canon98 log l rest i bs c) = some (.norm, st1) ∧ St.head [2, 6, 15, 16, 17] st1 = canon98 log l rest' i' bs' c' := by
  have hii : (i : Int) < l.length := by omega
  have hn' : ∀ hh, l[i]'hh = n := fun hh => by rw [List.getElem?_eq_getElem hh] at hn; exact hn
  simp only [put99] at e99
  simp -implicitDefEqProofs [b98x0, canon98, put99, fn99, upd, hi, hii, hn, hn', hr, wr, e90, e99, ws, wi, RC.len, RC.size, RC.get]
theorem sumL_ge {x : Int} {l : List Int} (h : okN (x :: l) = true) : 0 ≤ x ∧ x ≤ sumL (x :: l) ∧ okN l = true := by
  simp only [okN, Bool.and_eq_true, decide_eq_true_eq] at h
  have := sumL_nonneg h.2
  exact ⟨h.1.1, by simp only [sumL]; omega, h.2⟩
theorem loop98 (log : Int) (l : List Int) (hl : l.length ≤ 300) : ∀ (j i rest K c N : Nat) (bs : List Int), i + j = l.length → rest ≤ 512 → okN (l.drop i) = true → sumL (l.drop i) = (rest : Int) → c ≤ 13 + 10 * i → Holds bs c N → j + 1 < K →
    ∃ x env bs', loopH (evC T98 KK b98x0) [2, 6, 15, 16, 17] K (canon98 log l rest i bs c) = some (x, ⟨env, [.ro 0 (.ints .i64 l), .int .i64 log, fn99], put99 bs' (c + prL (hpr rest (l.drop i)) : Nat)⟩) ∧ (x = .ret ∨ x = .exit 0) ∧ Holds bs' (c + prL (hpr rest (l.drop i))) (N + prN (hpr rest (l.drop i)) * 2 ^ c)
  | 0, i, rest, K, c, N, bs, hi, hr, ho, hs, hc, hh, hK => by
    have hd : l.drop i = [] := List.drop_eq_nil_of_le (by omega)
    obtain ⟨env, e⟩ := end98 log l rest i bs c (by omega)
    rw [hd]
    simp only [hpr, prL, prN, Nat.add_zero, Nat.zero_mul]
    exact ⟨_, env, bs, loopH_exit e, .inr rfl, hh⟩
  | j + 1, i, rest, K, c, N, bs, hi, hr, ho, hs, hc, hh, hK => by
    have hlt : i < l.length := by omega
    have hd : l.drop i = l[i] :: l.drop (i + 1) := List.drop_eq_getElem_cons hlt
    have hg : l[i]?.getD 0 = l[i] := by rw [List.getElem?_eq_getElem hlt]; rfl
    have wi : IntKind.i64.wrap ((i : Int) + 1) = ((i + 1 : Nat) : Int) := by rw [i64_in _ (by omega)]; omega
    by_cases h0 : rest = 0
    · subst h0
      obtain ⟨env, e⟩ := ret98 log l i bs c hlt
      have e0 : hpr 0 (l.drop i) = [] := by rw [hd]; rfl
      rw [e0]
      simp only [prL, prN, Nat.add_zero, Nat.zero_mul]
      exact ⟨_, env, bs, loopH_ret e, .inl rfl, hh⟩
    · rw [hd] at ho hs
      obtain ⟨p1, p2, p3⟩ := sumL_ge ho
      rw [hs] at p2
      have e1 : hpr rest (l.drop i) = ((l[i]).toNat, bl rest) :: hpr (rest - (l[i]).toNat) (l.drop (i + 1)) := by rw [hd, hpr, if_neg h0]
      have hb := bl9 hr
      have e90 := e90 (rest : Int) (by omega) (by omega)
      rw [Int.toNat_natCast] at e90
      have wr : IntKind.u32.wrap (rest : Int) = rest := u32_in _ (by omega)
      obtain ⟨bs1, e99, hh1⟩ := f99 l[i] (bl rest : Nat) (l[i]).toNat (bl rest) c N bs hh rfl (by omega) (by omega) (by omega) (by omega)
      obtain ⟨st1, q1, q2⟩ := body98 log l rest (bl rest : Nat) l[i] ((rest - (l[i]).toNat : Nat) : Int) ((i + 1 : Nat) : Int) i bs bs1 c _ hlt hg (by omega) wr e90 e99 (by rw [i64_in _ (by omega)]; omega) wi
      obtain ⟨x, env, bs2, q3, q4, q5⟩ := loop98 log l hl j (i + 1) (rest - (l[i]).toNat) (K - 1) (c + bl rest) _ bs1 (by omega) (by omega) p3 (by simp only [sumL] at hs; omega) (by omega) hh1 (by omega)
      refine ⟨x, env, bs2, ?_, q4, ?_⟩
      · rw [loopH_norm q1 (by omega), q2, q3, e1]
        simp only [prL, Nat.add_assoc]
      · rw [e1]
        simp only [prL, prN]
        rw [Nat.add_assoc] at q5
        have : N + (l[i]).toNat % 2 ^ bl rest * 2 ^ c + prN (hpr (rest - (l[i]).toNat) (l.drop (i + 1))) * 2 ^ (c + bl rest) = N + ((l[i]).toNat % 2 ^ bl rest + 2 ^ bl rest * prN (hpr (rest - (l[i]).toNat) (l.drop (i + 1)))) * 2 ^ c := by
          rw [Nat.add_mul, Nat.pow_add, Nat.add_assoc, Nat.mul_comm (2 ^ bl rest) (prN _), Nat.mul_assoc, Nat.mul_comm (2 ^ c) (2 ^ bl rest)]
        rw [this] at q5
        exact q5
theorem shl9 {log : Int} (h : 5 ≤ log ∧ log ≤ 9) : shlI .i64 1 log = ((2 ^ log.toNat : Nat) : Int) := by
  have hp2 := pow9 h
  have hmin : Nat.min log.toNat 64 = log.toNat := Nat.min_eq_left (by omega)
  have : shlI .i64 1 log = IntKind.i64.wrap (1 * 2 ^ Nat.min log.toNat 64) := rfl
  rw [this, hmin, Int.one_mul]
  have e2 : (2 : Int) ^ log.toNat = ((2 ^ log.toNat : Nat) : Int) := by push_cast; rfl
  rw [e2]
  exact i64_in _ (by omega)
theorem fair_parts {l : List Int} {log : Int} (h : fairB l log = true) : (5 ≤ log ∧ log ≤ 9) ∧ l.length ≤ 256 ∧ okN l = true ∧ sumL l = ((2 ^ log.toNat : Nat) : Int) := by
  unfold fairB at h
  simp only [Bool.and_eq_true, decide_eq_true_eq] at h
  exact ⟨⟨h.1.1, h.1.2.1⟩, h.1.2.2, h.2.1, h.2.2⟩
theorem f98p (log : Int) (l : List Int) (hf : fairB l log = true) (c N : Nat) (bs : List Int) (hh : Holds bs c N) (hc : c ≤ 10) :
    ∃ bs', F98 [.one (.ro 0 (.ints .i64 l)), .one (.int .i64 log), .one fn99] (put99 bs c) = some (.tup [], put99 bs' (c + prL (allP log l) : Nat)) ∧ Holds bs' (c + prL (allP log l)) (N + prN (allP log l) * 2 ^ c) := by
  obtain ⟨h5, hl, ho, hs⟩ := fair_parts hf
  have hp2 := pow9 h5
  have es := shl9 h5
  have w5 : IntKind.i64.wrap (log - 5) = log - 5 := i64_in _ (by omega)
  have hn0 : ¬ log < 0 := by omega
  obtain ⟨bs1, e99, hh1⟩ := f99 (log - 5) 3 (log - 5).toNat 3 c N bs hh rfl (by omega) (by omega) (by omega) (by omega)
  obtain ⟨x, env, bs2, e, hx, hh2⟩ := loop98 log l (by omega) l.length 0 (2 ^ log.toNat) KK (c + 3) _ bs1 (by omega) hp2.2 (by rw [List.drop_zero]; exact ho) (by rw [List.drop_zero]; exact hs) (by omega) hh1 (by rw [KK_eq]; omega)
  rw [List.drop_zero] at e hh2
  have eL : c + 3 + prL (hpr (2 ^ log.toNat) l) = c + prL (allP log l) := by unfold allP; simp only [prL]; omega
  have eN : N + (log - 5).toNat % 2 ^ 3 * 2 ^ c + prN (hpr (2 ^ log.toNat) l) * 2 ^ (c + 3) = N + prN (allP log l) * 2 ^ c := by
    unfold allP
    simp only [prN]
    rw [Nat.add_mul, Nat.pow_add, Nat.add_assoc, Nat.mul_comm (2 ^ 3) (prN _), Nat.mul_assoc, Nat.mul_comm (2 ^ c) (2 ^ 3)]
  rw [eL] at e hh2
  rw [eN] at hh2
  refine ⟨bs2, ?_, hh2⟩
  have z : ((0 : Nat) : Int) = 0 := rfl
  simp only [canon98, put99, fn99, z] at e
  simp only [put99] at e99
  generalize ((c + prL (allP log l) : Nat) : Int) = cc at *
  generalize ((c + 3 : Nat) : Int) = c3 at *
  generalize ((2 ^ log.toNat : Nat) : Int) = sz at *
  rcases hx with rfl | rfl <;> simp -implicitDefEqProofs [F98, c98, upd, w5, e99, es, hn0, RC.len, e, put99, fn99]
/-! ### a share's bits -/
def tupB (b : Bool) : AV := .one (.bool b)
theorem f68 (l : List Int) (log : Int) (hl : l.length ≤ 300) (hf : fairB l log = true) (c N : Nat) (bs : List Int) (hh : Holds bs c N) (hc : c ≤ 10) :
    ∃ bs', F68 [.one (.ptr 0 0), .one (.ro 1 (.ints .i64 l)), .one (.int .i64 log)] (bufHp (some 0) bs c) = some (tupB true, bufHp (some 0) bs' (c + prL (allP log l) : Nat)) ∧ Holds bs' (c + prL (allP log l)) (N + prN (allP log l) * 2 ^ c) := by
  have e15 := f15 0 l log hl
  rw [hf] at e15
  obtain ⟨bs', e98, hh'⟩ := f98p log l hf c N bs hh hc
  refine ⟨bs', ?_, hh'⟩
  simp only [put99, fn99] at e98
  generalize ((c + prL (allP log l) : Nat) : Int) = cc at *
  simp -implicitDefEqProofs [F68, c68, upd, bufHp, tupB, e15, e98]
theorem f68n (l : List Int) (log : Int) (hl : l.length ≤ 300) (hf : fairB l log = false) (c : Int) (bs : List Int) :
    F68 [.one (.ptr 0 0), .one (.ro 1 (.ints .i64 l)), .one (.int .i64 log)] (bufHp (some 0) bs c) = some (tupB false, bufHp (some 0) bs c) := by
  have e15 := f15 0 l log hl
  rw [hf] at e15
  simp -implicitDefEqProofs [F68, c68, upd, bufHp, tupB, e15]
theorem f68z (l : List Int) (log : Int) : F68 [.one .nilp, .one (.ro 1 (.ints .i64 l)), .one (.int .i64 log)] [] = some (tupB false, []) := by
  simp -implicitDefEqProofs [F68, c68, upd, tupB]
end Go.X.Try
set_option maxRecDepth 100000
set_option linter.unusedSimpArgs false
set_option linter.unusedVariables false
namespace Go.X.Try
open Go.IntWalk
/-! ### how many bits -/
def cnt100 (a : Int) : List Ob := [.cells (some 0) [.int .i64 a]]
def fn100 : SV := .fn 100 [.ptr 0 0]
theorem f100 (v n a b : Int) (w : IntKind.i64.wrap (a + n) = b) : F100 [.one (.int .i64 v), .one (.int .i64 n), .one (.ptr 0 0)] (cnt100 a) = some (.tup [], cnt100 b) := by
  simp -implicitDefEqProofs [F100, c100, upd, cnt100, w]
def canon98s (log : Int) (l : List Int) (rest i a : Int) : St :=
  ⟨[(2, .one fn100), (6, .one (.int .i64 rest)), (15, .one (.ro 0 (.ints .i64 l))), (16, .one (.int .i64 l.length)), (17, .one (.int .i64 i))], [.ro 0 (.ints .i64 l), .int .i64 log, fn100], cnt100 a⟩
theorem end98s (log : Int) (l : List Int) (rest i a : Int) (hi : ¬ i < l.length) : ∃ env, evC T98 KK b98x0 (canon98s log l rest i a) = some (.exit 0, ⟨env, [.ro 0 (.ints .i64 l), .int .i64 log, fn100], cnt100 a⟩) := by
  simp -implicitDefEqProofs [b98x0, canon98s, upd, hi]
theorem ret98s (log : Int) (l : List Int) (i : Nat) (a : Int) (hi : i < l.length) : ∃ env, evC T98 KK b98x0 (canon98s log l 0 i a) = some (.ret, ⟨env, [.ro 0 (.ints .i64 l), .int .i64 log, fn100], cnt100 a⟩) := by
  have hii : (i : Int) < l.length := by omega
  simp -implicitDefEqProofs [b98x0, canon98s, cnt100, fn100, upd, hi, hii, RC.len, RC.size, RC.get]
theorem body98s (log : Int) (l : List Int) (rest w n rest' i' : Int) (i : Nat) (a b : Int) (hi : i < l.length) (hn : l[i]?.getD 0 = n) (hr : ¬ rest = 0) (wr : IntKind.u32.wrap rest = rest) (e90 : F90 [.one (.int .u32 rest)] [] = some (.one (.int .i64 w), []))
    (wa : IntKind.i64.wrap (a + w) = b) (ws : IntKind.i64.wrap (rest - n) = rest') (wi : IntKind.i64.wrap ((i : Int) + 1) = i') :
    ∃ st1, evC T98 KK b98x0 (canon98s log l rest i a) = some (.norm, st1) ∧ St.head [2, 6, 15, 16, 17] st1 = canon98s log l rest' i' b := by
  have hii : (i : Int) < l.length := by omega
  have hn' : ∀ hh, l[i]'hh = n := fun hh => by rw [List.getElem?_eq_getElem hh] at hn; exact hn
  have e100 := f100 n w a b wa
  simp only [cnt100] at e100
  simp -implicitDefEqProofs [b98x0, canon98s, cnt100, fn100, upd, hi, hii, hn, hn', hr, wr, e90, e100, ws, wi, RC.len, RC.size, RC.get]
theorem loop98s (log : Int) (l : List Int) (hl : l.length ≤ 300) : ∀ (j i rest K c : Nat), i + j = l.length → rest ≤ 512 → okN (l.drop i) = true → sumL (l.drop i) = (rest : Int) → c ≤ 13 + 10 * i → j + 1 < K →
    ∃ x env, loopH (evC T98 KK b98x0) [2, 6, 15, 16, 17] K (canon98s log l rest i c) = some (x, ⟨env, [.ro 0 (.ints .i64 l), .int .i64 log, fn100], cnt100 (c + prL (hpr rest (l.drop i)) : Nat)⟩) ∧ (x = .ret ∨ x = .exit 0)
  | 0, i, rest, K, c, hi, hr, ho, hs, hc, hK => by
    have hd : l.drop i = [] := List.drop_eq_nil_of_le (by omega)
    obtain ⟨env, e⟩ := end98s log l rest i c (by omega)
    rw [hd]
    simp only [hpr, prL, Nat.add_zero]
    exact ⟨_, env, loopH_exit e, .inr rfl⟩
  | j + 1, i, rest, K, c, hi, hr, ho, hs, hc, hK => by
    have hlt : i < l.length := by omega
    have hd : l.drop i = l[i] :: l.drop (i + 1) := List.drop_eq_getElem_cons hlt
    have hg : l[i]?.getD 0 = l[i] := by rw [List.getElem?_eq_getElem hlt]; rfl
    have wi : IntKind.i64.wrap ((i : Int) + 1) = ((i + 1 : Nat) : Int) := by rw [i64_in _ (by omega)]; omega
    by_cases h0 : rest = 0
    · subst h0
      obtain ⟨env, e⟩ := ret98s log l i c hlt
      have e0 : hpr 0 (l.drop i) = [] := by rw [hd]; rfl
      rw [e0]
      simp only [prL, Nat.add_zero]
      exact ⟨_, env, loopH_ret e, .inl rfl⟩
    · rw [hd] at ho hs
      obtain ⟨p1, p2, p3⟩ := sumL_ge ho
      rw [hs] at p2
      have e1 : hpr rest (l.drop i) = ((l[i]).toNat, bl rest) :: hpr (rest - (l[i]).toNat) (l.drop (i + 1)) := by rw [hd, hpr, if_neg h0]
      have hb := bl9 hr
      have e90 := e90 (rest : Int) (by omega) (by omega)
      rw [Int.toNat_natCast] at e90
      have wr : IntKind.u32.wrap (rest : Int) = rest := u32_in _ (by omega)
      obtain ⟨st1, q1, q2⟩ := body98s log l rest (bl rest : Nat) l[i] ((rest - (l[i]).toNat : Nat) : Int) ((i + 1 : Nat) : Int) i c ((c + bl rest : Nat) : Int) hlt hg (by omega) wr e90 (by rw [i64_in _ (by omega)]; omega) (by rw [i64_in _ (by omega)]; omega) wi
      obtain ⟨x, env, q3, q4⟩ := loop98s log l hl j (i + 1) (rest - (l[i]).toNat) (K - 1) (c + bl rest) (by omega) (by omega) p3 (by simp only [sumL] at hs; omega) (by omega) (by omega)
      refine ⟨x, env, ?_, q4⟩
      rw [loopH_norm q1 (by omega), q2, q3, e1]
      simp only [prL, Nat.add_assoc]
theorem f98s (log : Int) (l : List Int) (hf : fairB l log = true) : F98 [.one (.ro 0 (.ints .i64 l)), .one (.int .i64 log), .one fn100] (cnt100 0) = some (.tup [], cnt100 (prL (allP log l) : Nat)) := by
  obtain ⟨h5, hl, ho, hs⟩ := fair_parts hf
  have hp2 := pow9 h5
  have es := shl9 h5
  have w5 : IntKind.i64.wrap (log - 5) = log - 5 := i64_in _ (by omega)
  have hn0 : ¬ log < 0 := by omega
  have e100 := f100 (log - 5) 3 0 3 (by decide)
  obtain ⟨x, env, e, hx⟩ := loop98s log l (by omega) l.length 0 (2 ^ log.toNat) KK 3 (by omega) hp2.2 (by rw [List.drop_zero]; exact ho) (by rw [List.drop_zero]; exact hs) (by omega) (by rw [KK_eq]; omega)
  rw [List.drop_zero] at e
  have eL : 3 + prL (hpr (2 ^ log.toNat) l) = prL (allP log l) := by unfold allP; simp only [prL]
  rw [eL] at e
  have z : ((0 : Nat) : Int) = 0 := rfl
  have c3 : ((3 : Nat) : Int) = 3 := rfl
  simp only [canon98s, cnt100, fn100, z, c3] at e
  simp only [cnt100] at e100
  generalize ((prL (allP log l) : Nat) : Int) = cc at *
  generalize ((2 ^ log.toNat : Nat) : Int) = sz at *
  rcases hx with rfl | rfl <;> simp -implicitDefEqProofs [F98, c98, upd, w5, e100, es, hn0, RC.len, e, cnt100, fn100]
theorem f70 (t : Nat) (l : List Int) (log : Int) (hl : l.length ≤ 300) (hf : fairB l log = true) : F70 [.one (.ro t (.ints .i64 l)), .one (.int .i64 log)] [] = some (.one (.int .i64 (prL (allP log l) : Nat)), []) := by
  have e15 := f15 0 l log hl
  rw [hf] at e15
  have e98 := f98s log l hf
  simp only [cnt100, fn100] at e98
  generalize ((prL (allP log l) : Nat) : Int) = cc at *
  simp -implicitDefEqProofs [F70, c70, upd, e15, e98]
theorem f70n (t : Nat) (l : List Int) (log : Int) (hl : l.length ≤ 300) (hf : fairB l log = false) : F70 [.one (.ro t (.ints .i64 l)), .one (.int .i64 log)] [] = some (.one (.int .i64 0), []) := by
  have e15 := f15 0 l log hl
  rw [hf] at e15
  simp -implicitDefEqProofs [F70, c70, upd, e15]
/-! ### the document's bits -/
def prB : List (Nat × Nat) → List Int
  | [] => []
  | p :: l => ofN p.1 p.2 ++ prB l
theorem prB_isN : ∀ l, isN (prB l)
  | [] => by simp [prB, isN]
  | p :: l => fun b hb => by
    simp only [prB] at hb
    rcases List.mem_append.1 hb with h | h
    · exact ofN_isN _ _ b h
    · exact prB_isN l b h
theorem prB_length : ∀ l, (prB l).length = prL l
  | [] => rfl
  | p :: l => by simp only [prB, prL, List.length_append, ofN_length, prB_length l]
theorem prB_leN : ∀ l, leN (prB l) = prN l
  | [] => rfl
  | p :: l => by simp only [prB, prN, leN_append, leN_ofN, ofN_length, prB_leN l]
def canon71 (log : Int) (l : List Int) (rest i : Int) (out : List Int) : St :=
  ⟨[(0, .one (.ro 0 (.ints .i64 l))), (5, .one (.row 0)), (6, .one (.int .i64 rest)), (7, .one (.int .i64 i))], [.ro 0 (.ints .i64 l), .int .i64 log], [.rows (.ints .i64 out)]⟩
theorem end71 (log : Int) (l : List Int) (rest : Int) (i : Nat) (out : List Int) (h : ¬ i < l.length ∨ rest = 0) : ∃ env, evC T71 KK b71x0 (canon71 log l rest i out) = some (.exit 0, ⟨env, [.ro 0 (.ints .i64 l), .int .i64 log], [.rows (.ints .i64 out)]⟩) ∧ getT 5 env = .one (.row 0) := by
  by_cases hi : i < l.length
  · have hii : (i : Int) < l.length := by omega
    have h0 : rest = 0 := by
      rcases h with h | h
      · exact absurd hi h
      · exact h
    subst h0
    simp -implicitDefEqProofs [b71x0, canon71, upd, hi, hii, RC.len]
  · have hii : ¬ (i : Int) < l.length := by omega
    simp -implicitDefEqProofs [b71x0, canon71, upd, hi, hii, RC.len]
theorem body71 (log : Int) (l : List Int) (rest w n rest' i' : Int) (i : Nat) (out add : List Int) (hi : i < l.length) (hn : l[i]?.getD 0 = n) (hr : 0 < rest) (wr : IntKind.u32.wrap rest = rest) (wn : IntKind.u32.wrap n = n) (e92 : F92 [.one (.int .u32 rest)] [] = some (.one (.int .i64 w), []))
    (e74 : F74 [.one (.int .u32 n), .one (.int .i64 w)] [] = some (.one (.row 0), [.rows (.ints .i64 add)])) (hm : (out.length + add.length) * 8 ≤ 140737488355328) (ws : IntKind.i64.wrap (rest - n) = rest') (wi : IntKind.i64.wrap ((i : Int) + 1) = i') :
    ∃ st1, evC T71 KK b71x0 (canon71 log l rest i out) = some (.norm, st1) ∧ St.head [0, 5, 6, 7] st1 = canon71 log l rest' i' (out ++ add) := by
  have hii : (i : Int) < l.length := by omega
  have hn' : ∀ hh, l[i]'hh = n := fun hh => by rw [List.getElem?_eq_getElem hh] at hn; exact hn
  simp -implicitDefEqProofs [b71x0, canon71, upd, hi, hii, hn, hn', hr, wr, wn, e92, e74, hm, ws, wi, RC.len, RC.size, RC.get, RC.app]
theorem loop71 (log : Int) (l : List Int) (hl : l.length ≤ 300) : ∀ (j i rest K : Nat) (out : List Int), i + j = l.length → rest ≤ 512 → okN (l.drop i) = true → sumL (l.drop i) = (rest : Int) → out.length ≤ 13 + 10 * i → j + 1 < K →
    ∃ env, loopH (evC T71 KK b71x0) [0, 5, 6, 7] K (canon71 log l rest i out) = some (.exit 0, ⟨env, [.ro 0 (.ints .i64 l), .int .i64 log], [.rows (.ints .i64 (out ++ prB (hpr rest (l.drop i))))]⟩) ∧ getT 5 env = .one (.row 0)
  | 0, i, rest, K, out, hi, hr, ho, hs, hc, hK => by
    have hd : l.drop i = [] := List.drop_eq_nil_of_le (by omega)
    obtain ⟨env, e, g⟩ := end71 log l rest i out (.inl (by omega))
    rw [hd]
    simp only [hpr, prB, List.append_nil]
    exact ⟨env, loopH_exit e, g⟩
  | j + 1, i, rest, K, out, hi, hr, ho, hs, hc, hK => by
    have hlt : i < l.length := by omega
    have hd : l.drop i = l[i] :: l.drop (i + 1) := List.drop_eq_getElem_cons hlt
    have hg : l[i]?.getD 0 = l[i] := by rw [List.getElem?_eq_getElem hlt]; rfl
    have wi : IntKind.i64.wrap ((i : Int) + 1) = ((i + 1 : Nat) : Int) := by rw [i64_in _ (by omega)]; omega
    by_cases h0 : rest = 0
    · subst h0
      obtain ⟨env, e, g⟩ := end71 log l 0 i out (.inr rfl)
      have e0 : hpr 0 (l.drop i) = [] := by rw [hd]; rfl
      rw [e0]
      simp only [prB, List.append_nil]
      have z : ((0 : Nat) : Int) = 0 := rfl
      rw [z]
      exact ⟨env, loopH_exit e, g⟩
    · rw [hd] at ho hs
      obtain ⟨p1, p2, p3⟩ := sumL_ge ho
      rw [hs] at p2
      have e1 : hpr rest (l.drop i) = ((l[i]).toNat, bl rest) :: hpr (rest - (l[i]).toNat) (l.drop (i + 1)) := by rw [hd, hpr, if_neg h0]
      have hb := bl9 hr
      have e92 := e92 (rest : Int) (by omega) (by omega)
      rw [Int.toNat_natCast] at e92
      have wr : IntKind.u32.wrap (rest : Int) = rest := u32_in _ (by omega)
      have e74 := f74 (l[i]).toNat (bl rest) (by omega) (by omega)
      rw [show (((l[i]).toNat : Nat) : Int) = l[i] by omega] at e74
      have hol := ofN_length (bl rest) (l[i]).toNat
      obtain ⟨st1, q1, q2⟩ := body71 log l rest (bl rest : Nat) l[i] ((rest - (l[i]).toNat : Nat) : Int) ((i + 1 : Nat) : Int) i out _ hlt hg (by omega) wr (u32_in _ (by omega)) e92 e74 (by omega) (by rw [i64_in _ (by omega)]; omega) wi
      obtain ⟨env, q3, q4⟩ := loop71 log l hl j (i + 1) (rest - (l[i]).toNat) (K - 1) (out ++ ofN (l[i]).toNat (bl rest)) (by omega) (by omega) p3 (by simp only [sumL] at hs; omega) (by rw [List.length_append, hol]; omega) (by omega)
      refine ⟨env, ?_, q4⟩
      rw [loopH_norm q1 (by omega), q2, q3, e1]
      simp only [prB, List.append_assoc]
theorem f71 (l : List Int) (log : Int) (hf : fairB l log = true) : F71 [.one (.ro 0 (.ints .i64 l)), .one (.int .i64 log)] [] = some (.one (.row 0), [.rows (.ints .i64 (prB (allP log l)))]) := by
  obtain ⟨h5, hl, ho, hs⟩ := fair_parts hf
  have hp2 := pow9 h5
  have w5 : IntKind.i64.wrap (log - 5) = log - 5 := i64_in _ (by omega)
  have wu : IntKind.u32.wrap (log - 5) = log - 5 := u32_in _ (by omega)
  have e78 := e78 log (by omega) (by omega)
  have e74 := f74 (log - 5).toNat 3 (by omega) (by omega)
  have c3 : ((3 : Nat) : Int) = 3 := rfl
  rw [show (((log - 5).toNat : Nat) : Int) = log - 5 by omega, c3] at e74
  have hol := ofN_length 3 (log - 5).toNat
  obtain ⟨env, e, g⟩ := loop71 log l (by omega) l.length 0 (2 ^ log.toNat) KK (ofN (log - 5).toNat 3) (by omega) hp2.2 (by rw [List.drop_zero]; exact ho) (by rw [List.drop_zero]; exact hs) (by omega) (by rw [KK_eq]; omega)
  rw [List.drop_zero] at e
  have eB : ofN (log - 5).toNat 3 ++ prB (hpr (2 ^ log.toNat) l) = prB (allP log l) := rfl
  rw [eB] at e
  have z : ((0 : Nat) : Int) = 0 := rfl
  simp only [canon71, z] at e
  generalize prB (allP log l) = bb at *
  generalize ofN (log - 5).toNat 3 = b3 at *
  generalize ((2 ^ log.toNat : Nat) : Int) = sz at *
  simp -implicitDefEqProofs [F71, c71, upd, w5, wu, e78, e74, e, g]
end Go.X.Try
set_option maxRecDepth 100000
set_option linter.unusedSimpArgs false
set_option linter.unusedVariables false
namespace Go.X.Try
open Go.IntWalk
/-! ### without noughts at the end -/
def canon76 (l : List Int) (i : Int) : St := ⟨[(0, .one (.ro 0 (.ints .i64 l))), (3, .one (.int .i64 i))], [.ro 0 (.ints .i64 l)], []⟩
theorem body76 (l : List Int) (i : Nat) (hi : i < l.length) (hl : l.length ≤ 100000) (h0 : l[i]?.getD 0 = 0) : ∃ st1, evC T76 KK b76x0 (canon76 l ((i + 1 : Nat) : Int)) = some (.norm, st1) ∧ St.head [0, 3] st1 = canon76 l i := by
  have hii : (i : Int) < l.length := by omega
  have hn' : ∀ hh, l[i]'hh = 0 := fun hh => by rw [List.getElem?_eq_getElem hh] at h0; exact h0
  have hp : (0 : Int) < ((i + 1 : Nat) : Int) := by omega
  have w : IntKind.i64.wrap (((i + 1 : Nat) : Int) - 1) = i := by rw [i64_in _ (by omega)]; omega
  generalize ((i + 1 : Nat) : Int) = i1 at *
  simp -implicitDefEqProofs [b76x0, canon76, hi, hii, h0, hn', hp, w, RC.len, RC.size, RC.get]
theorem end76z (l : List Int) : ∃ env, evC T76 KK b76x0 (canon76 l 0) = some (.exit 0, ⟨env, [.ro 0 (.ints .i64 l)], []⟩) ∧ getT 0 env = .one (.ro 0 (.ints .i64 l)) ∧ getT 3 env = .one (.int .i64 0) := by
  simp -implicitDefEqProofs [b76x0, canon76]
theorem end76 (l : List Int) (i : Nat) (hi : i < l.length) (hl : l.length ≤ 100000) (x : Int) (h0 : l[i]?.getD 0 = x) (hx : x ≠ 0) : ∃ env, evC T76 KK b76x0 (canon76 l ((i + 1 : Nat) : Int)) = some (.exit 0, ⟨env, [.ro 0 (.ints .i64 l)], []⟩) ∧ getT 0 env = .one (.ro 0 (.ints .i64 l)) ∧ getT 3 env = .one (.int .i64 ((i + 1 : Nat) : Int)) := by
  have hii : (i : Int) < l.length := by omega
  have hn' : ∀ hh, l[i]'hh = x := fun hh => by rw [List.getElem?_eq_getElem hh] at h0; exact h0
  have hp : (0 : Int) < ((i + 1 : Nat) : Int) := by omega
  have w : IntKind.i64.wrap (((i + 1 : Nat) : Int) - 1) = i := by rw [i64_in _ (by omega)]; omega
  generalize ((i + 1 : Nat) : Int) = i1 at *
  simp -implicitDefEqProofs [b76x0, canon76, hi, hii, h0, hn', hx, hp, w, RC.len, RC.size, RC.get]
theorem loop76 (l : List Int) (hl : l.length ≤ 90000) (m : Nat) (hz : ∀ i, m ≤ i → i < l.length → l[i]? = some 0) (hm : m = 0 ∨ ∃ x, l[m - 1]? = some x ∧ x ≠ 0) : ∀ (j K : Nat), m + j ≤ l.length → j < K →
    ∃ env, loopH (evC T76 KK b76x0) [0, 3] K (canon76 l ((m + j : Nat) : Int)) = some (.exit 0, ⟨env, [.ro 0 (.ints .i64 l)], []⟩) ∧ getT 0 env = .one (.ro 0 (.ints .i64 l)) ∧ getT 3 env = .one (.int .i64 (m : Nat))
  | 0, K, hj, hK => by
    rcases Nat.eq_zero_or_pos m with rfl | hp
    · obtain ⟨env, e, g⟩ := end76z l
      exact ⟨env, loopH_exit e, g⟩
    · obtain ⟨i, rfl⟩ : ∃ i, m = i + 1 := ⟨m - 1, by omega⟩
      rcases hm with h | ⟨x, h1, h2⟩
      · omega
      · obtain ⟨env, e, g⟩ := end76 l i (by omega) (by omega) x (by rw [Nat.add_sub_cancel] at h1; rw [h1]; rfl) h2
        exact ⟨env, loopH_exit e, g⟩
  | j + 1, K, hj, hK => by
    obtain ⟨st1, e1, e2⟩ := body76 l (m + j) (by omega) (by omega) (by rw [hz (m + j) (by omega) (by omega)]; rfl)
    obtain ⟨env, e, g⟩ := loop76 l hl m hz hm j (K - 1) (by omega) (by omega)
    refine ⟨env, ?_, g⟩
    rw [show m + (j + 1) = m + j + 1 by omega, loopH_norm e1 (by omega), e2]
    exact e
theorem f76 (l : List Int) (hl : l.length ≤ 90000) (m : Nat) (hml : m ≤ l.length) (hz : ∀ i, m ≤ i → i < l.length → l[i]? = some 0) (hm : m = 0 ∨ ∃ x, l[m - 1]? = some x ∧ x ≠ 0) : F76 [.one (.ro 0 (.ints .i64 l))] [] = some (.one (.ro 0 (.ints .i64 (l.take m))), []) := by
  obtain ⟨env, e, g0, g3⟩ := loop76 l hl m hz hm (l.length - m) KK (by omega) (by rw [KK_eq]; omega)
  rw [show m + (l.length - m) = l.length by omega] at e
  have hmi : (m : Int) ≤ l.length := by omega
  simp only [canon76] at e
  simp -implicitDefEqProofs [F76, c76, e, g0, g3, hmi, hml, RC.len, RC.size, RC.cut]
/-! ### what is put is taken -/
theorem zeros : ∀ {l : List Int}, okN l = true → sumL l = 0 → ∀ i, i < l.length → l[i]? = some 0
  | [], _, _, i, hi => by simp at hi
  | x :: l, ho, hs, i, hi => by
    obtain ⟨p1, p2, p3⟩ := sumL_ge ho
    have := sumL_nonneg p3
    simp only [sumL] at hs p2
    cases i with
    | zero => simp only [List.getElem?_cons_zero, Option.some.injEq]; omega
    | succ i =>
      simp only [List.getElem?_cons_succ]
      exact zeros p3 (by omega) i (by simpa using hi)
theorem hpr_zero (l : List Int) : hpr 0 l = [] := by cases l <;> rfl
def fsts (q : List (Nat × Nat)) : List Int := q.map fun p => (p.1 : Int)
theorem hpr_take : ∀ (l : List Int) (rest : Nat), okN l = true → sumL l = (rest : Int) → 0 < rest → 1 ≤ (hpr rest l).length ∧ (hpr rest l).length ≤ l.length ∧ fsts (hpr rest l) = l.take (hpr rest l).length ∧ (∃ x, l[(hpr rest l).length - 1]? = some x ∧ x ≠ 0) ∧ ∀ i, (hpr rest l).length ≤ i → i < l.length → l[i]? = some 0
  | [], rest, _, hs, h => by simp [sumL] at hs; omega
  | n :: l, rest, ho, hs, h => by
    obtain ⟨p1, p2, p3⟩ := sumL_ge ho
    rw [hs] at p2
    have e : hpr rest (n :: l) = (n.toNat, bl rest) :: hpr (rest - n.toNat) l := by rw [hpr, if_neg (by omega)]
    have hs' : sumL l = ((rest - n.toNat : Nat) : Int) := by simp only [sumL] at hs; omega
    rw [e]
    by_cases h0 : rest - n.toNat = 0
    · rw [h0, hpr_zero]
      rw [h0] at hs'
      refine ⟨by simp, by simp, ?_, ⟨n, rfl, by omega⟩, fun i h1 h2 => ?_⟩
      · simp only [fsts, List.map_cons, List.map_nil, List.length_cons, List.length_nil]
        rw [show ((n.toNat : Nat) : Int) = n by omega]
        rfl
      · cases i with
        | zero => simp at h1
        | succ i => simp only [List.getElem?_cons_succ]; exact zeros p3 hs' i (by simpa using h2)
    · obtain ⟨q1, q2, q3, ⟨x, q4, q5⟩, q6⟩ := hpr_take l (rest - n.toNat) p3 hs' (by omega)
      refine ⟨by simp, by simp only [List.length_cons]; omega, ?_, ⟨x, ?_, q5⟩, fun i h1 h2 => ?_⟩
      · simp only [fsts, List.map_cons, List.length_cons, List.take_succ_cons] at q3 ⊢
        rw [q3, show ((n.toNat : Nat) : Int) = n by omega]
      · simp only [List.length_cons, Nat.add_sub_cancel]
        obtain ⟨k, hk⟩ : ∃ k, (hpr (rest - n.toNat) l).length = k + 1 := ⟨_, (Nat.sub_add_cancel q1).symm⟩
        rw [hk] at q4 ⊢
        simpa using q4
      · cases i with
        | zero => simp at h1
        | succ i =>
          simp only [List.getElem?_cons_succ]
          exact q6 i (by simpa using h1) (by simpa using h2)
theorem hlp_put : ∀ (l : List Int) (rest j pos N M T : Nat), okN l = true → sumL l = (rest : Int) → rest ≤ 512 → (hpr rest l).length ≤ j → N / 2 ^ pos = prN (hpr rest l) + 2 ^ prL (hpr rest l) * M → pos + prL (hpr rest l) ≤ T →
    hlp N T j rest pos = some (fsts (hpr rest l), pos + prL (hpr rest l))
  | l, 0, j, pos, N, M, T, _, _, _, _, _, _ => by
    rw [hpr_zero]
    cases j <;> rfl
  | [], rest + 1, j, pos, N, M, T, _, hs, _, _, _, _ => by simp [sumL] at hs; omega
  | n :: l, rest + 1, j, pos, N, M, T, ho, hs, hr, hj, hN, hT => by
    obtain ⟨p1, p2, p3⟩ := sumL_ge ho
    rw [hs] at p2
    have e : hpr (rest + 1) (n :: l) = (n.toNat, bl (rest + 1)) :: hpr (rest + 1 - n.toNat) l := by rw [hpr, if_neg (by omega)]
    have hs' : sumL l = ((rest + 1 - n.toNat : Nat) : Int) := by simp only [sumL] at hs; omega
    rw [e] at hj hN hT ⊢
    simp only [List.length_cons] at hj
    simp only [prN, prL] at hN hT
    have hb := (bl_pos (n := rest + 1) (by omega)).2.1
    have hmod : n.toNat % 2 ^ bl (rest + 1) = n.toNat := Nat.mod_eq_of_lt (by omega)
    rw [hmod, Nat.pow_add, Nat.mul_assoc, Nat.add_assoc, ← Nat.mul_add] at hN
    obtain ⟨j', rfl⟩ : ∃ j', j = j' + 1 := ⟨j - 1, by omega⟩
    have hpw := Nat.two_pow_pos (bl (rest + 1))
    have hv : N / 2 ^ pos % 2 ^ bl (rest + 1) = n.toNat := by rw [hN, Nat.add_mul_mod_self_left, hmod]
    have hN' : N / 2 ^ (pos + bl (rest + 1)) = prN (hpr (rest + 1 - n.toNat) l) + 2 ^ prL (hpr (rest + 1 - n.toNat) l) * M := by
      rw [Nat.pow_add, ← Nat.div_div_eq_div_mul, hN, Nat.add_mul_div_left _ _ hpw, Nat.div_eq_of_lt (by omega), Nat.zero_add]
    rw [hlp, if_neg (by omega), if_neg (by omega), hv, if_neg (by omega)]
    rw [hlp_put l (rest + 1 - n.toNat) j' (pos + bl (rest + 1)) N M T p3 hs' (by omega) (by omega) hN' (by omega)]
    simp only [Option.map_some, fsts, List.map_cons, prL, Nat.add_assoc]
theorem hdT_put {l : List Int} {log : Int} (hf : fairB l log = true) {N T pos M : Nat} (hN : N / 2 ^ pos = prN (allP log l) + 2 ^ prL (allP log l) * M) (hT : pos + prL (allP log l) ≤ T) :
    hdT N T pos = some (l.take (hpr (2 ^ log.toNat) l).length, log.toNat, pos + prL (allP log l)) := by
  obtain ⟨h5, hl, ho, hs⟩ := fair_parts hf
  have hp2 := pow9 h5
  obtain ⟨q1, q2, q3, _, _⟩ := hpr_take l (2 ^ log.toNat) ho hs (by omega)
  unfold allP at hN hT ⊢
  simp only [prN, prL] at hN hT ⊢
  have h8 : (log - 5).toNat % 2 ^ 3 = (log - 5).toNat := Nat.mod_eq_of_lt (by omega)
  rw [h8, Nat.pow_add, Nat.mul_assoc, Nat.add_assoc, ← Nat.mul_add] at hN
  have hv : N / 2 ^ pos % 8 = (log - 5).toNat := by
    rw [hN]
    have := Nat.add_mul_mod_self_left (log - 5).toNat (2 ^ 3) (prN (hpr (2 ^ log.toNat) l) + 2 ^ prL (hpr (2 ^ log.toNat) l) * M)
    rw [show (2 : Nat) ^ 3 = 8 from rfl] at this ⊢
    rw [this]; omega
  have hN' : N / 2 ^ (pos + 3) = prN (hpr (2 ^ log.toNat) l) + 2 ^ prL (hpr (2 ^ log.toNat) l) * M := by
    rw [Nat.pow_add, ← Nat.div_div_eq_div_mul, hN, Nat.add_mul_div_left _ _ (by decide), Nat.div_eq_of_lt (by omega), Nat.zero_add]
  unfold hdT
  have e5 : 5 + (log - 5).toNat = log.toNat := by omega
  rw [if_neg (by omega), hv, e5, if_neg (by omega), hlp_put l (2 ^ log.toNat) 256 (pos + 3) N M T ho hs hp2.2 (by omega) hN' (by omega)]
  simp only [Option.map_some, q3, Nat.add_assoc]
theorem holds_inj {a b : List Int} {c N : Nat} (h1 : Holds a c N) (h2 : Holds b c N) : a = b := leB_inj h1.isB h2.isB (by rw [h1.len, h2.len]) (by rw [h1.val, h2.val])
end Go.X.Try
set_option maxRecDepth 100000
set_option linter.unusedSimpArgs false
set_option linter.unusedVariables false
namespace Go.X.Try
open Go.IntWalk
theorem allP24 : allP 5 [24, 8] = [(0, 3), (24, 6), (8, 4)] := by
  have b1 : bl 32 = 6 := bl_unique (n := 32) (k := 5) (by decide) (by decide)
  have b2 : bl 8 = 4 := bl_unique (n := 8) (k := 3) (by decide) (by decide)
  simp [allP, hpr, b1, b2]
theorem h47 : F47 [] [] = some (.one (.bool true), []) := by
  have hf : fairB [24, 8] 5 = true := by decide
  obtain ⟨bs, e68, hh⟩ := f68 [24, 8] 5 (by decide) hf 0 0 [] holds0 (by omega)
  have hL : prL (allP 5 [24, 8]) = 13 := by rw [allP24]; rfl
  rw [hL, Nat.zero_add] at e68 hh
  rw [Nat.zero_add, Nat.pow_zero, Nat.mul_one] at hh
  have hlen : bs.length = 2 := hh.len
  have e72 := f72 bs 13 (by omega)
  have e69 := f69 bs 13
  have e48 := f48 0 bs (by omega)
  have e49 := f49 bs 0 hh.isB (by omega) (by omega)
  have hT := hdT_put (l := [24, 8]) (log := 5) hf (N := leB bs) (T := 8 * bs.length) (pos := 0) (M := 0) (by rw [hh.val]; simp) (by rw [hL]; omega)
  have hm : (hpr (2 ^ (5 : Int).toNat) [24, 8]).length = 2 := by
    have b1 : bl 32 = 6 := bl_unique (n := 32) (k := 5) (by decide) (by decide)
    have b2 : bl 8 = 4 := bl_unique (n := 8) (k := 3) (by decide) (by decide)
    simp [hpr, b1, b2]
  rw [hm] at hT
  rw [hT] at e49
  have c13 : ((13 : Nat) : Int) = 13 := rfl
  have z : ((0 : Nat) : Int) = 0 := rfl
  have c5 : (((5 : Int).toNat : Nat) : Int) = 5 := rfl
  have ht : [(24 : Int), 8].take 2 = [24, 8] := rfl
  simp only [bufHp, hHp, tupB, tup3, c13, z, c5, ht] at e68 e72 e69 e48 e49
  simp -implicitDefEqProofs [F47, c47, upd, e68, e72, e69, e48, e49, RC.ofElems, RC.len, RC.size, RC.get]
theorem isB_u8 {l : List Int} (h : ∀ z ∈ l, (Lit.int .u8 z).wf = true) : isB l := fun x hx => by
  have := h x hx
  simp [Lit.wf, IntKind.min, IntKind.max, IntKind.signed, IntKind.bits] at this
  omega
theorem law9 (a0 : List Int) (_ : a0.length ≤ maxLen) (w0 : ∀ z ∈ a0, (Lit.int .u8 z).wf = true) : F9 [.one (.ro 0 (.ints .u8 a0))] [] = some (.one (.bool true), []) := by
  have hB := isB_u8 w0
  by_cases h2 : 200 < a0.length
  · have h2i : (200 : Int) < a0.length := by omega
    simp -implicitDefEqProofs [F9, c9, upd, h47, RC.len, h2, h2i]
  have h2i : ¬ (200 : Int) < a0.length := by omega
  have e48 := f48 0 a0 (by omega)
  have e49 := f49 a0 0 hB (by omega) (by omega)
  obtain ⟨l, e51, hN, hl, hv⟩ := f51 0 a0 hB (by omega)
  have e50 := f50 l hN (by omega)
  rw [hv, hl] at e50
  have z : ((0 : Nat) : Int) = 0 := rfl
  cases hh : hdT (leB a0) (8 * a0.length) 0 with
  | none =>
    rw [hh] at e49 e50
    obtain ⟨pos', e49⟩ := e49
    have e52 := f52 [] (by decide)
    simp only [bufHp, hHp, tup3, tup3i, z] at e48 e49 e50
    simp -implicitDefEqProofs [F9, c9, upd, h47, RC.len, h2, h2i, e48, e49, e51, e50, e52]
  | some p =>
    obtain ⟨o, lg, pos⟩ := p
    obtain ⟨q1, q2, q3, q4, q5, q6⟩ := hdT_ok hh
    rw [hh] at e49 e50
    simp only at e49 e50
    have e52 := f52 o (by omega)
    have e16 := f16 0 o (lg : Nat) (by omega)
    rw [q1] at e16
    have e53 := f53 a0 pos (by omega) q4
    have hp : (0 : Int) < pos := by omega
    have hpn : 0 < pos := by omega
    have w8 : IntKind.i64.wrap (8 * (a0.length : Int)) = 8 * a0.length := i64_in _ (by omega)
    have w9 : IntKind.i64.wrap (8 * (a0.length : Int) - pos) = ((8 * a0.length - pos : Nat) : Int) := by rw [i64_in _ (by omega)]; omega
    simp only [bufHp, hHp, tup3, tup3i, z] at e48 e49 e50 e53
    generalize ((8 * a0.length - pos : Nat) : Int) = lf at *
    simp -implicitDefEqProofs [F9, c9, upd, h47, RC.len, h2, h2i, e48, e49, e51, e50, e52, e16, e53, hp, hpn, w8, w9]
theorem law12 (a0 : List Int) (a1 a2 : Int) (_ : a0.length ≤ maxLen) (w0 : ∀ z ∈ a0, (Lit.int .i64 z).wf = true) (_ : (Lit.int .i64 a1).wf = true) (w2 : (Lit.int .u8 a2).wf = true) :
    F12 [.one (.ro 0 (.ints .i64 a0)), .one (.int .i64 a1), .one (.int .u8 a2)] [] = some (.one (.bool true), []) := by
  simp [Lit.wf, IntKind.min, IntKind.max, IntKind.signed, IntKind.bits] at w2
  by_cases h3 : 300 < a0.length
  · have h3i : (300 : Int) < a0.length := by omega
    simp -implicitDefEqProofs [F12, c12, upd, h47, RC.len, h3, h3i]
  have h3i : ¬ (300 : Int) < a0.length := by omega
  obtain ⟨d, rfl⟩ : ∃ d : Nat, a2 = d := ⟨a2.toNat, by omega⟩
  obtain ⟨k, hk⟩ : ∃ k : Nat, k = d % 9 := ⟨_, rfl⟩
  have hk9 : k < 9 := by omega
  have et : ((d : Int)).tmod 9 = (k : Int) := by rw [hk]; exact (Int.ofNat_tmod d 9).symm
  have wk8 : IntKind.u8.wrap (k : Int) = k := u8_in _ (by omega)
  have wk : IntKind.i64.wrap (k : Int) = k := i64_in _ (by omega)
  have wd : IntKind.u32.wrap (d : Int) = d := u32_in _ (by omega)
  obtain ⟨b0, e67, hh0⟩ := f67 d k 0 0 [] holds0 (by omega) (by omega) (by omega)
  rw [Nat.zero_add] at e67
  rw [Nat.zero_add, Nat.zero_add, Nat.pow_zero, Nat.mul_one] at hh0
  have e16 := f16 0 a0 a1 (by omega)
  have z : ((0 : Nat) : Int) = 0 := rfl
  cases hf : fairB a0 a1 with
  | false =>
    rw [hf] at e16
    have e68 := f68n a0 a1 (by omega) hf k b0
    have e69 := f69 b0 k
    have e70 := f70n 0 a0 a1 (by omega) hf
    simp only [bufHp, tupB, z] at e67 e68 e69
    simp -implicitDefEqProofs [F12, c12, upd, h47, RC.len, h3, h3i, et, wk8, wk, wd, e67, e68, e16, e69, e70]
  | true =>
    rw [hf] at e16
    obtain ⟨bs, e68, hh⟩ := f68 a0 a1 (by omega) hf k _ b0 hh0 (by omega)
    obtain ⟨h5, hl256, ho, hs⟩ := fair_parts hf
    have hp2 := pow9 h5
    obtain ⟨m1, m2, m3, m4, m5⟩ := hpr_take a0 (2 ^ a1.toNat) ho hs (by omega)
    have e71 := f71 a0 a1 hf
    have e70 := f70 0 a0 a1 (by omega) hf
    have hlB := prB_length (allP a1 a0)
    have e74 := f74 d k (by omega) (by omega)
    have hNN : isN (ofN d k ++ prB (allP a1 a0)) := fun b hb => by
      rcases List.mem_append.1 hb with h | h
      · exact ofN_isN _ _ b h
      · exact prB_isN _ b h
    have hlen2 : (ofN d k ++ prB (allP a1 a0)).length = k + prL (allP a1 a0) := by rw [List.length_append, ofN_length, hlB]
    have hval2 : leN (ofN d k ++ prB (allP a1 a0)) = d % 2 ^ k + prN (allP a1 a0) * 2 ^ k := by rw [leN_append, leN_ofN, ofN_length, prB_leN, Nat.mul_comm]
    have hLle : prL (allP a1 a0) ≤ 3000 := by
      have : ∀ (l : List Int) (rest : Nat), rest ≤ 512 → prL (hpr rest l) ≤ 10 * l.length := by
        intro l
        induction l with
        | nil => intro rest _; simp [hpr, prL]
        | cons x l ih =>
          intro rest hr
          rw [hpr]
          split
          · simp [prL]
          · have := ih (rest - x.toNat) (by omega)
            have := bl9 hr
            simp only [prL, List.length_cons]; omega
      have := this a0 (2 ^ a1.toNat) hp2.2
      unfold allP
      simp only [prL]; omega
    obtain ⟨out, e73, hh2⟩ := f73 0 (ofN d k ++ prB (allP a1 a0)) hNN (by omega)
    rw [hlen2, hval2] at hh2
    obtain rfl := holds_inj hh hh2
    have hbl := hh.len
    have e72 := f72 bs ((k + prL (allP a1 a0) : Nat) : Int) (by omega)
    have e69 := f69 bs ((k + prL (allP a1 a0) : Nat) : Int)
    have e48 := f48 0 bs (by omega)
    have e75 := f75 bs 0 k hh.isB (by omega) (by omega) (by omega)
    rw [Nat.zero_add] at e75
    have e49 := f49 bs k hh.isB (by omega) (by omega)
    have hT := hdT_put hf (N := leB bs) (T := 8 * bs.length) (pos := k) (M := 0) (by
      rw [hh.val, Nat.mul_zero, Nat.add_zero, Nat.mul_comm, Nat.add_mul_div_left _ _ (Nat.two_pow_pos k), Nat.div_eq_of_lt (Nat.mod_lt _ (Nat.two_pow_pos k)), Nat.zero_add]) (by omega)
    rw [hT] at e49
    simp only at e49
    have e76 := f76 a0 (by omega) _ m2 m5 (.inr m4)
    have e52 := f52 (a0.take (hpr (2 ^ a1.toNat) a0).length) (by rw [List.length_take]; omega)
    have e53 := f53 bs (k + prL (allP a1 a0)) (by omega) (by omega)
    have c1 : (((a1.toNat : Nat)) : Int) = a1 := by omega
    have wl : IntKind.i64.wrap ((k : Int) + ((prL (allP a1 a0) : Nat) : Int)) = ((k + prL (allP a1 a0) : Nat) : Int) := by rw [i64_in _ (by omega)]; omega
    have w8 : IntKind.i64.wrap (8 * (bs.length : Int)) = 8 * bs.length := i64_in _ (by omega)
    have w9 : IntKind.i64.wrap (8 * (bs.length : Int) - ((k + prL (allP a1 a0) : Nat) : Int)) = ((8 * bs.length - (k + prL (allP a1 a0)) : Nat) : Int) := by rw [i64_in _ (by omega)]; omega
    have hol := ofN_length k d
    have hm1 : (k + (prL (allP a1 a0))) * 8 ≤ 140737488355328 := by omega
    rw [c1] at e49
    generalize a0.take (hpr (2 ^ a1.toNat) a0).length = sh at *
    generalize ((8 * bs.length - (k + prL (allP a1 a0)) : Nat) : Int) = lf at *
    generalize ((k + prL (allP a1 a0) : Nat) : Int) = tot at *
    generalize hpb : prB (allP a1 a0) = pb at *
    generalize hon : ofN d k = on at *
    generalize ((leB bs / 2 ^ 0 % 2 ^ k : Nat) : Int) = v0 at *
    generalize prL (allP a1 a0) = pl at *
    simp only [bufHp, hHp, tup2, tup3, tupB, z] at e67 e68 e72 e69 e48 e75 e49 e53
    simp -implicitDefEqProofs [F12, c12, upd, h47, RC.len, RC.size, RC.app, h3, h3i, et, wk8, wk, wd, e67, e68, e16, e70, e71, hlB, e74, e73, e72, e69, e48, e75, e49, e76, e52, e53, wl, w8, w9, hol, hm1]
end Go.X.Try
