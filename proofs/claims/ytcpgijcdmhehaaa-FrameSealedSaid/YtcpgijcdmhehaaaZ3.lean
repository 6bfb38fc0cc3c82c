import Derived.IntWalk
import Derived.Test.YtcpgijcdmhehaaaZ2
set_option linter.unusedVariables false
set_option linter.unusedSimpArgs false
/- The rules by which an abstract run is reckoned: each a step of simp. -/
set_option linter.unusedVariables false
set_option linter.unusedSimpArgs false
namespace Go.X
/-! What is reckoned first: what decides the way. -/
@[congr] theorem guardI_cg {b : Bool} {x y : Option St} {v v' : AV} (h : v = v') : guardI b x y v = guardI b x y v' := by rw [h]
@[congr] theorem stepG_cg {b : Bool} {r : Res} {hp : List Ob} {v v' : AV} (h : v = v') : stepG b r hp v = stepG b r hp v' := by rw [h]
@[congr] theorem thenI_cg {env : Env} {rts : List SV} {d : Option Nat} {f : St → Option St} {r r' : Res} (h : r = r') : thenI env rts d f r = thenI env rts d f r' := by rw [h]
@[congr] theorem thenD_cg {d : Option Nat} {b : Bool} {f : Env → List Ob → List (List Ob) → ResD} {env : Env} {hs : List (List Ob)} {r r' : Res} (h : r = r') : thenD d b f env hs r = thenD d b f env hs r' := by rw [h]
@[congr] theorem thenC_cg {f : St → Option (Ex × St)} {r r' : Option (Ex × St)} (h : r = r') : thenC f r = thenC f r' := by rw [h]
@[congr] theorem blockC_cg {i : Nat} {r r' : Option (Ex × St)} (h : r = r') : blockC i r = blockC i r' := by rw [h]
@[congr] theorem branchC_cg {f g : St → Option (Ex × St)} {st : St} {v v' : AV} (h : v = v') : branchC f g st v = branchC f g st v' := by rw [h]
@[congr] theorem resC_cg {rs : List (Nat × Option (Option Nat))} {r r' : Option (Ex × St)} (h : r = r') : resC rs r = resC rs r' := by rw [h]
@[congr] theorem finD_cg {Γ : Nat → Callee} {l : List (AI × Bool)} {ck : List (Nat × List Nat)} {rts : List SV} {r r' : ResD} (h : r = r') : finD Γ l ck rts r = finD Γ l ck rts r' := by rw [h]
attribute [simp] AV.same_refl SV.same_refl sameL_refl getT evDs ckKs ckAll finD evC zcells putAt eqScs argEnv keep fillAll setScs reachSV reachOb reachL SV.ren renL AV.ren renT Env.ren Ob.ren pick avCells avsCells SV.strip stripL Ob.strip handed lendL lendArgs tagAll backKeys killAll layBack backL Ob.back argCells intsOf rcCells cviewAt AV.back backT scsOf partAt bsFrom getPs getPP getL getSL envCells resL pos
@[simp] theorem posPtr_some (o : Nat) (j : Nat) : posPtr o (some j) = .ptr j o := rfl
@[simp] theorem posPtr_none (o : Nat) : posPtr o none = .undef := rfl
@[simp] theorem posEptr_some (i o : Nat) (j : Nat) : posEptr i o (some j) = .eptr j i o := rfl
@[simp] theorem posEptr_none (i o : Nat) : posEptr i o none = .undef := rfl
@[simp] theorem posRow_some  (j : Nat) : posRow (some j) = .row j := rfl
@[simp] theorem posRow_none  : posRow none = .undef := rfl
@[simp] theorem posView_some (o n : Nat) (j : Nat) : posView o n (some j) = .view j o n := rfl
@[simp] theorem posView_none (o n : Nat) : posView o n none = .undef := rfl
@[simp] theorem posCview_some (o n : Nat) (j : Nat) : posCview o n (some j) = .cview j o n := rfl
@[simp] theorem posCview_none (o n : Nat) : posCview o n none = .undef := rfl
@[simp] theorem posF_def (ks : List Nat) (k : Nat) : posF ks k = pos k ks := rfl
@[simp] theorem ofOpt_some (o : Ob) : Ob.ofOpt (some o) = o := rfl
@[simp] theorem ofOpt_none  : Ob.ofOpt none = .dead := rfl
@[simp] theorem roOf_some (t : Nat) (v : SV) (c : RC) : roOf t v (some c) = .ro t c := rfl
@[simp] theorem lend_row (hp : List Ob) (ks : List Nat) (t : Nat) (k : Nat) : SV.lend hp ks t (.row k) = if ks.elem k then .row k else roOf t .undef (rowAt hp[k]?) := by simp [SV.lend, SV.strip]
@[simp] theorem back_row (args : List SV) (k : Nat) : SV.back args (.row k) = .row k := by simp [SV.back, SV.strip]
@[simp] theorem lend_view (hp : List Ob) (ks : List Nat) (t : Nat) (k o n : Nat) : SV.lend hp ks t (.view k o n) = if ks.elem k then .view k o n else roOf t .undef (cutAt o n hp[k]?) := by simp [SV.lend, SV.strip]
@[simp] theorem back_view (args : List SV) (k o n : Nat) : SV.back args (.view k o n) = .view k o n := by simp [SV.back, SV.strip]
@[simp] theorem lend_ro (hp : List Ob) (ks : List Nat) (t : Nat) (u : Nat) (c : RC) : SV.lend hp ks t (.ro u c) = .ro t c := by simp [SV.lend, SV.strip]
@[simp] theorem lend_rptr (hp : List Ob) (ks : List Nat) (t : Nat) (u : Nat) (c : RC) (i o : Nat) : SV.lend hp ks t (.rptr u c i o) = .rptr t c i o := by simp [SV.lend, SV.strip]
@[simp] theorem lend_eptr (hp : List Ob) (ks : List Nat) (t : Nat) (k i o : Nat) : SV.lend hp ks t (.eptr k i o) = if ks.elem k then .eptr k i o else .undef := by simp [SV.lend, SV.strip]
@[simp] theorem back_eptr (args : List SV) (k i o : Nat) : SV.back args (.eptr k i o) = .eptr k i o := by simp [SV.back, SV.strip]
@[simp] theorem lend_cview (hp : List Ob) (ks : List Nat) (t : Nat) (k o n : Nat) : SV.lend hp ks t (.cview k o n) = if ks.elem k then .cview k o n else roOf t .undef (cviewAt o n hp[k]?) := by simp [SV.lend, SV.strip]
@[simp] theorem back_cview (args : List SV) (k o n : Nat) : SV.back args (.cview k o n) = .cview k o n := by simp [SV.back, SV.strip]
@[simp] theorem lend_undef (hp : List Ob) (ks : List Nat) (t : Nat)  : SV.lend hp ks t .undef = .undef := by simp [SV.lend, SV.strip]
@[simp] theorem back_undef (args : List SV)  : SV.back args .undef = .undef := by simp [SV.back, SV.strip]
@[simp] theorem lend_int (hp : List Ob) (ks : List Nat) (t : Nat) (k : IntKind) (x : Int) : SV.lend hp ks t (.int k x) = .int k x := by simp [SV.lend, SV.strip]
@[simp] theorem back_int (args : List SV) (k : IntKind) (x : Int) : SV.back args (.int k x) = .int k x := by simp [SV.back, SV.strip]
@[simp] theorem lend_bool (hp : List Ob) (ks : List Nat) (t : Nat) (b : Bool) : SV.lend hp ks t (.bool b) = .bool b := by simp [SV.lend, SV.strip]
@[simp] theorem back_bool (args : List SV) (b : Bool) : SV.back args (.bool b) = .bool b := by simp [SV.back, SV.strip]
@[simp] theorem lend_str (hp : List Ob) (ks : List Nat) (t : Nat) (s : ByteArray) : SV.lend hp ks t (.str s) = .str s := by simp [SV.lend, SV.strip]
@[simp] theorem back_str (args : List SV) (s : ByteArray) : SV.back args (.str s) = .str s := by simp [SV.back, SV.strip]
@[simp] theorem lend_nilp (hp : List Ob) (ks : List Nat) (t : Nat)  : SV.lend hp ks t .nilp = .nilp := by simp [SV.lend, SV.strip]
@[simp] theorem back_nilp (args : List SV)  : SV.back args .nilp = .nilp := by simp [SV.back, SV.strip]
@[simp] theorem lend_ptr (hp : List Ob) (ks : List Nat) (t : Nat) (k o : Nat) : SV.lend hp ks t (.ptr k o) = .ptr k o := by simp [SV.lend, SV.strip]
@[simp] theorem back_ptr (args : List SV) (k o : Nat) : SV.back args (.ptr k o) = .ptr k o := by simp [SV.back, SV.strip]
@[simp] theorem lend_nils (hp : List Ob) (ks : List Nat) (t : Nat) (c : RC) : SV.lend hp ks t (.nils c) = .nils c := by simp [SV.lend, SV.strip]
@[simp] theorem back_nils (args : List SV) (c : RC) : SV.back args (.nils c) = .nils c := by simp [SV.back, SV.strip]
@[simp] theorem lend_fn (hp : List Ob) (ks : List Nat) (t : Nat) (f : Nat) (caps : List SV) : SV.lend hp ks t (.fn f caps) = .fn f (stripL caps) := by simp [SV.lend, SV.strip]
@[simp] theorem back_fn (args : List SV) (f : Nat) (caps : List SV) : SV.back args (.fn f caps) = .fn f (stripL caps) := by simp [SV.back, SV.strip]
@[simp] theorem lend_nilf (hp : List Ob) (ks : List Nat) (t : Nat)  : SV.lend hp ks t .nilf = .nilf := by simp [SV.lend, SV.strip]
@[simp] theorem back_nilf (args : List SV)  : SV.back args .nilf = .nilf := by simp [SV.back, SV.strip]
@[simp] theorem back_ro (args : List SV) (t : Nat) (c : RC) : SV.back args (.ro t c) = roArg t c args[t]? := rfl
@[simp] theorem roArg_ro (t u : Nat) (c d : RC) : roArg t c (some (.ro u d)) = .ro u c := rfl
@[simp] theorem avlend_one (hp : List Ob) (ks : List Nat) (t : Nat) (v : SV) : AV.lend hp ks t (.one v) = .one (v.lend hp ks t) := rfl
@[simp] theorem avlend_agg (hp : List Ob) (ks : List Nat) (t : Nat) (l : List SV) : AV.lend hp ks t (.agg l) = .agg (lendL hp ks t l) := rfl
@[simp] theorem tag_cells (i : Nat) (g : Option Nat) (l : List SV) : Ob.tag i (.cells g l) = .cells (some i) l := rfl
@[simp] theorem tag_rows (i : Nat) (c : RC) : Ob.tag i (.rows c) = .rows c := rfl
@[simp] theorem tag_dead (i : Nat) : Ob.tag i .dead = .dead := rfl
@[simp] theorem orgOf_cells (g : Option Nat) (l : List SV) : orgOf (some (.cells g l)) = g := rfl
@[simp] theorem backF_def (ks : List Nat) (n : Nat) (os : List Ob) (j : Nat) : backF ks n os j = (backKeys ks n os)[j]? := rfl
@[simp] theorem comeBack_none (hp : List Ob) (ks : List Nat) (args : List AV) : comeBack hp ks args none = none := rfl
@[simp] theorem comeBack_some (hp : List Ob) (ks : List Nat) (args : List AV) (r : AV) (os : List Ob) : comeBack hp ks args (some (r, os)) = some ((r.back (argCells args)).ren (backF ks hp.length os), layBack hp ks (backF ks hp.length os) (argCells args) os (killAll hp ks)) := rfl
@[simp] theorem callKs_def (Γ : Nat → Callee) (hp : List Ob) (f : Nat) (args : List AV) (ks : List Nat) : callKs Γ hp f args ks = comeBack hp ks args (Γ f (lendArgs hp ks 0 args) (tagAll 0 (Go.X.pick hp (posF ks) ks))) := rfl
@[simp] theorem pureCall_def (Γ : Nat → Callee) (hp : List Ob) (f : Nat) (args : List AV) : pureCall Γ hp f args = if plainArgs args = true then plainOut hp (Γ f args []) else none := rfl
@[simp] theorem plainOut_some (hp : List Ob) (r : AV) : plainOut hp (some (r, [])) = if r.plain = true then some (r, hp) else none := rfl
@[simp] theorem plainArgs_nil  : plainArgs [] = true := rfl
@[simp] theorem plainArgs_one (v : SV) (l : List AV) : plainArgs (.one v :: l) = (v.plain && plainArgs l) := rfl
@[simp] theorem plainArgs_agg (m : List SV) (l : List AV) : plainArgs (.agg m :: l) = (plainL m && plainArgs l) := rfl
@[simp] theorem plainL_nil  : plainL [] = true := rfl
@[simp] theorem plainL_cons (v : SV) (l : List SV) : plainL (v :: l) = (v.plain && plainL l) := rfl
@[simp] theorem plainT_nil  : plainT [] = true := rfl
@[simp] theorem plainT_cons (v : AV) (l : List AV) : plainT (v :: l) = (v.plain && plainT l) := rfl
@[simp] theorem plain_int (k : IntKind) (x : Int) : SV.plain (.int k x) = true := rfl
@[simp] theorem plain_bool (b : Bool) : SV.plain (.bool b) = true := rfl
@[simp] theorem plain_str (s : ByteArray) : SV.plain (.str s) = true := rfl
@[simp] theorem plain_one (v : SV) : AV.plain (.one v) = v.plain := rfl
@[simp] theorem plain_agg (l : List SV) : AV.plain (.agg l) = plainL l := rfl
@[simp] theorem plain_tup (l : List AV) : AV.plain (.tup l) = plainT l := rfl
@[simp] theorem callee_def (Γ : Nat → Callee) (hp : List Ob) (f : Nat) (args : List AV) : callee Γ hp f args = callKs Γ hp f args (handKs hp args) := rfl
@[simp] theorem handKs_def (hp : List Ob) (args : List AV) : handKs hp args = reachL hp 64 (handed (avsCells args)) [] := rfl
@[simp] theorem tidyKs_def (env : Env) (rts : List SV) (hp : List Ob) (ks : List Nat) : tidyKs env rts hp ks = ⟨env.ren (posF ks), renL (posF ks) rts, Go.X.pick hp (posF ks) ks⟩ := rfl
@[simp] theorem tidy_def (env : Env) (rts : List SV) (hp : List Ob) : tidy env rts hp = tidyKs env rts hp (reachL hp 64 (rts ++ envCells env) []) := rfl
@[simp] theorem head_def (live : List Nat) (env : Env) (rts : List SV) (hp : List Ob) : St.head live ⟨env, rts, hp⟩ = tidy (keep env live) rts hp := rfl
@[simp] theorem giveKs_def (v : AV) (hp : List Ob) (ks : List Nat) : giveKs v hp ks = some (v.ren (posF ks), Go.X.pick hp (posF ks) ks) := rfl
@[simp] theorem give_none (rts : List SV) (hp : List Ob) : give rts hp none = none := rfl
@[simp] theorem give_some (rts : List SV) (hp : List Ob) (l : List AV) : give rts hp (some l) = giveKs (tupOf l) hp (reachL hp 64 (rts ++ avCells (tupOf l)) []) := rfl
@[simp] theorem getO_tmp (env : Env) (t : Nat) : getO env (.tmp t) = getT t env := rfl
@[simp] theorem getO_const (env : Env) (v : AV) : getO env (.const v) = v := rfl
@[simp] theorem getS_def (env : Env) (x : AO) : getS env x = (getO env x).sv := rfl
@[simp] theorem getSo_none (env : Env) : getSo env none = none := rfl
@[simp] theorem getSo_some (env : Env) (x : AO) : getSo env (some x) = some (getS env x) := rfl
@[simp] theorem putE_some (env : Env) (d : Nat) (v : AV) : putE env (some d) v = (d, v) :: env := rfl
@[simp] theorem putE_none (env : Env) (v : AV) : putE env none v = env := rfl
@[simp] theorem sv_one (v : SV) : AV.sv (.one v) = v := rfl
@[simp] theorem sv_agg (l : List SV) : AV.sv (.agg l) = .undef := rfl
@[simp] theorem cells_one (v : SV) : AV.cells (.one v) = [v] := rfl
@[simp] theorem cells_agg (l : List SV) : AV.cells (.agg l) = l := rfl
@[simp] theorem thenC_norm (f : St → Option (Ex × St)) (st : St) : thenC f (some (.norm, st)) = f st := rfl
@[simp] theorem thenC_exit (f : St → Option (Ex × St)) (st : St) (i : Nat) : thenC f (some (.exit i, st)) = some (.exit i, st) := rfl
@[simp] theorem thenC_ret (f : St → Option (Ex × St)) (st : St) : thenC f (some (.ret, st)) = some (.ret, st) := rfl
@[simp] theorem blockC_norm (i : Nat) (st : St) : blockC i (some (.norm, st)) = some (.norm, st) := rfl
@[simp] theorem blockC_exit (i j : Nat) (st : St) : blockC i (some (.exit j, st)) = if i = j then some (.norm, st) else some (.exit j, st) := rfl
@[simp] theorem blockC_ret (i : Nat) (st : St) : blockC i (some (.ret, st)) = some (.ret, st) := rfl
@[simp] theorem normC_some (st : St) : normC (some st) = some (.norm, st) := rfl
@[simp] theorem branchC_bool (f g : St → Option (Ex × St)) (st : St) (t : Bool) : branchC f g st (.one (.bool t)) = if t = true then f st else g st := rfl
@[simp] theorem thenI_none (env : Env) (rts : List SV) (d : Option Nat) (f : St → Option St) : thenI env rts d f none = none := rfl
@[simp] theorem thenI_some (env : Env) (rts : List SV) (d : Option Nat) (f : St → Option St) (v : AV) (hp : List Ob) : thenI env rts d f (some (v, hp)) = f ⟨putE env d v, rts, hp⟩ := rfl
@[simp] theorem evIs_nil (Γ : Nat → Callee) (st : St) : evIs Γ [] st = some st := rfl
@[simp] theorem evIs_plain (Γ : Nat → Callee) (env : Env) (rts : List SV) (hp : List Ob) (dst : Option Nat) (op : AOp) (l : List AI) : evIs Γ (⟨dst, none, op⟩ :: l) ⟨env, rts, hp⟩ = thenI env rts dst (evIs Γ l) (evOp Γ env hp op) := rfl
@[simp] theorem evIs_guard (Γ : Nat → Callee) (env : Env) (rts : List SV) (hp : List Ob) (dst : Option Nat) (t : Nat) (b : Bool) (op : AOp) (l : List AI) : evIs Γ (⟨dst, some (t, b), op⟩ :: l) ⟨env, rts, hp⟩ = guardI b (thenI env rts dst (evIs Γ l) (evOp Γ env hp op)) (evIs Γ l ⟨putE env dst (.tup []), rts, hp⟩) (getT t env) := rfl
@[simp] theorem stepI_plain (Γ : Nat → Callee) (env : Env) (hp : List Ob) (d : Option Nat) (op : AOp) : stepI Γ env hp ⟨d, none, op⟩ = evOp Γ env hp op := rfl
@[simp] theorem stepI_guard (Γ : Nat → Callee) (env : Env) (hp : List Ob) (d : Option Nat) (t : Nat) (b : Bool) (op : AOp) : stepI Γ env hp ⟨d, some (t, b), op⟩ = stepG b (evOp Γ env hp op) hp (getT t env) := rfl
@[simp] theorem stepG_bool (b c : Bool) (r : Res) (hp : List Ob) : stepG b r hp (.one (.bool c)) = if c = b then r else some (.tup [], hp) := rfl
@[simp] theorem stepG_skip (b : Bool) (r : Res) (hp : List Ob) : stepG b r hp (.tup []) = some (.tup [], hp) := rfl
@[simp] theorem thenD_none (d : Option Nat) (b : Bool) (f : Env → List Ob → List (List Ob) → ResD) (env : Env) (hs : List (List Ob)) : thenD d b f env hs none = none := rfl
@[simp] theorem thenD_some (d : Option Nat) (b : Bool) (f : Env → List Ob → List (List Ob) → ResD) (env : Env) (hs : List (List Ob)) (v : AV) (hp : List Ob) : thenD d b f env hs (some (v, hp)) = f (putE env d v) hp (if b = true then hs ++ [hp] else hs) := rfl
@[simp] theorem ckAt_some (Γ : Nat → Callee) (env : Env) (hs : List (List Ob)) (ks : List Nat) (d : Nat) (g : Option (Nat × Bool)) (op : AOp) (b : Bool) : ckAt Γ env hs ks (some (⟨some d, g, op⟩, b)) = ckKs Γ env hs ⟨some d, g, op⟩ (getT d env) ks := rfl
@[simp] theorem ckR_none (v : AV) : ckR v none = false := rfl
@[simp] theorem ckR_some (v u : AV) (hp : List Ob) : ckR v (some (u, hp)) = u.same v := rfl
@[simp] theorem finD_none (Γ : Nat → Callee) (l : List (AI × Bool)) (ck : List (Nat × List Nat)) (rts : List SV) : finD Γ l ck rts none = none := rfl
@[simp] theorem tupOf_nil  : tupOf [] = .tup [] := rfl
@[simp] theorem thenC_none (f : St → Option (Ex × St)) : thenC f none = none := rfl
@[simp] theorem blockC_none (i : Nat) : blockC i none = none := rfl
@[simp] theorem normC_none  : normC none = none := rfl
@[simp] theorem guardI_skip (b : Bool) (x y : Option St) : guardI b x y (.tup []) = y := rfl
@[simp] theorem guardI_bool (b c : Bool) (x y : Option St) : guardI b x y (.one (.bool c)) = if c = b then x else y := rfl
@[simp] theorem put1_none (hp : List Ob) : put1 hp none = none := rfl
@[simp] theorem put1_some (hp : List Ob) (v : SV) : put1 hp (some v) = some (.one v, hp) := rfl
@[simp] theorem putA_none (hp : List Ob) : putA hp none = none := rfl
@[simp] theorem putA_some (hp : List Ob) (v : AV) : putA hp (some v) = some (v, hp) := rfl
@[simp] theorem putL_none (hp : List Ob) : putL hp none = none := rfl
@[simp] theorem putL_some (hp : List Ob) (v : List SV) : putL hp (some v) = some (.agg v, hp) := rfl
@[simp] theorem putR_none (hp : List Ob) : putR hp none = none := rfl
@[simp] theorem putR_some (hp : List Ob) (v : RC) : putR hp (some v) = newRow hp v := rfl
@[simp] theorem putH_none  : putH none = none := rfl
@[simp] theorem putH_some (h : List Ob) : putH (some h) = some (.one .undef, h) := rfl
@[simp] theorem putB_none (hp : List Ob) (n : Bool) : putB hp n none = none := rfl
@[simp] theorem putB_some (hp : List Ob) (n b : Bool) : putB hp n (some b) = some (.one (.bool (if n = true then !b else b)), hp) := rfl
@[simp] theorem evOp_mv (Γ : Nat → Callee) (env : Env) (hp : List Ob) (x : AO) : evOp Γ env hp (.mv x) = some (getO env x, hp) := rfl
@[simp] theorem evOp_newNil (Γ : Nat → Callee) (env : Env) (hp : List Ob) (c0 : RC) : evOp Γ env hp (.newNil c0) = newRow hp c0 := rfl
@[simp] theorem evOp_pick (Γ : Nat → Callee) (env : Env) (hp : List Ob) (a b c : AO) : evOp Γ env hp (.pick c a b) = oPick hp (getO env a) (getO env b) (getO env c) := rfl
@[simp] theorem evOp_alloc (Γ : Nat → Callee) (env : Env) (hp : List Ob) (z : List ZV) : evOp Γ env hp (.alloc z) = some (.one (.ptr (zcells z hp).2.length 0), (zcells z hp).2 ++ [.cells none (zcells z hp).1]) := rfl
@[simp] theorem evOp_box (Γ : Nat → Callee) (env : Env) (hp : List Ob) (x : AO) : evOp Γ env hp (.box x) = if (getO env x).cells.all okCell = true then some (.one (.ptr hp.length 0), hp ++ [.cells none (getO env x).cells]) else none := rfl
@[simp] theorem evOp_build (Γ : Nat → Callee) (env : Env) (hp : List Ob) (z : List ZV) (ps : List ((Nat × Nat) × AO)) : evOp Γ env hp (.build z ps) = if (getPP env ps).all (fun q => q.2.cells.all okCell) = true then putL (zcells z hp).2 (fillAll (zcells z hp).1 (getPP env ps)) else none := rfl
@[simp] theorem evOp_bslice (Γ : Nat → Callee) (env : Env) (hp : List Ob) (c0 : RC) (zero : List Sc) (len : Nat) (ps : List (Nat × AO)) : evOp Γ env hp (.bslice c0 zero len ps) = putR hp (ofElemsO c0 (bsFrom zero (getPs env ps) 0 len)) := rfl
@[simp] theorem evOp_load (Γ : Nat → Callee) (env : Env) (hp : List Ob) (x : AO) : evOp Γ env hp (.load none x) = put1 hp (loadOne hp (getS env x)) := rfl
@[simp] theorem evOp_load1 (Γ : Nat → Callee) (env : Env) (hp : List Ob) (n : Nat) (x : AO) : evOp Γ env hp (.load (some n) x) = putL hp (loadN hp n (getS env x)) := rfl
@[simp] theorem evOp_store (Γ : Nat → Callee) (env : Env) (hp : List Ob) (n : Nat) (x v : AO) : evOp Γ env hp (.store n x v) = if (getO env v).cells.length = n then putH (storeCells hp (getO env v).cells (getS env x)) else none := rfl
@[simp] theorem evOp_storeNil (Γ : Nat → Callee) (env : Env) (hp : List Ob) (c0 : RC) (x : AO) : evOp Γ env hp (.storeNil c0 x) = putH (storeCells (hp ++ [.rows c0]) [.row hp.length] (getS env x)) := rfl
@[simp] theorem evOp_nilCheck (Γ : Nat → Callee) (env : Env) (hp : List Ob) (x : AO) : evOp Γ env hp (.nilCheck x) = oNilCheck hp (getO env x) := rfl
@[simp] theorem evOp_bin (Γ : Nat → Callee) (env : Env) (hp : List Ob) (op : BinOp) (x y : AO) : evOp Γ env hp (.bin op x y) = put1 hp (Go.X.bin op (getS env x) (getS env y)) := rfl
@[simp] theorem evOp_eqNil (Γ : Nat → Callee) (env : Env) (hp : List Ob) (neq : Bool) (x : AO) : evOp Γ env hp (.eqNil neq x) = oEqNil hp neq (getO env x) := rfl
@[simp] theorem evOp_eqAgg (Γ : Nat → Callee) (env : Env) (hp : List Ob) (neq : Bool) (z : List Sc) (x y : AO) : evOp Γ env hp (.eqAgg neq z x y) = oEqAgg hp neq z (getO env x) (getO env y) := rfl
@[simp] theorem evOp_eqB (Γ : Nat → Callee) (env : Env) (hp : List Ob) (neq : Bool) (x y : AO) : evOp Γ env hp (.eqB neq x y) = oEqB hp neq (getO env x) (getO env y) := rfl
@[simp] theorem evOp_un (Γ : Nat → Callee) (env : Env) (hp : List Ob) (op : UnOp) (x : AO) : evOp Γ env hp (.un op x) = put1 hp (Go.X.un op (getS env x)) := rfl
@[simp] theorem evOp_conv (Γ : Nat → Callee) (env : Env) (hp : List Ob) (k : IntKind) (x : AO) : evOp Γ env hp (.conv k x) = oConv hp k (getO env x) := rfl
@[simp] theorem evOp_sconv (Γ : Nat → Callee) (env : Env) (hp : List Ob) (x : AO) : evOp Γ env hp (.sconv x) = oSconv hp (getO env x) := rfl
@[simp] theorem evOp_s2b (Γ : Nat → Callee) (env : Env) (hp : List Ob) (x : AO) : evOp Γ env hp (.s2b x) = oS2b hp (getO env x) := rfl
@[simp] theorem evOp_b2s (Γ : Nat → Callee) (env : Env) (hp : List Ob) (x : AO) : evOp Γ env hp (.b2s x) = oB2s hp (content hp (getS env x)) := rfl
@[simp] theorem evOp_cutS (Γ : Nat → Callee) (env : Env) (hp : List Ob) (x : AO) (lo hi : Option AO) : evOp Γ env hp (.cutS x lo hi) = oCutS hp (getSo env lo) (getSo env hi) (getO env x) := rfl
@[simp] theorem evOp_cutR (Γ : Nat → Callee) (env : Env) (hp : List Ob) (size : Nat) (x : AO) (lo hi : Option AO) : evOp Γ env hp (.cutR size x lo hi) = if Go.X.sizeOf hp (getS env x) = some size then oCutR hp (getSo env lo) (getSo env hi) (getS env x) (lenOf hp (getS env x)) else none := rfl
@[simp] theorem evOp_cutA (Γ : Nat → Callee) (env : Env) (hp : List Ob) (n : Nat) (x : AO) (lo hi : Option AO) : evOp Γ env hp (.cutA n x lo hi) = oCutA hp n (getSo env lo) (getSo env hi) (getO env x) := rfl
@[simp] theorem evOp_fadr (Γ : Nat → Callee) (env : Env) (hp : List Ob) (off : Nat) (x : AO) : evOp Γ env hp (.fadr off x) = oFadr hp off (getO env x) := rfl
@[simp] theorem evOp_fld (Γ : Nat → Callee) (env : Env) (hp : List Ob) (off : Nat) (n : Option Nat) (x : AO) : evOp Γ env hp (.fld off n x) = oFld hp off n (getO env x) := rfl
@[simp] theorem evOp_iadrR (Γ : Nat → Callee) (env : Env) (hp : List Ob) (size : Nat) (x i : AO) : evOp Γ env hp (.iadrR size x i) = if Go.X.sizeOf hp (getS env x) = some size then oIadrR hp (getS env x) (lenOf hp (getS env x)) (getO env i) else none := rfl
@[simp] theorem evOp_iadrA (Γ : Nat → Callee) (env : Env) (hp : List Ob) (len size : Nat) (x i : AO) : evOp Γ env hp (.iadrA len size x i) = oIadrA hp len size (getO env x) (getO env i) := rfl
@[simp] theorem evOp_idxA (Γ : Nat → Callee) (env : Env) (hp : List Ob) (len size : Nat) (n : Option Nat) (x i : AO) : evOp Γ env hp (.idxA len size n x i) = oIdxA hp len size n (getO env x) (getO env i) := rfl
@[simp] theorem evOp_idxS (Γ : Nat → Callee) (env : Env) (hp : List Ob) (x i : AO) : evOp Γ env hp (.idxS x i) = oIdxS hp (getO env x) (getO env i) := rfl
@[simp] theorem evOp_extract (Γ : Nat → Callee) (env : Env) (hp : List Ob) (i : Nat) (x : AO) : evOp Γ env hp (.extract i x) = oExtract hp i (getO env x) := rfl
@[simp] theorem evOp_call (Γ : Nat → Callee) (env : Env) (hp : List Ob) (f : Nat) (args : List AO) : evOp Γ env hp (.call f args) = callee Γ hp f (getL env args) := rfl
@[simp] theorem evOp_pcall (Γ : Nat → Callee) (env : Env) (hp : List Ob) (f : Nat) (args : List AO) : evOp Γ env hp (.pcall f args) = pureCall Γ hp f (getL env args) := rfl
@[simp] theorem evOp_callv (Γ : Nat → Callee) (env : Env) (hp : List Ob) (x : AO) (args : List AO) : evOp Γ env hp (.callv x args) = oCallv Γ hp (getL env args) (getO env x) := rfl
@[simp] theorem evOp_lenS (Γ : Nat → Callee) (env : Env) (hp : List Ob) (x : AO) : evOp Γ env hp (.lenS x) = oLenS hp (getO env x) := rfl
@[simp] theorem evOp_len (Γ : Nat → Callee) (env : Env) (hp : List Ob) (x : AO) : evOp Γ env hp (.len x) = oLen hp (lenOf hp (getS env x)) := rfl
@[simp] theorem evOp_append (Γ : Nat → Callee) (env : Env) (hp : List Ob) (c0 : RC) (bytes : Nat) (s x : AO) : evOp Γ env hp (.append c0 bytes s x) = Go.X.append hp c0 bytes (getS env s) (getS env x) := rfl
@[simp] theorem evOp_min (Γ : Nat → Callee) (env : Env) (hp : List Ob) (l : List AO) : evOp Γ env hp (.min l) = oMin hp (getL env l) := rfl
@[simp] theorem evOp_max (Γ : Nat → Callee) (env : Env) (hp : List Ob) (l : List AO) : evOp Γ env hp (.max l) = oMax hp (getL env l) := rfl
@[simp] theorem evOp_mkfn (Γ : Nat → Callee) (env : Env) (hp : List Ob) (f : Nat) (caps : List AO) : evOp Γ env hp (.mkfn f caps) = some (.one (.fn f (getSL env caps)), hp) := rfl
@[simp] theorem evOp_mks (Γ : Nat → Callee) (env : Env) (hp : List Ob) (c0 : RC) (zero : List Sc) (bytes : Nat) (len cap : AO) : evOp Γ env hp (.mks c0 zero bytes len cap) = oMks hp c0 zero bytes (getO env len) (getO env cap) := rfl
@[simp] theorem newRow_def (hp : List Ob) (c : RC) : newRow hp c = some (.one (.row hp.length), hp ++ [.rows c]) := rfl
@[simp] theorem append_def (hp : List Ob) (c0 : RC) (bytes : Nat) (s x : SV) : Go.X.append hp c0 bytes s x = app1 hp c0 bytes s x (source hp c0 x) := rfl
@[simp] theorem app1_some (hp : List Ob) (c0 : RC) (bytes : Nat) (s x : SV) (y : RC) : app1 hp c0 bytes s x (some y) = app2 hp c0 bytes s x y := rfl
@[simp] theorem app2_nils (hp : List Ob) (c0 c : RC) (bytes : Nat) (x : SV) (y : RC) : app2 hp c0 bytes (.nils c) x y = if y.len * bytes ≤ 140737488355328 ∧ y.size = c0.size then putR hp (RC.app c0 y) else none := rfl
@[simp] theorem app2_row (hp : List Ob) (c0 : RC) (bytes k : Nat) (x : SV) (y : RC) : app2 hp c0 bytes (.row k) x y = if keyOf x = some k then none else app3 hp c0 bytes k y (rowAt (hp[k]?)) := rfl
@[simp] theorem app2_view (hp : List Ob) (c0 : RC) (bytes k o n : Nat) (x : SV) (y : RC) : app2 hp c0 bytes (.view k o n) x y = if keyOf x = some k then none else app3 hp c0 bytes k y (cutAt o n (hp[k]?)) := rfl
@[simp] theorem app3_some (hp : List Ob) (c0 : RC) (bytes k : Nat) (y c : RC) : app3 hp c0 bytes k y (some c) = if (c.len + y.len) * bytes ≤ 140737488355328 ∧ c.size = c0.size ∧ y.size = c0.size then putR (hp.set k .dead) (c.app y) else none := rfl
@[simp] theorem ofElemsO_some (c0 : RC) (l : List (List Sc)) : ofElemsO c0 (some l) = RC.ofElems c0 l := rfl
@[simp] theorem resC_norm (rs : List (Nat × Option (Option Nat))) (env : Env) (rts : List SV) (hp : List Ob) : resC rs (some (.norm, ⟨env, rts, hp⟩)) = give rts hp (resL env hp rs) := rfl
@[simp] theorem resC_ret (rs : List (Nat × Option (Option Nat))) (env : Env) (rts : List SV) (hp : List Ob) : resC rs (some (.ret, ⟨env, rts, hp⟩)) = give rts hp (resL env hp rs) := rfl
@[simp] theorem resC_none (rs : List (Nat × Option (Option Nat))) : resC rs none = none := rfl
@[simp] theorem resOf_tmp (env : Env) (hp : List Ob) (t : Nat) : resOf env hp (t, none) = some (getT t env) := rfl
@[simp] theorem resOf_one (env : Env) (hp : List Ob) (t : Nat) : resOf env hp (t, some none) = oneAV (loadOne hp (getT t env).sv) := rfl
@[simp] theorem resOf_agg (env : Env) (hp : List Ob) (t n : Nat) : resOf env hp (t, some (some n)) = aggAV (loadN hp n (getT t env).sv) := rfl
@[simp] theorem evF_def (Γ : Nat → Callee) (K : Nat) (f : AF) (args : List AV) (hp : List Ob) : evF Γ K f args hp = resC f.results (evC Γ K f.body ⟨argEnv 0 args, handed (avsCells args), hp⟩) := rfl
@[simp] theorem oPick_bool (hp : List Ob) (a b : AV) (t : Bool) : oPick hp a b (.one (.bool t)) = some (if t = true then a else b, hp) := rfl
@[simp] theorem oNilCheck_ptr (hp : List Ob) (k o : Nat) : oNilCheck hp (.one (.ptr k o)) = some (.one (.ptr k o), hp) := rfl
@[simp] theorem oNilCheck_eptr (hp : List Ob) (k i o : Nat) : oNilCheck hp (.one (.eptr k i o)) = some (.one (.eptr k i o), hp) := rfl
@[simp] theorem oNilCheck_rptr (hp : List Ob) (t : Nat) (c : RC) (i o : Nat) : oNilCheck hp (.one (.rptr t c i o)) = some (.one (.rptr t c i o), hp) := rfl
@[simp] theorem oNilCheck_fn (hp : List Ob) (f : Nat) (caps : List SV) : oNilCheck hp (.one (.fn f caps)) = some (.one (.fn f caps), hp) := rfl
@[simp] theorem oNilCheck_nilp (hp : List Ob) : oNilCheck hp (.one .nilp) = none := rfl
@[simp] theorem oEqNil_nilp (hp : List Ob) (neq : Bool) : oEqNil hp neq (.one .nilp) = some (.one (.bool (!neq)), hp) := rfl
@[simp] theorem oEqNil_ptr (hp : List Ob) (neq : Bool) (k o : Nat) : oEqNil hp neq (.one (.ptr k o)) = some (.one (.bool neq), hp) := rfl
@[simp] theorem oEqNil_eptr (hp : List Ob) (neq : Bool) (k i o : Nat) : oEqNil hp neq (.one (.eptr k i o)) = some (.one (.bool neq), hp) := rfl
@[simp] theorem oEqAgg_agg (hp : List Ob) (neq : Bool) (z : List Sc) (l m : List SV) : oEqAgg hp neq z (.agg l) (.agg m) = putB hp neq (eqScs z l m) := rfl
@[simp] theorem oConv_int (hp : List Ob) (k j : IntKind) (n : Int) : oConv hp k (.one (.int j n)) = some (.one (.int k (k.wrap n)), hp) := rfl
@[simp] theorem oSconv_str (hp : List Ob) (s : ByteArray) : oSconv hp (.one (.str s)) = some (.one (.str s), hp) := rfl
@[simp] theorem oS2b_str (hp : List Ob) (s : ByteArray) : oS2b hp (.one (.str s)) = if s.size ≤ 140737488355328 then newRow hp (.ints .u8 (toBytes s)) else none := rfl
@[simp] theorem oB2s_ints (hp : List Ob) (xs : List Int) : oB2s hp (some (.ints .u8 xs)) = some (.one (.str (ofBytes xs)), hp) := rfl
@[simp] theorem optInt_none (d : Nat) : optInt d none = some (d : Int) := rfl
@[simp] theorem optInt_int (d : Nat) (k : IntKind) (z : Int) : optInt d (some (.int k z)) = some z := rfl
@[simp] theorem oCutS_str (hp : List Ob) (lo hi : Option SV) (s : ByteArray) : oCutS hp lo hi (.one (.str s)) = cutS2 hp s (optInt 0 lo) (optInt s.size hi) := rfl
@[simp] theorem cutS2_some (hp : List Ob) (s : ByteArray) (a b : Int) : cutS2 hp s (some a) (some b) = if 0 ≤ a ∧ a ≤ b ∧ b ≤ s.size then some (.one (.str (s.extract a.toNat b.toNat)), hp) else none := rfl
@[simp] theorem oCutR_some (hp : List Ob) (lo hi : Option SV) (x : SV) (n : Nat) : oCutR hp lo hi x (some n) = cutR2 hp x n (optInt 0 lo) (optInt n hi) := rfl
@[simp] theorem cutR2_some (hp : List Ob) (x : SV) (n : Nat) (a b : Int) : cutR2 hp x n (some a) (some b) = if 0 ≤ a ∧ a ≤ b ∧ b ≤ n then put1 hp (cutSV a.toNat (b.toNat - a.toNat) x) else none := rfl
@[simp] theorem cutSV_row (a n k : Nat) : cutSV a n (.row k) = some (.view k a n) := rfl
@[simp] theorem cutSV_view (a n k o m : Nat) : cutSV a n (.view k o m) = some (.view k (o + a) n) := rfl
@[simp] theorem cutSV_cview (a n k o m : Nat) : cutSV a n (.cview k o m) = some (.cview k (o + a) n) := rfl
@[simp] theorem cutSV_ro (a n t : Nat) (c : RC) : cutSV a n (.ro t c) = some (.ro t (c.cut a n)) := rfl
@[simp] theorem cutSV_nils (a n : Nat) (c : RC) : cutSV a n (.nils c) = some (.nils c) := rfl
@[simp] theorem oCutA_ptr (hp : List Ob) (n : Nat) (lo hi : Option SV) (k o : Nat) : oCutA hp n lo hi (.one (.ptr k o)) = cutA2 hp n k o (optInt 0 lo) (optInt n hi) := rfl
@[simp] theorem cutA2_some (hp : List Ob) (n k o : Nat) (a b : Int) : cutA2 hp n k o (some a) (some b) = if 0 ≤ a ∧ a ≤ b ∧ b ≤ n then some (.one (.cview k (o + a.toNat) (b.toNat - a.toNat)), hp) else none := rfl
@[simp] theorem oFadr_ptr (hp : List Ob) (off k o : Nat) : oFadr hp off (.one (.ptr k o)) = some (.one (.ptr k (o + off)), hp) := rfl
@[simp] theorem oFadr_eptr (hp : List Ob) (off k i o : Nat) : oFadr hp off (.one (.eptr k i o)) = some (.one (.eptr k i (o + off)), hp) := rfl
@[simp] theorem oFadr_rptr (hp : List Ob) (off t : Nat) (c : RC) (i o : Nat) : oFadr hp off (.one (.rptr t c i o)) = some (.one (.rptr t c i (o + off)), hp) := rfl
@[simp] theorem oFld_agg (hp : List Ob) (off : Nat) (n : Option Nat) (l : List SV) : oFld hp off n (.agg l) = putA hp (takeAV l off n) := rfl
@[simp] theorem takeAV_none (l : List SV) (off : Nat) : takeAV l off none = (l[off]?).map AV.one := rfl
@[simp] theorem takeAV_some (l : List SV) (off n : Nat) : takeAV l off (some n) = if off + n ≤ l.length then some (.agg ((l.drop off).take n)) else none := rfl
@[simp] theorem elemPtr_row (i k : Nat) : elemPtr i (.row k) = some (.eptr k i 0) := rfl
@[simp] theorem elemPtr_view (i k o n : Nat) : elemPtr i (.view k o n) = some (.eptr k (o + i) 0) := rfl
@[simp] theorem elemPtr_cview (i k o n : Nat) : elemPtr i (.cview k o n) = some (.ptr k (o + i)) := rfl
@[simp] theorem elemPtr_ro (i t : Nat) (c : RC) : elemPtr i (.ro t c) = some (.rptr t c i 0) := rfl
@[simp] theorem oIadrR_some (hp : List Ob) (x : SV) (n : Nat) (k : IntKind) (i : Int) : oIadrR hp x (some n) (.one (.int k i)) = if inBounds i n = true then put1 hp (elemPtr i.toNat x) else none := rfl
@[simp] theorem oIadrA_ptr (hp : List Ob) (len size k o : Nat) (j : IntKind) (i : Int) : oIadrA hp len size (.one (.ptr k o)) (.one (.int j i)) = if inBounds i len = true then some (.one (.ptr k (o + i.toNat * size)), hp) else none := rfl
@[simp] theorem oIdxA_agg (hp : List Ob) (len size : Nat) (n : Option Nat) (l : List SV) (j : IntKind) (i : Int) : oIdxA hp len size n (.agg l) (.one (.int j i)) = if inBounds i len = true then putA hp (takeAV l (i.toNat * size) n) else none := rfl
@[simp] theorem oIdxS_str (hp : List Ob) (s : ByteArray) (j : IntKind) (i : Int) : oIdxS hp (.one (.str s)) (.one (.int j i)) = if inBounds i s.size = true then some (.one (.int .u8 ((toBytes s).getD i.toNat 0)), hp) else none := rfl
@[simp] theorem oExtract_tup (hp : List Ob) (i : Nat) (l : List AV) : oExtract hp i (.tup l) = putA hp l[i]? := rfl
@[simp] theorem oCallv_fn (Γ : Nat → Callee) (hp : List Ob) (args : List AV) (f : Nat) (caps : List SV) : oCallv Γ hp args (.one (.fn f caps)) = callee Γ hp f (args ++ caps.map AV.one) := rfl
@[simp] theorem oLen_some (hp : List Ob) (n : Nat) : oLen hp (some n) = some (.one (.int .i64 n), hp) := rfl
@[simp] theorem oMin_two (hp : List Ob) (k j : IntKind) (x y : Int) : oMin hp [.one (.int k x), .one (.int j y)] = some (.one (.int k (if y < x then y else x)), hp) := rfl
@[simp] theorem oMax_two (hp : List Ob) (k j : IntKind) (x y : Int) : oMax hp [.one (.int k x), .one (.int j y)] = some (.one (.int k (if x < y then y else x)), hp) := rfl
@[simp] theorem oMks_int (hp : List Ob) (c0 : RC) (zero : List Sc) (bytes : Nat) (k j : IntKind) (n c : Int) : oMks hp c0 zero bytes (.one (.int k n)) (.one (.int j c)) = if 0 ≤ n ∧ n ≤ c ∧ c * bytes ≤ 140737488355328 then putR hp (RC.ofElems c0 (List.replicate n.toNat zero)) else none := rfl
@[simp] theorem loadOne_eptr (hp : List Ob) (k i o : Nat) : loadOne hp (.eptr k i o) = loadE (hp[k]?) i o := rfl
@[simp] theorem loadOne_ptr (hp : List Ob) (k o : Nat) : loadOne hp (.ptr k o) = loadP (hp[k]?) o := rfl
@[simp] theorem loadOne_rptr (hp : List Ob) (t : Nat) (c : RC) (i o : Nat) : loadOne hp (.rptr t c i o) = scSV (c.get i o) := rfl
@[simp] theorem loadP_cells (g : Option Nat) (l : List SV) (o : Nat) : loadP (some (.cells g l)) o = l[o]? := rfl
@[simp] theorem loadE_rows (c : RC) (i o : Nat) : loadE (some (.rows c)) i o = scSV (c.get i o) := rfl
@[simp] theorem scSV_none  : scSV none = none := rfl
@[simp] theorem scSV_some (c : Sc) : scSV (some c) = some c.sv := rfl
@[simp] theorem loadN_ptr (hp : List Ob) (n k o : Nat) : loadN hp n (.ptr k o) = loadPN (hp[k]?) n o := rfl
@[simp] theorem loadN_eptr (hp : List Ob) (n k i o : Nat) : loadN hp n (.eptr k i o) = loadEN (hp[k]?) n i o := rfl
@[simp] theorem loadN_rptr (hp : List Ob) (n t : Nat) (c : RC) (i o : Nat) : loadN hp n (.rptr t c i o) = takeE c n i o := rfl
@[simp] theorem loadPN_cells (g : Option Nat) (l : List SV) (n o : Nat) : loadPN (some (.cells g l)) n o = if o + n ≤ l.length then some ((l.drop o).take n) else none := rfl
@[simp] theorem loadEN_rows (c : RC) (n i o : Nat) : loadEN (some (.rows c)) n i o = takeE c n i o := rfl
@[simp] theorem storeCells_ptr (hp : List Ob) (vs : List SV) (k o : Nat) : storeCells hp vs (.ptr k o) = storeP hp k vs o (hp[k]?) := rfl
@[simp] theorem storeCells_eptr (hp : List Ob) (vs : List SV) (k i o : Nat) : storeCells hp vs (.eptr k i o) = storeE hp k vs i o (hp[k]?) := rfl
@[simp] theorem storeP_cells (hp : List Ob) (g : Option Nat) (k : Nat) (vs : List SV) (o : Nat) (l : List SV) : storeP hp k vs o (some (.cells g l)) = if o + vs.length ≤ l.length ∧ vs.all okCell = true then some (hp.set k (.cells g (putAt l o vs))) else none := rfl
@[simp] theorem storeE_rows (hp : List Ob) (k : Nat) (vs : List SV) (i o : Nat) (c : RC) : storeE hp k vs i o (some (.rows c)) = rowsH hp k (setScs c i o vs) := rfl
@[simp] theorem rowsH_some (hp : List Ob) (k : Nat) (c : RC) : rowsH hp k (some c) = some (hp.set k (.rows c)) := rfl
@[simp] theorem rowsH_none (hp : List Ob) (k : Nat) : rowsH hp k none = none := rfl
@[simp] theorem sc_int (k : IntKind) (x : Int) : SV.sc (.int k x) = some (.int k x) := rfl
@[simp] theorem svsc_int (k : IntKind) (x : Int) : Sc.sv (.int k x) = .int k x := rfl
@[simp] theorem sc_bool (b : Bool) : SV.sc (.bool b) = some (.bool b) := rfl
@[simp] theorem svsc_bool (b : Bool) : Sc.sv (.bool b) = .bool b := rfl
@[simp] theorem sc_str (s : ByteArray) : SV.sc (.str s) = some (.str s) := rfl
@[simp] theorem svsc_str (s : ByteArray) : Sc.sv (.str s) = .str s := rfl
@[simp] theorem okCell_undef  : okCell .undef = false := rfl
@[simp] theorem okCell_int (k : IntKind) (x : Int) : okCell (.int k x) = true := rfl
@[simp] theorem okCell_bool (b : Bool) : okCell (.bool b) = true := rfl
@[simp] theorem okCell_str (s : ByteArray) : okCell (.str s) = true := rfl
@[simp] theorem okCell_nilp  : okCell .nilp = true := rfl
@[simp] theorem okCell_ptr (k o : Nat) : okCell (.ptr k o) = true := rfl
@[simp] theorem okCell_row (k : Nat) : okCell (.row k) = true := rfl
@[simp] theorem okCell_view (k o n : Nat) : okCell (.view k o n) = true := rfl
@[simp] theorem okCell_ro (t : Nat) (c : RC) : okCell (.ro t c) = true := rfl
@[simp] theorem okCell_fn (f : Nat) (caps : List SV) : okCell (.fn f caps) = true := rfl
@[simp] theorem okCell_nilf  : okCell .nilf = true := rfl
@[simp] theorem len_ints (k : IntKind) (xs : List (Int)) : RC.len (.ints k xs) = xs.length := rfl
@[simp] theorem size_ints (k : IntKind) (xs : List (Int)) : RC.size (.ints k xs) = 1 := rfl
@[simp] theorem cut_ints (k : IntKind) (xs : List (Int)) (a m : Nat) : RC.cut (.ints k xs) a m = .ints k ((xs.drop a).take m) := rfl
@[simp] theorem len_strs (xs : List (ByteArray)) : RC.len (.strs xs) = xs.length := rfl
@[simp] theorem size_strs (xs : List (ByteArray)) : RC.size (.strs xs) = 1 := rfl
@[simp] theorem cut_strs (xs : List (ByteArray)) (a m : Nat) : RC.cut (.strs xs) a m = .strs ((xs.drop a).take m) := rfl
@[simp] theorem len_bools (xs : List (Bool)) : RC.len (.bools xs) = xs.length := rfl
@[simp] theorem size_bools (xs : List (Bool)) : RC.size (.bools xs) = 1 := rfl
@[simp] theorem cut_bools (xs : List (Bool)) (a m : Nat) : RC.cut (.bools xs) a m = .bools ((xs.drop a).take m) := rfl
@[simp] theorem len_recs (n : Nat) (xs : List (List Sc)) : RC.len (.recs n xs) = xs.length := rfl
@[simp] theorem size_recs (n : Nat) (xs : List (List Sc)) : RC.size (.recs n xs) = n := rfl
@[simp] theorem cut_recs (n : Nat) (xs : List (List Sc)) (a m : Nat) : RC.cut (.recs n xs) a m = .recs n ((xs.drop a).take m) := rfl
@[simp] theorem get_ints (k : IntKind) (xs : List Int) (i off : Nat) : RC.get (.ints k xs) i off = if off = 0 then some (.int k (xs.getD i 0)) else none := rfl
@[simp] theorem get_strs (xs : List ByteArray) (i off : Nat) : RC.get (.strs xs) i off = if off = 0 then some (.str (xs.getD i .empty)) else none := rfl
@[simp] theorem get_bools (xs : List Bool) (i off : Nat) : RC.get (.bools xs) i off = if off = 0 then some (.bool (xs.getD i false)) else none := rfl
@[simp] theorem get_recs (n : Nat) (xs : List (List Sc)) (i off : Nat) : RC.get (.recs n xs) i off = (xs.getD i [])[off]? := rfl
@[simp] theorem elem_ints (k : IntKind) (xs : List Int) (i : Nat) : RC.elem (.ints k xs) i = [.int k (xs.getD i 0)] := rfl
@[simp] theorem elem_recs (n : Nat) (xs : List (List Sc)) (i : Nat) : RC.elem (.recs n xs) i = xs.getD i [] := rfl
@[simp] theorem set_ints (k j : IntKind) (xs : List Int) (i off : Nat) (x : Int) : RC.set (.ints k xs) i off (.int j x) = if off = 0 ∧ k = j then some (.ints k (xs.set i x)) else none := rfl
@[simp] theorem set_recs (n : Nat) (xs : List (List Sc)) (i off : Nat) (c : Sc) : RC.set (.recs n xs) i off c = if off < n then some (.recs n (xs.set i ((xs.getD i []).set off c))) else none := rfl
@[simp] theorem app_ints (k j : IntKind) (xs ys : List Int) : RC.app (.ints k xs) (.ints j ys) = if k = j then some (.ints k (xs ++ ys)) else none := rfl
@[simp] theorem app_strs (xs ys : List ByteArray) : RC.app (.strs xs) (.strs ys) = some (.strs (xs ++ ys)) := rfl
@[simp] theorem app_bools (xs ys : List Bool) : RC.app (.bools xs) (.bools ys) = some (.bools (xs ++ ys)) := rfl
@[simp] theorem app_recs (n m : Nat) (xs ys : List (List Sc)) : RC.app (.recs n xs) (.recs m ys) = if n = m then some (.recs n (xs ++ ys)) else none := rfl
@[simp] theorem content_row (hp : List Ob) (k : Nat) : content hp (.row k) = rowAt (hp[k]?) := rfl
@[simp] theorem content_view (hp : List Ob) (k o n : Nat) : content hp (.view k o n) = cutAt o n (hp[k]?) := rfl
@[simp] theorem content_ro (hp : List Ob) (t : Nat) (c : RC) : content hp (.ro t c) = some c := rfl
@[simp] theorem content_nils (hp : List Ob) (c : RC) : content hp (.nils c) = some c := rfl
@[simp] theorem rowAt_rows (c : RC) : rowAt (some (.rows c)) = some c := rfl
@[simp] theorem cutAt_rows (o n : Nat) (c : RC) : cutAt o n (some (.rows c)) = some (c.cut o n) := rfl
@[simp] theorem sizeAt_rows (c : RC) : sizeAt (some (.rows c)) = some c.size := rfl
@[simp] theorem sizeOf_row (hp : List Ob) (k : Nat) : Go.X.sizeOf hp (.row k) = sizeAt (hp[k]?) := rfl
@[simp] theorem sizeOf_view (hp : List Ob) (k o n : Nat) : Go.X.sizeOf hp (.view k o n) = sizeAt (hp[k]?) := rfl
@[simp] theorem sizeOf_cview (hp : List Ob) (k o n : Nat) : Go.X.sizeOf hp (.cview k o n) = some 1 := rfl
@[simp] theorem sizeOf_ro (hp : List Ob) (t : Nat) (c : RC) : Go.X.sizeOf hp (.ro t c) = some c.size := rfl
@[simp] theorem sizeOf_nils (hp : List Ob) (c : RC) : Go.X.sizeOf hp (.nils c) = some c.size := rfl
@[simp] theorem lenOf_row (hp : List Ob) (k : Nat) : lenOf hp (.row k) = lenAt (hp[k]?) := rfl
@[simp] theorem lenAt_rows (c : RC) : lenAt (some (.rows c)) = some c.len := rfl
@[simp] theorem lenOf_view (hp : List Ob) (k o n : Nat) : lenOf hp (.view k o n) = some n := rfl
@[simp] theorem lenOf_cview (hp : List Ob) (k o n : Nat) : lenOf hp (.cview k o n) = some n := rfl
@[simp] theorem lenOf_ro (hp : List Ob) (t : Nat) (c : RC) : lenOf hp (.ro t c) = some c.len := rfl
@[simp] theorem lenOf_nils (hp : List Ob) (c : RC) : lenOf hp (.nils c) = some 0 := rfl
@[simp] theorem oLenS_str (hp : List Ob) (s : ByteArray) : oLenS hp (.one (.str s)) = some (.one (.int .i64 s.size), hp) := rfl
@[simp] theorem source_str (hp : List Ob) (l : List Int) (s : ByteArray) : source hp (.ints .u8 l) (.str s) = some (.ints .u8 (toBytes s)) := rfl
@[simp] theorem source_row (hp : List Ob) (c0 : RC) (k : Nat) : source hp c0 (.row k) = content hp (.row k) := rfl
@[simp] theorem keyOf_row (k : Nat) : keyOf (.row k) = some k := rfl
@[simp] theorem source_view (hp : List Ob) (c0 : RC) (k o n : Nat) : source hp c0 (.view k o n) = content hp (.view k o n) := rfl
@[simp] theorem keyOf_view (k o n : Nat) : keyOf (.view k o n) = some k := rfl
@[simp] theorem source_ro (hp : List Ob) (c0 : RC) (t : Nat) (c : RC) : source hp c0 (.ro t c) = content hp (.ro t c) := rfl
@[simp] theorem keyOf_ro (t : Nat) (c : RC) : keyOf (.ro t c) = none := rfl
@[simp] theorem source_nils (hp : List Ob) (c0 : RC) (c : RC) : source hp c0 (.nils c) = content hp (.nils c) := rfl
@[simp] theorem keyOf_nils (c : RC) : keyOf (.nils c) = none := rfl
@[simp] theorem keyOf_str (s : ByteArray) : keyOf (.str s) = none := rfl
@[simp] theorem bin_add (k j : IntKind) (x y : Int) : Go.X.bin .add (.int k x) (.int j y) = if k = j then some (.int k (k.wrap (x + y))) else none := rfl
@[simp] theorem bin_sub (k j : IntKind) (x y : Int) : Go.X.bin .sub (.int k x) (.int j y) = if k = j then some (.int k (k.wrap (x - y))) else none := rfl
@[simp] theorem bin_mul (k j : IntKind) (x y : Int) : Go.X.bin .mul (.int k x) (.int j y) = if k = j then some (.int k (k.wrap (x * y))) else none := rfl
@[simp] theorem bin_and (k j : IntKind) (x y : Int) : Go.X.bin .and (.int k x) (.int j y) = if k = j then some (.int k (bitsI .and k x y)) else none := rfl
@[simp] theorem bin_or (k j : IntKind) (x y : Int) : Go.X.bin .or (.int k x) (.int j y) = if k = j then some (.int k (bitsI .or k x y)) else none := rfl
@[simp] theorem bin_xor (k j : IntKind) (x y : Int) : Go.X.bin .xor (.int k x) (.int j y) = if k = j then some (.int k (bitsI .xor k x y)) else none := rfl
@[simp] theorem bin_andNot (k j : IntKind) (x y : Int) : Go.X.bin .andNot (.int k x) (.int j y) = if k = j then some (.int k (bitsI .andNot k x y)) else none := rfl
@[simp] theorem bin_quo (k j : IntKind) (x y : Int) : Go.X.bin .quo (.int k x) (.int j y) = if k = j then (if y = 0 then none else some (.int k (k.wrap (x.tdiv y)))) else none := rfl
@[simp] theorem bin_rem (k j : IntKind) (x y : Int) : Go.X.bin .rem (.int k x) (.int j y) = if k = j then (if y = 0 then none else some (.int k (x.tmod y))) else none := rfl
@[simp] theorem bin_shl (k j : IntKind) (x y : Int) : Go.X.bin .shl (.int k x) (.int j y) = if y < 0 then none else some (.int k (shlI k x y)) := rfl
@[simp] theorem bin_shr (k j : IntKind) (x y : Int) : Go.X.bin .shr (.int k x) (.int j y) = if y < 0 then none else some (.int k (shrI k x y)) := rfl
@[simp] theorem bin_eql (k j : IntKind) (x y : Int) : Go.X.bin .eql (.int k x) (.int j y) = if k = j then some (.bool (x == y)) else none := rfl
@[simp] theorem bin_neq (k j : IntKind) (x y : Int) : Go.X.bin .neq (.int k x) (.int j y) = if k = j then some (.bool (x != y)) else none := rfl
@[simp] theorem bin_lss (k j : IntKind) (x y : Int) : Go.X.bin .lss (.int k x) (.int j y) = if k = j then some (.bool (decide (x < y))) else none := rfl
@[simp] theorem bin_leq (k j : IntKind) (x y : Int) : Go.X.bin .leq (.int k x) (.int j y) = if k = j then some (.bool (decide (x ≤ y))) else none := rfl
@[simp] theorem bin_gtr (k j : IntKind) (x y : Int) : Go.X.bin .gtr (.int k x) (.int j y) = if k = j then some (.bool (decide (y < x))) else none := rfl
@[simp] theorem bin_geq (k j : IntKind) (x y : Int) : Go.X.bin .geq (.int k x) (.int j y) = if k = j then some (.bool (decide (y ≤ x))) else none := rfl
@[simp] theorem oEqB_bool (hp : List Ob) (neq x y : Bool) : oEqB hp neq (.one (.bool x)) (.one (.bool y)) = putB hp neq (some (x == y)) := rfl
@[simp] theorem bin_sadd (x y : ByteArray) : Go.X.bin .add (.str x) (.str y) = if x.size + y.size ≤ 9223372036854775807 then some (.str (x ++ y)) else none := rfl
@[simp] theorem bin_seql (x y : ByteArray) : Go.X.bin .eql (.str x) (.str y) = some (.bool (x.toList == y.toList)) := rfl
@[simp] theorem bin_sneq (x y : ByteArray) : Go.X.bin .neq (.str x) (.str y) = some (.bool (!(x.toList == y.toList))) := rfl
@[simp] theorem un_neg (k : IntKind) (x : Int) : Go.X.un .neg (.int k x) = some (.int k (k.wrap (0 - x))) := rfl
@[simp] theorem un_xor (k : IntKind) (x : Int) : Go.X.un .xor (.int k x) = some (.int k (bitsI .xor k (if k.signed then -1 else k.max) x)) := rfl
@[simp] theorem un_not (b : Bool) : Go.X.un .not (.bool b) = some (.bool (!b)) := rfl
@[simp] theorem eqSc_int (k0 k j : IntKind) (x0 x y : Int) : eqSc (.int k0 x0) (.int k x) (.int j y) = if k = j then some (x == y) else none := rfl
@[simp] theorem eqSc_bool (x0 x y : Bool) : eqSc (.bool x0) (.bool x) (.bool y) = some (x == y) := rfl
@[simp] theorem eqSc_str (x0 x y : ByteArray) : eqSc (.str x0) (.str x) (.str y) = some (x == y) := rfl
@[simp] theorem oneAV_some (v : SV) : oneAV (some v) = some (.one v) := rfl
@[simp] theorem aggAV_some (l : List SV) : aggAV (some l) = some (.agg l) := rfl
@[simp] theorem tupOf_one (v : AV) : tupOf [v] = v := rfl
@[simp] theorem tupOf_two (v u : AV) (l : List AV) : tupOf (v :: u :: l) = .tup (v :: u :: l) := rfl
@[simp] theorem thenC_ite (f : St → Option (Ex × St)) (c : Prop) [Decidable c] (a b : Option (Ex × St)) : thenC f (if c then a else b) = if c then thenC f a else thenC f b := by split <;> rfl
@[simp] theorem thenI_ite (env : Env) (rts : List SV) (d : Option Nat) (f : St → Option St) (c : Prop) [Decidable c] (a b : Res) : thenI env rts d f (if c then a else b) = if c then thenI env rts d f a else thenI env rts d f b := by split <;> rfl
@[simp] theorem blockC_ite (i : Nat) (c : Prop) [Decidable c] (a b : Option (Ex × St)) : blockC i (if c then a else b) = if c then blockC i a else blockC i b := by split <;> rfl
@[simp] theorem normC_ite  (c : Prop) [Decidable c] (a b : Option St) : normC  (if c then a else b) = if c then normC  a else normC  b := by split <;> rfl
@[simp] theorem put1_ite (hp : List Ob) (c : Prop) [Decidable c] (a b : Option SV) : put1 hp (if c then a else b) = if c then put1 hp a else put1 hp b := by split <;> rfl
@[simp] theorem putA_ite (hp : List Ob) (c : Prop) [Decidable c] (a b : Option AV) : putA hp (if c then a else b) = if c then putA hp a else putA hp b := by split <;> rfl
@[simp] theorem putL_ite (hp : List Ob) (c : Prop) [Decidable c] (a b : Option (List SV)) : putL hp (if c then a else b) = if c then putL hp a else putL hp b := by split <;> rfl
@[simp] theorem putH_ite  (c : Prop) [Decidable c] (a b : Option (List Ob)) : putH  (if c then a else b) = if c then putH  a else putH  b := by split <;> rfl
@[simp] theorem putR_ite (hp : List Ob) (c : Prop) [Decidable c] (a b : Option RC) : putR hp (if c then a else b) = if c then putR hp a else putR hp b := by split <;> rfl
@[simp] theorem ofElemsO_ite (c0 : RC) (c : Prop) [Decidable c] (a b : Option (List (List Sc))) : ofElemsO c0 (if c then a else b) = if c then ofElemsO c0 a else ofElemsO c0 b := by split <;> rfl
@[simp] theorem putB_ite (hp : List Ob) (n : Bool) (c : Prop) [Decidable c] (a b : Option Bool) : putB hp n (if c then a else b) = if c then putB hp n a else putB hp n b := by split <;> rfl
@[simp] theorem resC_ite (rs : List (Nat × Option (Option Nat))) (c : Prop) [Decidable c] (a b : Option (Ex × St)) : resC rs (if c then a else b) = if c then resC rs a else resC rs b := by split <;> rfl
@[simp] theorem rowsH_ite (hp : List Ob) (k : Nat) (c : Prop) [Decidable c] (a b : Option RC) : rowsH hp k (if c then a else b) = if c then rowsH hp k a else rowsH hp k b := by split <;> rfl
@[simp] theorem scSV_ite  (c : Prop) [Decidable c] (a b : Option Sc) : scSV  (if c then a else b) = if c then scSV  a else scSV  b := by split <;> rfl
@[simp] theorem give_ite (rts : List SV) (hp : List Ob) (c : Prop) [Decidable c] (a b : Option (List AV)) : give rts hp (if c then a else b) = if c then give rts hp a else give rts hp b := by split <;> rfl
@[simp] theorem comeBack_ite (hp : List Ob) (ks : List Nat) (args : List AV) (c : Prop) [Decidable c] (a b : Res) : comeBack hp ks args (if c then a else b) = if c then comeBack hp ks args a else comeBack hp ks args b := by split <;> rfl
@[simp] theorem inBounds_nat (i : Int) (n : Nat) : (inBounds i n = true) = (0 ≤ i ∧ i < n) := by simp [inBounds]
end Go.X
set_option linter.unusedVariables false
namespace Go.X
/-! ### plain numbers -/
theorem shrI_eq (k : IntKind) (x y : Int) : shrI k x y = x / ((2 ^ Nat.min y.toNat k.bits : Nat) : Int) := by
  unfold shrI
  have h : ((2 ^ Nat.min y.toNat k.bits : Nat) : Int) = (2 : Int) ^ Nat.min y.toNat k.bits := by simp
  rw [← h, Int.fdiv_eq_ediv_of_nonneg _ (Int.natCast_nonneg _)]
/-- How many bits a number has. -/
def bl (n : Nat) : Nat := if n = 0 then 0 else Nat.log2 n + 1
theorem bl_pos {n : Nat} (h : 0 < n) : 2 ^ (bl n - 1) ≤ n ∧ n < 2 ^ bl n ∧ 0 < bl n := by
  have h' : n ≠ 0 := by omega
  simp only [bl, if_neg h', Nat.add_sub_cancel]
  exact ⟨Nat.log2_self_le h', Nat.lt_log2_self, by omega⟩
theorem bl_unique {n k : Nat} (h1 : 2 ^ k ≤ n) (h2 : n < 2 ^ (k + 1)) : bl n = k + 1 := by
  have h' : n ≠ 0 := by have := Nat.two_pow_pos k; omega
  simp only [bl, if_neg h']
  have h3 := (Nat.le_log2 h').2 h1
  have h4 := (Nat.log2_lt h').2 h2
  omega
theorem bl_div {n : Nat} (k : Nat) (h : 2 ^ k ≤ n) : bl n = k + bl (n / 2 ^ k) := by
  have hp := Nat.two_pow_pos k
  have hq : 0 < n / 2 ^ k := Nat.div_pos h hp
  obtain ⟨h1, h2, h3⟩ := bl_pos hq
  generalize bl (n / 2 ^ k) = b at *
  obtain ⟨c, rfl⟩ : ∃ c, b = c + 1 := ⟨b - 1, by omega⟩
  simp only [Nat.add_sub_cancel] at h1
  rw [show k + (c + 1) = (k + c) + 1 by omega]
  refine bl_unique ?_ ?_
  · rw [Nat.pow_add, Nat.mul_comm]
    exact (Nat.le_div_iff_mul_le hp).1 h1
  · rw [show k + c + 1 = (c + 1) + k by omega, Nat.pow_add]
    exact (Nat.div_lt_iff_lt_mul hp).1 h2
theorem bl_zero : bl 0 = 0 := rfl
theorem bl_le {n k : Nat} (h : n < 2 ^ k) : bl n ≤ k := by
  rcases Nat.eq_zero_or_pos n with e | e
  · subst e; simp [bl]
  · obtain ⟨h1, _, h3⟩ := bl_pos e
    have : 2 ^ (bl n - 1) < 2 ^ k := by omega
    have := (Nat.pow_lt_pow_iff_right (by omega : 1 < 2)).1 this
    omega
theorem bl_half {n : Nat} (h : 0 < n) : bl n = bl (n / 2) + 1 := by
  rcases Nat.lt_or_ge n 2 with h2 | h2
  · obtain rfl : n = 1 := by omega
    rfl
  · have := bl_div (n := n) 1 (by simpa using h2)
    simp at this; omega
end Go.X
set_option maxRecDepth 100000
namespace Go.X
/-! ### loops by their heads -/
def loopH (body : St → Option (Ex × St)) (live : List Nat) (k : Nat) (st : St) : Option (Ex × St) := thenC (loopN body live (k - 1)) (body st)
theorem loop_head {body : St → Option (Ex × St)} {live : List Nat} {k : Nat} (st : St) (h : k ≠ 0) : loopN body live k st = loopH body live k (st.head live) := by
  cases k with
  | zero => exact absurd rfl h
  | succ k => rfl
@[simp] theorem loop_KK (body : St → Option (Ex × St)) (live : List Nat) (st : St) : loopN body live KK st = loopH body live KK (st.head live) := loop_head st (by rw [KK_eq]; omega)
theorem loopH_norm {body : St → Option (Ex × St)} {live : List Nat} {k : Nat} {st st1 : St} (h : body st = some (.norm, st1)) (hk : 1 < k) : loopH body live k st = loopH body live (k - 1) (st1.head live) := by
  rw [loopH, h]; exact loop_head st1 (by omega)
theorem loopH_exit {body : St → Option (Ex × St)} {live : List Nat} {k : Nat} {st st1 : St} {i : Nat} (h : body st = some (.exit i, st1)) : loopH body live k st = some (.exit i, st1) := by
  rw [loopH, h]; rfl
theorem loopH_ret {body : St → Option (Ex × St)} {live : List Nat} {k : Nat} {st st1 : St} (h : body st = some (.ret, st1)) : loopH body live k st = some (.ret, st1) := by
  rw [loopH, h]; rfl
/-- A loop whose every round leads from a state told by a to one told by another, of less measure, or out of it. -/
theorem loopH_ind {α : Type} {body : St → Option (Ex × St)} {live : List Nat} (canon : α → St) (I : α → Prop) (P : α → Ex × St → Prop) (m : α → Nat)
    (hs : ∀ a, I a → (∃ r, body (canon a) = some r ∧ r.1 ≠ .norm ∧ P a r) ∨ (∃ st1 a', body (canon a) = some (.norm, st1) ∧ St.head live st1 = canon a' ∧ I a' ∧ m a' < m a ∧ ∀ r, P a' r → P a r)) :
    ∀ (k : Nat) (a : α), I a → m a < k → ∃ r, loopH body live k (canon a) = some r ∧ P a r
  | 0, a, _, hk => by omega
  | k + 1, a, ha, hk => by
    rcases hs a ha with ⟨r, h1, h2, h3⟩ | ⟨st1, a', h1, h2, h3, h4, h5⟩
    · obtain ⟨x, st1⟩ := r
      cases x with
      | norm => exact absurd rfl h2
      | exit i => exact ⟨_, loopH_exit h1, h3⟩
      | ret => exact ⟨_, loopH_ret h1, h3⟩
    · cases k with
      | zero => omega
      | succ k =>
        obtain ⟨r, e, hp⟩ := loopH_ind canon I P m hs (k + 1) a' h3 (by omega)
        exact ⟨r, by rw [loopH_norm h1 (by omega), h2]; exact e, h5 r hp⟩
/-! ### concrete runs: a loop turned round by round (simp with loop_go0, loop_go1) -/
def loopG (body : St → Option (Ex × St)) (live : List Nat) (n : Nat) (st : St) : Option (Ex × St) := loopH body live (KK - n) st
@[congr] theorem loopG_cg {body : St → Option (Ex × St)} {live : List Nat} {n : Nat} {st st' : St} (h : st = st') : loopG body live n st = loopG body live n st' := by rw [h]
@[congr] theorem loopH_cg {body : St → Option (Ex × St)} {live : List Nat} {k : Nat} {st st' : St} (h : st = st') : loopH body live k st = loopH body live k st' := by rw [h]
theorem loop_go0 (body : St → Option (Ex × St)) (live : List Nat) (st : St) : loopH body live KK st = loopG body live 0 st := rfl
theorem loop_go1 {body : St → Option (Ex × St)} {live : List Nat} {n : Nat} {st : St} (hn : n < 1000) : loopG body live n st = thenC (fun st => loopG body live (n + 1) (st.head live)) (body st) := by
  have hK := KK_eq
  unfold loopG loopH
  cases hb : body st with
  | none => rfl
  | some p =>
    obtain ⟨x, st1⟩ := p
    cases x with
    | norm =>
      have h1 : KK - n - 1 = KK - (n + 1) := by omega
      rw [h1]
      exact loop_head st1 (by omega)
    | exit i => rfl
    | ret => rfl

/-! ### a slice at a key: all of a row, or a part -/
def slv (k : Nat) : Option (Nat × Nat) → SV
  | none => .row k
  | some (o, n) => .view k o n
def slvO (s : Option (Nat × Nat)) : Option Nat → SV
  | some j => slv j s
  | none => .undef
@[simp] theorem slvO_some (s : Option (Nat × Nat)) (j : Nat) : slvO s (some j) = slv j s := rfl
@[simp ↓ high] theorem reachSV_slv (hp : List Ob) (f k : Nat) (s : Option (Nat × Nat)) (ks : List Nat) : reachSV hp (f + 1) (slv k s) ks = if ks.elem k then ks else reachOb hp f hp[k]? k ks := by
  cases s <;> simp only [slv, reachSV]
@[simp ↓ high] theorem ren_slv (f : Nat → Option Nat) (k : Nat) (s : Option (Nat × Nat)) : SV.ren f (slv k s) = slvO s (f k) := by
  cases s <;> simp only [slv, SV.ren, slvO] <;> cases f k <;> rfl
@[simp ↓ high] theorem back_slv (cs : List SV) (k : Nat) (s : Option (Nat × Nat)) : SV.back cs (slv k s) = slv k s := by
  cases s <;> simp [slv]
@[simp ↓ high] theorem strip_slv (k : Nat) (s : Option (Nat × Nat)) : SV.strip (slv k s) = slv k s := by
  cases s <;> simp [slv]
@[simp ↓ high] theorem okCell_slv (k : Nat) (s : Option (Nat × Nat)) : okCell (slv k s) = true := by
  cases s <;> simp [slv]
@[simp ↓ high] theorem handed_slv (k : Nat) (s : Option (Nat × Nat)) (l : List SV) : handed (slv k s :: l) = handed l := by
  cases s <;> simp [slv]
def vw {α : Type} (X : List α) : Option (Nat × Nat) → List α
  | none => X
  | some (o, n) => (X.drop o).take n
def vwn {α : Type} (X : List α) : Option (Nat × Nat) → Nat
  | none => X.length
  | some (_, n) => n
def vok {α : Type} (X : List α) : Option (Nat × Nat) → Prop
  | none => True
  | some (o, n) => o + n ≤ X.length
theorem vw_len {α : Type} (X : List α) (s : Option (Nat × Nat)) (h : vok X s) : (vw X s).length = vwn X s := by
  cases s with
  | none => rfl
  | some p =>
    obtain ⟨o, n⟩ := p
    simp only [vok] at h
    simp only [vw, vwn, List.length_take, List.length_drop]
    omega
@[simp ↓ high] theorem reachSV_sc (hp : List Ob) (f : Nat) (c : Sc) (ks : List Nat) : reachSV hp f c.sv ks = ks := by cases f <;> cases c <;> rfl
@[simp ↓ high] theorem ren_sc (f : Nat → Option Nat) (c : Sc) : SV.ren f c.sv = c.sv := by cases c <;> rfl
@[simp ↓ high] theorem back_sc (cs : List SV) (c : Sc) : SV.back cs c.sv = c.sv := by cases c <;> rfl
@[simp ↓ high] theorem okCell_sc (c : Sc) : okCell c.sv = true := by cases c <;> rfl
end Go.X
set_option maxRecDepth 100000
set_option linter.unusedVariables false
namespace Go.X
open Go.IntWalk
/-! ### bits as plain numbers -/
theorem bitsI_and {k : IntKind} {x y : Nat} (h : k.signed = false) (hx : x < 2 ^ k.bits) (hy : y < 2 ^ k.bits) : bitsI .and k (x : Int) (y : Int) = ((x &&& y : Nat) : Int) := by
  have e : ((BitVec.ofInt k.bits (x : Int) &&& BitVec.ofInt k.bits (y : Int)).toNat : Int) = ((x &&& y : Nat) : Int) := by
    rw [BitVec.toNat_and, BitVec.ofInt_natCast, BitVec.ofInt_natCast, BitVec.toNat_ofNat, BitVec.toNat_ofNat, Nat.mod_eq_of_lt hx, Nat.mod_eq_of_lt hy]
  have hlt : x &&& y < 2 ^ k.bits := Nat.lt_of_le_of_lt Nat.and_le_left hx
  show k.wrap _ = _
  rw [e]
  cases k <;> first | (exact absurd h (by decide)) | (simp only [IntKind.bits] at hlt; first | exact u8_in _ (by omega) | exact u16_in _ (by omega) | exact u32_in _ (by omega) | exact u64_in _ (by omega))
theorem bitsI_or {k : IntKind} {x y : Nat} (h : k.signed = false) (hx : x < 2 ^ k.bits) (hy : y < 2 ^ k.bits) : bitsI .or k (x : Int) (y : Int) = ((x ||| y : Nat) : Int) := by
  have e : ((BitVec.ofInt k.bits (x : Int) ||| BitVec.ofInt k.bits (y : Int)).toNat : Int) = ((x ||| y : Nat) : Int) := by
    rw [BitVec.toNat_or, BitVec.ofInt_natCast, BitVec.ofInt_natCast, BitVec.toNat_ofNat, BitVec.toNat_ofNat, Nat.mod_eq_of_lt hx, Nat.mod_eq_of_lt hy]
  have hlt : x ||| y < 2 ^ k.bits := Nat.or_lt_two_pow hx hy
  show k.wrap _ = _
  rw [e]
  cases k <;> first | (exact absurd h (by decide)) | (simp only [IntKind.bits] at hlt; first | exact u8_in _ (by omega) | exact u16_in _ (by omega) | exact u32_in _ (by omega) | exact u64_in _ (by omega))
theorem bitsI_and_i64 {x y : Nat} (hx : x < 2 ^ 63) (hy : y < 2 ^ 63) : bitsI .and .i64 (x : Int) (y : Int) = ((x &&& y : Nat) : Int) := by
  have e : ((BitVec.ofInt 64 (x : Int) &&& BitVec.ofInt 64 (y : Int)).toNat : Int) = ((x &&& y : Nat) : Int) := by
    rw [BitVec.toNat_and, BitVec.ofInt_natCast, BitVec.ofInt_natCast, BitVec.toNat_ofNat, BitVec.toNat_ofNat, Nat.mod_eq_of_lt (by omega), Nat.mod_eq_of_lt (by omega)]
  have hlt : x &&& y < 2 ^ 63 := Nat.lt_of_le_of_lt Nat.and_le_left hx
  show IntKind.i64.wrap _ = _
  have e2 : ((BitVec.ofInt IntKind.i64.bits (x : Int) &&& BitVec.ofInt IntKind.i64.bits (y : Int)).toNat : Int) = ((x &&& y : Nat) : Int) := e
  rw [e2]
  exact i64_in _ (by omega)
/-- The lowest bits of an index. -/
theorem and7_i64 {x : Nat} (hx : x < 2 ^ 63) : bitsI .and .i64 (x : Int) 7 = ((x % 8 : Nat) : Int) := by
  have := bitsI_and_i64 (y := 7) hx (by omega)
  rw [show ((7 : Nat) : Int) = 7 from rfl] at this
  rw [this, show (7 : Nat) = 2 ^ 3 - 1 from rfl, Nat.and_two_pow_sub_one_eq_mod]
/-- A number's lowest bits by a mask. -/
theorem mask_and {k : IntKind} {x n : Nat} (h : k.signed = false) (hx : x < 2 ^ k.bits) (hn : n ≤ k.bits) : bitsI .and k (x : Int) (((2 ^ n - 1 : Nat)) : Int) = ((x % 2 ^ n : Nat) : Int) := by
  have hp := Nat.pow_le_pow_right (n := 2) (by omega) hn
  have := Nat.two_pow_pos n
  rw [bitsI_and h hx (by omega), Nat.and_two_pow_sub_one_eq_mod]
/-- Bits laid above others. -/
theorem or_add {k : IntKind} {x y n : Nat} (h : k.signed = false) (hx : x < 2 ^ n) (hn : x + y * 2 ^ n < 2 ^ k.bits) : bitsI .or k (x : Int) ((y * 2 ^ n : Nat) : Int) = ((x + y * 2 ^ n : Nat) : Int) := by
  rw [bitsI_or h (by omega) (by omega)]
  have := Nat.shiftLeft_add_eq_or_of_lt hx y
  rw [Nat.shiftLeft_eq] at this
  rw [Nat.or_comm, ← this, Nat.add_comm]
theorem shl_in {k : IntKind} {x n : Nat} (h : k.signed = false) (hn : n ≤ k.bits) (hlt : x * 2 ^ n < 2 ^ k.bits) : shlI k (x : Int) (n : Int) = ((x * 2 ^ n : Nat) : Int) := by
  have e : (x : Int) * 2 ^ Nat.min (n : Int).toNat k.bits = ((x * 2 ^ n : Nat) : Int) := by
    rw [Int.toNat_natCast, show Nat.min n k.bits = n from Nat.min_eq_left hn]
    simp
  show k.wrap _ = _
  rw [e]
  cases k <;> first | (exact absurd h (by decide)) | (simp only [IntKind.bits] at hlt; first | exact u8_in _ (by omega) | exact u16_in _ (by omega) | exact u32_in _ (by omega) | exact u64_in _ (by omega))
theorem shr_in {k : IntKind} {x n : Nat} (hn : n ≤ k.bits) : shrI k (x : Int) (n : Int) = ((x / 2 ^ n : Nat) : Int) := by
  rw [shrI_eq, Int.toNat_natCast, show Nat.min n k.bits = n from Nat.min_eq_left hn]
  simp
/-! ### bytes as one number, the first one lowest -/
def leB : List Int → Nat
  | [] => 0
  | b :: l => b.toNat + 256 * leB l
def isB (l : List Int) : Prop := ∀ b ∈ l, 0 ≤ b ∧ b < 256
theorem isB.tail {b : Int} {l : List Int} (h : isB (b :: l)) : isB l := fun x hx => h x (List.mem_cons_of_mem _ hx)
theorem leB_lt : ∀ {l : List Int}, isB l → leB l < 2 ^ (8 * l.length)
  | [], _ => by simp [leB]
  | b :: l, h => by
    have h1 := leB_lt h.tail
    have h2 := h b (by simp)
    have e : 2 ^ (8 * (l.length + 1)) = 256 * 2 ^ (8 * l.length) := by rw [Nat.mul_add, Nat.pow_add]; omega
    simp only [leB, List.length_cons]
    rw [e]
    omega
theorem leB_at : ∀ {l : List Int} {i : Nat} {b : Int}, isB l → l[i]? = some b → leB l / 2 ^ (8 * i) % 256 = b.toNat
  | [], i, b, _, h => by simp at h
  | c :: l, 0, b, hB, h => by
    simp only [List.getElem?_cons_zero, Option.some.injEq] at h
    subst h
    have := hB c (by simp)
    simp only [leB, Nat.mul_zero, Nat.pow_zero, Nat.div_one]
    omega
  | c :: l, i + 1, b, hB, h => by
    simp only [List.getElem?_cons_succ] at h
    have := hB c (by simp)
    rw [← leB_at hB.tail h, show 8 * (i + 1) = 8 + 8 * i by omega, Nat.pow_add, ← Nat.div_div_eq_div_mul]
    congr 2
    simp only [leB]
    omega
theorem leB_append : ∀ (l m : List Int), leB (l ++ m) = leB l + 2 ^ (8 * l.length) * leB m
  | [], m => by simp [leB]
  | b :: l, m => by
    have e : 2 ^ (8 * (l.length + 1)) = 256 * 2 ^ (8 * l.length) := by rw [Nat.mul_add, Nat.pow_add]; omega
    simp only [List.cons_append, leB, List.length_cons, leB_append l m]
    rw [e, Nat.mul_assoc]
    generalize 2 ^ (8 * l.length) * leB m = Q
    omega
theorem leB_set : ∀ {l : List Int} {i : Nat} {b : Int} {d : Nat}, isB l → l[i]? = some b → leB (l.set i (b + d)) = leB l + d * 2 ^ (8 * i)
  | [], i, b, d, _, h => by simp at h
  | c :: l, 0, b, d, hB, h => by
    simp only [List.getElem?_cons_zero, Option.some.injEq] at h
    subst h
    have := hB c (by simp)
    simp only [List.set_cons_zero, leB, Nat.mul_zero, Nat.pow_zero]
    omega
  | c :: l, i + 1, b, d, hB, h => by
    simp only [List.getElem?_cons_succ] at h
    have e : 2 ^ (8 * (i + 1)) = 256 * 2 ^ (8 * i) := by rw [Nat.mul_add, Nat.pow_add]; omega
    simp only [List.set_cons_succ, leB, leB_set hB.tail h]
    rw [e, Nat.mul_left_comm]
    generalize d * 2 ^ (8 * i) = Q
    omega
theorem leB_inj : ∀ {l m : List Int}, isB l → isB m → l.length = m.length → leB l = leB m → l = m
  | [], [], _, _, _, _ => rfl
  | [], _ :: _, _, _, h, _ => by simp at h
  | _ :: _, [], _, _, h, _ => by simp at h
  | b :: l, c :: m, hl, hm, h, e => by
    have h1 := hl b (by simp)
    have h2 := hm c (by simp)
    simp only [leB] at e
    have e1 : b = c := by omega
    subst e1
    rw [leB_inj hl.tail hm.tail (by simpa using h) (by omega)]
/-- Bits out of a byte. -/
theorem byte_bits {N i a k : Nat} (h : a + k ≤ 8) : N / 2 ^ (8 * i) % 256 / 2 ^ a % 2 ^ k = N / 2 ^ (8 * i + a) % 2 ^ k := by
  rw [Nat.pow_add, ← Nat.div_div_eq_div_mul]
  generalize N / 2 ^ (8 * i) = M
  have e : (256 : Nat) = 2 ^ a * 2 ^ (8 - a) := by rw [← Nat.pow_add, show a + (8 - a) = 8 by omega]
  rw [e, Nat.mod_mul_right_div_self, Nat.mod_mod_of_dvd _ (Nat.pow_dvd_pow 2 (by omega))]
/-- More bits above. -/
theorem mod_more (N g k : Nat) : N % 2 ^ (g + k) = N % 2 ^ g + N / 2 ^ g % 2 ^ k * 2 ^ g := by
  rw [Nat.pow_add, Nat.mod_mul, Nat.mul_comm (2 ^ g)]
/-! ### noughts and ones, the lowest one first -/
def leN : List Int → Nat
  | [] => 0
  | b :: l => b.toNat + 2 * leN l
def isN (l : List Int) : Prop := ∀ b ∈ l, b = 0 ∨ b = 1
theorem isN.tail {b : Int} {l : List Int} (h : isN (b :: l)) : isN l := fun x hx => h x (List.mem_cons_of_mem _ hx)
theorem leN_lt : ∀ {l : List Int}, isN l → leN l < 2 ^ l.length
  | [], _ => by simp [leN]
  | b :: l, h => by
    have h1 := leN_lt h.tail
    have h2 := h b (by simp)
    simp only [leN, List.length_cons, Nat.pow_succ]
    omega
theorem leN_append : ∀ (l m : List Int), leN (l ++ m) = leN l + 2 ^ l.length * leN m
  | [], m => by simp [leN]
  | b :: l, m => by
    simp only [List.cons_append, leN, List.length_cons, leN_append l m, Nat.pow_succ]
    rw [Nat.mul_comm (2 ^ l.length) 2, Nat.mul_assoc]
    generalize 2 ^ l.length * leN m = Q
    omega
theorem leN_take : ∀ {l : List Int} (n : Nat), isN l → leN (l.take n) = leN l % 2 ^ n
  | [], n, _ => by simp [leN]
  | b :: l, 0, _ => by simp [leN, Nat.mod_one]
  | b :: l, n + 1, h => by
    have h2 := h b (by simp)
    have e : (b.toNat + 2 * leN l) / 2 = leN l := by omega
    simp only [List.take_succ_cons, leN, leN_take n h.tail, Nat.pow_succ]
    rw [Nat.mul_comm (2 ^ n) 2, Nat.mod_mul, e]
    generalize leN l % 2 ^ n = Q
    omega
theorem leN_drop : ∀ {l : List Int} (n : Nat), isN l → leN (l.drop n) = leN l / 2 ^ n
  | [], n, _ => by simp [leN]
  | b :: l, 0, _ => by simp
  | b :: l, n + 1, h => by
    have h2 := h b (by simp)
    simp only [List.drop_succ_cons, leN, leN_drop n h.tail, Nat.pow_succ]
    rw [Nat.mul_comm (2 ^ n) 2, ← Nat.div_div_eq_div_mul]
    congr 1
    omega
theorem leN_at {l : List Int} {i : Nat} {b : Int} (hN : isN l) (h : l[i]? = some b) : leN l / 2 ^ i % 2 = b.toNat := by
  obtain ⟨hlt, e⟩ := List.getElem?_eq_some_iff.1 h
  have hb := hN b (List.mem_of_getElem? h)
  rw [← leN_drop i hN, List.drop_eq_getElem_cons hlt, e]
  simp only [leN]
  omega
theorem leN_inj : ∀ {l m : List Int}, isN l → isN m → l.length = m.length → leN l = leN m → l = m
  | [], [], _, _, _, _ => rfl
  | [], _ :: _, _, _, h, _ => by simp at h
  | _ :: _, [], _, _, h, _ => by simp at h
  | b :: l, c :: m, hl, hm, h, e => by
    have h1 := hl b (by simp)
    have h2 := hm c (by simp)
    simp only [leN] at e
    have e1 : b = c := by omega
    subst e1
    rw [leN_inj hl.tail hm.tail (by simpa using h) (by omega)]
/-- The lowest n bits of v. -/
def ofN (v : Nat) : Nat → List Int
  | 0 => []
  | n + 1 => ((v % 2 : Nat) : Int) :: ofN (v / 2) n
theorem ofN_length : ∀ (n v : Nat), (ofN v n).length = n
  | 0, _ => rfl
  | n + 1, v => by simp [ofN, ofN_length n]
theorem ofN_isN : ∀ (n v : Nat), isN (ofN v n)
  | 0, _ => by simp [ofN, isN]
  | n + 1, v => fun b hb => by
    rcases List.mem_cons.1 hb with rfl | hb
    · omega
    · exact ofN_isN n _ b hb
theorem leN_ofN : ∀ (n v : Nat), leN (ofN v n) = v % 2 ^ n
  | 0, v => by simp [ofN, leN, Nat.mod_one]
  | n + 1, v => by
    simp only [ofN, leN, leN_ofN n, Nat.pow_succ]
    rw [Nat.mul_comm (2 ^ n) 2, Nat.mod_mul]
    omega
theorem ofN_snoc : ∀ (n v : Nat), ofN v (n + 1) = ofN v n ++ [((v / 2 ^ n % 2 : Nat) : Int)]
  | 0, v => by simp [ofN]
  | n + 1, v => by
    rw [ofN, ofN_snoc n (v / 2), ofN, List.cons_append, Nat.div_div_eq_div_mul, Nat.pow_succ, Nat.mul_comm 2]
end Go.X
set_option maxRecDepth 100000
set_option linter.unusedVariables false
namespace Go.X
open Go.IntWalk
/-! ### strings as lists of bytes -/
theorem size_toBytes (s : ByteArray) : (toBytes s).length = s.size := by
  unfold toBytes; rw [List.length_map, Array.length_toList]; rfl
theorem isB_toBytes (s : ByteArray) : isB (toBytes s) := fun b hb => by
  simp only [toBytes, List.mem_map] at hb
  obtain ⟨x, _, rfl⟩ := hb
  have := x.toNat_lt
  omega
theorem size_ofBytes (l : List Int) : (ofBytes l).size = l.length := by
  simp [ofBytes, ByteArray.size]
theorem ofBytes_nil : ofBytes [] = ⟨#[]⟩ := rfl
theorem toBytes_ofBytes {l : List Int} (h : isB l) : toBytes (ofBytes l) = l := by
  simp only [toBytes, ofBytes, List.map_map]
  induction l with
  | nil => rfl
  | cons b l ih =>
    have hb := h b (by simp)
    simp only [List.map_cons, Function.comp]
    rw [ih h.tail]
    congr 1
    simp only [UInt8.toNat_ofNat']
    omega
theorem ofBytes_toBytes (s : ByteArray) : ofBytes (toBytes s) = s := by
  obtain ⟨⟨l⟩⟩ := s
  simp only [toBytes, ofBytes, List.map_map]
  congr 2
  induction l with
  | nil => rfl
  | cons x l ih =>
    simp only [List.map_cons, Function.comp, ih]
    congr 1
    simp
theorem ofBytes_append (l m : List Int) : ofBytes l ++ ofBytes m = ofBytes (l ++ m) := by
  apply ByteArray.ext
  simp [ofBytes]
theorem ofBytes_extract (l : List Int) (a b : Nat) : (ofBytes l).extract a b = ofBytes ((l.drop a).take (b - a)) := by
  apply ByteArray.ext
  simp [ofBytes, ByteArray.data_extract, List.extract_eq_take_drop]
theorem ofBytes_inj {l m : List Int} (hl : isB l) (hm : isB m) : ofBytes l = ofBytes m ↔ l = m :=
  ⟨fun h => by rw [← toBytes_ofBytes hl, h, toBytes_ofBytes hm], fun h => by rw [h]⟩
theorem beqS (a b : ByteArray) : (a.toList == b.toList) = decide (a = b) := by
  rw [Bool.eq_iff_iff]
  simp only [beq_iff_eq, decide_eq_true_eq, ByteArray.toList_eq]
  constructor
  · intro h
    apply ByteArray.ext
    exact Array.toList_inj.1 h
  · intro h; rw [h]
theorem eqS {l m : List Int} (hl : isB l) (hm : isB m) : ((ofBytes l).toList == (ofBytes m).toList) = decide (l = m) := by
  rw [beqS]
  exact decide_eq_decide.2 (ofBytes_inj hl hm)
theorem eqS0 (l : List Int) : ((ofBytes l).toList == ({ data := #[] } : ByteArray).toList) = decide (l = []) := by
  rw [beqS]
  refine decide_eq_decide.2 ⟨fun h => ?_, fun h => by rw [h]; rfl⟩
  have := congrArg ByteArray.size h
  rw [size_ofBytes] at this
  exact List.eq_nil_of_length_eq_zero this
theorem emptyS (l : List Int) : (ofBytes l).toList.isEmpty = decide (l = []) := by
  rw [ByteArray.toList_eq]
  cases l <;> simp [ofBytes]
theorem empty_ofBytes : ByteArray.empty = ofBytes [] := rfl
theorem isB_append {l m : List Int} (hl : isB l) (hm : isB m) : isB (l ++ m) := fun b hb => by
  rcases List.mem_append.1 hb with h | h
  · exact hl b h
  · exact hm b h
theorem isB_take {l : List Int} (n : Nat) (hl : isB l) : isB (l.take n) := fun b hb => hl b (List.mem_of_mem_take hb)
theorem isB_drop {l : List Int} (n : Nat) (hl : isB l) : isB (l.drop n) := fun b hb => hl b (List.mem_of_mem_drop hb)
theorem isB_one {b : Int} (h : 0 ≤ b ∧ b < 256) : isB [b] := fun x hx => by
  simp only [List.mem_cons, List.not_mem_nil, or_false] at hx
  omega
end Go.X
set_option maxRecDepth 100000
set_option linter.unusedSimpArgs false
namespace Go.X.Try
open Go.IntWalk
/-- A number's bytes in groups. -/
def grp (v : Nat) : List Int := if _h : v < 128 then [(v : Int)] else ((v % 128 + 128 : Nat) : Int) :: grp (v / 128)
termination_by v
theorem grp_lt {v : Nat} (h : v < 128) : grp v = [(v : Int)] := by rw [grp, dif_pos h]
theorem grp_ge {v : Nat} (h : ¬ v < 128) : grp v = ((v % 128 + 128 : Nat) : Int) :: grp (v / 128) := by rw [grp, dif_neg h]
theorem grp_isB (v : Nat) : isB (grp v) := by
  induction v using Nat.strongRecOn with
  | ind v ih =>
  by_cases h : v < 128
  · rw [grp_lt h]; exact isB_one (by omega)
  · rw [grp_ge h]
    intro x hx
    rcases List.mem_cons.1 hx with rfl | hx
    · omega
    · exact ih (v / 128) (by omega) x hx
theorem grp_len : ∀ (n v : Nat), v < 128 ^ (n + 1) → (grp v).length ≤ n + 1
  | 0, v, h => by rw [grp_lt (by omega)]; simp
  | n + 1, v, h => by
    by_cases hv : v < 128
    · rw [grp_lt hv]; simp
    · rw [grp_ge hv, List.length_cons]
      have := grp_len n (v / 128) (by
        rw [Nat.div_lt_iff_lt_mul (by omega)]
        rw [Nat.pow_succ] at h
        exact h)
      omega
theorem grp_ten {v : Nat} (h : v < 2 ^ 64) : (grp v).length ≤ 10 := grp_len 9 v (by omega)
def wHp (g : Option Nat) (bs : List Int) : List Ob := [.cells g [.row 1], .rows (.ints .u8 bs)]
theorem or128 : ∀ x : Fin 256, bitsI .or .u8 (x.val : Int) 128 = ((x.val % 128 + 128 : Nat) : Int) := by decide +kernel
def canon78 (v0 v : Int) (bs : List Int) : St := ⟨[(0, .one (.ptr 0 0)), (1, .one (.int .u64 v))], [.ptr 0 0, .int .u64 v0], wHp (some 0) bs⟩
theorem body78 (v0 v c b v' : Int) (bs : List Int) (hv : 127 < v) (ec : IntKind.u8.wrap v = c) (eb : bitsI .or .u8 c 128 = b) (es : shrI .u64 v 7 = v') (hm : bs.length + 1 ≤ 140737488355328) :
    ∃ st1, evC T78 KK b78x0 (canon78 v0 v bs) = some (.norm, st1) ∧ St.head [0, 1] st1 = canon78 v0 v' (bs ++ [b]) := by
  simp -implicitDefEqProofs [b78x0, canon78, wHp, upd, hv, ec, eb, es, hm, RC.len, RC.size, RC.app, RC.ofElems]
theorem end78 (v0 v : Int) (bs : List Int) (hv : ¬ 127 < v) :
    ∃ env, evC T78 KK b78x0 (canon78 v0 v bs) = some (.exit 0, ⟨env, [.ptr 0 0, .int .u64 v0], wHp (some 0) bs⟩) ∧ getT 0 env = .one (.ptr 0 0) ∧ getT 1 env = .one (.int .u64 v) := by
  simp -implicitDefEqProofs [b78x0, canon78, upd, hv]
theorem loop78 (v0 : Int) (v : Nat) : ∀ (bs : List Int) (K : Nat), v < 2 ^ 64 → bs.length + (grp v).length ≤ 140737488355000 → (grp v).length < K →
    ∃ env bs' u, loopH (evC T78 KK b78x0) [0, 1] K (canon78 v0 v bs) = some (.exit 0, ⟨env, [.ptr 0 0, .int .u64 v0], wHp (some 0) bs'⟩) ∧ getT 0 env = .one (.ptr 0 0) ∧ getT 1 env = .one (.int .u64 (u : Nat)) ∧ u < 128 ∧ bs' ++ [(u : Int)] = bs ++ grp v := by
  induction v using Nat.strongRecOn with
  | ind v ih =>
  intro bs K hv hl hK
  by_cases h : v < 128
  · obtain ⟨env, e, g0, g1⟩ := end78 v0 v bs (by omega)
    exact ⟨env, bs, v, loopH_exit e, g0, g1, h, by rw [grp_lt h]⟩
  · rw [grp_ge h] at hl hK ⊢
    simp only [List.length_cons] at hl hK
    have eb : bitsI .or .u8 ((v % 256 : Nat) : Int) 128 = ((v % 128 + 128 : Nat) : Int) := by
      have := or128 ⟨v % 256, by omega⟩
      simp only at this
      rw [this]; congr 1; omega
    obtain ⟨st1, e1, e2⟩ := body78 v0 v (v % 256 : Nat) (v % 128 + 128 : Nat) (v / 128 : Nat) bs (by omega) (by rw [IntKind.wrap_u8]; omega) eb (shr_in (n := 7) (by simp only [IntKind.bits]; omega)) (by omega)
    obtain ⟨env, bs', u, e, g0, g1, hu, hb⟩ := ih (v / 128) (by omega) (bs ++ [((v % 128 + 128 : Nat) : Int)]) (K - 1) (by omega) (by rw [List.length_append, List.length_cons, List.length_nil]; omega) (by omega)
    exact ⟨env, bs', u, by rw [loopH_norm e1 (by omega), e2]; exact e, g0, g1, hu, by rw [hb]; simp⟩
theorem f78n (v : Int) : F78 [.one .nilp, .one (.int .u64 v)] [] = some (.one .nilp, []) := by
  simp -implicitDefEqProofs [F78, c78, upd]
theorem f78 (v : Nat) (bs : List Int) (hv : v < 2 ^ 64) (hl : bs.length ≤ 140737488352000) : F78 [.one (.ptr 0 0), .one (.int .u64 v)] (wHp (some 0) bs) = some (.one (.ptr 0 0), wHp (some 0) (bs ++ grp v)) := by
  have h10 := grp_ten hv
  obtain ⟨env, bs', u, e, g0, g1, hu, hb⟩ := loop78 v v bs KK hv (by omega) (by rw [KK_eq]; omega)
  have hbl := congrArg List.length hb
  simp only [List.length_append, List.length_cons, List.length_nil] at hbl
  have w : IntKind.u8.wrap (u : Int) = u := u8_in _ (by omega)
  have hm : bs'.length + 1 ≤ 140737488355328 := by omega
  simp only [canon78, wHp] at e
  rw [← hb]
  clear hb hbl
  simp -implicitDefEqProofs [F78, c78, upd, wHp, e, g0, g1, w, hm, RC.len, RC.size, RC.app, RC.ofElems]
theorem f49n : F49 [.one .nilp] [] = some (.one (.str ⟨#[]⟩), []) := by
  simp -implicitDefEqProofs [F49, c49, upd]
theorem f49 (bs : List Int) : F49 [.one (.ptr 0 0)] (wHp (some 0) bs) = some (.one (.str (ofBytes bs)), wHp (some 0) bs) := by
  simp -implicitDefEqProofs [F49, c49, upd, wHp]
/-! ### the reader -/
def rHp (g : Option Nat) (l : List Int) (bad : Bool) : List Ob := [.cells g [.str (ofBytes l), .bool bad]]
theorem f50 (s : ByteArray) : F50 [.one (.str s)] [] = some (.one (.ptr 0 0), rHp none (toBytes s) false) := by
  simp -implicitDefEqProofs [F50, c50, upd, rHp, ofBytes_toBytes]
theorem f54n : F54 [.one .nilp] [] = some (.one (.bool true), []) := by
  simp -implicitDefEqProofs [F54, c54, upd]
theorem f54 (l : List Int) (bad : Bool) : F54 [.one (.ptr 0 0)] (rHp (some 0) l bad) = some (.one (.bool bad), rHp (some 0) l bad) := by
  simp -implicitDefEqProofs [F54, c54, upd, rHp]
theorem f79 (l : List Int) (bad : Bool) : F79 [.one (.ptr 0 0)] (rHp (some 0) l bad) = some (.tup [], rHp (some 0) [] true) := by
  simp -implicitDefEqProofs [F79, c79, upd, rHp, ofBytes_nil]
theorem f79n : F79 [.one .nilp] [] = some (.tup [], []) := by
  simp -implicitDefEqProofs [F79, c79, upd]
theorem f55n : F55 [.one .nilp] [] = some (.one (.bool false), []) := by
  simp -implicitDefEqProofs [F55, c55, upd, f54n]
theorem f55 (l : List Int) (bad : Bool) : F55 [.one (.ptr 0 0)] (rHp (some 0) l bad) = some (.one (.bool (!bad && decide (l = []))), rHp (some 0) l bad) := by
  have e54 := f54 l bad
  have e0 := emptyS l
  simp only [rHp] at e54
  cases bad <;> simp -implicitDefEqProofs [F55, c55, upd, rHp, e54, e0]
theorem f51n (n : Int) : F51 [.one .nilp, .one (.int .i64 n)] [] = some (.one (.str ⟨#[]⟩), []) := by
  by_cases h : n < 0
  · simp -implicitDefEqProofs [F51, c51, upd, f54n, f79n, h]
  · simp -implicitDefEqProofs [F51, c51, upd, f54n, f79n, h]
theorem f51b (l : List Int) (n : Int) : F51 [.one (.ptr 0 0), .one (.int .i64 n)] (rHp (some 0) l true) = some (.one (.str (ofBytes [])), rHp (some 0) [] true) := by
  have e54 := f54 l true
  have e79 := f79 l true
  simp only [rHp, ofBytes_nil] at e54 e79 ⊢
  by_cases h : n < 0
  · simp -implicitDefEqProofs [F51, c51, upd, e54, e79, h]
  · simp -implicitDefEqProofs [F51, c51, upd, e54, e79, h]
theorem f51s (l : List Int) (n : Int) (h : (l.length : Int) < n) : F51 [.one (.ptr 0 0), .one (.int .i64 n)] (rHp (some 0) l false) = some (.one (.str (ofBytes [])), rHp (some 0) [] true) := by
  have e54 := f54 l false
  have e79 := f79 l false
  have h0 : ¬ n < 0 := by omega
  simp only [rHp, ofBytes_nil] at e54 e79 ⊢
  simp -implicitDefEqProofs [F51, c51, upd, e54, e79, h0, size_ofBytes, h]
theorem f51 (l : List Int) (n : Int) (m : Nat) (h : m = if n < 0 then 0 else n.toNat) (hm : m ≤ l.length) (hl : l.length ≤ 9223372036854775807) : F51 [.one (.ptr 0 0), .one (.int .i64 n)] (rHp (some 0) l false) = some (.one (.str (ofBytes (l.take m))), rHp (some 0) (l.drop m) false) := by
  have e54 := f54 l false
  have hmi : ¬ ((l.length : Int) < (m : Int)) := by omega
  have hmn : ¬ (l.length < m) := by omega
  have htk : List.take (l.length - m) (List.drop m l) = List.drop m l := List.take_of_length_le (by rw [List.length_drop]; omega)
  simp only [rHp] at e54 ⊢
  by_cases h0 : n < 0
  · rw [if_pos h0] at h
    subst h
    have hl0 : ¬ ((l.length : Int) < 0) := by omega
    simp -implicitDefEqProofs [F51, c51, upd, e54, size_ofBytes, h0, hl0, ofBytes_extract, htk, empty_ofBytes]
  · rw [if_neg h0] at h
    obtain ⟨k, rfl⟩ : ∃ k : Nat, n = k := ⟨n.toNat, by omega⟩
    rw [Int.toNat_natCast] at h
    subst h
    simp -implicitDefEqProofs [F51, c51, upd, e54, size_ofBytes, h0, hmi, hmn, hm, ofBytes_extract, htk]
end Go.X.Try
set_option maxRecDepth 100000
set_option linter.unusedSimpArgs false
namespace Go.X.Try
open Go.IntWalk
def canon53 (v i : Int) (l : List Int) : St := ⟨[(0, .one (.ptr 0 0)), (3, .one (.int .u64 v)), (7, .one (.int .i64 i))], [.ptr 0 0], rHp (some 0) l false⟩
/-- There is no byte. -/
theorem body53a (v i : Int) (hi : i < 10) :
    ∃ env, evC T53 KK b53x0 (canon53 v i []) = some (.ret, ⟨env, [.ptr 0 0], rHp (some 0) [] true⟩) ∧ getT 2 env = .one (.int .u64 0) := by
  have e51 := f51s [] 1 (by simp)
  simp only [rHp, ofBytes_nil] at e51
  simp -implicitDefEqProofs [b53x0, canon53, rHp, upd, hi, e51, ofBytes_nil]
section
variable (v i b c : Int) (l : List Int) (e51 : F51 [.one (.ptr 0 0), .one (.int .i64 1)] (rHp (some 0) (b :: l) false) = some (.one (.str (ofBytes [b])), rHp (some 0) l false)) (ht : toBytes (ofBytes [b]) = [b]) (ec : IntKind.u64.wrap b = b)
include e51 ht ec
/-- A byte that may not be. -/
theorem body53b (hi : i < 10) (hbad : i = 9 ∧ 1 < b ∨ 0 < i ∧ b = 0) :
    ∃ env, evC T53 KK b53x0 (canon53 v i (b :: l)) = some (.exit 0, ⟨env, [.ptr 0 0], rHp (some 0) l false⟩) ∧ getT 0 env = .one (.ptr 0 0) := by
  simp only [rHp] at e51
  have hs := size_ofBytes [b]
  have he := emptyS [b]
  by_cases h9 : i = 9
  · subst h9
    by_cases h1 : 1 < b
    · simp -implicitDefEqProofs [b53x0, canon53, rHp, upd, e51, ht, ec, hs, he, h1]
    · have hb : b = 0 := by omega
      subst hb
      simp -implicitDefEqProofs [b53x0, canon53, rHp, upd, e51, ht, ec, hs, he]
  · have h0 : 0 < i := by omega
    have hb : b = 0 := by omega
    subst hb
    simp -implicitDefEqProofs [b53x0, canon53, rHp, upd, hi, e51, ht, ec, hs, he, h9, h0]
/-- The last byte. -/
theorem body53c (m s p v' : Int) (hi : i < 10) (hi0 : 0 ≤ i) (hok : ¬ (i = 9 ∧ 1 < b) ∧ ¬ (0 < i ∧ b = 0)) (hlt : b < 128) (em : bitsI .and .u64 b 127 = m) (es : IntKind.i64.wrap (7 * i) = s) (hs0 : ¬ s < 0) (ep : shlI .u64 m s = p) (ev : bitsI .or .u64 v p = v') :
    ∃ env, evC T53 KK b53x0 (canon53 v i (b :: l)) = some (.ret, ⟨env, [.ptr 0 0], rHp (some 0) l false⟩) ∧ getT 2 env = .one (.int .u64 v') := by
  simp only [rHp] at e51
  have hs := size_ofBytes [b]
  have he := emptyS [b]
  by_cases h9 : i = 9
  · subst h9
    have h1 : ¬ 1 < b := by omega
    have hb : ¬ b = 0 := by omega
    simp only [show (7 : Int) * 9 = 63 from rfl] at es
    simp -implicitDefEqProofs [b53x0, canon53, rHp, upd, e51, ht, ec, hs, he, h1, hb, em, es, hs0, ep, ev, hlt]
  · by_cases h0 : 0 < i
    · have hb : ¬ b = 0 := by omega
      simp -implicitDefEqProofs [b53x0, canon53, rHp, upd, hi, e51, ht, ec, hs, he, h9, h0, hb, em, es, hs0, ep, ev, hlt]
    · have hi : i = 0 := by omega
      subst hi
      simp only [Int.mul_zero] at es
      simp -implicitDefEqProofs [b53x0, canon53, rHp, upd, e51, ht, ec, hs, he, em, es, hs0, ep, ev, hlt]
/-- A byte, and more behind it. -/
theorem body53d (m s p v' i' : Int) (hi : i < 10) (hi0 : 0 ≤ i) (hok : ¬ (i = 9 ∧ 1 < b)) (hlt : 128 ≤ b) (em : bitsI .and .u64 b 127 = m) (es : IntKind.i64.wrap (7 * i) = s) (hs0 : ¬ s < 0) (ep : shlI .u64 m s = p) (ev : bitsI .or .u64 v p = v') (ei : IntKind.i64.wrap (i + 1) = i') :
    ∃ st1, evC T53 KK b53x0 (canon53 v i (b :: l)) = some (.norm, st1) ∧ St.head [0, 3, 7] st1 = canon53 v' i' l := by
  simp only [rHp] at e51
  have hs := size_ofBytes [b]
  have he := emptyS [b]
  have h9 : ¬ i = 9 := by omega
  have hb : ¬ b = 0 := by omega
  have hlt' : ¬ b < 128 := by omega
  by_cases h0 : 0 < i
  · simp -implicitDefEqProofs [b53x0, canon53, rHp, upd, hi, e51, ht, ec, hs, he, h9, h0, hb, em, es, hs0, ep, ev, ei, hlt', hlt]
  · have hi : i = 0 := by omega
    subst hi
    simp only [Int.mul_zero, Int.zero_add] at es ei
    simp -implicitDefEqProofs [b53x0, canon53, rHp, upd, e51, ht, ec, hs, he, em, es, hs0, ep, ev, ei, hlt', hlt]
end
/-- The number in groups at the beginning, and what stands behind. -/
def gdec : Nat → Nat → List Int → Option (Nat × List Int)
  | _, _, [] => none
  | i, v, b :: l => if i = 9 ∧ 1 < b ∨ 0 < i ∧ b = 0 then none else if b < 128 then some (v + b.toNat % 128 * 2 ^ (7 * i), l) else gdec (i + 1) (v + b.toNat % 128 * 2 ^ (7 * i)) l
theorem gdec_grp (l : List Int) (a : Nat) : ∀ (i v : Nat), i ≤ 9 → a * 2 ^ (7 * i) < 2 ^ 64 → (i = 0 ∨ 0 < a) → gdec i v (grp a ++ l) = some (v + a * 2 ^ (7 * i), l) := by
  induction a using Nat.strongRecOn with
  | ind a ih =>
  intro i v hi ha h0
  by_cases h : a < 128
  · rw [grp_lt h]
    simp only [List.cons_append, List.nil_append, gdec, Int.toNat_natCast]
    rw [if_neg, if_pos (by omega), Nat.mod_eq_of_lt h]
    rintro (⟨rfl, h1⟩ | ⟨h1, h2⟩)
    · omega
    · omega
  · rw [grp_ge h]
    have h9 : i ≠ 9 := by
      rintro rfl
      omega
    have hp : 2 ^ (7 * (i + 1)) = 128 * 2 ^ (7 * i) := by rw [Nat.mul_add, Nat.pow_add]; omega
    have hle : a / 128 * (128 * 2 ^ (7 * i)) ≤ a * 2 ^ (7 * i) := by
      rw [← Nat.mul_assoc]
      exact Nat.mul_le_mul_right _ (by omega)
    simp only [List.cons_append, gdec, Int.toNat_natCast]
    rw [if_neg (by omega), if_neg (by omega), ih (a / 128) (by omega) (i + 1) _ (by omega) (by rw [hp]; omega) (.inr (by omega)), hp]
    congr 2
    have e1 : (a % 128 + 128) % 128 = a % 128 := by omega
    rw [e1, ← Nat.mul_assoc, Nat.add_assoc, ← Nat.add_mul]
    congr 2
    omega
theorem and127 {b : Int} (h : 0 ≤ b ∧ b < 256) : bitsI .and .u64 b 127 = ((b.toNat % 128 : Nat) : Int) := by
  obtain ⟨n, rfl⟩ : ∃ n : Nat, b = n := ⟨b.toNat, by omega⟩
  have := mask_and (k := .u64) (x := n) (n := 7) rfl (by simp only [IntKind.bits]; omega) (by simp only [IntKind.bits]; omega)
  simpa using this
theorem loop53 : ∀ (l : List Int) (i v : Nat) (K : Nat), isB l → l.length ≤ 140737488352000 → i ≤ 9 → v < 2 ^ (7 * i) → 12 ≤ i + K →
    match gdec i v l with
    | some (u, rest) => ∃ env, loopH (evC T53 KK b53x0) [0, 3, 7] K (canon53 v i l) = some (.ret, ⟨env, [.ptr 0 0], rHp (some 0) rest false⟩) ∧ getT 2 env = .one (.int .u64 (u : Nat))
    | none => (∃ env, loopH (evC T53 KK b53x0) [0, 3, 7] K (canon53 v i l) = some (.ret, ⟨env, [.ptr 0 0], rHp (some 0) [] true⟩) ∧ getT 2 env = .one (.int .u64 0)) ∨ (∃ env rest, loopH (evC T53 KK b53x0) [0, 3, 7] K (canon53 v i l) = some (.exit 0, ⟨env, [.ptr 0 0], rHp (some 0) rest false⟩) ∧ getT 0 env = .one (.ptr 0 0))
  | [], i, v, K, _, _, hi, _, hK => by
    simp only [gdec]
    obtain ⟨env, e, g⟩ := body53a v i (by omega)
    exact .inl ⟨env, loopH_ret e, g⟩
  | b :: l, i, v, K, hB, hl, hi, hv, hK => by
    have hb := hB b (by simp)
    have hl' : l.length ≤ 140737488352000 := by simp only [List.length_cons] at hl; omega
    have e51 := f51 (b :: l) 1 1 rfl (by simp) (by simp only [List.length_cons] at hl ⊢; omega)
    simp only [List.take_succ_cons, List.take_zero, List.drop_succ_cons, List.drop_zero] at e51
    have ht := toBytes_ofBytes (isB_one hb)
    have ec : IntKind.u64.wrap b = b := u64_in _ (by omega)
    have es : IntKind.i64.wrap (7 * (i : Int)) = ((7 * i : Nat) : Int) := by rw [i64_in _ (by omega)]; omega
    simp only [gdec]
    by_cases hbad : i = 9 ∧ 1 < b ∨ 0 < i ∧ b = 0
    · rw [if_pos hbad]
      obtain ⟨env, e, g⟩ := body53b v i b l e51 ht ec (by omega) (by omega)
      exact .inr ⟨env, l, loopH_exit e, g⟩
    · rw [if_neg hbad]
      have hfit : v + b.toNat % 128 * 2 ^ (7 * i) < 2 ^ 64 := by
        rcases Nat.lt_or_ge i 9 with h9 | h9
        · have e1 : (b.toNat % 128 + 1) * 2 ^ (7 * i) ≤ 128 * 2 ^ (7 * i) := Nat.mul_le_mul_right _ (by omega)
          have e2 : 128 * 2 ^ (7 * i) = 2 ^ (7 * i + 7) := by rw [Nat.pow_add]; omega
          have e3 : 2 ^ (7 * i + 7) ≤ 2 ^ 64 := Nat.pow_le_pow_right (by omega) (by omega)
          rw [Nat.add_mul, Nat.one_mul] at e1
          omega
        · obtain rfl : i = 9 := by omega
          have : b.toNat ≤ 1 := by omega
          have e1 : b.toNat % 128 * 2 ^ (7 * 9) ≤ 1 * 2 ^ (7 * 9) := Nat.mul_le_mul_right _ (by omega)
          omega
      have ep : shlI .u64 ((b.toNat % 128 : Nat) : Int) ((7 * i : Nat) : Int) = ((b.toNat % 128 * 2 ^ (7 * i) : Nat) : Int) := shl_in rfl (by simp only [IntKind.bits]; omega) (by simp only [IntKind.bits]; omega)
      have ev : bitsI .or .u64 (v : Int) ((b.toNat % 128 * 2 ^ (7 * i) : Nat) : Int) = ((v + b.toNat % 128 * 2 ^ (7 * i) : Nat) : Int) := or_add rfl hv (by simp only [IntKind.bits]; exact hfit)
      by_cases hlt : b < 128
      · rw [if_pos hlt]
        obtain ⟨env, e, g⟩ := body53c v i b l e51 ht ec _ _ _ _ (by omega) (by omega) (by omega) hlt (and127 hb) es (by omega) ep ev
        exact ⟨env, loopH_ret e, g⟩
      · rw [if_neg hlt]
        have hi9 : i ≠ 9 := by omega
        have hv' : v + b.toNat % 128 * 2 ^ (7 * i) < 2 ^ (7 * (i + 1)) := by
          have e1 : (b.toNat % 128 + 1) * 2 ^ (7 * i) ≤ 128 * 2 ^ (7 * i) := Nat.mul_le_mul_right _ (by omega)
          rw [Nat.add_mul, Nat.one_mul] at e1
          rw [Nat.mul_add, Nat.pow_add]
          omega
        obtain ⟨st1, e1, e2⟩ := body53d v i b l e51 ht ec _ _ _ _ ((i + 1 : Nat) : Int) (by omega) (by omega) (by omega) (by omega) (and127 hb) es (by omega) ep ev (by rw [i64_in _ (by omega)]; omega)
        have hK2 : 1 < K := by omega
        have next := loop53 l (i + 1) (v + b.toNat % 128 * 2 ^ (7 * i)) (K - 1) hB.tail hl' (by omega) hv' (by omega)
        cases hg : gdec (i + 1) (v + b.toNat % 128 * 2 ^ (7 * i)) l with
        | none =>
          rw [hg] at next
          simp only at next ⊢
          rcases next with ⟨env, e, g⟩ | ⟨env, rest, e, g⟩
          · exact .inl ⟨env, by rw [loopH_norm e1 hK2, e2]; exact e, g⟩
          · exact .inr ⟨env, rest, by rw [loopH_norm e1 hK2, e2]; exact e, g⟩
        | some p =>
          obtain ⟨u, rest⟩ := p
          rw [hg] at next
          simp only at next ⊢
          obtain ⟨env, e, g⟩ := next
          exact ⟨env, by rw [loopH_norm e1 hK2, e2]; exact e, g⟩
/-- What a reader of groups answers, and what is left. -/
def gAns (l : List Int) : Nat × List Int × Bool := match gdec 0 0 l with
  | some (v, rest) => (v, rest, false)
  | none => (0, [], true)
theorem f53 (l : List Int) (hB : isB l) (hl : l.length ≤ 140737488352000) : F53 [.one (.ptr 0 0)] (rHp (some 0) l false) = some (.one (.int .u64 (gAns l).1), rHp (some 0) (gAns l).2.1 (gAns l).2.2) := by
  have h := loop53 l 0 0 KK hB hl (by omega) (by simp) (by rw [KK_eq]; omega)
  have z : ((0 : Nat) : Int) = 0 := rfl
  unfold gAns
  cases hg : gdec 0 0 l with
  | none =>
    rw [hg] at h
    simp only [canon53, rHp, z] at h ⊢
    rcases h with ⟨env, e, g⟩ | ⟨env, rest, e, g⟩
    · simp -implicitDefEqProofs [F53, c53, upd, e, g, ofBytes_nil]
    · have e79 := f79 rest false
      simp only [rHp] at e79
      simp -implicitDefEqProofs [F53, c53, upd, e, g, e79, ofBytes_nil]
  | some p =>
    obtain ⟨u, rest⟩ := p
    rw [hg] at h
    simp only [canon53, rHp, z] at h ⊢
    obtain ⟨env, e, g⟩ := h
    simp -implicitDefEqProofs [F53, c53, upd, e, g]
theorem f53b (l : List Int) : F53 [.one (.ptr 0 0)] (rHp (some 0) l true) = some (.one (.int .u64 0), rHp (some 0) [] true) := by
  have e51 := f51b l 1
  have body : ∃ env, evC T53 KK b53x0 ⟨[(0, .one (.ptr 0 0)), (3, .one (.int .u64 0)), (7, .one (.int .i64 0))], [.ptr 0 0], rHp (some 0) l true⟩ = some (.ret, ⟨env, [.ptr 0 0], rHp (some 0) [] true⟩) ∧ getT 2 env = .one (.int .u64 0) := by
    simp only [rHp, ofBytes_nil] at e51 ⊢
    simp -implicitDefEqProofs [b53x0, upd, e51]
  obtain ⟨env, e, g⟩ := body
  have e' := loopH_ret (live := [0, 3, 7]) (k := KK) e
  simp only [rHp] at e' ⊢
  simp -implicitDefEqProofs [F53, c53, upd, e', g]
theorem f53n : F53 [.one .nilp] [] = some (.one (.int .u64 0), []) := by
  have e51 := f51n 1
  have body : ∃ env, evC T53 KK b53x0 ⟨[(0, .one .nilp), (3, .one (.int .u64 0)), (7, .one (.int .i64 0))], [.nilp], []⟩ = some (.ret, ⟨env, [.nilp], []⟩) ∧ getT 2 env = .one (.int .u64 0) := by
    simp -implicitDefEqProofs [b53x0, upd, e51]
  obtain ⟨env, e, g⟩ := body
  have e' := loopH_ret (live := [0, 3, 7]) (k := KK) e
  simp -implicitDefEqProofs [F53, c53, upd, e', g]
end Go.X.Try
set_option maxRecDepth 100000
set_option linter.unusedSimpArgs false
namespace Go.X.Try
open Go.IntWalk
theorem f46n (s : ByteArray) : F46 [.one .nilp, .one (.str s)] [] = some (.one .nilp, []) := by
  simp -implicitDefEqProofs [F46, c46, upd]
theorem f46 (s : ByteArray) (bs : List Int) (h : bs.length + s.size ≤ 140737488355328) : F46 [.one (.ptr 0 0), .one (.str s)] (wHp (some 0) bs) = some (.one (.ptr 0 0), wHp (some 0) (bs ++ toBytes s)) := by
  have hm : bs.length + (toBytes s).length ≤ 140737488355328 := by rw [size_toBytes]; exact h
  simp -implicitDefEqProofs [F46, c46, upd, wHp, hm, RC.len, RC.size, RC.app]
theorem f48 (s : ByteArray) (bs : List Int) (h : bs.length ≤ 1000) (hs : s.size ≤ 140737488351232) : F48 [.one (.ptr 0 0), .one (.str s)] (wHp (some 0) bs) = some (.one (.ptr 0 0), wHp (some 0) (bs ++ grp s.size ++ toBytes s)) := by
  have w : IntKind.u64.wrap (s.size : Int) = s.size := u64_in _ (by omega)
  have e78 := f78 s.size bs (by omega) (by omega)
  have h10 := grp_ten (v := s.size) (by omega)
  have e46 := f46 s (bs ++ grp s.size) (by rw [List.length_append]; omega)
  simp only [wHp] at e78 e46
  simp -implicitDefEqProofs [F48, c48, upd, wHp, w, e78, e46]
/-- What a reader of so many bytes answers, and what is left. -/
def rAns (l : List Int) (n : Int) : List Int × List Int × Bool := if (l.length : Int) < n then ([], [], true) else (l.take n.toNat, l.drop n.toNat, false)
theorem f51' (l : List Int) (n : Int) (hl : l.length ≤ 140737488352000) : F51 [.one (.ptr 0 0), .one (.int .i64 n)] (rHp (some 0) l false) = some (.one (.str (ofBytes (rAns l n).1)), rHp (some 0) (rAns l n).2.1 (rAns l n).2.2) := by
  unfold rAns
  by_cases h : (l.length : Int) < n
  · rw [if_pos h]; exact f51s l n h
  · rw [if_neg h]
    by_cases h0 : n < 0
    · have e : n.toNat = 0 := by omega
      rw [e]
      exact f51 l n 0 (by rw [if_pos h0]) (by omega) (by omega)
    · exact f51 l n n.toNat (by rw [if_neg h0]) (by omega) (by omega)
/-- .. a number in groups, not above another one. -/
def iAns (l : List Int) (most : Int) : Nat × List Int × Bool := if (gAns l).2.2 = true ∨ most < 0 ∨ most < (gAns l).1 then (0, [], true) else gAns l
theorem f81b (l : List Int) (most : Int) : F81 [.one (.ptr 0 0), .one (.int .i64 most)] (rHp (some 0) l true) = some (.one (.int .i64 0), rHp (some 0) [] true) := by
  have e53 := f53b l
  have e54 := f54 [] true
  have e79 := f79 [] true
  simp only [rHp] at e53 e54 e79 ⊢
  simp -implicitDefEqProofs [F81, c81, upd, e53, e54, e79]
theorem gdec_lt : ∀ (l : List Int) (i v u : Nat) (r : List Int), isB l → i ≤ 9 → v < 2 ^ (7 * i) → gdec i v l = some (u, r) → u < 2 ^ 64
  | [], _, _, _, _, _, _, _, h => by simp [gdec] at h
  | b :: l, i, v, u, r, hB, hi, hv, h => by
    have hb := hB b (by simp)
    simp only [gdec] at h
    by_cases hbad : i = 9 ∧ 1 < b ∨ 0 < i ∧ b = 0
    · rw [if_pos hbad] at h; cases h
    · rw [if_neg hbad] at h
      by_cases hlt : b < 128
      · rw [if_pos hlt] at h
        simp only [Option.some.injEq, Prod.mk.injEq] at h
        rw [← h.1]
        rcases Nat.lt_or_ge i 9 with h9 | h9
        · have e1 : (b.toNat % 128 + 1) * 2 ^ (7 * i) ≤ 128 * 2 ^ (7 * i) := Nat.mul_le_mul_right _ (by omega)
          have e2 : 128 * 2 ^ (7 * i) = 2 ^ (7 * i + 7) := by rw [Nat.pow_add]; omega
          have e3 : 2 ^ (7 * i + 7) ≤ 2 ^ 64 := Nat.pow_le_pow_right (by omega) (by omega)
          rw [Nat.add_mul, Nat.one_mul] at e1
          omega
        · obtain rfl : i = 9 := by omega
          have : b.toNat ≤ 1 := by omega
          have e1 : b.toNat % 128 * 2 ^ (7 * 9) ≤ 1 * 2 ^ (7 * 9) := Nat.mul_le_mul_right _ (by omega)
          omega
      · rw [if_neg hlt] at h
        have hv' : v + b.toNat % 128 * 2 ^ (7 * i) < 2 ^ (7 * (i + 1)) := by
          have e1 : (b.toNat % 128 + 1) * 2 ^ (7 * i) ≤ 128 * 2 ^ (7 * i) := Nat.mul_le_mul_right _ (by omega)
          rw [Nat.add_mul, Nat.one_mul] at e1
          rw [Nat.mul_add, Nat.pow_add]
          omega
        exact gdec_lt l (i + 1) _ u r hB.tail (by omega) hv' h
theorem gdec_len : ∀ (l : List Int) (i v u : Nat) (r : List Int), gdec i v l = some (u, r) → r.length < l.length
  | [], _, _, _, _, h => by simp [gdec] at h
  | b :: l, i, v, u, r, h => by
    simp only [gdec] at h
    split at h
    · cases h
    · split at h
      · simp only [Option.some.injEq, Prod.mk.injEq] at h
        rw [← h.2]; simp
      · have := gdec_len l _ _ u r h
        simp only [List.length_cons]; omega
theorem gdec_isB : ∀ (l : List Int) (i v u : Nat) (r : List Int), isB l → gdec i v l = some (u, r) → isB r
  | [], _, _, _, _, _, h => by simp [gdec] at h
  | b :: l, i, v, u, r, hB, h => by
    simp only [gdec] at h
    split at h
    · cases h
    · split at h
      · simp only [Option.some.injEq, Prod.mk.injEq] at h
        rw [← h.2]; exact hB.tail
      · exact gdec_isB l _ _ u r hB.tail h
theorem gAns_ok (l : List Int) (hB : isB l) : (gAns l).1 < 2 ^ 64 ∧ isB (gAns l).2.1 ∧ (gAns l).2.1.length ≤ l.length := by
  unfold gAns
  cases h : gdec 0 0 l with
  | none => simp [isB]
  | some p =>
    obtain ⟨u, r⟩ := p
    have := gdec_len l 0 0 u r h
    exact ⟨gdec_lt l 0 0 u r hB (by omega) (by simp) h, gdec_isB l 0 0 u r hB h, by simp only; omega⟩
theorem f81 (l : List Int) (most : Int) (hm : most ≤ 9223372036854775807) (hB : isB l) (hl : l.length ≤ 140737488352000) : F81 [.one (.ptr 0 0), .one (.int .i64 most)] (rHp (some 0) l false) = some (.one (.int .i64 (iAns l most).1), rHp (some 0) (iAns l most).2.1 (iAns l most).2.2) := by
  have e53 := f53 l hB hl
  have hlt := (gAns_ok l hB).1
  have e54 := f54 (gAns l).2.1 (gAns l).2.2
  have e79 := f79 (gAns l).2.1 (gAns l).2.2
  unfold iAns
  generalize hq : gAns l = q at *
  obtain ⟨v', r, bad⟩ := q
  simp only at e53 e54 e79 hlt ⊢
  simp only [rHp] at e53 e54 e79 ⊢
  cases bad with
  | true => simp -implicitDefEqProofs [F81, c81, upd, e53, e54, e79]
  | false =>
    by_cases h0 : most < 0
    · simp -implicitDefEqProofs [F81, c81, upd, e53, e54, e79, h0]
    · have w : IntKind.u64.wrap most = most := u64_in _ (by omega)
      by_cases h1 : most < (v' : Int)
      · simp -implicitDefEqProofs [F81, c81, upd, e53, e54, e79, h0, w, h1]
      · have w2 : IntKind.i64.wrap (v' : Int) = v' := i64_in _ (by omega)
        simp -implicitDefEqProofs [F81, c81, upd, e53, e54, e79, h0, w, w2, h1]
theorem f82b (l : List Int) (most : Int) : F82 [.one (.ptr 0 0), .one (.int .i64 most)] (rHp (some 0) l true) = some (.one (.str (ofBytes [])), rHp (some 0) [] true) := by
  have e81 := f81b l most
  have e51 := f51b [] 0
  simp only [rHp] at e81 e51 ⊢
  simp -implicitDefEqProofs [F82, c82, upd, e81, e51]
/-- .. of a text. -/
def tAns (l : List Int) (most : Int) : List Int × List Int × Bool := if (iAns l most).2.2 = true then ([], [], true) else rAns (iAns l most).2.1 (iAns l most).1
theorem f82 (l : List Int) (most : Int) (hm : most ≤ 9223372036854775807) (hB : isB l) (hl : l.length ≤ 140737488352000) : F82 [.one (.ptr 0 0), .one (.int .i64 most)] (rHp (some 0) l false) = some (.one (.str (ofBytes (tAns l most).1)), rHp (some 0) (tAns l most).2.1 (tAns l most).2.2) := by
  have e81 := f81 l most hm hB hl
  have hg := (gAns_ok l hB).2.2
  have hi : (iAns l most).2.1.length ≤ 140737488352000 := by
    unfold iAns
    split
    · simp
    · omega
  unfold tAns
  generalize hq : iAns l most = q at *
  obtain ⟨v, r, bad⟩ := q
  simp only at e81 hi ⊢
  cases bad with
  | true =>
    have e51 := f51b r v
    rw [if_pos rfl]
    simp only [rHp] at e81 e51 ⊢
    simp -implicitDefEqProofs [F82, c82, upd, e81, e51]
  | false =>
    have e51 := f51' r v hi
    rw [if_neg (by simp)]
    generalize rAns r v = t at *
    obtain ⟨x, y, z⟩ := t
    simp only [rHp] at e81 e51 ⊢
    simp -implicitDefEqProofs [F82, c82, upd, e81, e51]
theorem gAns_grp (a : Nat) (l : List Int) (ha : a < 2 ^ 64) : gAns (grp a ++ l) = (a, l, false) := by
  unfold gAns
  rw [gdec_grp l a 0 0 (by omega) (by simpa using ha) (.inl rfl)]
  simp
theorem grp_mono : ∀ (b a : Nat), a ≤ b → (grp a).length ≤ (grp b).length := by
  intro b
  induction b using Nat.strongRecOn with
  | ind b ih =>
  intro a hab
  by_cases ha : a < 128
  · rw [grp_lt ha]
    by_cases hb : b < 128
    · rw [grp_lt hb]; simp
    · rw [grp_ge hb]; simp
  · rw [grp_ge ha, grp_ge (by omega : ¬ b < 128), List.length_cons, List.length_cons]
    have := ih (b / 128) (by omega) (a / 128) (by omega)
    omega
theorem grp_pos (a : Nat) : 1 ≤ (grp a).length := by
  have := grp_mono a 0 (by omega)
  rw [grp_lt (by omega)] at this
  simpa using this
theorem grp_inj {a b : Nat} (ha : a < 2 ^ 64) (hb : b < 2 ^ 64) : grp a = grp b ↔ a = b := by
  refine ⟨fun h => ?_, fun h => by rw [h]⟩
  have h1 := gAns_grp a [] ha
  rw [h, gAns_grp b [] hb] at h1
  simp only [Prod.mk.injEq] at h1
  exact h1.1.symm
end Go.X.Try
set_option maxRecDepth 100000
set_option linter.unusedSimpArgs false
namespace Go.X.Try
open Go.IntWalk
def sz (n : Int) : Nat := if n < 0 then 0 else if 8 < n then 8 else n.toNat
theorem sz_le (n : Int) : sz n ≤ 8 := by unfold sz; split; omega; split <;> omega
theorem f77 (n : Int) : F77 [.one (.int .i64 n)] [] = some (.one (.int .i64 (sz n)), []) := by
  unfold sz
  by_cases h : n < 0
  · simp -implicitDefEqProofs [F77, c77, upd, h]
  · by_cases h8 : 8 < n
    · simp -implicitDefEqProofs [F77, c77, upd, h, h8]
    · have e : ((n.toNat : Nat) : Int) = n := by omega
      simp -implicitDefEqProofs [F77, c77, upd, h, h8, e]
/-- A number in so many bytes. -/
def fixB : Nat → Nat → List Int
  | _, 0 => []
  | v, n + 1 => ((v % 256 : Nat) : Int) :: fixB (v / 256) n
theorem fixB_length : ∀ (n v : Nat), (fixB v n).length = n
  | 0, _ => rfl
  | n + 1, v => by simp [fixB, fixB_length n]
theorem fixB_isB : ∀ (n v : Nat), isB (fixB v n)
  | 0, _ => by simp [fixB, isB]
  | n + 1, v => fun b hb => by
    rcases List.mem_cons.1 hb with rfl | hb
    · omega
    · exact fixB_isB n _ b hb
def canon47 (v0 n0 v m i : Int) (bs : List Int) : St := ⟨[(0, .one (.ptr 0 0)), (1, .one (.int .u64 v)), (10, .one (.int .i64 m)), (11, .one (.int .i64 i))], [.ptr 0 0, .int .u64 v0, .int .i64 n0], wHp (some 0) bs⟩
theorem body47 (v0 n0 v m i b v' i' : Int) (bs : List Int) (hi : i < m) (eb : IntKind.u8.wrap v = b) (es : shrI .u64 v 8 = v') (ei : IntKind.i64.wrap (i + 1) = i') (hm : bs.length + 1 ≤ 140737488355328) :
    ∃ st1, evC T47 KK b47x0 (canon47 v0 n0 v m i bs) = some (.norm, st1) ∧ St.head [0, 1, 10, 11] st1 = canon47 v0 n0 v' m i' (bs ++ [b]) := by
  simp -implicitDefEqProofs [b47x0, canon47, wHp, upd, hi, eb, es, ei, hm, RC.len, RC.size, RC.app, RC.ofElems]
theorem end47 (v0 n0 v m i : Int) (bs : List Int) (hi : ¬ i < m) :
    ∃ env, evC T47 KK b47x0 (canon47 v0 n0 v m i bs) = some (.exit 0, ⟨env, [.ptr 0 0, .int .u64 v0, .int .i64 n0], wHp (some 0) bs⟩) ∧ getT 0 env = .one (.ptr 0 0) := by
  simp -implicitDefEqProofs [b47x0, canon47, upd, hi]
theorem loop47 (v0 n0 : Int) (m : Nat) (hm : m ≤ 8) : ∀ (j i v : Nat) (bs : List Int) (K : Nat), i + j = m → v < 2 ^ 64 → bs.length + j ≤ 140737488355000 → j < K →
    ∃ env, loopH (evC T47 KK b47x0) [0, 1, 10, 11] K (canon47 v0 n0 v m i bs) = some (.exit 0, ⟨env, [.ptr 0 0, .int .u64 v0, .int .i64 n0], wHp (some 0) (bs ++ fixB v j)⟩) ∧ getT 0 env = .one (.ptr 0 0)
  | 0, i, v, bs, K, hi, hv, hl, hK => by
    obtain ⟨env, e, g⟩ := end47 v0 n0 v m i bs (by omega)
    exact ⟨env, by rw [loopH_exit e]; simp [fixB], g⟩
  | j + 1, i, v, bs, K, hi, hv, hl, hK => by
    obtain ⟨st1, e1, e2⟩ := body47 v0 n0 v m i (v % 256 : Nat) (v / 256 : Nat) (i + 1 : Nat) bs (by omega) (by rw [IntKind.wrap_u8]; omega) (shr_in (n := 8) (by simp only [IntKind.bits]; omega)) (by rw [i64_in _ (by omega)]; omega) (by omega)
    obtain ⟨env, e, g⟩ := loop47 v0 n0 m hm j (i + 1) (v / 256) (bs ++ [((v % 256 : Nat) : Int)]) (K - 1) (by omega) (by omega) (by rw [List.length_append, List.length_cons, List.length_nil]; omega) (by omega)
    exact ⟨env, by rw [loopH_norm e1 (by omega), e2, e]; simp [fixB], g⟩
theorem f47 (v : Nat) (n : Int) (bs : List Int) (hv : v < 2 ^ 64) (hl : bs.length ≤ 140737488352000) : F47 [.one (.ptr 0 0), .one (.int .u64 v), .one (.int .i64 n)] (wHp (some 0) bs) = some (.one (.ptr 0 0), wHp (some 0) (bs ++ fixB v (sz n))) := by
  have h8 := sz_le n
  have e77 := f77 n
  obtain ⟨env, e, g⟩ := loop47 v n (sz n) h8 (sz n) 0 v bs KK (by omega) hv (by omega) (by rw [KK_eq]; omega)
  have z : ((0 : Nat) : Int) = 0 := rfl
  simp only [canon47, wHp, z] at e
  simp -implicitDefEqProofs [F47, c47, upd, wHp, e77, e, g]
def canon56 (v0 n0 v : Int) (l : List Int) (i : Int) : St := ⟨[(0, .one (.int .u64 v)), (1, .one (.int .i64 n0)), (5, .one (.str (ofBytes l))), (6, .one (.int .i64 i))], [.int .u64 v0, .int .i64 n0], []⟩
theorem body56 (v0 n0 v r b v' i i' : Int) (l : List Int) (hi : i < n0) (hi8 : i < 8) (er : v.tmod 256 = r) (eb : IntKind.u8.wrap r = b) (es : IntKind.u64.wrap (v.tdiv 256) = v') (ei : IntKind.i64.wrap (i + 1) = i') (hm : l.length + 1 ≤ 9223372036854775807) :
    ∃ st1, evC T56 KK b56x0 (canon56 v0 n0 v l i) = some (.norm, st1) ∧ St.head [0, 1, 5, 6] st1 = canon56 v0 n0 v' (l ++ [b]) i' := by
  have e1 := ofBytes_append l [b]
  have e2 := size_ofBytes [b]
  have e3 := size_ofBytes l
  simp -implicitDefEqProofs [b56x0, canon56, upd, hi, hi8, er, eb, es, ei, hm, e1, e2, e3, RC.len, RC.size, RC.app, RC.ofElems]
theorem end56 (v0 n0 v i : Int) (l : List Int) (hi : n0 ≤ i ∨ 8 ≤ i) :
    ∃ env, evC T56 KK b56x0 (canon56 v0 n0 v l i) = some (.exit 0, ⟨env, [.int .u64 v0, .int .i64 n0], []⟩) ∧ getT 5 env = .one (.str (ofBytes l)) := by
  by_cases h : i < n0
  · have h8 : ¬ i < 8 := by omega
    simp -implicitDefEqProofs [b56x0, canon56, upd, h, h8]
  · simp -implicitDefEqProofs [b56x0, canon56, upd, h]
theorem loop56 (v0 n0 : Int) : ∀ (j i v : Nat) (l : List Int) (K : Nat), i + j = sz n0 → v < 2 ^ 64 → l.length ≤ i → j < K →
    ∃ env, loopH (evC T56 KK b56x0) [0, 1, 5, 6] K (canon56 v0 n0 v l i) = some (.exit 0, ⟨env, [.int .u64 v0, .int .i64 n0], []⟩) ∧ getT 5 env = .one (.str (ofBytes (l ++ fixB v j)))
  | 0, i, v, l, K, hi, hv, hl, hK => by
    obtain ⟨env, e, g⟩ := end56 v0 n0 v i l (by unfold sz at hi; split at hi; omega; split at hi <;> omega)
    exact ⟨env, loopH_exit e, by rw [g]; simp [fixB]⟩
  | j + 1, i, v, l, K, hi, hv, hl, hK => by
    have h8 := sz_le n0
    have hlt : (i : Int) < n0 := by unfold sz at hi; split at hi; omega; split at hi <;> omega
    obtain ⟨st1, e1, e2⟩ := body56 v0 n0 v (v % 256 : Nat) (v % 256 : Nat) (v / 256 : Nat) i (i + 1 : Nat) l hlt (by omega) (by rw [Int.tmod_eq_emod_of_nonneg (by omega)]; omega) (u8_in _ (by omega)) (by rw [Int.tdiv_eq_ediv_of_nonneg (by omega), u64_in _ (by omega)]; omega) (by rw [i64_in _ (by omega)]; omega) (by omega)
    obtain ⟨env, e, g⟩ := loop56 v0 n0 j (i + 1) (v / 256) (l ++ [((v % 256 : Nat) : Int)]) (K - 1) (by omega) (by omega) (by rw [List.length_append, List.length_cons, List.length_nil]; omega) (by omega)
    exact ⟨env, by rw [loopH_norm e1 (by omega), e2]; exact e, by rw [g]; simp [fixB]⟩
theorem f56 (v : Nat) (n : Int) (hv : v < 2 ^ 64) : F56 [.one (.int .u64 v), .one (.int .i64 n)] [] = some (.one (.str (ofBytes (fixB v (sz n)))), []) := by
  have h8 := sz_le n
  obtain ⟨env, e, g⟩ := loop56 v n (sz n) 0 v [] KK (by omega) hv (Nat.le_refl _) (by rw [KK_eq]; omega)
  have z : ((0 : Nat) : Int) = 0 := rfl
  simp only [canon56, ofBytes_nil, z, List.nil_append] at e g
  simp -implicitDefEqProofs [F56, c56, upd, e, g]
def canon80 (v0 v : Int) (l : List Int) : St := ⟨[(0, .one (.int .u64 v)), (3, .one (.str (ofBytes l)))], [.int .u64 v0], []⟩
theorem body80 (v0 v r s b v' : Int) (l : List Int) (hv : 128 ≤ v) (er : v.tmod 128 = r) (es : IntKind.u64.wrap (r + 128) = s) (eb : IntKind.u8.wrap s = b) (ev : IntKind.u64.wrap (v.tdiv 128) = v') (hm : l.length + 1 ≤ 9223372036854775807) :
    ∃ st1, evC T80 KK b80x0 (canon80 v0 v l) = some (.norm, st1) ∧ St.head [0, 3] st1 = canon80 v0 v' (l ++ [b]) := by
  have e1 := ofBytes_append l [b]
  have e2 := size_ofBytes [b]
  have e3 := size_ofBytes l
  simp -implicitDefEqProofs [b80x0, canon80, upd, hv, er, es, eb, ev, hm, e1, e2, e3, RC.len, RC.size, RC.app, RC.ofElems]
theorem end80 (v0 v : Int) (l : List Int) (hv : ¬ 128 ≤ v) :
    ∃ env, evC T80 KK b80x0 (canon80 v0 v l) = some (.exit 0, ⟨env, [.int .u64 v0], []⟩) ∧ getT 0 env = .one (.int .u64 v) ∧ getT 3 env = .one (.str (ofBytes l)) := by
  simp -implicitDefEqProofs [b80x0, canon80, upd, hv]
theorem loop80 (v0 : Int) (v : Nat) : ∀ (l : List Int) (K : Nat), v < 2 ^ 64 → l.length ≤ 90000 → (grp v).length < K → (grp v).length + l.length ≤ 90000 →
    ∃ env l' u, loopH (evC T80 KK b80x0) [0, 3] K (canon80 v0 v l) = some (.exit 0, ⟨env, [.int .u64 v0], []⟩) ∧ getT 0 env = .one (.int .u64 (u : Nat)) ∧ getT 3 env = .one (.str (ofBytes l')) ∧ u < 128 ∧ l' ++ [(u : Int)] = l ++ grp v := by
  induction v using Nat.strongRecOn with
  | ind v ih =>
  intro l K hv hl hK hl2
  by_cases h : v < 128
  · obtain ⟨env, e, g0, g3⟩ := end80 v0 v l (by omega)
    exact ⟨env, l, v, loopH_exit e, g0, g3, h, by rw [grp_lt h]⟩
  · rw [grp_ge h] at hK hl2 ⊢
    simp only [List.length_cons] at hK hl2
    obtain ⟨st1, e1, e2⟩ := body80 v0 v (v % 128 : Nat) (v % 128 + 128 : Nat) (v % 128 + 128 : Nat) (v / 128 : Nat) l (by omega) (by rw [Int.tmod_eq_emod_of_nonneg (by omega)]; omega) (by rw [u64_in _ (by omega)]; omega) (u8_in _ (by omega)) (by rw [Int.tdiv_eq_ediv_of_nonneg (by omega), u64_in _ (by omega)]; omega) (by omega)
    obtain ⟨env, l', u, e, g0, g3, hu, hb⟩ := ih (v / 128) (by omega) (l ++ [((v % 128 + 128 : Nat) : Int)]) (K - 1) (by omega) (by rw [List.length_append, List.length_cons, List.length_nil]; omega) (by omega) (by rw [List.length_append, List.length_cons, List.length_nil]; omega)
    exact ⟨env, l', u, by rw [loopH_norm e1 (by omega), e2]; exact e, g0, g3, hu, by rw [hb]; simp⟩
theorem f80 (v : Nat) (hv : v < 2 ^ 64) : F80 [.one (.int .u64 v)] [] = some (.one (.str (ofBytes (grp v))), []) := by
  have h10 := grp_ten hv
  obtain ⟨env, l, u, e, g0, g3, hu, hb⟩ := loop80 v v [] KK hv (by simp) (by rw [KK_eq]; omega) (by simp only [List.length_nil]; omega)
  rw [List.nil_append] at hb
  have hl := congrArg List.length hb
  simp only [List.length_append, List.length_cons, List.length_nil] at hl
  have w : IntKind.u8.wrap (u : Int) = u := u8_in _ (by omega)
  have e1 := ofBytes_append l [(u : Int)]
  have e2 := size_ofBytes [(u : Int)]
  have e3 := size_ofBytes l
  have hm : l.length + 1 ≤ 9223372036854775807 := by omega
  simp only [canon80, ofBytes_nil] at e
  rw [← hb]
  clear hb hl
  simp -implicitDefEqProofs [F80, c80, upd, e, g0, g3, w, e1, e2, e3, hm, RC.ofElems]
theorem f57 (s : ByteArray) (hs : s.size ≤ 100000) : F57 [.one (.str s)] [] = some (.one (.str (ofBytes (grp s.size ++ toBytes s))), []) := by
  have w : IntKind.u64.wrap (s.size : Int) = s.size := u64_in _ (by omega)
  have e80 := f80 s.size (by omega)
  have h10 := grp_ten (v := s.size) (by omega)
  have e1 := ofBytes_append (grp s.size) (toBytes s)
  rw [ofBytes_toBytes] at e1
  have e3 := size_ofBytes (grp s.size)
  have hm : (grp s.size).length + s.size ≤ 9223372036854775807 := by omega
  simp -implicitDefEqProofs [F57, c57, upd, w, e80, e1, e3, hm]
def canon59 (l : List Int) (v i : Int) : St := ⟨[(0, .one (.str (ofBytes l))), (3, .one (.int .u64 v)), (4, .one (.int .i64 i))], [.str (ofBytes l)], []⟩
theorem body59 (l : List Int) (v i' m b s : Int) (i : Nat) (ht : toBytes (ofBytes l) = l) (hi : i < l.length) (hb : l[i]?.getD 0 = b) (em : IntKind.u64.wrap (v * 256) = m) (ew : IntKind.u64.wrap b = b) (es : IntKind.u64.wrap (m + b) = s) (ei : IntKind.i64.wrap ((i : Int) - 1) = i') :
    ∃ st1, evC T59 KK b59x0 (canon59 l v i) = some (.norm, st1) ∧ St.head [0, 3, 4] st1 = canon59 l s i' := by
  have hb' : l[i] = b := by rw [List.getElem?_eq_getElem hi] at hb; exact hb
  have e3 := size_ofBytes l
  have hi2 : (i : Int) < l.length := by omega
  have hi0 : (0 : Int) ≤ i := by omega
  simp -implicitDefEqProofs [b59x0, canon59, upd, ht, hi, hi2, hi0, hb, hb', em, ew, es, ei, e3]
theorem end59 (l : List Int) (v i : Int) (hi : i < 0) :
    ∃ env, evC T59 KK b59x0 (canon59 l v i) = some (.exit 0, ⟨env, [.str (ofBytes l)], []⟩) ∧ getT 3 env = .one (.int .u64 v) := by
  have h : ¬ 0 ≤ i := by omega
  simp -implicitDefEqProofs [b59x0, canon59, upd, h]
theorem loop59 (l : List Int) (hB : isB l) (hl : l.length ≤ 8) : ∀ (j K : Nat), j ≤ l.length → j < K →
    ∃ env, loopH (evC T59 KK b59x0) [0, 3, 4] K (canon59 l (leB (l.drop j) : Nat) ((j : Int) - 1)) = some (.exit 0, ⟨env, [.str (ofBytes l)], []⟩) ∧ getT 3 env = .one (.int .u64 (leB l : Nat))
  | 0, K, hj, hK => by
    obtain ⟨env, e, g⟩ := end59 l (leB (l.drop 0) : Nat) (((0 : Nat) : Int) - 1) (by omega)
    exact ⟨env, loopH_exit e, g⟩
  | j + 1, K, hj, hK => by
    have hlt : j < l.length := by omega
    have hd : l.drop j = l[j] :: l.drop (j + 1) := List.drop_eq_getElem_cons hlt
    have hb := hB l[j] (List.getElem_mem hlt)
    have hv := leB_lt (isB_drop (j + 1) hB)
    rw [List.length_drop] at hv
    have hv2 : leB (l.drop (j + 1)) < 2 ^ 56 := Nat.lt_of_lt_of_le hv (Nat.pow_le_pow_right (by omega) (by omega))
    have hs : leB (l.drop j) = l[j].toNat + 256 * leB (l.drop (j + 1)) := by rw [hd]; rfl
    have hg : l[j]?.getD 0 = l[j] := by rw [List.getElem?_eq_getElem hlt]; rfl
    obtain ⟨st1, e1, e2⟩ := body59 l (leB (l.drop (j + 1)) : Nat) ((j : Int) - 1) (256 * leB (l.drop (j + 1)) : Nat) l[j] (leB (l.drop j) : Nat) j (toBytes_ofBytes hB) hlt hg (by rw [u64_in _ (by omega)]; omega) (u64_in _ (by omega)) (by rw [u64_in _ (by omega)]; omega) (by rw [i64_in _ (by omega)])
    obtain ⟨env, e, g⟩ := loop59 l hB hl j (K - 1) (by omega) (by omega)
    have hc : ((j + 1 : Nat) : Int) - 1 = (j : Int) := by omega
    rw [hc]
    exact ⟨env, by rw [loopH_norm e1 (by omega), e2]; exact e, g⟩
theorem f59 (l : List Int) (hB : isB l) (hl : l.length ≤ 8) : F59 [.one (.str (ofBytes l))] [] = some (.one (.int .u64 (leB l : Nat)), []) := by
  obtain ⟨env, e, g⟩ := loop59 l hB hl l.length KK (Nat.le_refl _) (by rw [KK_eq]; omega)
  have w : IntKind.i64.wrap ((l.length : Int) - 1) = (l.length : Int) - 1 := i64_in _ (by omega)
  have z : ((0 : Nat) : Int) = 0 := rfl
  have e3 := size_ofBytes l
  rw [List.drop_length] at e
  simp only [canon59, leB, z] at e
  simp -implicitDefEqProofs [F59, c59, upd, e3, w, e, g]
/-! ### the reader's numbers in so many bytes -/
def canon52 (n0 : Int) (hp : List Ob) (l : List Int) (v i : Int) : St := ⟨[(5, .one (.int .u64 v)), (12, .one (.row 1)), (13, .one (.int .i64 l.length)), (14, .one (.int .i64 i))], [.ptr 0 0, .int .i64 n0], hp ++ [.rows (.ints .u8 l)]⟩
theorem body52 (n0 v s p v' i' b : Int) (x : ByteArray) (bad : Bool) (l : List Int) (i : Nat) (hi : i < l.length) (hb : l[i]?.getD 0 = b) (ec : IntKind.u64.wrap b = b) (es : IntKind.i64.wrap (8 * (i : Int)) = s) (hs : ¬ s < 0) (ep : shlI .u64 b s = p) (ev : bitsI .or .u64 v p = v') (ei : IntKind.i64.wrap ((i : Int) + 1) = i') :
    ∃ st1, evC T52 KK b52x0 (canon52 n0 [.cells (some 0) [.str x, .bool bad]] l v i) = some (.norm, st1) ∧ St.head [5, 12, 13, 14] st1 = canon52 n0 [.cells (some 0) [.str x, .bool bad]] l v' i' := by
  have hb' : l[i] = b := by rw [List.getElem?_eq_getElem hi] at hb; exact hb
  have hi2 : (i : Int) < l.length := by omega
  simp -implicitDefEqProofs [b52x0, canon52, upd, hi, hi2, hb, hb', ec, es, hs, ep, ev, ei, RC.len, RC.size, RC.get]
theorem end52 (n0 v i : Int) (x : ByteArray) (bad : Bool) (l : List Int) (hi : ¬ i < l.length) :
    ∃ env, evC T52 KK b52x0 (canon52 n0 [.cells (some 0) [.str x, .bool bad]] l v i) = some (.exit 0, ⟨env, [.ptr 0 0, .int .i64 n0], [.cells (some 0) [.str x, .bool bad], .rows (.ints .u8 l)]⟩) ∧ getT 5 env = .one (.int .u64 v) := by
  simp -implicitDefEqProofs [b52x0, canon52, upd, hi]
theorem leB_take {l : List Int} {i : Nat} (h : i < l.length) : leB (l.take (i + 1)) = leB (l.take i) + l[i].toNat * 2 ^ (8 * i) := by
  rw [← List.take_append_getElem h, leB_append, List.length_take, Nat.min_eq_left (by omega)]
  simp [leB, Nat.mul_comm]
theorem loop52 (n0 : Int) (x : ByteArray) (bad : Bool) (l : List Int) (hB : isB l) (hl : l.length ≤ 8) : ∀ (j i K : Nat), i + j = l.length → j < K →
    ∃ env, loopH (evC T52 KK b52x0) [5, 12, 13, 14] K (canon52 n0 [.cells (some 0) [.str x, .bool bad]] l (leB (l.take i) : Nat) i) = some (.exit 0, ⟨env, [.ptr 0 0, .int .i64 n0], [.cells (some 0) [.str x, .bool bad], .rows (.ints .u8 l)]⟩) ∧ getT 5 env = .one (.int .u64 (leB l : Nat))
  | 0, i, K, hi, hK => by
    obtain rfl : i = l.length := by omega
    obtain ⟨env, e, g⟩ := end52 n0 (leB (l.take l.length) : Nat) (l.length : Nat) x bad l (by omega)
    rw [List.take_length] at *
    exact ⟨env, loopH_exit e, g⟩
  | j + 1, i, K, hi, hK => by
    have hlt : i < l.length := by omega
    have hb := hB l[i] (List.getElem_mem hlt)
    have hg : l[i]?.getD 0 = l[i] := by rw [List.getElem?_eq_getElem hlt]; rfl
    obtain ⟨β, hβ⟩ : ∃ β : Nat, l[i] = β := ⟨l[i].toNat, by omega⟩
    rw [hβ] at hg hb
    have hv := leB_lt (isB_take i hB)
    rw [List.length_take, Nat.min_eq_left (by omega)] at hv
    have hstep := leB_take hlt
    rw [hβ, Int.toNat_natCast] at hstep
    have hfit : leB (l.take (i + 1)) < 2 ^ 64 := by
      have h1 := leB_lt (isB_take (i + 1) hB)
      rw [List.length_take, Nat.min_eq_left (by omega)] at h1
      exact Nat.lt_of_lt_of_le h1 (Nat.pow_le_pow_right (by omega) (by omega))
    rw [hstep] at hfit
    have ep : shlI .u64 (β : Int) ((8 * i : Nat) : Int) = ((β * 2 ^ (8 * i) : Nat) : Int) := shl_in rfl (by simp only [IntKind.bits]; omega) (by simp only [IntKind.bits]; omega)
    have ev : bitsI .or .u64 ((leB (l.take i) : Nat) : Int) ((β * 2 ^ (8 * i) : Nat) : Int) = ((leB (l.take i) + β * 2 ^ (8 * i) : Nat) : Int) := or_add rfl hv (by simp only [IntKind.bits]; exact hfit)
    rw [← hstep] at ev
    obtain ⟨st1, e1, e2⟩ := body52 n0 (leB (l.take i) : Nat) (8 * i : Nat) _ _ (i + 1 : Nat) β x bad l i hlt hg (u64_in _ (by omega)) (by rw [i64_in _ (by omega)]; omega) (by omega) ep ev (by rw [i64_in _ (by omega)]; omega)
    obtain ⟨env, e, g⟩ := loop52 n0 x bad l hB hl j (i + 1) (K - 1) (by omega) (by omega)
    exact ⟨env, by rw [loopH_norm e1 (by omega), e2]; exact e, g⟩
theorem f52x (n : Int) (l y r : List Int) (bad bad' : Bool) (hB : isB y) (hy : y.length ≤ 8)
    (e51 : F51 [.one (.ptr 0 0), .one (.int .i64 (sz n))] (rHp (some 0) l bad) = some (.one (.str (ofBytes y)), rHp (some 0) r bad')) :
    F52 [.one (.ptr 0 0), .one (.int .i64 n)] (rHp (some 0) l bad) = some (.one (.int .u64 (leB y : Nat)), rHp (some 0) r bad') := by
  have e77 := f77 n
  obtain ⟨env, e, g⟩ := loop52 n (ofBytes r) bad' y hB hy y.length 0 KK (by omega) (by rw [KK_eq]; omega)
  have z : ((0 : Nat) : Int) = 0 := rfl
  have ht := toBytes_ofBytes hB
  have hsz : (ofBytes y).size ≤ 140737488355328 := by rw [size_ofBytes]; omega
  simp only [canon52, leB, List.take_zero, z, List.cons_append, List.nil_append] at e
  simp only [rHp] at e51 ⊢
  simp -implicitDefEqProofs [F52, c52, upd, e77, e51, ht, hsz, e, g, RC.len]
theorem f52 (l : List Int) (n : Int) (hB : isB l) (hl : l.length ≤ 140737488352000) : F52 [.one (.ptr 0 0), .one (.int .i64 n)] (rHp (some 0) l false) = some (.one (.int .u64 (leB (rAns l (sz n)).1 : Nat)), rHp (some 0) (rAns l (sz n)).2.1 (rAns l (sz n)).2.2) := by
  have h8 := sz_le n
  refine f52x n l _ _ _ _ ?_ ?_ (f51' l (sz n) hl)
  · unfold rAns; split
    · simp [isB]
    · exact isB_take _ hB
  · unfold rAns; split
    · simp
    · rw [List.length_take]; omega
theorem f52b (l : List Int) (n : Int) : F52 [.one (.ptr 0 0), .one (.int .i64 n)] (rHp (some 0) l true) = some (.one (.int .u64 0), rHp (some 0) [] true) :=
  f52x n l [] [] true true (by simp [isB]) (by simp) (f51b l (sz n))
end Go.X.Try
set_option maxRecDepth 100000
set_option linter.unusedSimpArgs false
namespace Go.X.Try
open Go.IntWalk
/-! ### the document's reading of groups -/
theorem gdec_inv : ∀ (l : List Int) (i v u : Nat) (r : List Int), isB l → i ≤ 9 → gdec i v l = some (u, r) → ∃ a, l = grp a ++ r ∧ u = v + a * 2 ^ (7 * i) ∧ (i = 0 ∨ 0 < a)
  | [], _, _, _, _, _, _, h => by simp [gdec] at h
  | b :: l, i, v, u, r, hB, hi, h => by
    have hb := hB b (by simp)
    simp only [gdec] at h
    by_cases hbad : i = 9 ∧ 1 < b ∨ 0 < i ∧ b = 0
    · rw [if_pos hbad] at h; cases h
    · rw [if_neg hbad] at h
      by_cases hlt : b < 128
      · rw [if_pos hlt] at h
        simp only [Option.some.injEq, Prod.mk.injEq] at h
        refine ⟨b.toNat, ?_, ?_, by omega⟩
        · rw [grp_lt (by omega), ← h.2]
          have : ((b.toNat : Nat) : Int) = b := by omega
          rw [this]; rfl
        · rw [← h.1, Nat.mod_eq_of_lt (by omega)]
      · rw [if_neg hlt] at h
        obtain ⟨a, hl, hu, ha⟩ := gdec_inv l (i + 1) _ u r hB.tail (by omega) h
        have ha' : 0 < a := by omega
        refine ⟨b.toNat % 128 + 128 * a, ?_, ?_, .inr (by omega)⟩
        · rw [grp_ge (by omega), hl]
          have e1 : (b.toNat % 128 + 128 * a) / 128 = a := by omega
          have e2 : (((b.toNat % 128 + 128 * a) % 128 + 128 : Nat) : Int) = b := by omega
          rw [e1, e2]; rfl
        · have hp : 2 ^ (7 * (i + 1)) = 128 * 2 ^ (7 * i) := by rw [Nat.mul_add, Nat.pow_add]; omega
          rw [hu, hp, Nat.add_mul, Nat.mul_comm 128 a, Nat.mul_assoc, Nat.add_assoc]
/-- How many bytes at the beginning are of 128 and more. -/
def lead : List Int → Nat
  | [] => 0
  | b :: l => if 128 ≤ b then lead l + 1 else 0
theorem lead_le : ∀ l : List Int, lead l ≤ l.length
  | [] => Nat.le_refl _
  | b :: l => by
    have := lead_le l
    simp only [lead, List.length_cons]; split <;> omega
theorem lead_ge : ∀ (l : List Int) (i : Nat), i < lead l → ∃ b, l[i]? = some b ∧ 128 ≤ b
  | [], i, h => by simp [lead] at h
  | b :: l, i, h => by
    simp only [lead] at h
    split at h
    · rename_i hb
      cases i with
      | zero => exact ⟨b, rfl, hb⟩
      | succ i => simpa using lead_ge l i (by omega)
    · omega
theorem lead_at : ∀ l : List Int, lead l < l.length → ∃ b, l[lead l]? = some b ∧ b < 128
  | [], h => by simp at h
  | b :: l, h => by
    simp only [lead] at h ⊢
    split
    · rename_i hb
      rw [if_pos hb] at h
      simpa using lead_at l (by simpa using h)
    · exact ⟨b, rfl, by omega⟩
theorem lead_grp (l : List Int) (a : Nat) : lead (grp a ++ l) + 1 = (grp a).length := by
  induction a using Nat.strongRecOn with
  | ind a ih =>
  by_cases h : a < 128
  · rw [grp_lt h]
    simp only [List.cons_append, List.nil_append, lead]
    rw [if_neg (by omega)]; rfl
  · rw [grp_ge h]
    simp only [List.cons_append, lead, List.length_cons]
    rw [if_pos (by omega), ih (a / 128) (by omega)]
theorem grp_at (a : Nat) : ∀ (i : Nat) (b : Int), (grp a)[i]? = some b → b.toNat % 128 = a / 128 ^ i % 128 ∧ a / 128 ^ (grp a).length = 0 := by
  induction a using Nat.strongRecOn with
  | ind a ih =>
  intro i b hb
  by_cases h : a < 128
  · rw [grp_lt h] at hb ⊢
    cases i with
    | zero =>
      simp only [List.getElem?_cons_zero, Option.some.injEq] at hb
      subst hb
      simp only [List.length_cons, List.length_nil]
      omega
    | succ i => simp at hb
  · rw [grp_ge h] at hb ⊢
    have hlast : ∃ b', (grp (a / 128))[0]? = some b' := by
      have := grp_pos (a / 128)
      exact ⟨_, List.getElem?_eq_getElem (by omega)⟩
    obtain ⟨b', hb'⟩ := hlast
    have h0 := (ih (a / 128) (by omega) 0 b' hb').2
    have hlen : a / 128 ^ ((grp (a / 128)).length + 1) = 0 := by
      rw [Nat.pow_succ, Nat.mul_comm, ← Nat.div_div_eq_div_mul]
      exact h0
    cases i with
    | zero =>
      simp only [List.getElem?_cons_zero, Option.some.injEq] at hb
      subst hb
      exact ⟨by simp only [Nat.pow_zero, Nat.div_one]; omega, hlen⟩
    | succ i =>
      simp only [List.getElem?_cons_succ] at hb
      have := (ih (a / 128) (by omega) i b hb).1
      refine ⟨?_, hlen⟩
      rw [this, Nat.pow_succ, Nat.mul_comm, Nat.div_div_eq_div_mul]
def canon58a (l : List Int) (n : Int) : St := ⟨[(0, .one (.str (ofBytes l))), (4, .one (.int .i64 n))], [.str (ofBytes l)], []⟩
theorem body58a (l : List Int) (n : Nat) (b : Int) (hl : l.length ≤ 90000) (ht : toBytes (ofBytes l) = l) (hn : n < l.length) (hb : l[n]?.getD 0 = b) (hge : 128 ≤ b) :
    ∃ st1, evC T58 KK b58x0 (canon58a l n) = some (.norm, st1) ∧ St.head [0, 4] st1 = canon58a l (n + 1 : Nat) := by
  have hb' : l[n] = b := by rw [List.getElem?_eq_getElem hn] at hb; exact hb
  have hn2 : (n : Int) < l.length := by omega
  have w : IntKind.i64.wrap ((n : Int) + 1) = (n : Int) + 1 := i64_in _ (by omega)
  have e3 := size_ofBytes l
  simp -implicitDefEqProofs [b58x0, canon58a, upd, ht, hn, hn2, hb, hb', hge, w, e3]
theorem end58a (l : List Int) (n : Nat) (b : Int) (ht : toBytes (ofBytes l) = l) (h : l.length ≤ n ∨ n < l.length ∧ l[n]?.getD 0 = b ∧ b < 128) :
    ∃ env, evC T58 KK b58x0 (canon58a l n) = some (.exit 0, ⟨env, [.str (ofBytes l)], []⟩) ∧ getT 0 env = .one (.str (ofBytes l)) ∧ getT 4 env = .one (.int .i64 n) := by
  have e3 := size_ofBytes l
  rcases h with h | ⟨hn, hb, hlt⟩
  · have hn2 : ¬ (n : Int) < l.length := by omega
    simp -implicitDefEqProofs [b58x0, canon58a, upd, hn2, e3]
  · have hb' : l[n] = b := by rw [List.getElem?_eq_getElem hn] at hb; exact hb
    have hn2 : (n : Int) < l.length := by omega
    have hge : ¬ 128 ≤ b := by omega
    simp -implicitDefEqProofs [b58x0, canon58a, upd, ht, hn, hn2, hb, hb', hge, e3]
theorem loop58a (l : List Int) (hB : isB l) (hl : l.length ≤ 90000) : ∀ (j n K : Nat), n + j = lead l → j < K →
    ∃ env, loopH (evC T58 KK b58x0) [0, 4] K (canon58a l n) = some (.exit 0, ⟨env, [.str (ofBytes l)], []⟩) ∧ getT 0 env = .one (.str (ofBytes l)) ∧ getT 4 env = .one (.int .i64 (lead l : Nat))
  | 0, n, K, hn, hK => by
    obtain rfl : n = lead l := by omega
    have hle := lead_le l
    by_cases hlt : lead l < l.length
    · obtain ⟨b, hb, hb2⟩ := lead_at l hlt
      obtain ⟨env, e, g⟩ := end58a l (lead l) b (toBytes_ofBytes hB) (.inr ⟨hlt, by rw [hb]; rfl, hb2⟩)
      exact ⟨env, loopH_exit e, g⟩
    · obtain ⟨env, e, g⟩ := end58a l (lead l) 0 (toBytes_ofBytes hB) (.inl (by omega))
      exact ⟨env, loopH_exit e, g⟩
  | j + 1, n, K, hn, hK => by
    have hle := lead_le l
    obtain ⟨b, hb, hb2⟩ := lead_ge l n (by omega)
    obtain ⟨st1, e1, e2⟩ := body58a l n b hl (toBytes_ofBytes hB) (by omega) (by rw [hb]; rfl) hb2
    obtain ⟨env, e, g⟩ := loop58a l hB hl j (n + 1) (K - 1) (by omega) (by omega)
    exact ⟨env, by rw [loopH_norm e1 (by omega), e2]; exact e, g⟩
def canon58b (l : List Int) (n v i : Int) : St := ⟨[(0, .one (.str (ofBytes l))), (4, .one (.int .i64 n)), (5, .one (.int .u64 v)), (6, .one (.int .i64 i))], [.str (ofBytes l)], []⟩
theorem body58b (l : List Int) (n v v' i' b r p : Int) (i : Nat) (ht : toBytes (ofBytes l) = l) (hi : i < l.length) (hb : l[i]?.getD 0 = b) (hv : ¬ 144115188075855871 < v) (em : IntKind.u64.wrap (v * 128) = p) (er : b.tmod 128 = r) (ew : IntKind.u64.wrap r = r) (ev : IntKind.u64.wrap (p + r) = v') (ei : IntKind.i64.wrap ((i : Int) - 1) = i') :
    ∃ st1, evC T58 KK b58x1 (canon58b l n v i) = some (.norm, st1) ∧ St.head [0, 4, 5, 6] st1 = canon58b l n v' i' := by
  have hb' : l[i] = b := by rw [List.getElem?_eq_getElem hi] at hb; exact hb
  have hi2 : (i : Int) < l.length := by omega
  have hi0 : (0 : Int) ≤ i := by omega
  have e3 := size_ofBytes l
  simp -implicitDefEqProofs [b58x1, canon58b, upd, ht, hi, hi2, hi0, hb, hb', hv, em, er, ew, ev, ei, e3]
theorem over40b (l : List Int) (n v : Int) (i : Nat) (hv : 144115188075855871 < v) :
    ∃ env, evC T58 KK b58x1 (canon58b l n v i) = some (.ret, ⟨env, [.str (ofBytes l)], []⟩) ∧ getT 2 env = .one (.int .u64 0) ∧ getT 3 env = .one (.int .i64 0) := by
  have hi0 : (0 : Int) ≤ i := by omega
  simp -implicitDefEqProofs [b58x1, canon58b, upd, hi0, hv]
theorem end58b (l : List Int) (n v i : Int) (hi : i < 0) :
    ∃ env, evC T58 KK b58x1 (canon58b l n v i) = some (.exit 2, ⟨env, [.str (ofBytes l)], []⟩) ∧ getT 0 env = .one (.str (ofBytes l)) ∧ getT 4 env = .one (.int .i64 n) ∧ getT 5 env = .one (.int .u64 v) := by
  have h : ¬ 0 ≤ i := by omega
  simp -implicitDefEqProofs [b58x1, canon58b, upd, h]
/-- The number of the first j bytes less of what stands above them in v; or it is too great. -/
theorem loop58b (l : List Int) (n : Int) (hB : isB l) (hl : l.length ≤ 90000) : ∀ (j v K : Nat), j ≤ l.length → v < 2 ^ 64 → j < K →
    (∃ env u, loopH (evC T58 KK b58x1) [0, 4, 5, 6] K (canon58b l n v ((j : Int) - 1)) = some (.exit 2, ⟨env, [.str (ofBytes l)], []⟩) ∧ getT 0 env = .one (.str (ofBytes l)) ∧ getT 4 env = .one (.int .i64 n) ∧ getT 5 env = .one (.int .u64 (u : Nat)) ∧ u < 2 ^ 64 ∧ (∀ a, a / 128 ^ j = v → (∀ i b, i < j → l[i]? = some b → b.toNat % 128 = a / 128 ^ i % 128) → u = a)) ∨
    (∃ env, loopH (evC T58 KK b58x1) [0, 4, 5, 6] K (canon58b l n v ((j : Int) - 1)) = some (.ret, ⟨env, [.str (ofBytes l)], []⟩) ∧ getT 2 env = .one (.int .u64 0) ∧ getT 3 env = .one (.int .i64 0) ∧ (∀ a, a < 2 ^ 64 → a / 128 ^ j = v → ¬ (∀ i b, i < j → l[i]? = some b → b.toNat % 128 = a / 128 ^ i % 128)))
  | 0, v, K, hj, hv, hK => by
    obtain ⟨env, e, g0, g4, g5⟩ := end58b l n v (((0 : Nat) : Int) - 1) (by omega)
    refine .inl ⟨env, v, loopH_exit e, g0, g4, g5, hv, fun a ha _ => ?_⟩
    rw [← ha, Nat.pow_zero, Nat.div_one]
  | j + 1, v, K, hj, hv, hK => by
    have hc : ((j + 1 : Nat) : Int) - 1 = (j : Int) := by omega
    rw [hc]
    have hlt : j < l.length := by omega
    have hb := hB l[j] (List.getElem_mem hlt)
    have hg : l[j]?.getD 0 = l[j] := by rw [List.getElem?_eq_getElem hlt]; rfl
    have hsome : l[j]? = some l[j] := List.getElem?_eq_getElem hlt
    by_cases ho : 144115188075855871 < v
    · obtain ⟨env, e, g2, g3⟩ := over40b l n v j (by omega)
      refine .inr ⟨env, loopH_ret e, g2, g3, fun a ha hav _ => ?_⟩
      have h1 : a / 128 ^ (j + 1) ≤ a / 128 := Nat.div_le_div_left (by rw [Nat.pow_succ]; have := Nat.pow_le_pow_right (n := 128) (by omega) (Nat.zero_le j); omega) (by omega)
      omega
    · obtain ⟨st1, e1, e2⟩ := body58b l n v (v * 128 + l[j].toNat % 128 : Nat) ((j : Int) - 1) l[j] (l[j].toNat % 128 : Nat) (v * 128 : Nat) j (toBytes_ofBytes hB) hlt hg (by omega) (by rw [u64_in _ (by omega)]; omega) (by rw [Int.tmod_eq_emod_of_nonneg hb.1]; omega) (u64_in _ (by omega)) (by rw [u64_in _ (by omega)]; omega) (by rw [i64_in _ (by omega)])
      have hstep : ∀ a, a / 128 ^ (j + 1) = v → (∀ i b, i < j + 1 → l[i]? = some b → b.toNat % 128 = a / 128 ^ i % 128) → a / 128 ^ j = v * 128 + l[j].toNat % 128 := fun a ha hbs => by
        have h1 := hbs j l[j] (by omega) hsome
        rw [Nat.pow_succ, ← Nat.div_div_eq_div_mul] at ha
        omega
      rcases loop58b l n hB hl j (v * 128 + l[j].toNat % 128) (K - 1) (by omega) (by omega) (by omega) with ⟨env, u, e, g0, g4, g5, hu, hspec⟩ | ⟨env, e, g2, g3, hspec⟩
      · exact .inl ⟨env, u, by rw [loopH_norm e1 (by omega), e2]; exact e, g0, g4, g5, hu, fun a ha hbs => hspec a (hstep a ha hbs) fun i b hi hib => hbs i b (by omega) hib⟩
      · exact .inr ⟨env, by rw [loopH_norm e1 (by omega), e2]; exact e, g2, g3, fun a ha hav hbs => hspec a ha (hstep a hav hbs) fun i b hi hib => hbs i b (by omega) hib⟩
def tupF (v n : Int) : AV := .tup [.one (.int .u64 v), .one (.int .i64 n)]
theorem f40_some (l : List Int) (u : Nat) (r : List Int) (hB : isB l) (hl : l.length ≤ 80000) (h : l = grp u ++ r) (hu : u < 2 ^ 64) : F58 [.one (.str (ofBytes l))] [] = some (tupF u (grp u).length, []) := by
  have h10 := grp_ten hu
  have hpos := grp_pos u
  have hlead : lead l + 1 = (grp u).length := by rw [h]; exact lead_grp r u
  have hlen : l.length = (grp u).length + r.length := by rw [h, List.length_append]
  obtain ⟨env, e, g0, g4⟩ := loop58a l hB (by omega) (lead l) 0 KK (by omega) (by rw [KK_eq]; omega)
  have hbytes : ∀ i b, i < lead l + 1 → l[i]? = some b → b.toNat % 128 = u / 128 ^ i % 128 := fun i b hi hb => by
    rw [h, List.getElem?_append_left (by omega)] at hb
    exact (grp_at u i b hb).1
  have hzero : u / 128 ^ (lead l + 1) = 0 := by
    obtain ⟨b, hb⟩ : ∃ b, (grp u)[0]? = some b := ⟨_, List.getElem?_eq_getElem (by omega)⟩
    rw [hlead]
    exact (grp_at u 0 b hb).2
  rcases loop58b l (lead l : Nat) hB (by omega) (lead l + 1) 0 KK (by omega) (by omega) (by rw [KK_eq]; omega) with ⟨env2, u', e2, k0, k4, k5, hu', hspec⟩ | ⟨env2, e2, k2, k3, hspec⟩
  · have huu := hspec u hzero hbytes
    subst huu
    have e80 := f80 u' hu
    have z : ((0 : Nat) : Int) = 0 := rfl
    have hc : ((lead l + 1 : Nat) : Int) - 1 = (lead l : Int) := by omega
    have e3 := size_ofBytes l
    have n1 : ¬ ((lead l : Int) = (l.length : Int)) := by omega
    have n2 : ¬ ((9 : Int) < (lead l : Int)) := by omega
    have n2' : ¬ (9 < lead l) := by omega
    have n1' : ¬ (lead l = l.length) := by omega
    have w : IntKind.i64.wrap ((lead l : Int) + 1) = ((grp u').length : Int) := by rw [i64_in _ (by omega)]; omega
    have hle : ((grp u').length : Int) ≤ (l.length : Int) := by omega
    have hle' : (grp u').length ≤ l.length := by omega
    have ex := ofBytes_extract l 0 (grp u').length
    have htake : (l.drop 0).take ((grp u').length - 0) = grp u' := by rw [List.drop_zero, Nat.sub_zero, h, List.take_left' rfl]
    rw [htake] at ex
    rw [hc, z] at e2
    simp only [canon58a, z] at e
    simp only [canon58b] at e2
    generalize (lead l : Int) = q at *
    generalize grp u' = G at *
    simp -implicitDefEqProofs [F58, c58, upd, e, g0, g4, e3, n1, n1', n2, n2', e2, k0, k4, k5, e80, w, hle, hle', ex, tupF]
  · exact absurd hbytes (hspec u hu hzero)
theorem f40_none (l : List Int) (hB : isB l) (hl : l.length ≤ 80000) (h : ∀ u r, u < 2 ^ 64 → l ≠ grp u ++ r) : F58 [.one (.str (ofBytes l))] [] = some (tupF 0 0, []) := by
  obtain ⟨env, e, g0, g4⟩ := loop58a l hB (by omega) (lead l) 0 KK (by omega) (by have := lead_le l; rw [KK_eq]; omega)
  have hle := lead_le l
  have z : ((0 : Nat) : Int) = 0 := rfl
  have e3 := size_ofBytes l
  simp only [canon58a, z] at e
  by_cases n1 : lead l = l.length
  · have n1i : (lead l : Int) = (l.length : Int) := by omega
    rw [n1i] at g4
    simp -implicitDefEqProofs [F58, c58, upd, e, g0, g4, e3, tupF]
  · have n1i : ¬ ((lead l : Int) = (l.length : Int)) := by omega
    by_cases n2 : 9 < lead l
    · have n2i : (9 : Int) < (lead l : Int) := by omega
      simp -implicitDefEqProofs [F58, c58, upd, e, g0, g4, e3, n1, n1i, n2, n2i, tupF]
    · have n2i : ¬ ((9 : Int) < (lead l : Int)) := by omega
      have hc : ((lead l + 1 : Nat) : Int) - 1 = (lead l : Int) := by omega
      rcases loop58b l (lead l : Nat) hB (by omega) (lead l + 1) 0 KK (by omega) (by omega) (by rw [KK_eq]; omega) with ⟨env2, u, e2, k0, k4, k5, hu, _⟩ | ⟨env2, e2, k2, k3, _⟩
      · have e80 := f80 u hu
        have w : IntKind.i64.wrap ((lead l : Int) + 1) = ((lead l + 1 : Nat) : Int) := by rw [i64_in _ (by omega)]; omega
        have hle1 : ((lead l + 1 : Nat) : Int) ≤ (l.length : Int) := by omega
        have hle1' : lead l + 1 ≤ l.length := by omega
        have ex := ofBytes_extract l 0 (lead l + 1)
        rw [List.drop_zero, Nat.sub_zero] at ex
        have hne : ((ofBytes (grp u)).toList == (ofBytes (l.take (lead l + 1))).toList) = false := by
          rw [eqS (grp_isB u) (isB_take _ hB)]
          refine decide_eq_false fun c => h u (l.drop (lead l + 1)) hu ?_
          rw [c, List.take_append_drop]
        have hne2 : ¬ ((ofBytes (grp u)).toList = (ofBytes (l.take (lead l + 1))).toList) := fun c => by rw [c] at hne; simp at hne
        rw [hc, z] at e2
        simp only [canon58b] at e2
        generalize hq : lead l + 1 = q at *
        generalize (lead l : Int) = q0 at *
        simp -implicitDefEqProofs [F58, c58, upd, e, g0, g4, e3, n1, n1i, n2, n2i, e2, k0, k4, k5, e80, w, hle1, hle1', ex, hne, hne2, tupF]
      · rw [hc, z] at e2
        simp only [canon58b] at e2
        simp -implicitDefEqProofs [F58, c58, upd, e, g0, g4, e3, n1, n1i, n2, n2i, e2, k2, k3, tupF]
end Go.X.Try
set_option maxRecDepth 100000
set_option linter.unusedSimpArgs false
namespace Go.X.Try
open Go.IntWalk
theorem n39 : F39 [.one .nilp] [] = some (.tup [.agg [.int .u8 0, .int .u64 0, .bool false], .one (.bool false)], []) := by
  simp -implicitDefEqProofs [F39, c39, F72, c72, upd]
theorem tup0 : tupOf [] = .tup [] := rfl
theorem n30 (s : ByteArray) : F30 [.one .nilp, .one (.str s)] [] = some (.one (.bool false), []) := by
  simp -implicitDefEqProofs [F30, c30, upd]
theorem n38 (s : ByteArray) : F38 [.one .nilp, .one (.str s)] [] = some (.one (.bool false), []) := by
  simp -implicitDefEqProofs [F38, c38, upd]
theorem n66 : F66 [.one .nilp] [] = some (.one (.int .i64 0), []) := by
  simp -implicitDefEqProofs [F66, c66, upd]
theorem n69 : F69 [.one .nilp] [] = some (.one (.int .i64 0), []) := by
  simp -implicitDefEqProofs [F69, c69, upd]
theorem n72 : F72 [.one .nilp] [] = some (.one (.int .i64 0), []) := by
  simp -implicitDefEqProofs [F72, c72, upd]
theorem n31 (n : Int) : F31 [.one .nilp, .one (.int .i64 n)] [] = some (.one (.int .i64 0), []) := by
  have := n69
  rcases Int.lt_trichotomy n 0 with h | h | h
  · have h' : ¬ 0 < n := by omega
    simp -implicitDefEqProofs [F31, c31, upd, n69, h, h']
  · subst h; simp -implicitDefEqProofs [F31, c31, upd, n69]
  · have h' : ¬ n < 0 := by omega
    simp -implicitDefEqProofs [F31, c31, upd, n69, h, h']
end Go.X.Try
set_option maxRecDepth 100000
set_option linter.unusedSimpArgs false
namespace Go.X.Try
open Go.IntWalk
theorem loop_go {body : St → Option (Ex × St)} {live : List Nat} {k : Nat} (st : St) (h : k ≠ 0) : loopN body live k st = thenC (loopN body live (k - 1)) (body (st.head live)) := by
  cases k with
  | zero => exact absurd rfl h
  | succ k => rfl
theorem u64_range (x : Int) : 0 ≤ IntKind.u64.wrap x ∧ IntKind.u64.wrap x ≤ 18446744073709551615 := by rw [IntKind.wrap_u64]; omega
def sx (h b : Int) : Int := IntKind.u64.wrap (bitsI .xor .u64 h b * 11400714819323198485)
def sstep (h b : Int) : Int := bitsI .xor .u64 (sx h b) (sx h b / 536870912)
def sy (h n : Int) : Int := IntKind.u64.wrap (IntKind.u64.wrap (h + n) * 13787848793156543929)
def sfin (h n : Int) : Int := bitsI .xor .u64 (sy h n) (sy h n / 4294967296)
theorem sx_quo (h b : Int) : IntKind.u64.wrap ((sx h b).tdiv 536870912) = sx h b / 536870912 := by
  have := u64_range (bitsI .xor .u64 h b * 11400714819323198485)
  exact u64_quo _ _ ⟨this.1, this.2, by omega⟩
theorem sy_quo (h b : Int) : IntKind.u64.wrap ((sy h b).tdiv 4294967296) = sy h b / 4294967296 := by
  have := u64_range (IntKind.u64.wrap (h + b) * 13787848793156543929)
  exact u64_quo _ _ ⟨this.1, this.2, by omega⟩
theorem toBytes_length (t : ByteArray) : (toBytes t).length = t.size := by
  unfold toBytes; rw [List.length_map, Array.length_toList]; rfl
theorem toBytes_range (t : ByteArray) (i : Nat) (b : Int) (h : (toBytes t)[i]? = some b) : 0 ≤ b ∧ b < 256 := by
  simp only [toBytes, List.getElem?_map, Option.map_eq_some_iff] at h
  obtain ⟨x, _, rfl⟩ := h
  have := x.toNat_lt
  omega
theorem l18 (t : ByteArray) (ht : t.size < 1000000) : ∀ (k i : Nat) (h : Int) (env : Env), getT 0 env = .one (.str t) → getT 3 env = .one (.int .u64 h) → getT 4 env = .one (.int .i64 i) → i ≤ t.size → t.size - i < k →
    ∃ env', loopN (evC T18 KK b18x0) [0, 3, 4] k ⟨env, [.str t], []⟩ = some (.exit 0, ⟨env', [.str t], []⟩) ∧ getT 0 env' = .one (.str t) ∧ getT 3 env' = .one (.int .u64 (((toBytes t).drop i).foldl sstep h))
  | 0, i, h, env, _, _, _, _, hk => by omega
  | k + 1, i, h, env, e0, e3, e4, hi, hk => by
    by_cases hlt : i < t.size
    · have hb : ∃ b, (toBytes t)[i]? = some b := ⟨_, List.getElem?_eq_getElem (by rw [toBytes_length]; exact hlt)⟩
      obtain ⟨b, hb⟩ := hb
      have hr := toBytes_range t i b hb
      have w1 : IntKind.u64.wrap b = b := u64_in b (by omega)
      have w2 : IntKind.i64.wrap ((i : Int) + 1) = (i : Int) + 1 := i64_in _ (by omega)
      have hd : (toBytes t).drop i = b :: (toBytes t).drop (i + 1) := by
        obtain ⟨hlt', e⟩ := List.getElem?_eq_some_iff.1 hb
        rw [List.drop_eq_getElem_cons hlt', e]
      have q1 := sx_quo h b
      have hc : (i : Int) < t.size := by omega
      rw [hd]
      simp only [List.foldl_cons]
      have body : ∃ env1, evC T18 KK b18x0 (St.head [0, 3, 4] ⟨env, [.str t], []⟩) = some (.norm, ⟨env1, [.str t], []⟩) ∧ getT 0 env1 = .one (.str t) ∧ getT 3 env1 = .one (.int .u64 (sstep h b)) ∧ getT 4 env1 = .one (.int .i64 ((i + 1 : Nat) : Int)) := by
        have hx : IntKind.u64.wrap (bitsI .xor .u64 h b * 11400714819323198485) = sx h b := rfl
        have hg : (toBytes t)[i]?.getD 0 = b := by rw [hb]; rfl
        simp -implicitDefEqProofs [b18x0, e0, e3, e4, hc, hlt, hg, w1, w2, hx, q1, sstep]
      obtain ⟨env1, h1, a0, a3, a4⟩ := body
      obtain ⟨env', p, q⟩ := l18 t ht k (i + 1) (sstep h b) env1 a0 a3 a4 (by omega) (by omega)
      refine ⟨env', ?_, q⟩
      rw [loopN, h1]
      exact p
    · have hc : ¬ (i : Int) < t.size := by omega
      have hd : (toBytes t).drop i = [] := List.drop_eq_nil_of_le (by rw [toBytes_length]; omega)
      rw [hd]
      have body : ∃ env1, evC T18 KK b18x0 (St.head [0, 3, 4] ⟨env, [.str t], []⟩) = some (.exit 0, ⟨env1, [.str t], []⟩) ∧ getT 0 env1 = .one (.str t) ∧ getT 3 env1 = .one (.int .u64 h) := by
        simp -implicitDefEqProofs [b18x0, e0, e3, e4, hc, hlt]
      obtain ⟨env1, h1, q⟩ := body
      exact ⟨env1, by rw [loopN, h1]; rfl, q⟩
theorem e18 (t : ByteArray) (ht : t.size < 10000) : F18 [.one (.str t)] [] = some (.one (.int .u64 (sfin ((toBytes t).foldl sstep 7640891576956012808) t.size)), []) := by
  obtain ⟨env', p, q0, q3⟩ := l18 t (by omega) KK 0 7640891576956012808 [(4, .one (.int .i64 0)), (3, .one (.int .u64 7640891576956012808)), (2, .one (.int .u64 0)), (0, .one (.str t))] rfl rfl rfl (by omega) (by rw [KK_eq]; omega)
  rw [List.drop_zero] at q3
  have w : IntKind.u64.wrap (t.size : Int) = t.size := u64_in _ (by omega)
  generalize List.foldl sstep 7640891576956012808 (toBytes t) = h at *
  have hy : IntKind.u64.wrap (IntKind.u64.wrap (h + t.size) * 13787848793156543929) = sy h t.size := rfl
  have q1 := sy_quo h t.size
  simp -implicitDefEqProofs [-loop_KK, F18, c18, p, q0, q3, w, hy, q1, sfin]
end Go.X.Try
set_option maxRecDepth 100000
set_option linter.unusedSimpArgs false
namespace Go.X.Try
open Go.IntWalk
def pipeCells (most : Int) (f c : SV) (h n : Int) : List SV := [.int .i64 most, f, c, .int .u64 h, .int .u64 n]
theorem f25 (m : Int) : F25 [.one (.int .i64 m)] [] = some (.one (.ptr 0 0), [.cells none (pipeCells (if (if m < 1 then 1 else m) > 2048 then 2048 else (if m < 1 then 1 else m)) (.row 1) (.row 2) 7640891576956012808 0), .rows (.recs 3 []), .rows (.recs 3 [])]) := by
  by_cases h1 : m < 1
  · simp -implicitDefEqProofs [F25, c25, F64, c64, upd, h1, pipeCells]
  · by_cases h2 : 2048 < m
    · simp -implicitDefEqProofs [F25, c25, F64, c64, upd, h1, h2, pipeCells]
    · simp -implicitDefEqProofs [F25, c25, F64, c64, upd, h1, h2, pipeCells]
theorem shr29 (x : Int) : shrI .u64 x 29 = x / 536870912 := by rw [shrI_eq]; rfl
theorem shr32 (x : Int) : shrI .u64 x 32 = x / 4294967296 := by rw [shrI_eq]; rfl
theorem f67 (h n b : Int) (hb : 0 ≤ b) (hb' : b < 256) : F67 [.agg [.int .u64 h, .int .u64 n], .one (.int .u8 b)] [] = some (.agg [.int .u64 (sstep h b), .int .u64 (IntKind.u64.wrap (n + 1))], []) := by
  have w : IntKind.u64.wrap b = b := u64_in b (by omega)
  simp -implicitDefEqProofs [F67, c67, w, shr29, sstep, sx]
theorem f68 (h n : Int) : F68 [.agg [.int .u64 h, .int .u64 n]] [] = some (.one (.int .u64 (sfin h n)), []) := by
  simp -implicitDefEqProofs [F68, c68, shr32, sfin, sy]
end Go.X.Try
set_option maxRecDepth 100000
set_option linter.unusedSimpArgs false
namespace Go.X.Try
open Go.IntWalk
theorem leB_fixB : ∀ n v, leB (fixB v n) = v % 256 ^ n
  | 0, v => by simp [fixB, leB, Nat.mod_one]
  | n + 1, v => by
    simp only [fixB, leB, leB_fixB n, Int.toNat_natCast]
    rw [Nat.pow_succ, Nat.mul_comm (256 ^ n) 256, Nat.mod_mul]
theorem fixB_leB : ∀ {l : List Int}, isB l → fixB (leB l) l.length = l
  | [], _ => rfl
  | b :: l, h => by
    have hb := h b (by simp)
    have ih := fixB_leB h.tail
    simp only [leB, List.length_cons, fixB]
    have e1 : ((((b.toNat + 256 * leB l) % 256 : Nat)) : Int) = b := by omega
    have e2 : (b.toNat + 256 * leB l) / 256 = leB l := by omega
    rw [e1, e2, ih]
/-- The sum of a text. -/
def sumL (l : List Int) : Int := sfin (l.foldl sstep 7640891576956012808) l.length
theorem xor_range (x y : Int) : 0 ≤ bitsI .xor .u64 x y ∧ bitsI .xor .u64 x y < 18446744073709551616 := by
  have h := u64_range ((BitVec.ofInt IntKind.u64.bits x ^^^ BitVec.ofInt IntKind.u64.bits y).toNat)
  simp only [bitsI]
  omega
theorem sumL_range (l : List Int) : 0 ≤ sumL l ∧ sumL l < 18446744073709551616 := xor_range _ _
/-- A dictionary's bytes. -/
def dictB (l : List Int) : List Int := [80, 68] ++ fixB (sumL l).toNat 8 ++ (grp l.length ++ l)
/-- What bytes are as a dictionary, and the error. -/
def dictD (l : List Int) : List Int × Int :=
  if l.length < 10 ∨ ¬ l.take 2 = [80, 68] then ([], 3)
  else match gdec 0 0 (l.drop 10) with
  | none => ([], 3)
  | some (n, r) => if 256 < n then ([], 5) else if ¬ r.length = n then ([], 3) else if ¬ (leB ((l.drop 2).take 8) : Int) = sumL r then ([], 4) else (r, 0)
theorem dictB_isB {l : List Int} (h : isB l) : isB (dictB l) := by
  unfold dictB
  refine isB_append (isB_append ?_ (fixB_isB _ _)) (isB_append (grp_isB _) h)
  intro x hx
  simp at hx
  omega
theorem dictB_length (l : List Int) : (dictB l).length = 10 + (grp l.length).length + l.length := by
  unfold dictB
  simp only [List.length_append, List.length_cons, List.length_nil, fixB_length]
  omega
theorem dictB_take (l : List Int) : (dictB l).take 2 = [80, 68] := by
  unfold dictB; simp
theorem dictB_mid (l : List Int) : ((dictB l).drop 2).take 8 = fixB (sumL l).toNat 8 := by
  unfold dictB
  rw [List.append_assoc]
  exact List.take_left' (fixB_length _ _)
theorem dictB_end (l : List Int) : (dictB l).drop 10 = grp l.length ++ l := by
  unfold dictB
  rw [List.drop_left' (by simp [fixB_length])]
theorem dict_back {l : List Int} (hl : l.length ≤ 256) : dictD (dictB l) = (l, 0) := by
  have hs := sumL_range l
  have hp := grp_pos l.length
  unfold dictD
  rw [if_neg (by rw [dictB_length, dictB_take]; rintro (h | h); omega; exact h rfl), dictB_end, gdec_grp l l.length 0 0 (by omega) (by rw [Nat.mul_zero, Nat.pow_zero, Nat.mul_one]; omega) (.inl rfl)]
  simp only [Nat.mul_zero, Nat.pow_zero, Nat.mul_one, Nat.zero_add]
  rw [if_neg (by omega), if_neg (fun c => c trivial), if_neg]
  rw [dictB_mid, leB_fixB, Nat.mod_eq_of_lt (by omega)]
  omega
theorem dict_any {l r : List Int} (hB : isB l) (h : dictD l = (r, 0)) : dictB r = l ∧ r.length ≤ 256 ∧ isB r := by
  unfold dictD at h
  split at h
  · simp at h
  · rename_i h0
    split at h
    · simp at h
    · rename_i n r' hg
      split at h
      · simp at h
      · split at h
        · simp at h
        · split at h
          · simp at h
          · rename_i h1 h2 h3
            simp only [Prod.mk.injEq, and_true] at h
            subst h
            have h0' : 10 ≤ l.length ∧ l.take 2 = [80, 68] := by
              constructor
              · exact Nat.le_of_not_lt fun c => h0 (.inl c)
              · exact Classical.not_not.1 fun c => h0 (.inr c)
            obtain ⟨a, ha, hu, _⟩ := gdec_inv (l.drop 10) 0 0 n r' (isB_drop 10 hB) (by omega) hg
            simp only [Nat.mul_zero, Nat.pow_zero, Nat.mul_one, Nat.zero_add] at hu
            subst hu
            have hn : r'.length = n := Classical.not_not.1 h2
            have hsum : (leB ((l.drop 2).take 8) : Int) = sumL r' := Classical.not_not.1 h3
            have hmid : fixB (sumL r').toNat 8 = (l.drop 2).take 8 := by
              rw [← hsum, Int.toNat_natCast]
              have := fixB_leB (isB_take 8 (isB_drop 2 hB))
              rwa [List.length_take, List.length_drop, Nat.min_eq_left (by omega)] at this
            refine ⟨?_, by omega, ?_⟩
            · unfold dictB
              rw [hmid, hn, ← ha, ← h0'.2]
              have e1 : l.drop 10 = (l.drop 2).drop 8 := by rw [List.drop_drop]
              rw [e1, List.append_assoc, List.take_append_drop, List.take_append_drop]
            · have := isB_drop 10 hB
              rw [ha] at this
              exact fun x hx => this x (List.mem_append.2 (.inr hx))
theorem set_ne {l : List Int} {k : Nat} {x : Int} (hk : k < l.length) (hx : l[k]? ≠ some x) : l.set k x ≠ l := fun h => by
  have := congrArg (fun m => m[k]?) h
  simp only [List.getElem?_set_self hk] at this
  exact hx this.symm
theorem isB_set {l : List Int} {k : Nat} {x : Int} (h : isB l) (hx : 0 ≤ x ∧ x < 256) : isB (l.set k x) := fun y hy => by
  rcases List.mem_or_eq_of_mem_set hy with h' | rfl
  · exact h y h'
  · exact hx
theorem dict_turned {l : List Int} (hB : isB l) (hl : l.length ≤ 256) {k : Nat} {x : Int} (hk : (2 ≤ k ∧ k < 10) ∨ (10 + (grp l.length).length ≤ k ∧ k < (dictB l).length)) (hx : (dictB l)[k]? ≠ some x) (hx2 : 0 ≤ x ∧ x < 256) :
    dictD ((dictB l).set k x) = ([], 4) ∨ ∃ t, dictD ((dictB l).set k x) = (t, 0) ∧ t ≠ l ∧ isB t ∧ sumL t = sumL l := by
  have hs := sumL_range l
  have hp := grp_pos l.length
  have hlen := dictB_length l
  have htake : ((dictB l).set k x).take 2 = [80, 68] := by
    rw [List.take_set_of_le (by omega), dictB_take]
  rcases hk with hk | hk
  · left
    have hdrop : ((dictB l).set k x).drop 10 = grp l.length ++ l := by
      rw [List.drop_set_of_lt (by omega), dictB_end]
    have hmid : (((dictB l).set k x).drop 2).take 8 = (fixB (sumL l).toNat 8).set (k - 2) x := by
      rw [List.drop_set, if_neg (by omega), List.take_set, dictB_mid]
    have hne : (fixB (sumL l).toNat 8).set (k - 2) x ≠ fixB (sumL l).toNat 8 := by
      refine set_ne (by rw [fixB_length]; omega) ?_
      rw [← dictB_mid, List.getElem?_take_of_lt (by omega), List.getElem?_drop, show 2 + (k - 2) = k by omega]
      exact hx
    unfold dictD
    rw [if_neg (by rw [List.length_set, hlen, htake]; rintro (h | h); omega; exact h rfl), hdrop, gdec_grp l l.length 0 0 (by omega) (by rw [Nat.mul_zero, Nat.pow_zero, Nat.mul_one]; omega) (.inl rfl)]
    simp only [Nat.mul_zero, Nat.pow_zero, Nat.mul_one, Nat.zero_add]
    rw [if_neg (by omega), if_neg (fun c => c trivial), if_pos]
    rw [hmid]
    intro h
    apply hne
    refine leB_inj (isB_set (fixB_isB _ _) hx2) (fixB_isB _ _) (by rw [List.length_set]) ?_
    rw [leB_fixB, Nat.mod_eq_of_lt (by omega)]
    omega
  · have hk2 : k < 10 + (grp l.length).length + l.length := by omega
    have hdrop : ((dictB l).set k x).drop 10 = grp l.length ++ l.set (k - 10 - (grp l.length).length) x := by
      rw [List.drop_set, if_neg (by omega), dictB_end, List.set_append, if_neg (by omega)]
    have hmid : (((dictB l).set k x).drop 2).take 8 = fixB (sumL l).toNat 8 := by
      rw [List.drop_set, if_neg (by omega), List.take_set_of_le (by omega), dictB_mid]
    have hne : l.set (k - 10 - (grp l.length).length) x ≠ l := by
      refine set_ne (by omega) ?_
      intro h
      apply hx
      have e : (dictB l)[k]? = ((dictB l).drop 10)[k - 10]? := by rw [List.getElem?_drop, show 10 + (k - 10) = k by omega]
      rw [e, dictB_end, List.getElem?_append_right (by omega)]
      exact h
    have hd : dictD ((dictB l).set k x) = if ¬ (leB (fixB (sumL l).toNat 8) : Int) = sumL (l.set (k - 10 - (grp l.length).length) x) then ([], 4) else (l.set (k - 10 - (grp l.length).length) x, 0) := by
      unfold dictD
      rw [if_neg (by rw [List.length_set, hlen, htake]; rintro (h | h); omega; exact h rfl), hdrop, gdec_grp _ l.length 0 0 (by omega) (by rw [Nat.mul_zero, Nat.pow_zero, Nat.mul_one]; omega) (.inl rfl)]
      simp only [Nat.mul_zero, Nat.pow_zero, Nat.mul_one, Nat.zero_add]
      rw [if_neg (by omega), if_neg (by rw [List.length_set]; exact fun c => c rfl), hmid]
    rw [hd]
    by_cases he : (leB (fixB (sumL l).toNat 8) : Int) = sumL (l.set (k - 10 - (grp l.length).length) x)
    · right
      refine ⟨_, if_neg (fun c => c he), hne, isB_set hB hx2, ?_⟩
      rw [← he, leB_fixB, Nat.mod_eq_of_lt (by omega)]
      omega
    · left
      exact if_pos he
end Go.X.Try
set_option maxRecDepth 100000
set_option linter.unusedSimpArgs false
namespace Go.X.Try
open Go.IntWalk
def slen (X : List (List Sc)) : Option (Nat × Nat) → Nat
  | none => X.length
  | some (_, n) => n
def pipeHp (g : Option Nat) (most : Int) (sf sc : Option (Nat × Nat)) (X Y : List (List Sc)) (h n : Int) : List Ob := [.cells g (pipeCells most (slv 1 sf) (slv 2 sc) h n), .rows (.recs 3 X), .rows (.recs 3 Y)]
theorem f69 (most h n : Int) (sf sc : Option (Nat × Nat)) (X Y : List (List Sc)) : F69 [.one (.ptr 0 0)] (pipeHp (some 0) most sf sc X Y h n) = some (.one (.int .i64 (slen X sf)), pipeHp (some 0) most sf sc X Y h n) := by
  cases sf <;> cases sc <;> simp -implicitDefEqProofs [F69, c69, upd, pipeHp, pipeCells, slv, slen, RC.len]
theorem f72 (most h n : Int) (sf sc : Option (Nat × Nat)) (X Y : List (List Sc)) : F72 [.one (.ptr 0 0)] (pipeHp (some 0) most sf sc X Y h n) = some (.one (.int .i64 (slen Y sc)), pipeHp (some 0) most sf sc X Y h n) := by
  cases sf <;> cases sc <;> simp -implicitDefEqProofs [F72, c72, upd, pipeHp, pipeCells, slv, slen, RC.len]
theorem f66 (most h n : Int) (sf sc : Option (Nat × Nat)) (X Y : List (List Sc)) (hw : 0 ≤ most ∧ most ≤ 2048) (h1 : slen X sf ≤ 4000) (h2 : slen Y sc ≤ 4000) :
    F66 [.one (.ptr 0 0)] (pipeHp (some 0) most sf sc X Y h n) = some (.one (.int .i64 (most - slen X sf - slen Y sc)), pipeHp (some 0) most sf sc X Y h n) := by
  have w1 : IntKind.i64.wrap (most - slen X sf) = most - slen X sf := i64_in _ (by omega)
  have w2 : IntKind.i64.wrap (most - slen X sf - slen Y sc) = most - slen X sf - slen Y sc := i64_in _ (by omega)
  cases sf <;> cases sc <;> simp only [slen] at w1 w2 <;> simp -implicitDefEqProofs [F66, c66, upd, pipeHp, pipeCells, slv, slen, RC.len, w1, w2]
end Go.X.Try
set_option maxRecDepth 100000
set_option linter.unusedSimpArgs false
namespace Go.X.Try
open Go.IntWalk
def cont (X : List (List Sc)) : Option (Nat × Nat) → List (List Sc)
  | none => X
  | some (o, n) => (X.drop o).take n
def canon30 (s : ByteArray) (i : Int) (most : Int) (sf sc : Option (Nat × Nat)) (X Y : List (List Sc)) (h n : Int) : St :=
  ⟨[(0, .one (.ptr 0 0)), (1, .one (.str s)), (16, .one (.int .i64 s.size)), (17, .one (.int .i64 i))], [.ptr 0 0, .str s], pipeHp (some 0) most sf sc X Y h n⟩
theorem body30 (s : ByteArray) (i : Nat) (b most h n : Int) (sf sc : Option (Nat × Nat)) (X Y : List (List Sc)) (hi : i < s.size) (hs : s.size < 10000) (hb : (toBytes s)[i]? = some b) (hl : (cont X sf).length ≤ 10000) :
    ∃ st1, evC T30 KK b30x0 (canon30 s i most sf sc X Y h n) = some (.norm, st1) ∧ St.head [0, 1, 16, 17] st1 = canon30 s (i + 1 : Nat) most none sc (cont X sf ++ [[.int .u8 b, .int .u64 (sfin (sstep h b) (IntKind.u64.wrap (n + 1))), .bool true]]) Y (sstep h b) (IntKind.u64.wrap (n + 1)) := by
  have hr := toBytes_range s i b hb
  have hc : (i : Int) < s.size := by omega
  have hg : (toBytes s)[i]?.getD 0 = b := by rw [hb]; rfl
  have w2 : IntKind.i64.wrap ((i : Int) + 1) = (i : Int) + 1 := i64_in _ (by omega)
  have e67 := f67 h n b hr.1 hr.2
  have e68 := f68 (sstep h b) (IntKind.u64.wrap (n + 1))
  have hm : ((cont X sf).length + 1) * 24 ≤ 140737488355328 := by omega
  cases sf with
  | none =>
    simp only [cont] at hm ⊢
    cases sc <;> simp -implicitDefEqProofs [b30x0, canon30, pipeHp, pipeCells, slv, upd, hc, hi, hg, w2, e67, e68, hm, RC.len, RC.size, RC.app, RC.ofElems]
  | some p =>
    obtain ⟨o, m⟩ := p
    simp only [cont, List.length_take, List.length_drop] at hm ⊢
    cases sc <;> simp -implicitDefEqProofs [b30x0, canon30, pipeHp, pipeCells, slv, upd, hc, hi, hg, w2, e67, e68, hm, RC.len, RC.size, RC.app, RC.ofElems, RC.cut]
end Go.X.Try
set_option maxRecDepth 100000
set_option linter.unusedSimpArgs false
namespace Go.X.Try
open Go.IntWalk
def sbyte (p : Int × Int) (b : Int) : Int × Int := (sstep p.1 b, IntKind.u64.wrap (p.2 + 1))
def recS (p : Int × Int) (b : Int) : List Sc := [.int .u8 b, .int .u64 (sfin (sstep p.1 b) (IntKind.u64.wrap (p.2 + 1))), .bool true]
def sendR : Int × Int → List Int → List (List Sc)
  | _, [] => []
  | p, b :: l => recS p b :: sendR (sbyte p b) l
def recI (b : Int) : List Sc := [.int .u8 b, .int .u64 0, .bool false]
def okv (X : List (List Sc)) : Option (Nat × Nat) → Prop
  | none => True
  | some (o, n) => o + n ≤ X.length
theorem cont_len (X : List (List Sc)) (s : Option (Nat × Nat)) (h : okv X s) : (cont X s).length = slen X s := by
  cases s with
  | none => rfl
  | some p =>
    obtain ⟨o, n⟩ := p
    simp only [okv] at h
    simp only [cont, slen, List.length_take, List.length_drop]
    omega
theorem sendR_length : ∀ (l : List Int) (p : Int × Int), (sendR p l).length = l.length
  | [], _ => rfl
  | b :: l, p => by simp [sendR, sendR_length l]
theorem cont_le (X : List (List Sc)) (s : Option (Nat × Nat)) (h : okv X s) {n : Nat} (hn : slen X s ≤ n) : (cont X s).length ≤ n := by rw [cont_len X s h]; exact hn
theorem drop_cons {s : ByteArray} {i : Nat} (hi : i < s.size) : ∃ b, (toBytes s)[i]? = some b ∧ (toBytes s).drop i = b :: (toBytes s).drop (i + 1) := by
  obtain ⟨b, hb⟩ : ∃ b, (toBytes s)[i]? = some b := ⟨_, List.getElem?_eq_getElem (by rw [toBytes_length]; omega)⟩
  refine ⟨b, hb, ?_⟩
  obtain ⟨hlt', e⟩ := List.getElem?_eq_some_iff.1 hb
  rw [List.drop_eq_getElem_cons hlt', e]
theorem drop_end {s : ByteArray} {i : Nat} (hi : s.size ≤ i) : (toBytes s).drop i = [] := List.drop_eq_nil_of_le (by rw [toBytes_length]; exact hi)
theorem end30 (s : ByteArray) (i : Nat) (most h n : Int) (sf sc : Option (Nat × Nat)) (X Y : List (List Sc)) (hi : s.size = i) :
    ∃ env, evC T30 KK b30x0 (canon30 s i most sf sc X Y h n) = some (.exit 0, ⟨env, [.ptr 0 0, .str s], pipeHp (some 0) most sf sc X Y h n⟩) := by
  simp -implicitDefEqProofs [b30x0, canon30, pipeHp, pipeCells, hi]
theorem loop30 (s : ByteArray) (hs : s.size < 10000) : ∀ (j i : Nat) (most h n : Int) (sf sc : Option (Nat × Nat)) (X Y : List (List Sc)) (k : Nat), i + j = s.size → (cont X sf).length + j ≤ 10000 → okv X sf → j < k →
    ∃ env sf' X', loopH (evC T30 KK b30x0) [0, 1, 16, 17] k (canon30 s i most sf sc X Y h n) = some (.exit 0, ⟨env, [.ptr 0 0, .str s], pipeHp (some 0) most sf' sc X' Y (((toBytes s).drop i).foldl sbyte (h, n)).1 (((toBytes s).drop i).foldl sbyte (h, n)).2⟩) ∧ cont X' sf' = cont X sf ++ sendR (h, n) ((toBytes s).drop i) ∧ okv X' sf'
  | 0, i, most, h, n, sf, sc, X, Y, k, hi, hl, hok, hk => by
    obtain ⟨env, e⟩ := end30 s i most h n sf sc X Y (by omega)
    rw [drop_end (by omega : s.size ≤ i)]
    exact ⟨env, sf, X, loopH_exit e, by simp [sendR], hok⟩
  | j + 1, i, most, h, n, sf, sc, X, Y, k, hi, hl, hok, hk => by
    obtain ⟨b, hb, hd⟩ := drop_cons (by omega : i < s.size)
    obtain ⟨st1, e1, e2⟩ := body30 s i b most h n sf sc X Y (by omega) hs hb (by omega)
    obtain ⟨env, sf', X', p, q, r⟩ := loop30 s hs j (i + 1) most (sstep h b) (IntKind.u64.wrap (n + 1)) none sc (cont X sf ++ [recS (h, n) b]) Y (k - 1) (by omega) (by simp only [cont, List.length_append, List.length_cons, List.length_nil] at hl ⊢; omega) trivial (by omega)
    refine ⟨env, sf', X', ?_, ?_, r⟩
    · rw [loopH_norm e1 (by omega), e2, hd]; exact p
    · rw [q, hd]; simp [cont, sendR, sbyte]
theorem f30 (s : ByteArray) (most h n : Int) (sf sc : Option (Nat × Nat)) (X Y : List (List Sc)) (hw : 0 ≤ most ∧ most ≤ 2048) (h1 : slen X sf ≤ 4000) (h2 : slen Y sc ≤ 4000) (hok : okv X sf) (hf : (s.size : Int) ≤ most - slen X sf - slen Y sc) :
    ∃ sf' X', F30 [.one (.ptr 0 0), .one (.str s)] (pipeHp (some 0) most sf sc X Y h n) = some (.one (.bool true), pipeHp (some 0) most sf' sc X' Y ((toBytes s).foldl sbyte (h, n)).1 ((toBytes s).foldl sbyte (h, n)).2) ∧ cont X' sf' = cont X sf ++ sendR (h, n) (toBytes s) ∧ okv X' sf' := by
  have hlen := cont_len X sf hok
  have e66 := f66 most h n sf sc X Y hw h1 h2
  have hf' : ¬ (most - slen X sf - slen Y sc < (s.size : Int)) := by omega
  obtain ⟨env, sf', X', p, q, r⟩ := loop30 s (by omega) s.size 0 most h n sf sc X Y KK (by omega) (by omega) hok (by rw [KK_eq]; omega)
  have z : ((0 : Nat) : Int) = 0 := rfl
  simp only [canon30, pipeHp, pipeCells, List.drop_zero, z] at p q e66
  refine ⟨sf', X', ?_, q, r⟩
  generalize slen X sf = lx at *
  generalize slen Y sc = ly at *
  cases sf <;> cases sc <;> cases sf' <;> simp only [slv] at p e66 <;> simp -implicitDefEqProofs [F30, c30, upd, pipeHp, pipeCells, slv, e66, hf', p]
theorem f30' (s : ByteArray) (most h n : Int) (sf sc : Option (Nat × Nat)) (X Y : List (List Sc)) (hw : 0 ≤ most ∧ most ≤ 2048) (h1 : slen X sf ≤ 4000) (h2 : slen Y sc ≤ 4000) (hf : most - slen X sf - slen Y sc < (s.size : Int)) :
    F30 [.one (.ptr 0 0), .one (.str s)] (pipeHp (some 0) most sf sc X Y h n) = some (.one (.bool false), pipeHp (some 0) most sf sc X Y h n) := by
  have e66 := f66 most h n sf sc X Y hw h1 h2
  simp only [pipeHp, pipeCells] at e66
  generalize slen X sf = lx at *
  generalize slen Y sc = ly at *
  cases sf <;> cases sc <;> simp only [slv] at e66 <;> simp -implicitDefEqProofs [F30, c30, upd, pipeHp, pipeCells, slv, e66, hf]
end Go.X.Try
set_option maxRecDepth 100000
set_option linter.unusedSimpArgs false
namespace Go.X.Try
open Go.IntWalk
theorem fold_sb : ∀ (l : List Int) (h : Int) (n : Nat), n + l.length < 100000 → l.foldl sbyte (h, (n : Int)) = (l.foldl sstep h, ((n + l.length : Nat) : Int))
  | [], h, n, _ => by simp
  | b :: l, h, n, hl => by
    have hl' : n + 1 + l.length < 100000 := by simp only [List.length_cons] at hl; omega
    have w : IntKind.u64.wrap ((n : Int) + 1) = ((n + 1 : Nat) : Int) := by rw [u64_in _ (by omega)]; omega
    simp only [List.foldl_cons, sbyte, w]
    rw [fold_sb l (sstep h b) (n + 1) hl']
    simp only [List.length_cons, Prod.mk.injEq, true_and]
    omega
def canon73 (s : ByteArray) (h0 n0 i h n : Int) : St :=
  ⟨[(1, .one (.str s)), (2, .one (.ptr 0 0)), (4, .one (.ptr 1 0)), (7, .one (.int .i64 s.size)), (8, .one (.int .i64 i))], [.int .u64 h0, .int .u64 n0, .str s], [.cells none [.int .u64 h, .int .u64 n], .cells none [.int .u64 0, .int .u64 0]]⟩
theorem body73 (s : ByteArray) (h0 n0 h n b : Int) (i : Nat) (hi : i < s.size) (hs : s.size < 10000) (hb : (toBytes s)[i]? = some b) :
    ∃ st1, evC T73 KK b73x0 (canon73 s h0 n0 i h n) = some (.norm, st1) ∧ St.head [1, 2, 4, 7, 8] st1 = canon73 s h0 n0 (i + 1 : Nat) (sstep h b) (IntKind.u64.wrap (n + 1)) := by
  have hr := toBytes_range s i b hb
  have hc : (i : Int) < s.size := by omega
  have hg : (toBytes s)[i]?.getD 0 = b := by rw [hb]; rfl
  have w2 : IntKind.i64.wrap ((i : Int) + 1) = (i : Int) + 1 := i64_in _ (by omega)
  have e67 := f67 h n b hr.1 hr.2
  simp -implicitDefEqProofs [b73x0, canon73, upd, hc, hi, hg, w2, e67]
theorem end73 (s : ByteArray) (h0 n0 h n i : Int) (hi : ¬ i < s.size) :
    ∃ env, evC T73 KK b73x0 (canon73 s h0 n0 i h n) = some (.exit 0, ⟨env, [.int .u64 h0, .int .u64 n0, .str s], [.cells none [.int .u64 h, .int .u64 n], .cells none [.int .u64 0, .int .u64 0]]⟩) ∧ getT 2 env = .one (.ptr 0 0) ∧ getT 4 env = .one (.ptr 1 0) := by
  simp -implicitDefEqProofs [b73x0, canon73, upd, hi]
theorem loop73 (s : ByteArray) (h0 n0 : Int) (hs : s.size < 10000) : ∀ (j i : Nat) (h n : Int) (K : Nat), i + j = s.size → j < K →
    ∃ env, loopH (evC T73 KK b73x0) [1, 2, 4, 7, 8] K (canon73 s h0 n0 i h n) = some (.exit 0, ⟨env, [.int .u64 h0, .int .u64 n0, .str s], [.cells none [.int .u64 (((toBytes s).drop i).foldl sbyte (h, n)).1, .int .u64 (((toBytes s).drop i).foldl sbyte (h, n)).2], .cells none [.int .u64 0, .int .u64 0]]⟩) ∧ getT 2 env = .one (.ptr 0 0) ∧ getT 4 env = .one (.ptr 1 0)
  | 0, i, h, n, K, hi, hK => by
    obtain ⟨env, e, g⟩ := end73 s h0 n0 h n i (by omega)
    rw [drop_end (by omega : s.size ≤ i)]
    exact ⟨env, loopH_exit e, g⟩
  | j + 1, i, h, n, K, hi, hK => by
    obtain ⟨b, hb, hd⟩ := drop_cons (by omega : i < s.size)
    obtain ⟨st1, e1, e2⟩ := body73 s h0 n0 h n b i (by omega) hs hb
    obtain ⟨env, e, g⟩ := loop73 s h0 n0 hs j (i + 1) (sstep h b) (IntKind.u64.wrap (n + 1)) (K - 1) (by omega) (by omega)
    refine ⟨env, ?_, g⟩
    rw [loopH_norm e1 (by omega), e2, hd]; exact e
theorem f40 (s : ByteArray) (hs : s.size < 10000) : F40 [.one (.str s)] [] = some (.one (.int .u64 (sumL (toBytes s))), []) := by
  have e73 : F73 [.agg [.int .u64 7640891576956012808, .int .u64 0], .one (.str s)] [] = some (.agg [.int .u64 ((toBytes s).foldl sstep 7640891576956012808), .int .u64 s.size], []) := by
    obtain ⟨env, e, g2, g4⟩ := loop73 s 7640891576956012808 0 hs s.size 0 7640891576956012808 0 KK (by omega) (by rw [KK_eq]; omega)
    have hf := fold_sb (toBytes s) 7640891576956012808 0 (by rw [toBytes_length]; omega)
    rw [List.drop_zero, show (0 : Int) = ((0 : Nat) : Int) from rfl, hf, toBytes_length, Nat.zero_add] at e
    have z : ((0 : Nat) : Int) = 0 := rfl
    simp only [canon73, z] at e
    simp -implicitDefEqProofs [F73, c73, upd, e, g2, g4]
  have e68 := f68 ((toBytes s).foldl sstep 7640891576956012808) s.size
  have e64 : F64 [] [] = some (.agg [.int .u64 7640891576956012808, .int .u64 0], []) := by
    simp -implicitDefEqProofs [F64, c64, upd]
  unfold sumL
  rw [toBytes_length]
  simp -implicitDefEqProofs [F40, c40, upd, e64, e73, e68]
theorem e18' (s : ByteArray) (hs : s.size < 10000) : F18 [.one (.str s)] [] = some (.one (.int .u64 (sumL (toBytes s))), []) := by
  rw [e18 s hs]; unfold sumL; rw [toBytes_length]
theorem f17 (s : ByteArray) (hs : s.size < 10000) : F17 [.one (.str s)] [] = some (.one (.int .u64 (sumL (toBytes s))), []) := by
  have e := f40 s hs
  simp -implicitDefEqProofs [F17, c17, upd, e]
def tupSI (s : ByteArray) (e : Int) : AV := .tup [.one (.str s), .one (.int .i64 e)]
theorem f14l (s : ByteArray) (h : 256 < s.size) : F14 [.one (.str s)] [] = some (tupSI ⟨#[]⟩ 5, []) := by
  have h1 : (256 : Int) < s.size := by omega
  simp -implicitDefEqProofs [F14, c14, upd, h, h1, tupSI]
theorem f14 (s : ByteArray) (h : s.size ≤ 256) : F14 [.one (.str s)] [] = some (tupSI (ofBytes (dictB (toBytes s))) 0, []) := by
  have h1 : ¬ (256 : Int) < s.size := by omega
  have h2 : ¬ 256 < s.size := by omega
  have hr := sumL_range (toBytes s)
  have e17 := f17 s (by omega)
  have ep : toBytes ⟨#[80, 68]⟩ = [80, 68] := rfl
  have e46 := f46 ⟨#[80, 68]⟩ [] (by decide)
  rw [ep, List.nil_append] at e46
  have e47 := f47 (sumL (toBytes s)).toNat 8 [80, 68] (by omega) (by simp)
  have hz : sz 8 = 8 := by unfold sz; rfl
  rw [hz, show (((sumL (toBytes s)).toNat : Nat) : Int) = sumL (toBytes s) by omega] at e47
  have hlen : ([80, 68] ++ fixB (sumL (toBytes s)).toNat 8).length ≤ 1000 := by rw [List.length_append, fixB_length]; decide
  have e48 := f48 s ([80, 68] ++ fixB (sumL (toBytes s)).toNat 8) hlen (by omega)
  have hD : [80, 68] ++ fixB (sumL (toBytes s)).toNat 8 ++ grp s.size ++ toBytes s = dictB (toBytes s) := by
    unfold dictB
    rw [toBytes_length, List.append_assoc, List.append_assoc]
  rw [hD] at e48
  have e49 := f49 (dictB (toBytes s))
  generalize [80, 68] ++ fixB (sumL (toBytes s)).toNat 8 = q at *
  generalize dictB (toBytes s) = d at *
  generalize sumL (toBytes s) = m at *
  simp only [wHp] at e46 e47 e48 e49
  simp -implicitDefEqProofs [F14, c14, upd, h1, h2, tupSI, e17, e46, e47, e48, e49]
theorem f16 (s : ByteArray) (h : s.size ≤ 256) : F16 [.one (.str s)] [] = some (.one (.str (ofBytes (dictB (toBytes s)))), []) := by
  have hr := sumL_range (toBytes s)
  have e18 := e18' s (by omega)
  have e56 := f56 (sumL (toBytes s)).toNat 8 (by omega)
  have hz : sz 8 = 8 := by unfold sz; rfl
  rw [hz, show (((sumL (toBytes s)).toNat : Nat) : Int) = sumL (toBytes s) by omega] at e56
  have e57 := f57 s (by omega)
  have ep : (⟨#[80, 68]⟩ : ByteArray) = ofBytes [80, 68] := rfl
  have a1 := ofBytes_append [80, 68] (fixB (sumL (toBytes s)).toNat 8)
  have a2 := ofBytes_append ([80, 68] ++ fixB (sumL (toBytes s)).toNat 8) (grp s.size ++ toBytes s)
  have hD : [80, 68] ++ fixB (sumL (toBytes s)).toNat 8 ++ (grp s.size ++ toBytes s) = dictB (toBytes s) := by
    unfold dictB
    rw [toBytes_length]
  rw [hD] at a2
  have hm1 : (ofBytes [80, 68]).size + (ofBytes (fixB (sumL (toBytes s)).toNat 8)).size ≤ 9223372036854775807 := by rw [size_ofBytes, size_ofBytes, fixB_length]; decide
  have hm2 : (ofBytes ([80, 68] ++ fixB (sumL (toBytes s)).toNat 8)).size + (ofBytes (grp s.size ++ toBytes s)).size ≤ 9223372036854775807 := by
    have := grp_ten (v := s.size) (by omega)
    rw [size_ofBytes, size_ofBytes, List.length_append, fixB_length, List.length_append, size_toBytes]; simp only [List.length_cons, List.length_nil]; omega
  generalize [80, 68] ++ fixB (sumL (toBytes s)).toNat 8 = q at *
  generalize grp s.size ++ toBytes s = g at *
  generalize dictB (toBytes s) = d at *
  generalize fixB (sumL (toBytes s)).toNat 8 = fx at *
  generalize sumL (toBytes s) = m at *
  simp -implicitDefEqProofs [F16, c16, upd, e18, e56, e57, ep, a1, a2, hm1, hm2]
end Go.X.Try
set_option maxRecDepth 100000
set_option linter.unusedSimpArgs false
namespace Go.X.Try
open Go.IntWalk
theorem eqS2 {x : List Int} (hx : isB x) : (ofBytes x).toList = [80, 68] ↔ x = [80, 68] := by
  have e := eqS (l := x) (m := [80, 68]) hx (by intro y hy; simp at hy; omega)
  have e2 : (ofBytes [80, 68]).toList = [80, 68] := by simp [ofBytes]
  rw [e2, Bool.eq_iff_iff, beq_iff_eq, decide_eq_true_eq] at e
  exact e
theorem f15core (l x1 r1 r2 r3 t r4 : List Int) (b1 b2 b3 b4 : Bool) (v n : Int) (m : Nat) (hx : isB x1)
    (e50 : F50 [.one (.str (ofBytes l))] [] = some (.one (.ptr 0 0), rHp none l false))
    (e51 : F51 [.one (.ptr 0 0), .one (.int .i64 2)] (rHp (some 0) l false) = some (.one (.str (ofBytes x1)), rHp (some 0) r1 b1))
    (e52 : F52 [.one (.ptr 0 0), .one (.int .i64 8)] (rHp (some 0) r1 b1) = some (.one (.int .u64 v), rHp (some 0) r2 b2))
    (e53 : F53 [.one (.ptr 0 0)] (rHp (some 0) r2 b2) = some (.one (.int .u64 n), rHp (some 0) r3 b3))
    (hh : ¬ 256 < n → IntKind.i64.wrap n = m ∧ F51 [.one (.ptr 0 0), .one (.int .i64 m)] (rHp (some 0) r3 b3) = some (.one (.str (ofBytes t)), rHp (some 0) r4 b4) ∧ F17 [.one (.str (ofBytes t))] [] = some (.one (.int .u64 (sumL t)), [])) :
    F15 [.one (.str (ofBytes l))] [] = some (if b3 = true ∨ ¬ x1 = [80, 68] then tupSI ⟨#[]⟩ 3 else if 256 < n then tupSI ⟨#[]⟩ 5 else if b4 = true ∨ ¬ r4 = [] then tupSI ⟨#[]⟩ 3 else if ¬ sumL t = v then tupSI ⟨#[]⟩ 4 else tupSI (ofBytes t) 0, []) := by
  have e54 := f54 r3 b3
  have e55 := f55 r4 b4
  have q := eqS2 hx
  simp only [rHp] at e50 e51 e52 e53 e54 e55 hh
  cases b3 with
  | true => simp -implicitDefEqProofs [F15, c15, upd, e50, e51, e52, e53, e54, q, tupSI]
  | false =>
    by_cases hp : x1 = [80, 68]
    · rw [if_neg (by rintro (h | h); cases h; exact h hp)]
      have q := q.2 hp
      clear hp
      by_cases h1 : 256 < n
      · simp -implicitDefEqProofs [F15, c15, upd, e50, e51, e52, e53, e54, q, tupSI, h1]
      · obtain ⟨w, e51', e17⟩ := hh h1
        cases b4 with
        | true => simp -implicitDefEqProofs [F15, c15, upd, e50, e51, e52, e53, e54, q, tupSI, h1, w, e51', e55]
        | false =>
          by_cases hr : r4 = []
          · subst hr
            by_cases hs : sumL t = v
            · simp -implicitDefEqProofs [F15, c15, upd, e50, e51, e52, e53, e54, q, tupSI, h1, w, e51', e55, e17, hs]
            · simp -implicitDefEqProofs [F15, c15, upd, e50, e51, e52, e53, e54, q, tupSI, h1, w, e51', e55, e17, hs]
          · simp -implicitDefEqProofs [F15, c15, upd, e50, e51, e52, e53, e54, q, tupSI, h1, w, e51', e55, hr]
    · simp -implicitDefEqProofs [F15, c15, upd, e50, e51, e52, e53, e54, q, tupSI, hp, mt q.1 hp]


theorem rAns_nat (l : List Int) (m : Nat) : rAns l m = if l.length < m then ([], [], true) else (l.take m, l.drop m, false) := by
  unfold rAns
  by_cases h : l.length < m
  · rw [if_pos (by omega), if_pos h]
  · rw [if_neg (by omega), if_neg h, Int.toNat_natCast]
theorem f15 (l : List Int) (hB : isB l) (hl : l.length ≤ 5000) : F15 [.one (.str (ofBytes l))] [] = some (tupSI (ofBytes (dictD l).1) (dictD l).2, []) := by
  have hnil : isB ([] : List Int) := by simp [isB]
  have hz : sz 8 = 8 := by unfold sz; rfl
  have e50 := f50 (ofBytes l)
  rw [toBytes_ofBytes hB] at e50
  have e17n : F17 [.one (.str (ofBytes []))] [] = some (.one (.int .u64 (sumL [])), []) := f17 (ofBytes []) (by decide)
  have wz : IntKind.i64.wrap (((0 : Nat) : Int)) = ((0 : Nat) : Int) := rfl
  by_cases h2 : l.length < 2
  · have e51 := f51' l (2 : Nat) (by omega)
    rw [rAns_nat, if_pos h2] at e51
    rw [f15core l [] [] [] [] [] [] true true true true 0 (0 : Nat) 0 hnil e50 e51 (f52b [] 8) (f53b []) (fun _ => ⟨wz, f51b [] (0 : Nat), e17n⟩)]
    unfold dictD
    rw [if_pos (.inl rfl), if_pos (.inl (by omega))]; rfl
  · have e51 := f51' l (2 : Nat) (by omega)
    rw [rAns_nat, if_neg h2] at e51
    have hl1 : (l.drop 2).length = l.length - 2 := List.length_drop ..
    have e52 := f52 (l.drop 2) 8 (isB_drop 2 hB) (by omega)
    rw [hz, rAns_nat] at e52
    by_cases h10 : l.length < 10
    · rw [if_pos (by omega)] at e52
      rw [f15core l _ _ [] [] [] [] false true true true _ (0 : Nat) 0 (isB_take 2 hB) e50 e51 e52 (f53b []) (fun _ => ⟨wz, f51b [] (0 : Nat), e17n⟩)]
      unfold dictD
      rw [if_pos (.inl rfl), if_pos (.inl h10)]; rfl
    · rw [if_neg (by omega)] at e52
      have hd : (l.drop 2).drop 8 = l.drop 10 := by rw [List.drop_drop]
      rw [hd] at e52
      have hB10 := isB_drop 10 hB
      have e53 := f53 (l.drop 10) hB10 (by rw [List.length_drop]; omega)
      have hok := gAns_ok (l.drop 10) hB10
      have hinv := fun u r => gdec_inv (l.drop 10) 0 0 u r hB10 (by omega)
      unfold gAns at e53 hok
      cases hg : gdec 0 0 (l.drop 10) with
      | none =>
        rw [hg] at e53
        rw [f15core l _ _ _ [] [] [] false false true true _ (0 : Nat) 0 (isB_take 2 hB) e50 e51 e52 e53 (fun _ => ⟨wz, f51b [] (0 : Nat), e17n⟩)]
        rw [if_pos (.inl rfl)]
        unfold dictD
        rw [hg]
        split <;> rfl
      | some p =>
        obtain ⟨n, r⟩ := p
        rw [hg] at e53 hok
        simp only at e53 hok
        obtain ⟨a, ha, hu, _⟩ := hinv n r hg
        have hrl : r.length ≤ l.length := by
          have := congrArg List.length ha
          rw [List.length_drop, List.length_append] at this
          omega
        have hBr : isB r := hok.2.1
        by_cases hbig : 256 < n
        · rw [f15core l _ _ _ r [] [] false false false false _ n 0 (isB_take 2 hB) e50 e51 e52 e53 (fun h => absurd (by omega) h)]
          unfold dictD
          rw [hg]
          by_cases hp : l.take 2 = [80, 68]
          · rw [if_neg (by rintro (h | h); cases h; exact h hp), if_pos (by omega), if_neg (by rintro (h | h); omega; exact h hp)]; simp only; rw [if_pos hbig]; rfl
          · rw [if_pos (.inr hp), if_pos (.inr hp)]; rfl
        · have w : IntKind.i64.wrap ((n : Nat) : Int) = (n : Int) := i64_in _ (by omega)
          have e51' := f51' r (n : Nat) (by omega)
          rw [rAns_nat] at e51'
          by_cases hrm : r.length < n
          · rw [if_pos hrm] at e51'
            rw [f15core l _ _ _ _ _ _ false false false true _ n n (isB_take 2 hB) e50 e51 e52 e53 (fun _ => ⟨w, e51', e17n⟩)]
            unfold dictD
            rw [hg]
            by_cases hp : l.take 2 = [80, 68]
            · rw [if_neg (by rintro (h | h); cases h; exact h hp), if_neg (by omega), if_pos (.inl rfl), if_neg (by rintro (h | h); omega; exact h hp)]; simp only; rw [if_neg hbig, if_pos (by omega)]; rfl
            · rw [if_pos (.inr hp), if_pos (.inr hp)]; rfl
          · rw [if_neg hrm] at e51'
            rw [f15core l _ _ _ _ _ _ false false false false _ n n (isB_take 2 hB) e50 e51 e52 e53 (fun _ => ⟨w, e51', (by have := f17 (ofBytes (r.take n)) (by rw [size_ofBytes, List.length_take]; omega); rwa [toBytes_ofBytes (isB_take n hBr)] at this)⟩)]
            unfold dictD
            rw [hg]
            by_cases hp : l.take 2 = [80, 68]
            · rw [if_neg (by rintro (h | h); cases h; exact h hp), if_neg (by omega)]
              have hif : ∀ (x y : List Int × Int), (if l.length < 10 ∨ ¬ l.take 2 = [80, 68] then x else y) = y := fun x y => if_neg (by rintro (h | h); omega; exact h hp)
              rw [hif]
              simp only
              rw [if_neg hbig]
              by_cases hrn : r.length = n
              · have ht : r.take n = r := List.take_of_length_le (by omega)
                have hdr : r.drop n = [] := List.drop_eq_nil_of_le (by omega)
                rw [ht, hdr, if_neg (by rintro (h | h); cases h; exact h rfl)]
                by_cases hs : sumL r = (leB ((l.drop 2).take 8) : Int)
                · rw [if_neg (fun c => c hs), if_neg (fun c => c hrn), if_neg (fun c => c hs.symm)]
                · rw [if_pos hs, if_neg (fun c => c hrn), if_pos (fun c => hs c.symm)]; rfl
              · have hdr : ¬ r.drop n = [] := fun h => by
                  have := congrArg List.length h
                  rw [List.length_drop, List.length_nil] at this
                  omega
                rw [if_pos (.inr hdr), if_pos hrn]; rfl
            · rw [if_pos (.inr hp), if_pos (.inr hp)]; rfl
end Go.X.Try
set_option maxRecDepth 100000
set_option linter.unusedSimpArgs false
namespace Go.X.Try
open Go.IntWalk
theorem f19 (l : List Int) (hB : isB l) (hl : l.length ≤ 5000) : F19 [.one (.str (ofBytes l))] [] = some (tupSI (ofBytes (dictD l).1) (dictD l).2, []) := by
  have e3 := size_ofBytes l
  by_cases h10 : l.length < 10
  · have h10i : (l.length : Int) < 10 := by omega
    unfold dictD
    rw [if_pos (.inl h10)]
    simp -implicitDefEqProofs [F19, c19, upd, e3, h10, h10i, tupSI, ofBytes_nil]
  · have h10i : ¬ (l.length : Int) < 10 := by omega
    have h2 : (2 : Int) ≤ l.length := by omega
    have h2' : 2 ≤ l.length := by omega
    have h10' : 10 ≤ l.length := by omega
    have h10j : (10 : Int) ≤ l.length := by omega
    have ex0 := ofBytes_extract l 0 2
    rw [List.drop_zero, show 2 - 0 = 2 from rfl] at ex0
    have ex1 := ofBytes_extract l 10 l.length
    rw [List.take_of_length_le (by rw [List.length_drop]; omega)] at ex1
    have ex2 := ofBytes_extract l 2 10
    rw [show 10 - 2 = 8 from rfl] at ex2
    have q := eqS2 (isB_take 2 hB)
    by_cases hp : l.take 2 = [80, 68]
    · have q' := q.2 hp
      have hif : ∀ (x y : List Int × Int), (if l.length < 10 ∨ ¬ l.take 2 = [80, 68] then x else y) = y := fun x y => if_neg (by rintro (h | h); omega; exact h hp)
      unfold dictD
      rw [hif]
      clear hif hp q
      have hB10 := isB_drop 10 hB
      have hinv := fun u r => gdec_inv (l.drop 10) 0 0 u r hB10 (by omega)
      have hgl := fun u r => gdec_lt (l.drop 10) 0 0 u r hB10 (by omega) (by simp)
      cases hg : gdec 0 0 (l.drop 10) with
      | none =>
        have e58 := f40_none (l.drop 10) hB10 (by rw [List.length_drop]; omega) (fun u r hu h => by rw [h, gdec_grp r u 0 0 (by omega) (by simpa using hu) (.inl rfl)] at hg; cases hg)
        simp -implicitDefEqProofs [F19, c19, upd, e3, h10, h10i, h2, h2', h10', h10j, ex0, ex1, q', e58, tupF, tupSI, ofBytes_nil]
      | some p =>
        obtain ⟨n, r⟩ := p
        obtain ⟨a, ha, hu, _⟩ := hinv n r hg
        have hlt := hgl n r hg
        simp only [Nat.mul_zero, Nat.pow_zero, Nat.mul_one, Nat.zero_add] at hu
        subst hu
        have e58 := f40_some (l.drop 10) n r hB10 (by rw [List.length_drop]; omega) ha hlt
        have hk := grp_pos n
        have hlen : l.length = 10 + (grp n).length + r.length := by
          have := congrArg List.length ha
          rw [List.length_drop, List.length_append] at this
          omega
        have n0 : ¬ ((grp n).length : Int) = 0 := by omega
        have n0' : ¬ (grp n).length = 0 := by omega
        have n0'' : ¬ grp n = [] := fun h => n0' (by rw [h]; rfl)
        simp only
        by_cases hbig : 256 < n
        · have hbi : (256 : Int) < n := by omega
          rw [if_pos hbig]
          simp -implicitDefEqProofs [F19, c19, upd, e3, h10, h10i, h2, h2', h10', h10j, ex0, ex1, q', e58, tupF, tupSI, ofBytes_nil, n0, n0', n0'', hbig, hbi]
        · have hbi : ¬ (256 : Int) < n := by omega
          rw [if_neg hbig]
          obtain ⟨k, hkd⟩ : ∃ k, k = 10 + (grp n).length := ⟨_, rfl⟩
          have w : IntKind.i64.wrap ((10 : Int) + (grp n).length) = (k : Int) := by rw [i64_in _ (by omega)]; omega
          have w2 : IntKind.i64.wrap (n : Int) = n := i64_in _ (by omega)
          have hc1 : k ≤ l.length := by omega
          have hc2 : (k : Int) ≤ (l.length : Int) := by omega
          have ex3 := ofBytes_extract l k l.length
          have hdr : (l.drop k).take (l.length - k) = r := by
            rw [hkd, List.take_of_length_le (by rw [List.length_drop]; omega), ← List.drop_drop, ha, List.drop_left' rfl]
          rw [hdr] at ex3
          have e3r := size_ofBytes r
          have hBr : isB r := by
            rw [ha] at hB10
            exact fun x hx => hB10 x (List.mem_append.2 (.inr hx))
          by_cases hrn : r.length = n
          · have hri : (r.length : Int) = n := by omega
            have e59 := f59 ((l.drop 2).take 8) (isB_take 8 (isB_drop 2 hB)) (by rw [List.length_take]; omega)
            have e18 := e18' (ofBytes r) (by rw [size_ofBytes]; omega)
            rw [toBytes_ofBytes hBr] at e18
            rw [if_neg (fun c => c hrn)]
            by_cases hs : (leB ((l.drop 2).take 8) : Int) = sumL r
            · rw [if_neg (fun c => c hs)]
              rw [hs] at e59
              simp -implicitDefEqProofs [F19, c19, upd, e3, h10, h10i, h2, h2', h10', h10j, ex0, ex1, ex2, ex3, q', e58, tupF, tupSI, ofBytes_nil, n0, n0', n0'', hbig, hbi, w, w2, hc1, hc2, e3r, hrn, hri, e59, e18]
            · rw [if_pos hs]
              simp -implicitDefEqProofs [F19, c19, upd, e3, h10, h10i, h2, h2', h10', h10j, ex0, ex1, ex2, ex3, q', e58, tupF, tupSI, ofBytes_nil, n0, n0', n0'', hbig, hbi, w, w2, hc1, hc2, e3r, hrn, hri, e59, e18, hs]
          · have hri : ¬ (r.length : Int) = n := by omega
            rw [if_pos hrn]
            simp -implicitDefEqProofs [F19, c19, upd, e3, h10, h10i, h2, h2', h10', h10j, ex0, ex1, ex2, ex3, q', e58, tupF, tupSI, ofBytes_nil, n0, n0', n0'', hbig, hbi, w, w2, hc1, hc2, e3r, hrn, hri]
    · have q' : ¬ (ofBytes (l.take 2)).toList = [80, 68] := fun h => hp (q.1 h)
      unfold dictD
      rw [if_pos (.inr hp)]
      clear hp q
      simp -implicitDefEqProofs [F19, c19, upd, e3, h10, h10i, h2, h2', ex0, q', tupSI, ofBytes_nil]
end Go.X.Try
set_option maxRecDepth 100000
set_option linter.unusedSimpArgs false
namespace Go.X.Try
open Go.IntWalk
theorem h13 : F13 [] [] = some (.one (.bool true), []) := by
  have eb : toBytes ⟨#[97, 98, 99]⟩ = [97, 98, 99] := rfl
  have e14 := f14 ⟨#[97, 98, 99]⟩ (by decide)
  rw [eb] at e14
  have hl := dictB_length [97, 98, 99]
  have hg : grp ([97, 98, 99] : List Int).length = [3] := by rw [grp_lt (by decide)]; rfl
  rw [hg] at hl
  simp only [List.length_cons, List.length_nil] at hl
  have e15 := f15 (dictB [97, 98, 99]) (dictB_isB (by intro x hx; simp at hx; omega)) (by omega)
  rw [dict_back (by decide)] at e15
  have eo : ofBytes [97, 98, 99] = ⟨#[97, 98, 99]⟩ := rfl
  have e3 := size_ofBytes (dictB [97, 98, 99])
  rw [hl] at e3
  simp only [eo, tupSI] at e14 e15
  generalize dictB [97, 98, 99] = d at *
  simp -implicitDefEqProofs [F13, c13, upd, e14, e15, e3]
theorem law3 (s : ByteArray) (_ : s.size ≤ maxLen) : F3 [.one (.str s)] [] = some (.one (.bool true), []) := by
  by_cases h4 : 400 < s.size
  · have h4i : (400 : Int) < s.size := by omega
    simp -implicitDefEqProofs [F3, c3, upd, h13, h4, h4i]
  · have h4i : ¬ (400 : Int) < s.size := by omega
    by_cases h2 : 256 < s.size
    · have h2i : (256 : Int) < s.size := by omega
      have e14 := f14l s h2
      simp only [tupSI] at e14
      simp -implicitDefEqProofs [F3, c3, upd, h13, h4, h4i, h2, h2i, e14]
    · have h2i : ¬ (256 : Int) < s.size := by omega
      have hlen := size_toBytes s
      have h10 := grp_ten (v := (toBytes s).length) (by omega)
      have hdl := dictB_length (toBytes s)
      have e14 := f14 s (by omega)
      have e15 := f15 (dictB (toBytes s)) (dictB_isB (isB_toBytes s)) (by omega)
      rw [dict_back (by omega)] at e15
      have e16 := f16 s (by omega)
      have e17 := f17 s (by omega)
      have e18 := e18' s (by omega)
      have eb := ofBytes_toBytes s
      simp only [tupSI, eb] at e14 e15
      generalize dictB (toBytes s) = d at *
      generalize sumL (toBytes s) = m at *
      simp -implicitDefEqProofs [F3, c3, upd, h13, h4, h4i, h2, h2i, e14, e15, e16, e17, e18]
theorem law4 (s : ByteArray) (_ : s.size ≤ maxLen) : F4 [.one (.str s)] [] = some (.one (.bool true), []) := by
  by_cases h4 : 400 < s.size
  · have h4i : (400 : Int) < s.size := by omega
    simp -implicitDefEqProofs [F4, c4, upd, h13, h4, h4i]
  · have h4i : ¬ (400 : Int) < s.size := by omega
    have hlen := size_toBytes s
    have hB := isB_toBytes s
    have eb := ofBytes_toBytes s
    have e15 := f15 (toBytes s) hB (by omega)
    have e19 := f19 (toBytes s) hB (by omega)
    rw [eb] at e15 e19
    have hany := fun r => dict_any (l := toBytes s) (r := r) hB
    generalize hd : dictD (toBytes s) = d at *
    obtain ⟨t, e⟩ := d
    by_cases he : e = 0
    · subst he
      obtain ⟨h1, h2, h3⟩ := hany t rfl
      have e14 := f14 (ofBytes t) (by rw [size_ofBytes]; omega)
      rw [toBytes_ofBytes h3, h1, eb] at e14
      simp only [tupSI] at e14 e15 e19
      simp -implicitDefEqProofs [F4, c4, upd, h13, h4, h4i, e14, e15, e19]
    · have ht : t = [] := by
        unfold dictD at hd
        split at hd
        · simp at hd; exact hd.1
        · split at hd
          · simp at hd; exact hd.1
          · split at hd
            · simp at hd; exact hd.1
            · split at hd
              · simp at hd; exact hd.1
              · split at hd
                · simp at hd; exact hd.1
                · simp at hd; exact absurd hd.2.symm he
      subst ht
      have e14 := f14 (ofBytes []) (by decide)
      simp only [tupSI] at e14 e15 e19
      simp -implicitDefEqProofs [F4, c4, upd, h13, h4, h4i, e14, e15, e19, he]
end Go.X.Try
set_option maxRecDepth 100000
set_option linter.unusedSimpArgs false
namespace Go.X.Try
open Go.IntWalk
theorem bitsI_xor8 {x y : Nat} (hx : x < 256) (hy : y < 256) : bitsI .xor .u8 (x : Int) (y : Int) = ((x ^^^ y : Nat) : Int) ∧ x ^^^ y < 256 := by
  have e : ((BitVec.ofInt 8 (x : Int) ^^^ BitVec.ofInt 8 (y : Int)).toNat : Int) = ((x ^^^ y : Nat) : Int) := by
    rw [BitVec.toNat_xor, BitVec.ofInt_natCast, BitVec.ofInt_natCast, BitVec.toNat_ofNat, BitVec.toNat_ofNat, Nat.mod_eq_of_lt (by omega), Nat.mod_eq_of_lt (by omega)]
  have hlt : x ^^^ y < 2 ^ 8 := Nat.xor_lt_two_pow (by omega) (by omega)
  refine ⟨?_, by omega⟩
  show IntKind.u8.wrap _ = _
  have e2 : ((BitVec.ofInt IntKind.u8.bits (x : Int) ^^^ BitVec.ofInt IntKind.u8.bits (y : Int)).toNat : Int) = ((x ^^^ y : Nat) : Int) := e
  rw [e2]
  exact u8_in _ (by omega)
theorem xor_ne {x y : Nat} (hy : y ≠ 0) : x ^^^ y ≠ x := fun h => by
  have : x ^^^ (x ^^^ y) = x ^^^ x := by rw [h]
  rw [← Nat.xor_assoc, Nat.xor_self, Nat.zero_xor] at this
  exact hy this
theorem law5c (s : ByteArray) (a b x x' : Int) (d t : List Int) (e : Int) (k0 k : Nat) (res : Bool) (h2 : s.size ≤ 200) (hb0 : ¬ b = 0) (hb : 0 ≤ b ∧ b < 256)
    (e14 : F14 [.one (.str s)] [] = some (tupSI (ofBytes d) 0, [])) (ht : toBytes (ofBytes d) = d) (hd : d.length ≤ 5000) (hn : s.size ≤ d.length)
    (wa : IntKind.i64.wrap a = a) (wm : IntKind.i64.wrap ((8 : Int) + s.size) = 8 + s.size) (hk0 : a.tmod (8 + s.size) = (k0 : Int) - 2) (wk : IntKind.i64.wrap ((2 : Int) + ((k0 : Int) - 2)) = k0)
    (wr : IntKind.i64.wrap ((k0 : Int) - 2) = (k0 : Int) - 2)
    (hm0 : ¬ (8 : Int) + s.size = 0)
    (hk : (k0 < 10 ∧ k = k0) ∨ (10 ≤ k0 ∧ IntKind.i64.wrap ((d.length : Int) - s.size + k0) = (d.length : Int) - s.size + k0 ∧ IntKind.i64.wrap ((d.length : Int) - s.size + k0 - 10) = (k : Int)))
    (wh : IntKind.i64.wrap ((d.length : Int) - s.size) = (d.length : Int) - s.size)
    (hkd : k < d.length) (hx : d[k]?.getD 0 = x) (hxo : bitsI .xor .u8 x b = x')
    (e15 : F15 [.one (.str (ofBytes (d.set k x')))] [] = some (tupSI (ofBytes t) e, []))
    (hres : (e = 0 ∧ (ofBytes t) ≠ s ∧ ∃ m, F18 [.one (.str (ofBytes t))] [] = some (.one (.int .u64 m), []) ∧ F18 [.one (.str s)] [] = some (.one (.int .u64 m), [])) ∨ (e = 4 ∧ t = [])) :
    F5 [.one (.str s), .one (.int .u16 a), .one (.int .u8 b)] [] = some (.one (.bool true), []) := by
  have h2i : ¬ (200 : Int) < s.size := by omega
  have h2n : ¬ 200 < s.size := by omega
  have hx' : d[k] = x := by rw [List.getElem?_eq_getElem hkd] at hx; exact hx
  have hkdi : (k : Int) < d.length := by omega
  have hsz : (ofBytes d).size ≤ 140737488355328 := by rw [size_ofBytes]; omega
  simp only [tupSI] at e14 e15
  have fin : ∀ (q : Bool), ((ofBytes t).toList == s.toList) = decide (ofBytes t = s) := fun _ => beqS _ _
  rcases hk with ⟨h10, rfl⟩ | ⟨h10, w1, w2⟩
  · have h10i : ¬ (10 : Int) ≤ (k : Int) := by omega
    have h10n : ¬ 10 ≤ k := by omega
    rcases hres with ⟨rfl, hne, m, e18, e18b⟩ | ⟨rfl, rfl⟩
    · have hq : ¬ (ofBytes t).toList = s.toList := fun h => by
        have := fin true
        rw [h, beq_self_eq_true] at this
        exact hne (of_decide_eq_true this.symm)
      simp -implicitDefEqProofs [F5, c5, upd, h13, h2i, h2n, hb0, e14, ht, hsz, RC.len, RC.size, RC.elem, takeE, wh, wa, wm, hm0, hk0, wr, wk, h10i, h10n, hkd, hkdi, hx, hx', hxo, e15, hq, e18, e18b, RC.set]
    · simp -implicitDefEqProofs [F5, c5, upd, h13, h2i, h2n, hb0, e14, ht, hsz, RC.len, RC.size, RC.elem, takeE, wh, wa, wm, hm0, hk0, wr, wk, h10i, h10n, hkd, hkdi, hx, hx', hxo, e15, ofBytes_nil, RC.set]
  · have h10i : (10 : Int) ≤ (k0 : Int) := by omega
    rcases hres with ⟨rfl, hne, m, e18, e18b⟩ | ⟨rfl, rfl⟩
    · have hq : ¬ (ofBytes t).toList = s.toList := fun h => by
        have := fin true
        rw [h, beq_self_eq_true] at this
        exact hne (of_decide_eq_true this.symm)
      simp -implicitDefEqProofs [F5, c5, upd, h13, h2i, h2n, hb0, e14, ht, hsz, RC.len, RC.size, RC.elem, takeE, wh, wa, wm, hm0, hk0, wr, wk, h10i, h10, w1, w2, hkd, hkdi, hx, hx', hxo, e15, hq, e18, e18b, RC.set]
    · simp -implicitDefEqProofs [F5, c5, upd, h13, h2i, h2n, hb0, e14, ht, hsz, RC.len, RC.size, RC.elem, takeE, wh, wa, wm, hm0, hk0, wr, wk, h10i, h10, w1, w2, hkd, hkdi, hx, hx', hxo, e15, ofBytes_nil, RC.set]
theorem law5 (s : ByteArray) (a b : Int) (_ : s.size ≤ maxLen) (ha : (Lit.int .u16 a).wf = true) (hb : (Lit.int .u8 b).wf = true) : F5 [.one (.str s), .one (.int .u16 a), .one (.int .u8 b)] [] = some (.one (.bool true), []) := by
  simp [Lit.wf, IntKind.min, IntKind.max, IntKind.signed, IntKind.bits] at ha hb
  by_cases h2 : 200 < s.size
  · have h2i : (200 : Int) < s.size := by omega
    simp -implicitDefEqProofs [F5, c5, upd, h13, h2, h2i]
  · have h2i : ¬ (200 : Int) < s.size := by omega
    by_cases hb0 : b = 0
    · subst hb0
      simp -implicitDefEqProofs [F5, c5, upd, h13, h2, h2i]
    · have hlen := size_toBytes s
      have hB := isB_toBytes s
      have hgr := grp_ten (v := (toBytes s).length) (by omega)
      have hgp := grp_pos (toBytes s).length
      have hdl := dictB_length (toBytes s)
      have hdB := dictB_isB hB
      have e14 := f14 s (by omega)
      obtain ⟨k0, hk0⟩ : ∃ k0 : Nat, (k0 : Int) = a.tmod (8 + s.size) + 2 := ⟨(a.tmod (8 + s.size) + 2).toNat, by
        have := Int.tmod_nonneg (8 + s.size : Int) ha.1
        omega⟩
      have hk1 : k0 < 10 + s.size := by
        have := Int.tmod_lt_of_pos a (show (0 : Int) < 8 + s.size by omega)
        omega
      have hk2 : 2 ≤ k0 := by
        have := Int.tmod_nonneg (8 + s.size : Int) ha.1
        omega
      obtain ⟨k, hk⟩ : ∃ k, k = if k0 < 10 then k0 else (dictB (toBytes s)).length - s.size + k0 - 10 := ⟨_, rfl⟩
      have hkc : (k0 < 10 ∧ k = k0) ∨ (10 ≤ k0 ∧ k + 10 = (dictB (toBytes s)).length - s.size + k0) := by
        by_cases h : k0 < 10
        · rw [if_pos h] at hk; exact .inl ⟨h, hk⟩
        · rw [if_neg h] at hk; exact .inr ⟨by omega, by omega⟩
      have hkd : k < (dictB (toBytes s)).length := by omega
      obtain ⟨x, hx⟩ : ∃ x : Nat, (dictB (toBytes s))[k]? = some (x : Int) ∧ x < 256 := by
        have := hdB _ (List.getElem_mem hkd)
        exact ⟨((dictB (toBytes s))[k]).toNat, by rw [List.getElem?_eq_getElem hkd, show ((((dictB (toBytes s))[k]).toNat : Nat) : Int) = (dictB (toBytes s))[k] by omega], by omega⟩
      obtain ⟨y, rfl⟩ : ∃ y : Nat, b = y := ⟨b.toNat, by omega⟩
      obtain ⟨hxo, hxl⟩ := bitsI_xor8 hx.2 (show y < 256 by omega)
      have hne : (dictB (toBytes s))[k]? ≠ some ((x ^^^ y : Nat) : Int) := by
        rw [hx.1]
        intro h
        simp only [Option.some.injEq] at h
        exact xor_ne (x := x) (show y ≠ 0 by omega) (by omega)
      have e15 := f15 ((dictB (toBytes s)).set k ((x ^^^ y : Nat) : Int)) (isB_set hdB (by omega)) (by rw [List.length_set]; omega)
      have hturn := dict_turned hB (by omega) (k := k) (x := ((x ^^^ y : Nat) : Int)) (by omega) hne (by omega)
      generalize hdd : dictD ((dictB (toBytes s)).set k ((x ^^^ y : Nat) : Int)) = dd at *
      refine law5c s a y x _ (dictB (toBytes s)) dd.1 dd.2 k0 k true (by omega) hb0 (by omega) e14 (toBytes_ofBytes hdB) (by omega) (by omega) (i64_in _ (by omega)) (i64_in _ (by omega)) (by omega) (by rw [i64_in _ (by omega)]; omega) (i64_in _ (by omega)) (by omega) ?_ (i64_in _ (by omega)) hkd (by rw [hx.1]; rfl) hxo e15 ?_
      · rcases hkc with h | ⟨h1, h3⟩
        · exact .inl h
        · exact .inr ⟨h1, i64_in _ (by omega), by rw [i64_in _ (by omega)]; omega⟩
      · rcases hturn with h | ⟨t, h, hts, htB, hsum⟩
        · rw [h]; exact .inr ⟨rfl, rfl⟩
        · rw [h]
          have e1 := e18' s (by omega)
          have htl := (dict_any (isB_set hdB (by omega)) (hdd.trans h)).2.1
          have e2 := e18' (ofBytes t) (by rw [size_ofBytes]; omega)
          rw [toBytes_ofBytes htB, hsum] at e2
          refine .inl ⟨rfl, fun h => ?_, _, e2, e1⟩
          apply hts
          have := congrArg toBytes h
          rwa [toBytes_ofBytes htB] at this
end Go.X.Try
set_option maxRecDepth 100000
set_option linter.unusedSimpArgs false
namespace Go.X.Try
open Go.IntWalk
/-- A number in groups of no more than so much, and what is behind it. -/
def rdN (most : Nat) (l : List Int) : Option (Nat × List Int) := match gdec 0 0 l with
  | some (v, r) => if v ≤ most then some (v, r) else none
  | none => none
theorem rdN_iff {most : Nat} {l : List Int} (hB : isB l) (hm : most < 2 ^ 64) {v : Nat} {r : List Int} : rdN most l = some (v, r) ↔ v ≤ most ∧ l = grp v ++ r := by
  unfold rdN
  constructor
  · intro h
    cases hg : gdec 0 0 l with
    | none => rw [hg] at h; cases h
    | some p =>
      obtain ⟨u, s⟩ := p
      rw [hg] at h
      simp only at h
      by_cases hu : u ≤ most
      · rw [if_pos hu] at h
        simp only [Option.some.injEq, Prod.mk.injEq] at h
        obtain ⟨rfl, rfl⟩ := h
        obtain ⟨a, ha, e, _⟩ := gdec_inv l 0 0 u s hB (by omega) hg
        simp only [Nat.mul_zero, Nat.pow_zero, Nat.mul_one, Nat.zero_add] at e
        subst e
        exact ⟨hu, ha⟩
      · rw [if_neg hu] at h; cases h
  · rintro ⟨h, rfl⟩
    have hv : v < 2 ^ 64 := Nat.lt_of_le_of_lt h hm
    rw [gdec_grp r v 0 0 (by omega) (by simpa using hv) (.inl rfl)]
    simp only [Nat.mul_zero, Nat.pow_zero, Nat.mul_one, Nat.zero_add]
    rw [if_pos h]
theorem rdN_ok {most : Nat} {l : List Int} (hB : isB l) (hm : most < 2 ^ 64) {v : Nat} {r : List Int} (h : rdN most l = some (v, r)) : v ≤ most ∧ isB r ∧ r.length ≤ l.length := by
  obtain ⟨h1, h2⟩ := (rdN_iff hB hm).1 h
  refine ⟨h1, ?_, ?_⟩
  · rw [h2] at hB; exact fun x hx => hB x (List.mem_append.2 (.inr hx))
  · rw [h2, List.length_append]; omega
theorem iAns_some {most : Nat} {l : List Int} {v : Nat} {r : List Int} (h : rdN most l = some (v, r)) : iAns l most = (v, r, false) := by
  unfold rdN at h
  unfold iAns gAns
  cases hg : gdec 0 0 l with
  | none => rw [hg] at h; cases h
  | some p =>
    obtain ⟨u, s⟩ := p
    rw [hg] at h
    simp only at h ⊢
    by_cases hu : u ≤ most
    · rw [if_pos hu] at h
      simp only [Option.some.injEq, Prod.mk.injEq] at h
      obtain ⟨rfl, rfl⟩ := h
      rw [if_neg]
      rintro (h | h | h)
      · cases h
      · omega
      · omega
    · rw [if_neg hu] at h; cases h
theorem iAns_none {most : Nat} {l : List Int} (h : rdN most l = none) : iAns l most = (0, [], true) := by
  unfold rdN at h
  unfold iAns gAns
  cases hg : gdec 0 0 l with
  | none => rfl
  | some p =>
    obtain ⟨u, s⟩ := p
    rw [hg] at h
    simp only at h ⊢
    by_cases hu : u ≤ most
    · rw [if_pos hu] at h; cases h
    · rw [if_pos]; right; right; omega
/-- A message. -/
structure Msg where
  kind : Int
  next : Nat
  epoch : Nat
  size : Nat
  sum : Nat
  data : List Int
def lst (most : Nat) (l : List Int) : Option (List Int) := (rdN most l).bind fun p => if p.2.length = p.1 then some p.2 else none
/-- What a body of a kind means. -/
def gD (k : Int) (l : List Int) : Option Msg :=
  if k = 1 ∨ k = 2 then (rdN 400 l).bind fun p => (rdN 1073741824 p.2).bind fun q => if q.2 = [] then some ⟨k, p.1, q.1, 0, 0, []⟩ else none
  else if k = 3 then (rdN 1073741824 l).bind fun p => (lst 300 p.2).bind fun d => some ⟨k, 0, p.1, 0, 0, d⟩
  else if k = 4 ∨ k = 5 then (rdN 1073741824 l).bind fun p => if p.2 = [] then some ⟨k, 0, p.1, 0, 0, []⟩ else none
  else if k = 6 then (rdN 400 l).bind fun p => (lst 600 p.2).bind fun d => some ⟨k, p.1, 0, 0, 0, d⟩
  else if k = 7 then (rdN 400 l).bind fun p => if p.2 = [] then some ⟨k, p.1, 0, 0, 0, []⟩ else none
  else if k = 8 then (rdN 400 l).bind fun p => (rdN 1048576 p.2).bind fun q => if q.2.length = 8 then some ⟨k, p.1, 0, q.1, leB q.2, []⟩ else none
  else if k = 9 then (rdN 1048576 l).bind fun p => (lst 200 p.2).bind fun d => some ⟨k, 0, 0, p.1, 0, d⟩
  else if k = 10 then (if l = [] then some ⟨k, 0, 0, 0, 0, []⟩ else none)
  else none
/-- A message's body. -/
def mput (m : Msg) : List Int :=
  if m.kind = 1 ∨ m.kind = 2 then grp m.next ++ grp m.epoch
  else if m.kind = 3 then grp m.epoch ++ (grp m.data.length ++ m.data)
  else if m.kind = 4 ∨ m.kind = 5 then grp m.epoch
  else if m.kind = 6 then grp m.next ++ (grp m.data.length ++ m.data)
  else if m.kind = 7 then grp m.next
  else if m.kind = 8 then grp m.next ++ (grp m.size ++ fixB m.sum 8)
  else if m.kind = 9 then grp m.size ++ (grp m.data.length ++ m.data)
  else []
/-- May a message be, but for what it must not lack? -/
def mR0 (m : Msg) : Prop :=
  (m.kind = 1 ∨ m.kind = 2) ∧ m.next ≤ 400 ∧ m.epoch ≤ 1073741824 ∧ m.size = 0 ∧ m.sum = 0 ∧ m.data = []
  ∨ m.kind = 3 ∧ m.next = 0 ∧ m.epoch ≤ 1073741824 ∧ m.size = 0 ∧ m.sum = 0 ∧ m.data.length ≤ 300
  ∨ (m.kind = 4 ∨ m.kind = 5) ∧ m.next = 0 ∧ m.epoch ≤ 1073741824 ∧ m.size = 0 ∧ m.sum = 0 ∧ m.data = []
  ∨ m.kind = 6 ∧ m.next ≤ 400 ∧ m.epoch = 0 ∧ m.size = 0 ∧ m.sum = 0 ∧ m.data.length ≤ 600
  ∨ m.kind = 7 ∧ m.next ≤ 400 ∧ m.epoch = 0 ∧ m.size = 0 ∧ m.sum = 0 ∧ m.data = []
  ∨ m.kind = 8 ∧ m.next ≤ 400 ∧ m.epoch = 0 ∧ m.size ≤ 1048576 ∧ m.sum < 2 ^ 64 ∧ m.data = []
  ∨ m.kind = 9 ∧ m.next = 0 ∧ m.epoch = 0 ∧ m.size ≤ 1048576 ∧ m.sum = 0 ∧ m.data.length ≤ 200
  ∨ m.kind = 10 ∧ m.next = 0 ∧ m.epoch = 0 ∧ m.size = 0 ∧ m.sum = 0 ∧ m.data = []
theorem lst_iff {most : Nat} {l d : List Int} (hB : isB l) (hm : most < 2 ^ 64) : lst most l = some d ↔ d.length ≤ most ∧ l = grp d.length ++ d := by
  unfold lst
  constructor
  · intro h
    obtain ⟨⟨n, r⟩, h1, h2⟩ := Option.bind_eq_some_iff.1 h
    obtain ⟨h3, h4⟩ := (rdN_iff hB hm).1 h1
    simp only at h2
    split at h2
    · rename_i hl
      simp only [Option.some.injEq] at h2
      subst h2
      subst hl
      exact ⟨h3, h4⟩
    · cases h2
  · rintro ⟨h1, h2⟩
    rw [(rdN_iff hB hm).2 ⟨h1, h2⟩]
    simp
theorem gD_iff {k : Int} {l : List Int} {m : Msg} (hB : isB l) : gD k l = some m ↔ m.kind = k ∧ mR0 m ∧ mput m = l := by
  have h64a : 400 < 2 ^ 64 := by decide
  have h64b : 1073741824 < 2 ^ 64 := by decide
  have h64c : 1048576 < 2 ^ 64 := by decide
  constructor
  · intro h
    unfold gD at h
    split at h
    · rename_i hk
      obtain ⟨p, h1, h2⟩ := Option.bind_eq_some_iff.1 h
      obtain ⟨q, h3, h4⟩ := Option.bind_eq_some_iff.1 h2
      obtain ⟨a1, a2⟩ := (rdN_iff hB h64a).1 h1
      obtain ⟨b1, b2⟩ := (rdN_iff (rdN_ok hB h64a h1).2.1 h64b).1 h3
      split at h4
      · rename_i hq
        simp only [Option.some.injEq] at h4
        subst h4
        refine ⟨rfl, .inl ⟨hk, a1, b1, rfl, rfl, rfl⟩, ?_⟩
        unfold mput
        simp only
        rw [if_pos hk, a2, b2, hq, List.append_nil]
      · cases h4
    · rename_i hk1
      split at h
      · rename_i hk
        obtain ⟨p, h1, h2⟩ := Option.bind_eq_some_iff.1 h
        obtain ⟨d, h3, h4⟩ := Option.bind_eq_some_iff.1 h2
        obtain ⟨a1, a2⟩ := (rdN_iff hB h64b).1 h1
        obtain ⟨b1, b2⟩ := (lst_iff (rdN_ok hB h64b h1).2.1 (by decide)).1 h3
        simp only [Option.some.injEq] at h4
        subst h4
        refine ⟨rfl, .inr (.inl ⟨hk, rfl, a1, rfl, rfl, b1⟩), ?_⟩
        unfold mput
        simp only
        rw [if_neg hk1, if_pos hk, a2, b2]
      · rename_i hk2
        split at h
        · rename_i hk
          obtain ⟨p, h1, h2⟩ := Option.bind_eq_some_iff.1 h
          obtain ⟨a1, a2⟩ := (rdN_iff hB h64b).1 h1
          split at h2
          · rename_i hq
            simp only [Option.some.injEq] at h2
            subst h2
            refine ⟨rfl, .inr (.inr (.inl ⟨hk, rfl, a1, rfl, rfl, rfl⟩)), ?_⟩
            unfold mput
            simp only
            rw [if_neg hk1, if_neg hk2, if_pos hk, a2, hq, List.append_nil]
          · cases h2
        · rename_i hk3
          split at h
          · rename_i hk
            obtain ⟨p, h1, h2⟩ := Option.bind_eq_some_iff.1 h
            obtain ⟨d, h3, h4⟩ := Option.bind_eq_some_iff.1 h2
            obtain ⟨a1, a2⟩ := (rdN_iff hB h64a).1 h1
            obtain ⟨b1, b2⟩ := (lst_iff (rdN_ok hB h64a h1).2.1 (by decide)).1 h3
            simp only [Option.some.injEq] at h4
            subst h4
            refine ⟨rfl, .inr (.inr (.inr (.inl ⟨hk, a1, rfl, rfl, rfl, b1⟩))), ?_⟩
            unfold mput
            simp only
            rw [if_neg hk1, if_neg hk2, if_neg hk3, if_pos hk, a2, b2]
          · rename_i hk4
            split at h
            · rename_i hk
              obtain ⟨p, h1, h2⟩ := Option.bind_eq_some_iff.1 h
              obtain ⟨a1, a2⟩ := (rdN_iff hB h64a).1 h1
              split at h2
              · rename_i hq
                simp only [Option.some.injEq] at h2
                subst h2
                refine ⟨rfl, .inr (.inr (.inr (.inr (.inl ⟨hk, a1, rfl, rfl, rfl, rfl⟩)))), ?_⟩
                unfold mput
                simp only
                rw [if_neg hk1, if_neg hk2, if_neg hk3, if_neg hk4, if_pos hk, a2, hq, List.append_nil]
              · cases h2
            · rename_i hk5
              split at h
              · rename_i hk
                obtain ⟨p, h1, h2⟩ := Option.bind_eq_some_iff.1 h
                obtain ⟨q, h3, h4⟩ := Option.bind_eq_some_iff.1 h2
                obtain ⟨a1, a2⟩ := (rdN_iff hB h64a).1 h1
                have hBp := (rdN_ok hB h64a h1).2.1
                obtain ⟨b1, b2⟩ := (rdN_iff hBp h64c).1 h3
                have hBq := (rdN_ok hBp h64c h3).2.1
                split at h4
                · rename_i hq
                  simp only [Option.some.injEq] at h4
                  subst h4
                  have hlt := leB_lt hBq
                  rw [hq] at hlt
                  refine ⟨rfl, .inr (.inr (.inr (.inr (.inr (.inl ⟨hk, a1, rfl, b1, hlt, rfl⟩))))), ?_⟩
                  unfold mput
                  simp only
                  have hf := fixB_leB hBq
                  rw [hq] at hf
                  rw [if_neg hk1, if_neg hk2, if_neg hk3, if_neg hk4, if_neg hk5, if_pos hk, a2, b2, hf]
                · cases h4
              · rename_i hk6
                split at h
                · rename_i hk
                  obtain ⟨p, h1, h2⟩ := Option.bind_eq_some_iff.1 h
                  obtain ⟨d, h3, h4⟩ := Option.bind_eq_some_iff.1 h2
                  obtain ⟨a1, a2⟩ := (rdN_iff hB h64c).1 h1
                  obtain ⟨b1, b2⟩ := (lst_iff (rdN_ok hB h64c h1).2.1 (by decide)).1 h3
                  simp only [Option.some.injEq] at h4
                  subst h4
                  refine ⟨rfl, .inr (.inr (.inr (.inr (.inr (.inr (.inl ⟨hk, rfl, rfl, a1, rfl, b1⟩)))))), ?_⟩
                  unfold mput
                  simp only
                  rw [if_neg hk1, if_neg hk2, if_neg hk3, if_neg hk4, if_neg hk5, if_neg hk6, if_pos hk, a2, b2]
                · rename_i hk7
                  split at h
                  · rename_i hk
                    split at h
                    · rename_i hl
                      simp only [Option.some.injEq] at h
                      subst h
                      refine ⟨rfl, .inr (.inr (.inr (.inr (.inr (.inr (.inr ⟨hk, rfl, rfl, rfl, rfl, rfl⟩)))))), ?_⟩
                      unfold mput
                      simp only
                      rw [if_neg hk1, if_neg hk2, if_neg hk3, if_neg hk4, if_neg hk5, if_neg hk6, if_neg hk7, hl]
                    · cases h
                  · cases h
  · rintro ⟨rfl, hR, rfl⟩
    obtain ⟨kind, next, epoch, size, sum, data⟩ := m
    unfold mR0 at hR
    simp only at hR
    have sub : ∀ {a b : List Int}, isB (a ++ b) → isB b := fun h x hx => h x (List.mem_append.2 (.inr hx))
    have rd : ∀ {most v : Nat} {r : List Int}, most < 2 ^ 64 → isB (grp v ++ r) → v ≤ most → rdN most (grp v ++ r) = some (v, r) := fun hm hb h => (rdN_iff hb hm).2 ⟨h, rfl⟩
    have rd1 : ∀ {most v : Nat}, most < 2 ^ 64 → v ≤ most → rdN most (grp v) = some (v, []) := fun {most v} hm h => by
      have := (rdN_iff (l := grp v) (grp_isB v) hm (v := v) (r := [])).2 ⟨h, by rw [List.append_nil]⟩
      exact this
    have ls : ∀ {most : Nat} {d : List Int}, most < 2 ^ 64 → isB (grp d.length ++ d) → d.length ≤ most → lst most (grp d.length ++ d) = some d := fun hm hb h => (lst_iff hb hm).2 ⟨h, rfl⟩
    rcases hR with ⟨hk, h1, h2, rfl, rfl, rfl⟩ | ⟨rfl, rfl, h2, rfl, rfl, h5⟩ | ⟨hk, rfl, h2, rfl, rfl, rfl⟩ | ⟨rfl, h1, rfl, rfl, rfl, h5⟩ | ⟨rfl, h1, rfl, rfl, rfl, rfl⟩ | ⟨rfl, h1, rfl, h3, h4, rfl⟩ | ⟨rfl, rfl, rfl, h3, rfl, h5⟩ | ⟨rfl, rfl, rfl, rfl, rfl, rfl⟩
    · have e : mput ⟨kind, next, epoch, 0, 0, []⟩ = grp next ++ grp epoch := by unfold mput; exact if_pos hk
      simp only [e] at hB ⊢
      unfold gD
      rw [if_pos hk, rd h64a hB h1]
      simp [rd1 h64b h2]
    · have e : mput ⟨3, 0, epoch, 0, 0, data⟩ = grp epoch ++ (grp data.length ++ data) := by simp [mput]
      simp only [e] at hB ⊢
      simp [gD, rd h64b hB h2, ls (by decide) (sub hB) h5]
    · have e : mput ⟨kind, 0, epoch, 0, 0, []⟩ = grp epoch := by rcases hk with rfl | rfl <;> simp [mput]
      simp only [e] at hB ⊢
      rcases hk with rfl | rfl <;> simp [gD, rd1 h64b h2]
    · have e : mput ⟨6, next, 0, 0, 0, data⟩ = grp next ++ (grp data.length ++ data) := by simp [mput]
      simp only [e] at hB ⊢
      simp [gD, rd h64a hB h1, ls (by decide) (sub hB) h5]
    · have e : mput ⟨7, next, 0, 0, 0, []⟩ = grp next := by simp [mput]
      simp only [e] at hB ⊢
      simp [gD, rd1 h64a h1]
    · have e : mput ⟨8, next, 0, size, sum, []⟩ = grp next ++ (grp size ++ fixB sum 8) := by simp [mput]
      simp only [e] at hB ⊢
      have hs : sum % 256 ^ 8 = sum := Nat.mod_eq_of_lt (by omega)
      simp [gD, rd h64a hB h1, rd h64c (sub hB) h3, fixB_length, leB_fixB, hs]
    · have e : mput ⟨9, 0, 0, size, 0, data⟩ = grp size ++ (grp data.length ++ data) := by simp [mput]
      simp only [e] at hB ⊢
      simp [gD, rd h64c hB h3, ls (by decide) (sub hB) h5]
    · simp [gD, mput]
end Go.X.Try
