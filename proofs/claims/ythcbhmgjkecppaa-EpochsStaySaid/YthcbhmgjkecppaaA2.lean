/- The rules by which an abstract run is reckoned: each a step of simp. -/
import Derived.Test.YthcbhmgjkecppaaA1
set_option linter.unusedVariables false
set_option linter.unusedSimpArgs false
namespace Go.X
/-! What is reckoned first: what decides the way. -/
@[congr] theorem guardI_cg {b : Bool} {x y : Option St} {v v' : AV} (h : v = v') : guardI b x y v = guardI b x y v' := by rw [h]
@[congr] theorem stepG_cg {b : Bool} {r : Res} {hp : List Ob} {v v' : AV} (h : v = v') : stepG b r hp v = stepG b r hp v' := by rw [h]
@[congr] theorem thenI_cg {env : Env} {rts : List SV} {d : Option Nat} {f : St → Option St} {r r' : Res} (h : r = r') : thenI env rts d f r = thenI env rts d f r' := by rw [h]
@[congr] theorem thenD_cg {d : Option Nat} {b : Bool} {f : Env → List Ob → List (List Ob) → ResD} {env : Env} {hs : List (List Ob)} {r r' : Res} (h : r = r') : thenD d b f env hs r = thenD d b f env hs r' := by rw [h]
@[congr] theorem passN_cg {d : Option Nat} {f : Env → List Ob → Option (List RC)} {env : Env} {r r' : Res} (h : r = r') : passN d f env r = passN d f env r' := by rw [h]
@[congr] theorem passR_cg {d : Option Nat} {s : Nat} {f : Env → List Ob → Option (List RC)} {env : Env} {hp : List Ob} {r r' : Option RC} (h : r = r') : passR d s f env hp r = passR d s f env hp r' := by rw [h]
@[congr] theorem secF_cg {Γ : Nat → Callee} {l : List (AI × Bool × Option Nat)} {ck cf : List (Nat × List Nat)} {env : Env} {rts : List SV} {hp : List Ob} {r r' : Option (List RC)} (h : r = r') : secF Γ l ck cf env rts hp r = secF Γ l ck cf env rts hp r' := by rw [h]
@[congr] theorem finF_cg {Γ : Nat → Callee} {l : List (AI × Bool × Option Nat)} {n0 : Nat} {cs : List RC} {cf : List (Nat × List Nat)} {r r' : ResD} (h : r = r') : finF Γ l n0 cs cf r = finF Γ l n0 cs cf r' := by rw [h]
@[congr] theorem thenC_cg {f : St → Option (Ex × St)} {r r' : Option (Ex × St)} (h : r = r') : thenC f r = thenC f r' := by rw [h]
@[congr] theorem blockC_cg {i : Nat} {r r' : Option (Ex × St)} (h : r = r') : blockC i r = blockC i r' := by rw [h]
@[congr] theorem branchC_cg {f g : St → Option (Ex × St)} {st : St} {v v' : AV} (h : v = v') : branchC f g st v = branchC f g st v' := by rw [h]
@[congr] theorem resC_cg {rs : List (Nat × Option (Option Nat))} {r r' : Option (Ex × St)} (h : r = r') : resC rs r = resC rs r' := by rw [h]
@[congr] theorem finD_cg {Γ : Nat → Callee} {l : List (AI × Bool)} {ck : List (Nat × List Nat)} {rts : List SV} {r r' : ResD} (h : r = r') : finD Γ l ck rts r = finD Γ l ck rts r' := by rw [h]
attribute [simp] AV.same_refl SV.same_refl sameL_refl getT evDs ckKs ckAll finD finF ckFs ckSl rowsOf deads evC zcells putAt eqScs argEnv keep fillAll setScs reachSV reachOb reachL SV.ren renL AV.ren renT Env.ren Ob.ren pick avCells avsCells SV.strip stripL Ob.strip handed lendL lendArgs tagAll backKeys killAll layBack backL Ob.back argCells intsOf rcCells cviewAt AV.back backT scsOf partAt bsFrom getPs getPP getL getSL envCells resL pos
@[simp] theorem posPtr_some (o : Nat) (j : Nat) : posPtr o (some j) = .ptr j o := rfl
@[simp] theorem posPtr_none (o : Nat) : posPtr o none = .undef := rfl
@[simp] theorem posEptr_some (i o : Nat) (j : Nat) : posEptr i o (some j) = .eptr j i o := rfl
@[simp] theorem posEptr_none (i o : Nat) : posEptr i o none = .undef := rfl
@[simp] theorem posRow_some  (j : Nat) : posRow (some j) = .row j := rfl
@[simp] theorem posRow_none  : posRow none = .undef := rfl
@[simp] theorem posView_some (o n : Nat) (j : Nat) : posView o n (some j) = .view j o n := rfl
@[simp] theorem posView_none (o n : Nat) : posView o n none = .undef := rfl
@[simp] theorem posCview_some (o n : Nat) (j : Nat) : posCview o n (some j) = .cview j o n := rfl
@[simp] theorem posCview_none (o n : Nat) : posCview o n none = .undef := rfl
@[simp] theorem posF_def (ks : List Nat) (k : Nat) : posF ks k = pos k ks := rfl
@[simp] theorem ofOpt_some (o : Ob) : Ob.ofOpt (some o) = o := rfl
@[simp] theorem ofOpt_none  : Ob.ofOpt none = .dead := rfl
@[simp] theorem roOf_some (t : Nat) (v : SV) (c : RC) : roOf t v (some c) = .ro t c := rfl
@[simp] theorem lend_row (hp : List Ob) (ks : List Nat) (t : Nat) (k : Nat) : SV.lend hp ks t (.row k) = if ks.elem k then .row k else roOf t .undef (rowAt hp[k]?) := by simp [SV.lend, SV.strip]
@[simp] theorem back_row (args : List SV) (k : Nat) : SV.back args (.row k) = .row k := by simp [SV.back, SV.strip]
@[simp] theorem lend_view (hp : List Ob) (ks : List Nat) (t : Nat) (k o n : Nat) : SV.lend hp ks t (.view k o n) = if ks.elem k then .view k o n else roOf t .undef (cutAt o n hp[k]?) := by simp [SV.lend, SV.strip]
@[simp] theorem back_view (args : List SV) (k o n : Nat) : SV.back args (.view k o n) = .view k o n := by simp [SV.back, SV.strip]
@[simp] theorem lend_ro (hp : List Ob) (ks : List Nat) (t : Nat) (u : Nat) (c : RC) : SV.lend hp ks t (.ro u c) = .ro t c := by simp [SV.lend, SV.strip]
@[simp] theorem lend_rptr (hp : List Ob) (ks : List Nat) (t : Nat) (u : Nat) (c : RC) (i o : Nat) : SV.lend hp ks t (.rptr u c i o) = .rptr t c i o := by simp [SV.lend, SV.strip]
@[simp] theorem lend_eptr (hp : List Ob) (ks : List Nat) (t : Nat) (k i o : Nat) : SV.lend hp ks t (.eptr k i o) = if ks.elem k then .eptr k i o else .undef := by simp [SV.lend, SV.strip]
@[simp] theorem back_eptr (args : List SV) (k i o : Nat) : SV.back args (.eptr k i o) = .eptr k i o := by simp [SV.back, SV.strip]
@[simp] theorem lend_cview (hp : List Ob) (ks : List Nat) (t : Nat) (k o n : Nat) : SV.lend hp ks t (.cview k o n) = if ks.elem k then .cview k o n else roOf t .undef (cviewAt o n hp[k]?) := by simp [SV.lend, SV.strip]
@[simp] theorem back_cview (args : List SV) (k o n : Nat) : SV.back args (.cview k o n) = .cview k o n := by simp [SV.back, SV.strip]
@[simp] theorem lend_undef (hp : List Ob) (ks : List Nat) (t : Nat)  : SV.lend hp ks t .undef = .undef := by simp [SV.lend, SV.strip]
@[simp] theorem back_undef (args : List SV)  : SV.back args .undef = .undef := by simp [SV.back, SV.strip]
@[simp] theorem lend_int (hp : List Ob) (ks : List Nat) (t : Nat) (k : IntKind) (x : Int) : SV.lend hp ks t (.int k x) = .int k x := by simp [SV.lend, SV.strip]
@[simp] theorem back_int (args : List SV) (k : IntKind) (x : Int) : SV.back args (.int k x) = .int k x := by simp [SV.back, SV.strip]
@[simp] theorem lend_bool (hp : List Ob) (ks : List Nat) (t : Nat) (b : Bool) : SV.lend hp ks t (.bool b) = .bool b := by simp [SV.lend, SV.strip]
@[simp] theorem back_bool (args : List SV) (b : Bool) : SV.back args (.bool b) = .bool b := by simp [SV.back, SV.strip]
@[simp] theorem lend_str (hp : List Ob) (ks : List Nat) (t : Nat) (s : ByteArray) : SV.lend hp ks t (.str s) = .str s := by simp [SV.lend, SV.strip]
@[simp] theorem back_str (args : List SV) (s : ByteArray) : SV.back args (.str s) = .str s := by simp [SV.back, SV.strip]
@[simp] theorem lend_nilp (hp : List Ob) (ks : List Nat) (t : Nat)  : SV.lend hp ks t .nilp = .nilp := by simp [SV.lend, SV.strip]
@[simp] theorem back_nilp (args : List SV)  : SV.back args .nilp = .nilp := by simp [SV.back, SV.strip]
@[simp] theorem lend_ptr (hp : List Ob) (ks : List Nat) (t : Nat) (k o : Nat) : SV.lend hp ks t (.ptr k o) = .ptr k o := by simp [SV.lend, SV.strip]
@[simp] theorem back_ptr (args : List SV) (k o : Nat) : SV.back args (.ptr k o) = .ptr k o := by simp [SV.back, SV.strip]
@[simp] theorem lend_nils (hp : List Ob) (ks : List Nat) (t : Nat) (c : RC) : SV.lend hp ks t (.nils c) = .nils c := by simp [SV.lend, SV.strip]
@[simp] theorem back_nils (args : List SV) (c : RC) : SV.back args (.nils c) = .nils c := by simp [SV.back, SV.strip]
@[simp] theorem lend_fn (hp : List Ob) (ks : List Nat) (t : Nat) (f : Nat) (caps : List SV) : SV.lend hp ks t (.fn f caps) = .fn f (stripL caps) := by simp [SV.lend, SV.strip]
@[simp] theorem back_fn (args : List SV) (f : Nat) (caps : List SV) : SV.back args (.fn f caps) = .fn f (stripL caps) := by simp [SV.back, SV.strip]
@[simp] theorem lend_nilf (hp : List Ob) (ks : List Nat) (t : Nat)  : SV.lend hp ks t .nilf = .nilf := by simp [SV.lend, SV.strip]
@[simp] theorem back_nilf (args : List SV)  : SV.back args .nilf = .nilf := by simp [SV.back, SV.strip]
@[simp] theorem back_ro (args : List SV) (t : Nat) (c : RC) : SV.back args (.ro t c) = roArg t c args[t]? := rfl
@[simp] theorem roArg_ro (t u : Nat) (c d : RC) : roArg t c (some (.ro u d)) = .ro u c := rfl
@[simp] theorem avlend_one (hp : List Ob) (ks : List Nat) (t : Nat) (v : SV) : AV.lend hp ks t (.one v) = .one (v.lend hp ks t) := rfl
@[simp] theorem avlend_agg (hp : List Ob) (ks : List Nat) (t : Nat) (l : List SV) : AV.lend hp ks t (.agg l) = .agg (lendL hp ks t l) := rfl
@[simp] theorem tag_cells (m : Bool) (i : Nat) (g : Option Nat) (l : List SV) : Ob.tag m i (.cells g l) = .cells (some i) l := rfl
@[simp] theorem tag_rows (i : Nat) (g : Option Nat) (c : RC) : Ob.tag false i (.rows g c) = .rows none c := rfl
@[simp] theorem tag_rowsT (i : Nat) (g : Option Nat) (c : RC) : Ob.tag true i (.rows g c) = .rows (some i) c := rfl
@[simp] theorem tag_dead (m : Bool) (i : Nat) : Ob.tag m i .dead = .dead := rfl
@[simp] theorem orgOf_cells (g : Option Nat) (l : List SV) : orgOf (some (.cells g l)) = g := rfl
@[simp] theorem orgOf_rows (g : Option Nat) (c : RC) : orgOf (some (.rows g c)) = g := rfl
@[simp] theorem backF_def (ks : List Nat) (n : Nat) (os : List Ob) (j : Nat) : backF ks n os j = (backKeys ks n os)[j]? := rfl
@[simp] theorem comeBack_none (hp : List Ob) (ks : List Nat) (args : List AV) : comeBack hp ks args none = none := rfl
@[simp] theorem comeBack_some (hp : List Ob) (ks : List Nat) (args : List AV) (r : AV) (os : List Ob) : comeBack hp ks args (some (r, os)) = some ((r.back (argCells args)).ren (backF ks hp.length os), layBack hp ks (backF ks hp.length os) (argCells args) os (killAll hp ks)) := rfl
@[simp] theorem callKs_def (m : Bool) (Γ : Nat → Callee) (hp : List Ob) (f : Nat) (args : List AV) (ks : List Nat) : callKs m Γ hp f args ks = comeBack hp ks args (Γ f (lendArgs hp ks 0 args) (tagAll m 0 (Go.X.pick hp (posF ks) ks))) := rfl
@[simp] theorem pureCall_def (Γ : Nat → Callee) (hp : List Ob) (f : Nat) (args : List AV) : pureCall Γ hp f args = if plainArgs args = true then plainOut hp (Γ f args []) else none := rfl
@[simp] theorem plainOut_some (hp : List Ob) (r : AV) : plainOut hp (some (r, [])) = if r.plain = true then some (r, hp) else none := rfl
@[simp] theorem plainArgs_nil  : plainArgs [] = true := rfl
@[simp] theorem plainArgs_one (v : SV) (l : List AV) : plainArgs (.one v :: l) = (v.plain && plainArgs l) := rfl
@[simp] theorem plainArgs_agg (m : List SV) (l : List AV) : plainArgs (.agg m :: l) = (plainL m && plainArgs l) := rfl
@[simp] theorem plainL_nil  : plainL [] = true := rfl
@[simp] theorem plainL_cons (v : SV) (l : List SV) : plainL (v :: l) = (v.plain && plainL l) := rfl
@[simp] theorem plainT_nil  : plainT [] = true := rfl
@[simp] theorem plainT_cons (v : AV) (l : List AV) : plainT (v :: l) = (v.plain && plainT l) := rfl
@[simp] theorem plain_int (k : IntKind) (x : Int) : SV.plain (.int k x) = true := rfl
@[simp] theorem plain_bool (b : Bool) : SV.plain (.bool b) = true := rfl
@[simp] theorem plain_str (s : ByteArray) : SV.plain (.str s) = true := rfl
@[simp] theorem plain_one (v : SV) : AV.plain (.one v) = v.plain := rfl
@[simp] theorem plain_agg (l : List SV) : AV.plain (.agg l) = plainL l := rfl
@[simp] theorem plain_tup (l : List AV) : AV.plain (.tup l) = plainT l := rfl
@[simp] theorem callee_def (Γ : Nat → Callee) (hp : List Ob) (f : Nat) (args : List AV) : callee Γ hp f args = callKs false Γ hp f args (handKs hp args) := rfl
@[simp] theorem handKs_def (hp : List Ob) (args : List AV) : handKs hp args = reachL hp 64 (handed (avsCells args)) [] := rfl
@[simp] theorem tidyKs_def (env : Env) (rts : List SV) (hp : List Ob) (ks : List Nat) : tidyKs env rts hp ks = ⟨env.ren (posF ks), renL (posF ks) rts, Go.X.pick hp (posF ks) ks⟩ := rfl
@[simp] theorem tidy_def (env : Env) (rts : List SV) (hp : List Ob) : tidy env rts hp = tidyKs env rts hp (reachL hp 64 (rts ++ envCells env) []) := rfl
@[simp] theorem head_def (live : List Nat) (env : Env) (rts : List SV) (hp : List Ob) : St.head live ⟨env, rts, hp⟩ = tidy (keep env live) rts hp := rfl
@[simp] theorem giveKs_def (v : AV) (hp : List Ob) (ks : List Nat) : giveKs v hp ks = some (v.ren (posF ks), Go.X.pick hp (posF ks) ks) := rfl
@[simp] theorem give_none (rts : List SV) (hp : List Ob) : give rts hp none = none := rfl
@[simp] theorem give_some (rts : List SV) (hp : List Ob) (l : List AV) : give rts hp (some l) = giveKs (tupOf l) hp (reachL hp 64 (rts ++ avCells (tupOf l)) []) := rfl
@[simp] theorem getO_tmp (env : Env) (t : Nat) : getO env (.tmp t) = getT t env := rfl
@[simp] theorem getO_const (env : Env) (v : AV) : getO env (.const v) = v := rfl
@[simp] theorem getS_def (env : Env) (x : AO) : getS env x = (getO env x).sv := rfl
@[simp] theorem getSo_none (env : Env) : getSo env none = none := rfl
@[simp] theorem getSo_some (env : Env) (x : AO) : getSo env (some x) = some (getS env x) := rfl
@[simp] theorem putE_some (env : Env) (d : Nat) (v : AV) : putE env (some d) v = (d, v) :: env := rfl
@[simp] theorem putE_none (env : Env) (v : AV) : putE env none v = env := rfl
@[simp] theorem sv_one (v : SV) : AV.sv (.one v) = v := rfl
@[simp] theorem sv_agg (l : List SV) : AV.sv (.agg l) = .undef := rfl
@[simp] theorem cells_one (v : SV) : AV.cells (.one v) = [v] := rfl
@[simp] theorem cells_agg (l : List SV) : AV.cells (.agg l) = l := rfl
@[simp] theorem thenC_norm (f : St → Option (Ex × St)) (st : St) : thenC f (some (.norm, st)) = f st := rfl
@[simp] theorem thenC_exit (f : St → Option (Ex × St)) (st : St) (i : Nat) : thenC f (some (.exit i, st)) = some (.exit i, st) := rfl
@[simp] theorem thenC_ret (f : St → Option (Ex × St)) (st : St) : thenC f (some (.ret, st)) = some (.ret, st) := rfl
@[simp] theorem blockC_norm (i : Nat) (st : St) : blockC i (some (.norm, st)) = some (.norm, st) := rfl
@[simp] theorem blockC_exit (i j : Nat) (st : St) : blockC i (some (.exit j, st)) = if i = j then some (.norm, st) else some (.exit j, st) := rfl
@[simp] theorem blockC_ret (i : Nat) (st : St) : blockC i (some (.ret, st)) = some (.ret, st) := rfl
@[simp] theorem normC_some (st : St) : normC (some st) = some (.norm, st) := rfl
@[simp] theorem branchC_bool (f g : St → Option (Ex × St)) (st : St) (t : Bool) : branchC f g st (.one (.bool t)) = if t = true then f st else g st := rfl
@[simp] theorem thenI_none (env : Env) (rts : List SV) (d : Option Nat) (f : St → Option St) : thenI env rts d f none = none := rfl
@[simp] theorem thenI_some (env : Env) (rts : List SV) (d : Option Nat) (f : St → Option St) (v : AV) (hp : List Ob) : thenI env rts d f (some (v, hp)) = f ⟨putE env d v, rts, hp⟩ := rfl
@[simp] theorem evIs_nil (Γ : Nat → Callee) (st : St) : evIs Γ [] st = some st := rfl
@[simp] theorem evIs_plain (Γ : Nat → Callee) (env : Env) (rts : List SV) (hp : List Ob) (dst : Option Nat) (op : AOp) (l : List AI) : evIs Γ (⟨dst, none, op⟩ :: l) ⟨env, rts, hp⟩ = thenI env rts dst (evIs Γ l) (evOp Γ env hp op) := rfl
@[simp] theorem evIs_guard (Γ : Nat → Callee) (env : Env) (rts : List SV) (hp : List Ob) (dst : Option Nat) (t : Nat) (b : Bool) (op : AOp) (l : List AI) : evIs Γ (⟨dst, some (t, b), op⟩ :: l) ⟨env, rts, hp⟩ = guardI b (thenI env rts dst (evIs Γ l) (evOp Γ env hp op)) (evIs Γ l ⟨putE env dst (.tup []), rts, hp⟩) (getT t env) := rfl
@[simp] theorem stepI_plain (Γ : Nat → Callee) (env : Env) (hp : List Ob) (d : Option Nat) (op : AOp) : stepI Γ env hp ⟨d, none, op⟩ = evOp Γ env hp op := rfl
@[simp] theorem stepI_guard (Γ : Nat → Callee) (env : Env) (hp : List Ob) (d : Option Nat) (t : Nat) (b : Bool) (op : AOp) : stepI Γ env hp ⟨d, some (t, b), op⟩ = stepG b (evOp Γ env hp op) hp (getT t env) := rfl
@[simp] theorem stepG_bool (b c : Bool) (r : Res) (hp : List Ob) : stepG b r hp (.one (.bool c)) = if c = b then r else some (.tup [], hp) := rfl
@[simp] theorem stepG_skip (b : Bool) (r : Res) (hp : List Ob) : stepG b r hp (.tup []) = some (.tup [], hp) := rfl
@[simp] theorem thenD_none (d : Option Nat) (b : Bool) (f : Env → List Ob → List (List Ob) → ResD) (env : Env) (hs : List (List Ob)) : thenD d b f env hs none = none := rfl
@[simp] theorem thenD_some (d : Option Nat) (b : Bool) (f : Env → List Ob → List (List Ob) → ResD) (env : Env) (hs : List (List Ob)) (v : AV) (hp : List Ob) : thenD d b f env hs (some (v, hp)) = f (putE env d v) hp (if b = true then hs ++ [hp] else hs) := rfl
@[simp] theorem ckAt_some (Γ : Nat → Callee) (env : Env) (hs : List (List Ob)) (ks : List Nat) (d : Nat) (g : Option (Nat × Bool)) (op : AOp) (b : Bool) : ckAt Γ env hs ks (some (⟨some d, g, op⟩, b)) = ckKs Γ env hs ⟨some d, g, op⟩ (getT d env) ks := rfl
@[simp] theorem ckR_none (v : AV) : ckR v none = false := rfl
@[simp] theorem ckR_some (v u : AV) (hp : List Ob) : ckR v (some (u, hp)) = u.same v := rfl
@[simp] theorem finD_none (Γ : Nat → Callee) (l : List (AI × Bool)) (ck : List (Nat × List Nat)) (rts : List SV) : finD Γ l ck rts none = none := rfl
@[simp] theorem oAppZ_int (hp : List Ob) (c0 : RC) (zero : List Sc) (bytes : Nat) (s : SV) (k : IntKind) (l : Int) : oAppZ hp c0 zero bytes s (.one (.int k l)) = if 0 ≤ l ∧ l * bytes ≤ 140737488355328 then app1 hp c0 bytes s .undef (RC.ofElems c0 (List.replicate l.toNat zero)) else none := rfl
@[simp] theorem repl1_none (n0 : Nat) (ai : AI) (b : Bool) : repl1 n0 (ai, b, none) = (ai, b) := rfl
@[simp] theorem repl1_some (n0 j : Nat) (d : Option Nat) (g : Option (Nat × Bool)) (op : AOp) (b : Bool) : repl1 n0 (⟨d, g, op⟩, b, some j) = (⟨d, none, .mv (.const (.one (.row (n0 + j))))⟩, false) := rfl
@[simp] theorem rowOf_some (c : RC) : rowOf (some (.one (.row 0), [.rows none c])) = some c := rfl
@[simp] theorem consO_some (c : RC) (l : List RC) : consO c (some l) = some (c :: l) := rfl
@[simp] theorem passN_some (d : Option Nat) (f : Env → List Ob → Option (List RC)) (env : Env) (v : AV) (hp : List Ob) : passN d f env (some (v, hp)) = f (putE env d v) hp := rfl
@[simp] theorem passR_some (d : Option Nat) (s : Nat) (f : Env → List Ob → Option (List RC)) (env : Env) (hp : List Ob) (c : RC) : passR d s f env hp (some c) = consO c (f (putE env d (.one (.row s))) (hp.set s (.rows none c))) := rfl
@[simp] theorem passF_nil (Γ : Nat → Callee) (n0 : Nat) (env : Env) (hp : List Ob) : passF Γ n0 [] env hp = some [] := rfl
@[simp] theorem passF_none (Γ : Nat → Callee) (n0 : Nat) (d : Option Nat) (g : Option (Nat × Bool)) (op : AOp) (b : Bool) (l : List (AI × Bool × Option Nat)) (env : Env) (hp : List Ob) : passF Γ n0 ((⟨d, g, op⟩, b, none) :: l) env hp = passN d (passF Γ n0 l) env (stepI Γ env hp ⟨d, g, op⟩) := rfl
@[simp] theorem passF_some (Γ : Nat → Callee) (n0 j : Nat) (d : Option Nat) (g : Option (Nat × Bool)) (op : AOp) (b : Bool) (l : List (AI × Bool × Option Nat)) (env : Env) (hp : List Ob) : passF Γ n0 ((⟨d, g, op⟩, b, some j) :: l) env hp = passR d (n0 + j) (passF Γ n0 l) env hp (rowOf (evOp Γ env [] op)) := rfl
@[simp] theorem obIs_some (c d : RC) : obIs c (some (.rows none d)) = decide (d = c) := rfl
@[simp] theorem rcIs_some (c d : RC) : rcIs c (some d) = decide (d = c) := rfl
@[simp] theorem ckF1_some (Γ : Nat → Callee) (env : Env) (c : RC) (d : Option Nat) (g : Option (Nat × Bool)) (op : AOp) (b : Bool × Option Nat) : ckF1 Γ env c (some (⟨d, g, op⟩, b)) = rcIs c (rowOf (evOp Γ env [] op)) := rfl
@[simp] theorem finF_none (Γ : Nat → Callee) (l : List (AI × Bool × Option Nat)) (n0 : Nat) (cs : List RC) (cf : List (Nat × List Nat)) : finF Γ l n0 cs cf none = none := rfl
@[simp] theorem secF_some (Γ : Nat → Callee) (l : List (AI × Bool × Option Nat)) (ck cf : List (Nat × List Nat)) (env : Env) (rts : List SV) (hp : List Ob) (cs : List RC) : secF Γ l ck cf env rts hp (some cs) = finD Γ (l.map (repl1 hp.length)) ck rts (finF Γ l hp.length cs cf (evDs Γ (l.map (repl1 hp.length)) env (hp ++ rowsOf cs) [hp ++ rowsOf cs])) := rfl
@[simp] theorem tupOf_nil  : tupOf [] = .tup [] := rfl
@[simp] theorem thenC_none (f : St → Option (Ex × St)) : thenC f none = none := rfl
@[simp] theorem blockC_none (i : Nat) : blockC i none = none := rfl
@[simp] theorem normC_none  : normC none = none := rfl
@[simp] theorem guardI_skip (b : Bool) (x y : Option St) : guardI b x y (.tup []) = y := rfl
@[simp] theorem guardI_bool (b c : Bool) (x y : Option St) : guardI b x y (.one (.bool c)) = if c = b then x else y := rfl
@[simp] theorem put1_none (hp : List Ob) : put1 hp none = none := rfl
@[simp] theorem put1_some (hp : List Ob) (v : SV) : put1 hp (some v) = some (.one v, hp) := rfl
@[simp] theorem putA_none (hp : List Ob) : putA hp none = none := rfl
@[simp] theorem putA_some (hp : List Ob) (v : AV) : putA hp (some v) = some (v, hp) := rfl
@[simp] theorem putL_none (hp : List Ob) : putL hp none = none := rfl
@[simp] theorem putL_some (hp : List Ob) (v : List SV) : putL hp (some v) = some (.agg v, hp) := rfl
@[simp] theorem putR_none (hp : List Ob) : putR hp none = none := rfl
@[simp] theorem putR_some (hp : List Ob) (v : RC) : putR hp (some v) = newRow hp v := rfl
@[simp] theorem putH_none  : putH none = none := rfl
@[simp] theorem putH_some (h : List Ob) : putH (some h) = some (.one .undef, h) := rfl
@[simp] theorem putB_none (hp : List Ob) (n : Bool) : putB hp n none = none := rfl
@[simp] theorem putB_some (hp : List Ob) (n b : Bool) : putB hp n (some b) = some (.one (.bool (if n = true then !b else b)), hp) := rfl
@[simp] theorem evOp_mv (Γ : Nat → Callee) (env : Env) (hp : List Ob) (x : AO) : evOp Γ env hp (.mv x) = some (getO env x, hp) := rfl
@[simp] theorem evOp_newNil (Γ : Nat → Callee) (env : Env) (hp : List Ob) (c0 : RC) : evOp Γ env hp (.newNil c0) = newRow hp c0 := rfl
@[simp] theorem evOp_pick (Γ : Nat → Callee) (env : Env) (hp : List Ob) (a b c : AO) : evOp Γ env hp (.pick c a b) = oPick hp (getO env a) (getO env b) (getO env c) := rfl
@[simp] theorem evOp_alloc (Γ : Nat → Callee) (env : Env) (hp : List Ob) (z : List ZV) : evOp Γ env hp (.alloc z) = some (.one (.ptr (zcells z hp).2.length 0), (zcells z hp).2 ++ [.cells none (zcells z hp).1]) := rfl
@[simp] theorem evOp_box (Γ : Nat → Callee) (env : Env) (hp : List Ob) (x : AO) : evOp Γ env hp (.box x) = if (getO env x).cells.all okCell = true then some (.one (.ptr hp.length 0), hp ++ [.cells none (getO env x).cells]) else none := rfl
@[simp] theorem evOp_build (Γ : Nat → Callee) (env : Env) (hp : List Ob) (z : List ZV) (ps : List ((Nat × Nat) × AO)) : evOp Γ env hp (.build z ps) = if (getPP env ps).all (fun q => q.2.cells.all okCell) = true then putL (zcells z hp).2 (fillAll (zcells z hp).1 (getPP env ps)) else none := rfl
@[simp] theorem evOp_bslice (Γ : Nat → Callee) (env : Env) (hp : List Ob) (c0 : RC) (zero : List Sc) (len : Nat) (ps : List (Nat × AO)) : evOp Γ env hp (.bslice c0 zero len ps) = putR hp (ofElemsO c0 (bsFrom zero (getPs env ps) 0 len)) := rfl
@[simp] theorem evOp_load (Γ : Nat → Callee) (env : Env) (hp : List Ob) (x : AO) : evOp Γ env hp (.load none x) = put1 hp (loadOne hp (getS env x)) := rfl
@[simp] theorem evOp_load1 (Γ : Nat → Callee) (env : Env) (hp : List Ob) (n : Nat) (x : AO) : evOp Γ env hp (.load (some n) x) = putL hp (loadN hp n (getS env x)) := rfl
@[simp] theorem evOp_store (Γ : Nat → Callee) (env : Env) (hp : List Ob) (n : Nat) (x v : AO) : evOp Γ env hp (.store n x v) = if (getO env v).cells.length = n then putH (storeCells hp (getO env v).cells (getS env x)) else none := rfl
@[simp] theorem evOp_storeNil (Γ : Nat → Callee) (env : Env) (hp : List Ob) (c0 : RC) (x : AO) : evOp Γ env hp (.storeNil c0 x) = putH (storeCells (hp ++ [.rows none c0]) [.row hp.length] (getS env x)) := rfl
@[simp] theorem evOp_nilCheck (Γ : Nat → Callee) (env : Env) (hp : List Ob) (x : AO) : evOp Γ env hp (.nilCheck x) = oNilCheck hp (getO env x) := rfl
@[simp] theorem evOp_bin (Γ : Nat → Callee) (env : Env) (hp : List Ob) (op : BinOp) (x y : AO) : evOp Γ env hp (.bin op x y) = put1 hp (Go.X.bin op (getS env x) (getS env y)) := rfl
@[simp] theorem evOp_eqNil (Γ : Nat → Callee) (env : Env) (hp : List Ob) (neq : Bool) (x : AO) : evOp Γ env hp (.eqNil neq x) = oEqNil hp neq (getO env x) := rfl
@[simp] theorem evOp_eqAgg (Γ : Nat → Callee) (env : Env) (hp : List Ob) (neq : Bool) (z : List Sc) (x y : AO) : evOp Γ env hp (.eqAgg neq z x y) = oEqAgg hp neq z (getO env x) (getO env y) := rfl
@[simp] theorem evOp_eqB (Γ : Nat → Callee) (env : Env) (hp : List Ob) (neq : Bool) (x y : AO) : evOp Γ env hp (.eqB neq x y) = oEqB hp neq (getO env x) (getO env y) := rfl
@[simp] theorem evOp_un (Γ : Nat → Callee) (env : Env) (hp : List Ob) (op : UnOp) (x : AO) : evOp Γ env hp (.un op x) = put1 hp (Go.X.un op (getS env x)) := rfl
@[simp] theorem evOp_conv (Γ : Nat → Callee) (env : Env) (hp : List Ob) (k : IntKind) (x : AO) : evOp Γ env hp (.conv k x) = oConv hp k (getO env x) := rfl
@[simp] theorem evOp_sconv (Γ : Nat → Callee) (env : Env) (hp : List Ob) (x : AO) : evOp Γ env hp (.sconv x) = oSconv hp (getO env x) := rfl
@[simp] theorem evOp_s2b (Γ : Nat → Callee) (env : Env) (hp : List Ob) (x : AO) : evOp Γ env hp (.s2b x) = oS2b hp (getO env x) := rfl
@[simp] theorem evOp_b2s (Γ : Nat → Callee) (env : Env) (hp : List Ob) (x : AO) : evOp Γ env hp (.b2s x) = oB2s hp (content hp (getS env x)) := rfl
@[simp] theorem evOp_cutS (Γ : Nat → Callee) (env : Env) (hp : List Ob) (x : AO) (lo hi : Option AO) : evOp Γ env hp (.cutS x lo hi) = oCutS hp (getSo env lo) (getSo env hi) (getO env x) := rfl
@[simp] theorem evOp_cutR (Γ : Nat → Callee) (env : Env) (hp : List Ob) (size : Nat) (x : AO) (lo hi : Option AO) : evOp Γ env hp (.cutR size x lo hi) = if Go.X.sizeOf hp (getS env x) = some size then oCutR hp (getSo env lo) (getSo env hi) (getS env x) (lenOf hp (getS env x)) else none := rfl
@[simp] theorem evOp_cutA (Γ : Nat → Callee) (env : Env) (hp : List Ob) (n : Nat) (x : AO) (lo hi : Option AO) : evOp Γ env hp (.cutA n x lo hi) = oCutA hp n (getSo env lo) (getSo env hi) (getO env x) := rfl
@[simp] theorem evOp_fadr (Γ : Nat → Callee) (env : Env) (hp : List Ob) (off : Nat) (x : AO) : evOp Γ env hp (.fadr off x) = oFadr hp off (getO env x) := rfl
@[simp] theorem evOp_fld (Γ : Nat → Callee) (env : Env) (hp : List Ob) (off : Nat) (n : Option Nat) (x : AO) : evOp Γ env hp (.fld off n x) = oFld hp off n (getO env x) := rfl
@[simp] theorem evOp_iadrR (Γ : Nat → Callee) (env : Env) (hp : List Ob) (size : Nat) (x i : AO) : evOp Γ env hp (.iadrR size x i) = if Go.X.sizeOf hp (getS env x) = some size then oIadrR hp (getS env x) (lenOf hp (getS env x)) (getO env i) else none := rfl
@[simp] theorem evOp_iadrA (Γ : Nat → Callee) (env : Env) (hp : List Ob) (len size : Nat) (x i : AO) : evOp Γ env hp (.iadrA len size x i) = oIadrA hp len size (getO env x) (getO env i) := rfl
@[simp] theorem evOp_idxA (Γ : Nat → Callee) (env : Env) (hp : List Ob) (len size : Nat) (n : Option Nat) (x i : AO) : evOp Γ env hp (.idxA len size n x i) = oIdxA hp len size n (getO env x) (getO env i) := rfl
@[simp] theorem evOp_idxS (Γ : Nat → Callee) (env : Env) (hp : List Ob) (x i : AO) : evOp Γ env hp (.idxS x i) = oIdxS hp (getO env x) (getO env i) := rfl
@[simp] theorem evOp_extract (Γ : Nat → Callee) (env : Env) (hp : List Ob) (i : Nat) (x : AO) : evOp Γ env hp (.extract i x) = oExtract hp i (getO env x) := rfl
@[simp] theorem evOp_call (Γ : Nat → Callee) (env : Env) (hp : List Ob) (f : Nat) (args : List AO) : evOp Γ env hp (.call f args) = callee Γ hp f (getL env args) := rfl
@[simp] theorem evOp_callo (Γ : Nat → Callee) (env : Env) (hp : List Ob) (f : Nat) (args : List AO) : evOp Γ env hp (.callo f args) = callKs false Γ hp f (getL env args) (reachL hp 64 (avsCells (getL env args)) []) := rfl
@[simp] theorem evOp_calli (Γ : Nat → Callee) (env : Env) (hp : List Ob) (f : Nat) (args : List AO) : evOp Γ env hp (.calli f args) = callKs true Γ hp f (getL env args) (reachL hp 64 (avsCells (getL env args)) []) := rfl
@[simp] theorem evOp_pcall (Γ : Nat → Callee) (env : Env) (hp : List Ob) (f : Nat) (args : List AO) : evOp Γ env hp (.pcall f args) = pureCall Γ hp f (getL env args) := rfl
@[simp] theorem evOp_callv (Γ : Nat → Callee) (env : Env) (hp : List Ob) (x : AO) (args : List AO) : evOp Γ env hp (.callv x args) = oCallv Γ hp (getL env args) (getO env x) := rfl
@[simp] theorem evOp_lenS (Γ : Nat → Callee) (env : Env) (hp : List Ob) (x : AO) : evOp Γ env hp (.lenS x) = oLenS hp (getO env x) := rfl
@[simp] theorem evOp_len (Γ : Nat → Callee) (env : Env) (hp : List Ob) (x : AO) : evOp Γ env hp (.len x) = oLen hp (lenOf hp (getS env x)) := rfl
@[simp] theorem evOp_append (Γ : Nat → Callee) (env : Env) (hp : List Ob) (c0 : RC) (bytes : Nat) (s x : AO) : evOp Γ env hp (.append c0 bytes s x) = Go.X.append hp c0 bytes (getS env s) (getS env x) := rfl
@[simp] theorem evOp_min (Γ : Nat → Callee) (env : Env) (hp : List Ob) (l : List AO) : evOp Γ env hp (.min l) = oMin hp (getL env l) := rfl
@[simp] theorem evOp_max (Γ : Nat → Callee) (env : Env) (hp : List Ob) (l : List AO) : evOp Γ env hp (.max l) = oMax hp (getL env l) := rfl
@[simp] theorem evOp_mkfn (Γ : Nat → Callee) (env : Env) (hp : List Ob) (f : Nat) (caps : List AO) : evOp Γ env hp (.mkfn f caps) = some (.one (.fn f (getSL env caps)), hp) := rfl
@[simp] theorem evOp_appZ (Γ : Nat → Callee) (env : Env) (hp : List Ob) (c0 : RC) (zero : List Sc) (bytes : Nat) (s x : AO) : evOp Γ env hp (.appZ c0 zero bytes s x) = oAppZ hp c0 zero bytes (getS env s) (getO env x) := rfl
@[simp] theorem evOp_mks (Γ : Nat → Callee) (env : Env) (hp : List Ob) (c0 : RC) (zero : List Sc) (bytes : Nat) (len cap : AO) : evOp Γ env hp (.mks c0 zero bytes len cap) = oMks hp c0 zero bytes (getO env len) (getO env cap) := rfl
@[simp] theorem evOp_copy (Γ : Nat → Callee) (env : Env) (hp : List Ob) (d s : AO) : evOp Γ env hp (.copy d s) = oCopy hp (getS env d) (getS env s) := rfl
@[simp] theorem evOp_bad (Γ : Nat → Callee) (env : Env) (hp : List Ob) : evOp Γ env hp .bad = none := rfl
@[simp] theorem oCopy_cview (hp : List Ob) (k o n j p m : Nat) : oCopy hp (.cview k o n) (.cview j p m) = copyV hp k o (Nat.min m n) (loadPN (hp[j]?) (Nat.min m n) p) := rfl
@[simp] theorem copyV_none (hp : List Ob) (k o n : Nat) : copyV hp k o n none = none := rfl
@[simp] theorem copyV_some (hp : List Ob) (k o n : Nat) (vs : List SV) : copyV hp k o n (some vs) = copyR n (storeP hp k vs o (hp[k]?)) := rfl
@[simp] theorem copyR_none (n : Nat) : copyR n none = none := rfl
@[simp] theorem copyR_some (n : Nat) (h : List Ob) : copyR n (some h) = some (.one (.int .i64 n), h) := rfl
@[simp] theorem newRow_def (hp : List Ob) (c : RC) : newRow hp c = some (.one (.row hp.length), hp ++ [.rows none c]) := rfl
@[simp] theorem append_def (hp : List Ob) (c0 : RC) (bytes : Nat) (s x : SV) : Go.X.append hp c0 bytes s x = app1 hp c0 bytes s x (source hp c0 x) := rfl
@[simp] theorem app1_some (hp : List Ob) (c0 : RC) (bytes : Nat) (s x : SV) (y : RC) : app1 hp c0 bytes s x (some y) = app2 hp c0 bytes s x y := rfl
@[simp] theorem app2_nils (hp : List Ob) (c0 c : RC) (bytes : Nat) (x : SV) (y : RC) : app2 hp c0 bytes (.nils c) x y = if y.len * bytes ≤ 140737488355328 ∧ y.size = c0.size then putR hp (RC.app c0 y) else none := rfl
@[simp] theorem app2_row (hp : List Ob) (c0 : RC) (bytes k : Nat) (x : SV) (y : RC) : app2 hp c0 bytes (.row k) x y = if keyOf x = some k then none else app3 hp c0 bytes k y (rowAt (hp[k]?)) := rfl
@[simp] theorem app2_view (hp : List Ob) (c0 : RC) (bytes k o n : Nat) (x : SV) (y : RC) : app2 hp c0 bytes (.view k o n) x y = if keyOf x = some k then none else app3 hp c0 bytes k y (cutAt o n (hp[k]?)) := rfl
@[simp] theorem app3_some (hp : List Ob) (c0 : RC) (bytes k : Nat) (y c : RC) : app3 hp c0 bytes k y (some c) = if (c.len + y.len) * bytes ≤ 140737488355328 ∧ c.size = c0.size ∧ y.size = c0.size then putR (hp.set k .dead) (c.app y) else none := rfl
@[simp] theorem ofElemsO_some (c0 : RC) (l : List (List Sc)) : ofElemsO c0 (some l) = RC.ofElems c0 l := rfl
@[simp] theorem resC_norm (rs : List (Nat × Option (Option Nat))) (env : Env) (rts : List SV) (hp : List Ob) : resC rs (some (.norm, ⟨env, rts, hp⟩)) = give rts hp (resL env hp rs) := rfl
@[simp] theorem resC_ret (rs : List (Nat × Option (Option Nat))) (env : Env) (rts : List SV) (hp : List Ob) : resC rs (some (.ret, ⟨env, rts, hp⟩)) = give rts hp (resL env hp rs) := rfl
@[simp] theorem resC_none (rs : List (Nat × Option (Option Nat))) : resC rs none = none := rfl
@[simp] theorem resOf_tmp (env : Env) (hp : List Ob) (t : Nat) : resOf env hp (t, none) = some (getT t env) := rfl
@[simp] theorem resOf_one (env : Env) (hp : List Ob) (t : Nat) : resOf env hp (t, some none) = oneAV (loadOne hp (getT t env).sv) := rfl
@[simp] theorem resOf_agg (env : Env) (hp : List Ob) (t n : Nat) : resOf env hp (t, some (some n)) = aggAV (loadN hp n (getT t env).sv) := rfl
@[simp] theorem evF_def (Γ : Nat → Callee) (K : Nat) (f : AF) (args : List AV) (hp : List Ob) : evF Γ K f args hp = resC f.results (evC Γ K f.body ⟨argEnv 0 args, avsCells args, hp⟩) := rfl
@[simp] theorem oPick_bool (hp : List Ob) (a b : AV) (t : Bool) : oPick hp a b (.one (.bool t)) = some (if t = true then a else b, hp) := rfl
@[simp] theorem oNilCheck_ptr (hp : List Ob) (k o : Nat) : oNilCheck hp (.one (.ptr k o)) = some (.one (.ptr k o), hp) := rfl
@[simp] theorem oNilCheck_eptr (hp : List Ob) (k i o : Nat) : oNilCheck hp (.one (.eptr k i o)) = some (.one (.eptr k i o), hp) := rfl
@[simp] theorem oNilCheck_rptr (hp : List Ob) (t : Nat) (c : RC) (i o : Nat) : oNilCheck hp (.one (.rptr t c i o)) = some (.one (.rptr t c i o), hp) := rfl
@[simp] theorem oNilCheck_fn (hp : List Ob) (f : Nat) (caps : List SV) : oNilCheck hp (.one (.fn f caps)) = some (.one (.fn f caps), hp) := rfl
@[simp] theorem oNilCheck_nilp (hp : List Ob) : oNilCheck hp (.one .nilp) = none := rfl
@[simp] theorem oEqNil_nilp (hp : List Ob) (neq : Bool) : oEqNil hp neq (.one .nilp) = some (.one (.bool (!neq)), hp) := rfl
@[simp] theorem oEqNil_ptr (hp : List Ob) (neq : Bool) (k o : Nat) : oEqNil hp neq (.one (.ptr k o)) = some (.one (.bool neq), hp) := rfl
@[simp] theorem oEqNil_eptr (hp : List Ob) (neq : Bool) (k i o : Nat) : oEqNil hp neq (.one (.eptr k i o)) = some (.one (.bool neq), hp) := rfl
@[simp] theorem oEqAgg_agg (hp : List Ob) (neq : Bool) (z : List Sc) (l m : List SV) : oEqAgg hp neq z (.agg l) (.agg m) = putB hp neq (eqScs z l m) := rfl
@[simp] theorem oConv_int (hp : List Ob) (k j : IntKind) (n : Int) : oConv hp k (.one (.int j n)) = some (.one (.int k (k.wrap n)), hp) := rfl
@[simp] theorem oSconv_str (hp : List Ob) (s : ByteArray) : oSconv hp (.one (.str s)) = some (.one (.str s), hp) := rfl
@[simp] theorem oS2b_str (hp : List Ob) (s : ByteArray) : oS2b hp (.one (.str s)) = if s.size ≤ 140737488355328 then newRow hp (.ints .u8 (toBytes s)) else none := rfl
@[simp] theorem oB2s_ints (hp : List Ob) (xs : List Int) : oB2s hp (some (.ints .u8 xs)) = some (.one (.str (ofBytes xs)), hp) := rfl
@[simp] theorem optInt_none (d : Nat) : optInt d none = some (d : Int) := rfl
@[simp] theorem optInt_int (d : Nat) (k : IntKind) (z : Int) : optInt d (some (.int k z)) = some z := rfl
@[simp] theorem oCutS_str (hp : List Ob) (lo hi : Option SV) (s : ByteArray) : oCutS hp lo hi (.one (.str s)) = cutS2 hp s (optInt 0 lo) (optInt s.size hi) := rfl
@[simp] theorem cutS2_some (hp : List Ob) (s : ByteArray) (a b : Int) : cutS2 hp s (some a) (some b) = if 0 ≤ a ∧ a ≤ b ∧ b ≤ s.size then some (.one (.str (s.extract a.toNat b.toNat)), hp) else none := rfl
@[simp] theorem oCutR_some (hp : List Ob) (lo hi : Option SV) (x : SV) (n : Nat) : oCutR hp lo hi x (some n) = cutR2 hp x n (optInt 0 lo) (optInt n hi) := rfl
@[simp] theorem cutR2_some (hp : List Ob) (x : SV) (n : Nat) (a b : Int) : cutR2 hp x n (some a) (some b) = if 0 ≤ a ∧ a ≤ b ∧ b ≤ n then put1 hp (cutSV a.toNat (b.toNat - a.toNat) x) else none := rfl
@[simp] theorem cutSV_row (a n k : Nat) : cutSV a n (.row k) = some (.view k a n) := rfl
@[simp] theorem cutSV_view (a n k o m : Nat) : cutSV a n (.view k o m) = some (.view k (o + a) n) := rfl
@[simp] theorem cutSV_cview (a n k o m : Nat) : cutSV a n (.cview k o m) = some (.cview k (o + a) n) := rfl
@[simp] theorem cutSV_ro (a n t : Nat) (c : RC) : cutSV a n (.ro t c) = some (.ro t (c.cut a n)) := rfl
@[simp] theorem cutSV_nils (a n : Nat) (c : RC) : cutSV a n (.nils c) = some (.nils c) := rfl
@[simp] theorem oCutA_ptr (hp : List Ob) (n : Nat) (lo hi : Option SV) (k o : Nat) : oCutA hp n lo hi (.one (.ptr k o)) = cutA2 hp n k o (optInt 0 lo) (optInt n hi) := rfl
@[simp] theorem cutA2_some (hp : List Ob) (n k o : Nat) (a b : Int) : cutA2 hp n k o (some a) (some b) = if 0 ≤ a ∧ a ≤ b ∧ b ≤ n then some (.one (.cview k (o + a.toNat) (b.toNat - a.toNat)), hp) else none := rfl
@[simp] theorem oFadr_ptr (hp : List Ob) (off k o : Nat) : oFadr hp off (.one (.ptr k o)) = some (.one (.ptr k (o + off)), hp) := rfl
@[simp] theorem oFadr_eptr (hp : List Ob) (off k i o : Nat) : oFadr hp off (.one (.eptr k i o)) = some (.one (.eptr k i (o + off)), hp) := rfl
@[simp] theorem oFadr_rptr (hp : List Ob) (off t : Nat) (c : RC) (i o : Nat) : oFadr hp off (.one (.rptr t c i o)) = some (.one (.rptr t c i (o + off)), hp) := rfl
@[simp] theorem oFld_agg (hp : List Ob) (off : Nat) (n : Option Nat) (l : List SV) : oFld hp off n (.agg l) = putA hp (takeAV l off n) := rfl
@[simp] theorem takeAV_none (l : List SV) (off : Nat) : takeAV l off none = (l[off]?).map AV.one := rfl
@[simp] theorem takeAV_some (l : List SV) (off n : Nat) : takeAV l off (some n) = if off + n ≤ l.length then some (.agg ((l.drop off).take n)) else none := rfl
@[simp] theorem elemPtr_row (i k : Nat) : elemPtr i (.row k) = some (.eptr k i 0) := rfl
@[simp] theorem elemPtr_view (i k o n : Nat) : elemPtr i (.view k o n) = some (.eptr k (o + i) 0) := rfl
@[simp] theorem elemPtr_cview (i k o n : Nat) : elemPtr i (.cview k o n) = some (.ptr k (o + i)) := rfl
@[simp] theorem elemPtr_ro (i t : Nat) (c : RC) : elemPtr i (.ro t c) = some (.rptr t c i 0) := rfl
@[simp] theorem oIadrR_some (hp : List Ob) (x : SV) (n : Nat) (k : IntKind) (i : Int) : oIadrR hp x (some n) (.one (.int k i)) = if inBounds i n = true then put1 hp (elemPtr i.toNat x) else none := rfl
@[simp] theorem oIadrA_ptr (hp : List Ob) (len size k o : Nat) (j : IntKind) (i : Int) : oIadrA hp len size (.one (.ptr k o)) (.one (.int j i)) = if inBounds i len = true then some (.one (.ptr k (o + i.toNat * size)), hp) else none := rfl
@[simp] theorem oIdxA_agg (hp : List Ob) (len size : Nat) (n : Option Nat) (l : List SV) (j : IntKind) (i : Int) : oIdxA hp len size n (.agg l) (.one (.int j i)) = if inBounds i len = true then putA hp (takeAV l (i.toNat * size) n) else none := rfl
@[simp] theorem oIdxS_str (hp : List Ob) (s : ByteArray) (j : IntKind) (i : Int) : oIdxS hp (.one (.str s)) (.one (.int j i)) = if inBounds i s.size = true then some (.one (.int .u8 ((toBytes s).getD i.toNat 0)), hp) else none := rfl
@[simp] theorem oExtract_tup (hp : List Ob) (i : Nat) (l : List AV) : oExtract hp i (.tup l) = putA hp l[i]? := rfl
@[simp] theorem oCallv_fn (Γ : Nat → Callee) (hp : List Ob) (args : List AV) (f : Nat) (caps : List SV) : oCallv Γ hp args (.one (.fn f caps)) = callKs true Γ hp f (args ++ caps.map AV.one) (handKs hp (args ++ caps.map AV.one)) := rfl
@[simp] theorem oLen_some (hp : List Ob) (n : Nat) : oLen hp (some n) = some (.one (.int .i64 n), hp) := rfl
@[simp] theorem oMin_two (hp : List Ob) (k j : IntKind) (x y : Int) : oMin hp [.one (.int k x), .one (.int j y)] = some (.one (.int k (if y < x then y else x)), hp) := rfl
@[simp] theorem oMax_two (hp : List Ob) (k j : IntKind) (x y : Int) : oMax hp [.one (.int k x), .one (.int j y)] = some (.one (.int k (if x < y then y else x)), hp) := rfl
@[simp] theorem oMks_int (hp : List Ob) (c0 : RC) (zero : List Sc) (bytes : Nat) (k j : IntKind) (n c : Int) : oMks hp c0 zero bytes (.one (.int k n)) (.one (.int j c)) = if 0 ≤ n ∧ n ≤ c ∧ c * bytes ≤ 140737488355328 then putR hp (RC.ofElems c0 (List.replicate n.toNat zero)) else none := rfl
@[simp] theorem loadOne_eptr (hp : List Ob) (k i o : Nat) : loadOne hp (.eptr k i o) = loadE (hp[k]?) i o := rfl
@[simp] theorem loadOne_ptr (hp : List Ob) (k o : Nat) : loadOne hp (.ptr k o) = loadP (hp[k]?) o := rfl
@[simp] theorem loadOne_rptr (hp : List Ob) (t : Nat) (c : RC) (i o : Nat) : loadOne hp (.rptr t c i o) = scSV (c.get i o) := rfl
@[simp] theorem loadP_cells (g : Option Nat) (l : List SV) (o : Nat) : loadP (some (.cells g l)) o = l[o]? := rfl
@[simp] theorem loadE_rows (g : Option Nat) (c : RC) (i o : Nat) : loadE (some (.rows g c)) i o = scSV (c.get i o) := rfl
@[simp] theorem scSV_none  : scSV none = none := rfl
@[simp] theorem scSV_some (c : Sc) : scSV (some c) = some c.sv := rfl
@[simp] theorem loadN_ptr (hp : List Ob) (n k o : Nat) : loadN hp n (.ptr k o) = loadPN (hp[k]?) n o := rfl
@[simp] theorem loadN_eptr (hp : List Ob) (n k i o : Nat) : loadN hp n (.eptr k i o) = loadEN (hp[k]?) n i o := rfl
@[simp] theorem loadN_rptr (hp : List Ob) (n t : Nat) (c : RC) (i o : Nat) : loadN hp n (.rptr t c i o) = takeE c n i o := rfl
@[simp] theorem loadPN_cells (g : Option Nat) (l : List SV) (n o : Nat) : loadPN (some (.cells g l)) n o = if o + n ≤ l.length then some ((l.drop o).take n) else none := rfl
@[simp] theorem loadEN_rows (g : Option Nat) (c : RC) (n i o : Nat) : loadEN (some (.rows g c)) n i o = takeE c n i o := rfl
@[simp] theorem storeCells_ptr (hp : List Ob) (vs : List SV) (k o : Nat) : storeCells hp vs (.ptr k o) = storeP hp k vs o (hp[k]?) := rfl
@[simp] theorem storeCells_eptr (hp : List Ob) (vs : List SV) (k i o : Nat) : storeCells hp vs (.eptr k i o) = storeE hp k vs i o (hp[k]?) := rfl
@[simp] theorem storeP_cells (hp : List Ob) (g : Option Nat) (k : Nat) (vs : List SV) (o : Nat) (l : List SV) : storeP hp k vs o (some (.cells g l)) = if o + vs.length ≤ l.length ∧ vs.all okCell = true then some (hp.set k (.cells g (putAt l o vs))) else none := rfl
@[simp] theorem storeE_rows (g : Option Nat) (hp : List Ob) (k : Nat) (vs : List SV) (i o : Nat) (c : RC) : storeE hp k vs i o (some (.rows g c)) = rowsH hp k g (setScs c i o vs) := rfl
@[simp] theorem rowsH_some (g : Option Nat) (hp : List Ob) (k : Nat) (c : RC) : rowsH hp k g (some c) = some (hp.set k (.rows g c)) := rfl
@[simp] theorem rowsH_none (g : Option Nat) (hp : List Ob) (k : Nat) : rowsH hp k g none = none := rfl
@[simp] theorem sc_int (k : IntKind) (x : Int) : SV.sc (.int k x) = some (.int k x) := rfl
@[simp] theorem svsc_int (k : IntKind) (x : Int) : Sc.sv (.int k x) = .int k x := rfl
@[simp] theorem sc_bool (b : Bool) : SV.sc (.bool b) = some (.bool b) := rfl
@[simp] theorem svsc_bool (b : Bool) : Sc.sv (.bool b) = .bool b := rfl
@[simp] theorem sc_str (s : ByteArray) : SV.sc (.str s) = some (.str s) := rfl
@[simp] theorem svsc_str (s : ByteArray) : Sc.sv (.str s) = .str s := rfl
@[simp] theorem okCell_undef  : okCell .undef = false := rfl
@[simp] theorem okCell_int (k : IntKind) (x : Int) : okCell (.int k x) = true := rfl
@[simp] theorem okCell_bool (b : Bool) : okCell (.bool b) = true := rfl
@[simp] theorem okCell_str (s : ByteArray) : okCell (.str s) = true := rfl
@[simp] theorem okCell_nilp  : okCell .nilp = true := rfl
@[simp] theorem okCell_ptr (k o : Nat) : okCell (.ptr k o) = true := rfl
@[simp] theorem okCell_row (k : Nat) : okCell (.row k) = true := rfl
@[simp] theorem okCell_view (k o n : Nat) : okCell (.view k o n) = true := rfl
@[simp] theorem okCell_ro (t : Nat) (c : RC) : okCell (.ro t c) = true := rfl
@[simp] theorem okCell_fn (f : Nat) (caps : List SV) : okCell (.fn f caps) = true := rfl
@[simp] theorem okCell_nilf  : okCell .nilf = true := rfl
@[simp] theorem len_ints (k : IntKind) (xs : List (Int)) : RC.len (.ints k xs) = xs.length := rfl
@[simp] theorem size_ints (k : IntKind) (xs : List (Int)) : RC.size (.ints k xs) = 1 := rfl
@[simp] theorem cut_ints (k : IntKind) (xs : List (Int)) (a m : Nat) : RC.cut (.ints k xs) a m = .ints k ((xs.drop a).take m) := rfl
@[simp] theorem len_strs (xs : List (ByteArray)) : RC.len (.strs xs) = xs.length := rfl
@[simp] theorem size_strs (xs : List (ByteArray)) : RC.size (.strs xs) = 1 := rfl
@[simp] theorem cut_strs (xs : List (ByteArray)) (a m : Nat) : RC.cut (.strs xs) a m = .strs ((xs.drop a).take m) := rfl
@[simp] theorem len_bools (xs : List (Bool)) : RC.len (.bools xs) = xs.length := rfl
@[simp] theorem size_bools (xs : List (Bool)) : RC.size (.bools xs) = 1 := rfl
@[simp] theorem cut_bools (xs : List (Bool)) (a m : Nat) : RC.cut (.bools xs) a m = .bools ((xs.drop a).take m) := rfl
@[simp] theorem len_recs (n : Nat) (xs : List (List Sc)) : RC.len (.recs n xs) = xs.length := rfl
@[simp] theorem size_recs (n : Nat) (xs : List (List Sc)) : RC.size (.recs n xs) = n := rfl
@[simp] theorem cut_recs (n : Nat) (xs : List (List Sc)) (a m : Nat) : RC.cut (.recs n xs) a m = .recs n ((xs.drop a).take m) := rfl
@[simp] theorem get_ints (k : IntKind) (xs : List Int) (i off : Nat) : RC.get (.ints k xs) i off = if off = 0 then some (.int k (xs.getD i 0)) else none := rfl
@[simp] theorem get_strs (xs : List ByteArray) (i off : Nat) : RC.get (.strs xs) i off = if off = 0 then some (.str (xs.getD i .empty)) else none := rfl
@[simp] theorem get_bools (xs : List Bool) (i off : Nat) : RC.get (.bools xs) i off = if off = 0 then some (.bool (xs.getD i false)) else none := rfl
@[simp] theorem get_recs (n : Nat) (xs : List (List Sc)) (i off : Nat) : RC.get (.recs n xs) i off = (xs.getD i [])[off]? := rfl
@[simp] theorem elem_ints (k : IntKind) (xs : List Int) (i : Nat) : RC.elem (.ints k xs) i = [.int k (xs.getD i 0)] := rfl
@[simp] theorem elem_recs (n : Nat) (xs : List (List Sc)) (i : Nat) : RC.elem (.recs n xs) i = xs.getD i [] := rfl
@[simp] theorem set_ints (k j : IntKind) (xs : List Int) (i off : Nat) (x : Int) : RC.set (.ints k xs) i off (.int j x) = if off = 0 ∧ k = j then some (.ints k (xs.set i x)) else none := rfl
@[simp] theorem set_recs (n : Nat) (xs : List (List Sc)) (i off : Nat) (c : Sc) : RC.set (.recs n xs) i off c = if off < n then some (.recs n (xs.set i ((xs.getD i []).set off c))) else none := rfl
@[simp] theorem app_ints (k j : IntKind) (xs ys : List Int) : RC.app (.ints k xs) (.ints j ys) = if k = j then some (.ints k (xs ++ ys)) else none := rfl
@[simp] theorem app_strs (xs ys : List ByteArray) : RC.app (.strs xs) (.strs ys) = some (.strs (xs ++ ys)) := rfl
@[simp] theorem app_bools (xs ys : List Bool) : RC.app (.bools xs) (.bools ys) = some (.bools (xs ++ ys)) := rfl
@[simp] theorem app_recs (n m : Nat) (xs ys : List (List Sc)) : RC.app (.recs n xs) (.recs m ys) = if n = m then some (.recs n (xs ++ ys)) else none := rfl
@[simp] theorem content_row (hp : List Ob) (k : Nat) : content hp (.row k) = rowAt (hp[k]?) := rfl
@[simp] theorem content_view (hp : List Ob) (k o n : Nat) : content hp (.view k o n) = cutAt o n (hp[k]?) := rfl
@[simp] theorem content_ro (hp : List Ob) (t : Nat) (c : RC) : content hp (.ro t c) = some c := rfl
@[simp] theorem content_nils (hp : List Ob) (c : RC) : content hp (.nils c) = some c := rfl
@[simp] theorem rowAt_rows (g : Option Nat) (c : RC) : rowAt (some (.rows g c)) = some c := rfl
@[simp] theorem cutAt_rows (g : Option Nat) (o n : Nat) (c : RC) : cutAt o n (some (.rows g c)) = some (c.cut o n) := rfl
@[simp] theorem sizeAt_rows (g : Option Nat) (c : RC) : sizeAt (some (.rows g c)) = some c.size := rfl
@[simp] theorem sizeOf_row (hp : List Ob) (k : Nat) : Go.X.sizeOf hp (.row k) = sizeAt (hp[k]?) := rfl
@[simp] theorem sizeOf_view (hp : List Ob) (k o n : Nat) : Go.X.sizeOf hp (.view k o n) = sizeAt (hp[k]?) := rfl
@[simp] theorem sizeOf_cview (hp : List Ob) (k o n : Nat) : Go.X.sizeOf hp (.cview k o n) = some 1 := rfl
@[simp] theorem sizeOf_ro (hp : List Ob) (t : Nat) (c : RC) : Go.X.sizeOf hp (.ro t c) = some c.size := rfl
@[simp] theorem sizeOf_nils (hp : List Ob) (c : RC) : Go.X.sizeOf hp (.nils c) = some c.size := rfl
@[simp] theorem lenOf_row (hp : List Ob) (k : Nat) : lenOf hp (.row k) = lenAt (hp[k]?) := rfl
@[simp] theorem lenAt_rows (g : Option Nat) (c : RC) : lenAt (some (.rows g c)) = some c.len := rfl
@[simp] theorem lenOf_view (hp : List Ob) (k o n : Nat) : lenOf hp (.view k o n) = some n := rfl
@[simp] theorem lenOf_cview (hp : List Ob) (k o n : Nat) : lenOf hp (.cview k o n) = some n := rfl
@[simp] theorem lenOf_ro (hp : List Ob) (t : Nat) (c : RC) : lenOf hp (.ro t c) = some c.len := rfl
@[simp] theorem lenOf_nils (hp : List Ob) (c : RC) : lenOf hp (.nils c) = some 0 := rfl
@[simp] theorem oLenS_str (hp : List Ob) (s : ByteArray) : oLenS hp (.one (.str s)) = some (.one (.int .i64 s.size), hp) := rfl
@[simp] theorem source_str (hp : List Ob) (l : List Int) (s : ByteArray) : source hp (.ints .u8 l) (.str s) = some (.ints .u8 (toBytes s)) := rfl
@[simp] theorem source_row (hp : List Ob) (c0 : RC) (k : Nat) : source hp c0 (.row k) = content hp (.row k) := rfl
@[simp] theorem keyOf_row (k : Nat) : keyOf (.row k) = some k := rfl
@[simp] theorem source_view (hp : List Ob) (c0 : RC) (k o n : Nat) : source hp c0 (.view k o n) = content hp (.view k o n) := rfl
@[simp] theorem keyOf_view (k o n : Nat) : keyOf (.view k o n) = some k := rfl
@[simp] theorem source_ro (hp : List Ob) (c0 : RC) (t : Nat) (c : RC) : source hp c0 (.ro t c) = content hp (.ro t c) := rfl
@[simp] theorem keyOf_ro (t : Nat) (c : RC) : keyOf (.ro t c) = none := rfl
@[simp] theorem source_nils (hp : List Ob) (c0 : RC) (c : RC) : source hp c0 (.nils c) = content hp (.nils c) := rfl
@[simp] theorem keyOf_nils (c : RC) : keyOf (.nils c) = none := rfl
@[simp] theorem keyOf_undef  : keyOf .undef = none := rfl
@[simp] theorem takeE_def (c : RC) (n i o : Nat) : takeE c n i o = if o + n ≤ c.size then some ((((c.elem i).drop o).take n).map Sc.sv) else none := rfl
@[simp] theorem keyOf_str (s : ByteArray) : keyOf (.str s) = none := rfl
@[simp] theorem bin_add (k j : IntKind) (x y : Int) : Go.X.bin .add (.int k x) (.int j y) = if k = j then some (.int k (k.wrap (x + y))) else none := rfl
@[simp] theorem bin_sub (k j : IntKind) (x y : Int) : Go.X.bin .sub (.int k x) (.int j y) = if k = j then some (.int k (k.wrap (x - y))) else none := rfl
@[simp] theorem bin_mul (k j : IntKind) (x y : Int) : Go.X.bin .mul (.int k x) (.int j y) = if k = j then some (.int k (k.wrap (x * y))) else none := rfl
@[simp] theorem bin_and (k j : IntKind) (x y : Int) : Go.X.bin .and (.int k x) (.int j y) = if k = j then some (.int k (bitsI .and k x y)) else none := rfl
@[simp] theorem bin_or (k j : IntKind) (x y : Int) : Go.X.bin .or (.int k x) (.int j y) = if k = j then some (.int k (bitsI .or k x y)) else none := rfl
@[simp] theorem bin_xor (k j : IntKind) (x y : Int) : Go.X.bin .xor (.int k x) (.int j y) = if k = j then some (.int k (bitsI .xor k x y)) else none := rfl
@[simp] theorem bin_andNot (k j : IntKind) (x y : Int) : Go.X.bin .andNot (.int k x) (.int j y) = if k = j then some (.int k (bitsI .andNot k x y)) else none := rfl
@[simp] theorem bin_quo (k j : IntKind) (x y : Int) : Go.X.bin .quo (.int k x) (.int j y) = if k = j then (if y = 0 then none else some (.int k (k.wrap (x.tdiv y)))) else none := rfl
@[simp] theorem bin_rem (k j : IntKind) (x y : Int) : Go.X.bin .rem (.int k x) (.int j y) = if k = j then (if y = 0 then none else some (.int k (x.tmod y))) else none := rfl
@[simp] theorem bin_shl (k j : IntKind) (x y : Int) : Go.X.bin .shl (.int k x) (.int j y) = if y < 0 then none else some (.int k (shlI k x y)) := rfl
@[simp] theorem bin_shr (k j : IntKind) (x y : Int) : Go.X.bin .shr (.int k x) (.int j y) = if y < 0 then none else some (.int k (shrI k x y)) := rfl
@[simp] theorem bin_eql (k j : IntKind) (x y : Int) : Go.X.bin .eql (.int k x) (.int j y) = if k = j then some (.bool (x == y)) else none := rfl
@[simp] theorem bin_neq (k j : IntKind) (x y : Int) : Go.X.bin .neq (.int k x) (.int j y) = if k = j then some (.bool (x != y)) else none := rfl
@[simp] theorem bin_lss (k j : IntKind) (x y : Int) : Go.X.bin .lss (.int k x) (.int j y) = if k = j then some (.bool (decide (x < y))) else none := rfl
@[simp] theorem bin_leq (k j : IntKind) (x y : Int) : Go.X.bin .leq (.int k x) (.int j y) = if k = j then some (.bool (decide (x ≤ y))) else none := rfl
@[simp] theorem bin_gtr (k j : IntKind) (x y : Int) : Go.X.bin .gtr (.int k x) (.int j y) = if k = j then some (.bool (decide (y < x))) else none := rfl
@[simp] theorem bin_geq (k j : IntKind) (x y : Int) : Go.X.bin .geq (.int k x) (.int j y) = if k = j then some (.bool (decide (y ≤ x))) else none := rfl
@[simp] theorem oEqB_bool (hp : List Ob) (neq x y : Bool) : oEqB hp neq (.one (.bool x)) (.one (.bool y)) = putB hp neq (some (x == y)) := rfl
@[simp] theorem bin_sadd (x y : ByteArray) : Go.X.bin .add (.str x) (.str y) = if x.size + y.size ≤ 9223372036854775807 then some (.str (x ++ y)) else none := rfl
@[simp] theorem bin_seql (x y : ByteArray) : Go.X.bin .eql (.str x) (.str y) = some (.bool (x.toList == y.toList)) := rfl
@[simp] theorem bin_sneq (x y : ByteArray) : Go.X.bin .neq (.str x) (.str y) = some (.bool (!(x.toList == y.toList))) := rfl
@[simp] theorem un_neg (k : IntKind) (x : Int) : Go.X.un .neg (.int k x) = some (.int k (k.wrap (0 - x))) := rfl
@[simp] theorem un_xor (k : IntKind) (x : Int) : Go.X.un .xor (.int k x) = some (.int k (bitsI .xor k (if k.signed then -1 else k.max) x)) := rfl
@[simp] theorem un_not (b : Bool) : Go.X.un .not (.bool b) = some (.bool (!b)) := rfl
@[simp] theorem eqSc_int (k0 k j : IntKind) (x0 x y : Int) : eqSc (.int k0 x0) (.int k x) (.int j y) = if k = j then some (x == y) else none := rfl
@[simp] theorem eqSc_bool (x0 x y : Bool) : eqSc (.bool x0) (.bool x) (.bool y) = some (x == y) := rfl
@[simp] theorem eqSc_str (x0 x y : ByteArray) : eqSc (.str x0) (.str x) (.str y) = some (x == y) := rfl
@[simp] theorem oneAV_some (v : SV) : oneAV (some v) = some (.one v) := rfl
@[simp] theorem aggAV_some (l : List SV) : aggAV (some l) = some (.agg l) := rfl
@[simp] theorem tupOf_one (v : AV) : tupOf [v] = v := rfl
@[simp] theorem tupOf_two (v u : AV) (l : List AV) : tupOf (v :: u :: l) = .tup (v :: u :: l) := rfl
@[simp] theorem thenC_ite (f : St → Option (Ex × St)) (c : Prop) [Decidable c] (a b : Option (Ex × St)) : thenC f (if c then a else b) = if c then thenC f a else thenC f b := by split <;> rfl
@[simp] theorem thenI_ite (env : Env) (rts : List SV) (d : Option Nat) (f : St → Option St) (c : Prop) [Decidable c] (a b : Res) : thenI env rts d f (if c then a else b) = if c then thenI env rts d f a else thenI env rts d f b := by split <;> rfl
@[simp] theorem blockC_ite (i : Nat) (c : Prop) [Decidable c] (a b : Option (Ex × St)) : blockC i (if c then a else b) = if c then blockC i a else blockC i b := by split <;> rfl
@[simp] theorem normC_ite  (c : Prop) [Decidable c] (a b : Option St) : normC  (if c then a else b) = if c then normC  a else normC  b := by split <;> rfl
@[simp] theorem put1_ite (hp : List Ob) (c : Prop) [Decidable c] (a b : Option SV) : put1 hp (if c then a else b) = if c then put1 hp a else put1 hp b := by split <;> rfl
@[simp] theorem putA_ite (hp : List Ob) (c : Prop) [Decidable c] (a b : Option AV) : putA hp (if c then a else b) = if c then putA hp a else putA hp b := by split <;> rfl
@[simp] theorem putL_ite (hp : List Ob) (c : Prop) [Decidable c] (a b : Option (List SV)) : putL hp (if c then a else b) = if c then putL hp a else putL hp b := by split <;> rfl
@[simp] theorem putH_ite  (c : Prop) [Decidable c] (a b : Option (List Ob)) : putH  (if c then a else b) = if c then putH  a else putH  b := by split <;> rfl
@[simp] theorem putR_ite (hp : List Ob) (c : Prop) [Decidable c] (a b : Option RC) : putR hp (if c then a else b) = if c then putR hp a else putR hp b := by split <;> rfl
@[simp] theorem ofElemsO_ite (c0 : RC) (c : Prop) [Decidable c] (a b : Option (List (List Sc))) : ofElemsO c0 (if c then a else b) = if c then ofElemsO c0 a else ofElemsO c0 b := by split <;> rfl
@[simp] theorem putB_ite (hp : List Ob) (n : Bool) (c : Prop) [Decidable c] (a b : Option Bool) : putB hp n (if c then a else b) = if c then putB hp n a else putB hp n b := by split <;> rfl
@[simp] theorem resC_ite (rs : List (Nat × Option (Option Nat))) (c : Prop) [Decidable c] (a b : Option (Ex × St)) : resC rs (if c then a else b) = if c then resC rs a else resC rs b := by split <;> rfl
@[simp] theorem rowsH_ite (hp : List Ob) (k : Nat) (g : Option Nat) (c : Prop) [Decidable c] (a b : Option RC) : rowsH hp k g (if c then a else b) = if c then rowsH hp k g a else rowsH hp k g b := by split <;> rfl
@[simp] theorem scSV_ite  (c : Prop) [Decidable c] (a b : Option Sc) : scSV  (if c then a else b) = if c then scSV  a else scSV  b := by split <;> rfl
@[simp] theorem give_ite (rts : List SV) (hp : List Ob) (c : Prop) [Decidable c] (a b : Option (List AV)) : give rts hp (if c then a else b) = if c then give rts hp a else give rts hp b := by split <;> rfl
@[simp] theorem comeBack_ite (hp : List Ob) (ks : List Nat) (args : List AV) (c : Prop) [Decidable c] (a b : Res) : comeBack hp ks args (if c then a else b) = if c then comeBack hp ks args a else comeBack hp ks args b := by split <;> rfl
@[simp] theorem inBounds_nat (i : Int) (n : Nat) : (inBounds i n = true) = (0 ≤ i ∧ i < n) := by simp [inBounds]
end Go.X
