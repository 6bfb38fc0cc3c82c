import Derived.IntWalk
import Derived.Test.YtemhdllnhgefkaaZ2
set_option linter.unusedVariables false
set_option linter.unusedSimpArgs false
/- The rules by which an abstract run is reckoned: each a step of simp. -/
set_option linter.unusedVariables false
set_option linter.unusedSimpArgs false
namespace Go.X
/-! What is reckoned first: what decides the way. -/
@[congr] theorem guardI_cg {b : Bool} {x y : Option St} {v v' : AV} (h : v = v') : guardI b x y v = guardI b x y v' := by rw [h]
@[congr] theorem stepG_cg {b : Bool} {r : Res} {hp : List Ob} {v v' : AV} (h : v = v') : stepG b r hp v = stepG b r hp v' := by rw [h]
@[congr] theorem thenI_cg {env : Env} {rts : List SV} {d : Option Nat} {f : St → Option St} {r r' : Res} (h : r = r') : thenI env rts d f r = thenI env rts d f r' := by rw [h]
@[congr] theorem thenD_cg {d : Option Nat} {b : Bool} {f : Env → List Ob → List (List Ob) → ResD} {env : Env} {hs : List (List Ob)} {r r' : Res} (h : r = r') : thenD d b f env hs r = thenD d b f env hs r' := by rw [h]
@[congr] theorem passN_cg {d : Option Nat} {f : Env → List Ob → Option (List RC)} {env : Env} {r r' : Res} (h : r = r') : passN d f env r = passN d f env r' := by rw [h]
@[congr] theorem passR_cg {d : Option Nat} {s : Nat} {f : Env → List Ob → Option (List RC)} {env : Env} {hp : List Ob} {r r' : Option RC} (h : r = r') : passR d s f env hp r = passR d s f env hp r' := by rw [h]
@[congr] theorem secF_cg {Γ : Nat → Callee} {l : List (AI × Bool × Option Nat)} {ck cf : List (Nat × List Nat)} {env : Env} {rts : List SV} {hp : List Ob} {r r' : Option (List RC)} (h : r = r') : secF Γ l ck cf env rts hp r = secF Γ l ck cf env rts hp r' := by rw [h]
@[congr] theorem finF_cg {Γ : Nat → Callee} {l : List (AI × Bool × Option Nat)} {n0 : Nat} {cs : List RC} {cf : List (Nat × List Nat)} {r r' : ResD} (h : r = r') : finF Γ l n0 cs cf r = finF Γ l n0 cs cf r' := by rw [h]
@[congr] theorem thenC_cg {f : St → Option (Ex × St)} {r r' : Option (Ex × St)} (h : r = r') : thenC f r = thenC f r' := by rw [h]
@[congr] theorem blockC_cg {i : Nat} {r r' : Option (Ex × St)} (h : r = r') : blockC i r = blockC i r' := by rw [h]
@[congr] theorem branchC_cg {f g : St → Option (Ex × St)} {st : St} {v v' : AV} (h : v = v') : branchC f g st v = branchC f g st v' := by rw [h]
@[congr] theorem resC_cg {rs : List (Nat × Option (Option Nat))} {r r' : Option (Ex × St)} (h : r = r') : resC rs r = resC rs r' := by rw [h]
@[congr] theorem finD_cg {Γ : Nat → Callee} {l : List (AI × Bool)} {ck : List (Nat × List Nat)} {rts : List SV} {r r' : ResD} (h : r = r') : finD Γ l ck rts r = finD Γ l ck rts r' := by rw [h]
attribute [simp] AV.same_refl SV.same_refl sameL_refl getT evDs ckKs ckAll finD finF ckFs ckSl rowsOf deads evC zcells putAt eqScs argEnv keep fillAll setScs reachSV reachOb reachL SV.ren renL AV.ren renT Env.ren Ob.ren pick avCells avsCells SV.strip stripL Ob.strip handed lendL lendArgs tagAll backKeys killAll layBack backL Ob.back argCells intsOf rcCells cviewAt AV.back backT scsOf partAt bsFrom getPs getPP getL getSL envCells resL pos
@[simp] theorem posPtr_some (o : Nat) (j : Nat) : posPtr o (some j) = .ptr j o := rfl
@[simp] theorem posPtr_none (o : Nat) : posPtr o none = .undef := rfl
@[simp] theorem posEptr_some (i o : Nat) (j : Nat) : posEptr i o (some j) = .eptr j i o := rfl
@[simp] theorem posEptr_none (i o : Nat) : posEptr i o none = .undef := rfl
@[simp] theorem posRow_some  (j : Nat) : posRow (some j) = .row j := rfl
@[simp] theorem posRow_none  : posRow none = .undef := rfl
@[simp] theorem posView_some (o n : Nat) (j : Nat) : posView o n (some j) = .view j o n := rfl
@[simp] theorem posView_none (o n : Nat) : posView o n none = .undef := rfl
@[simp] theorem posCview_some (o n : Nat) (j : Nat) : posCview o n (some j) = .cview j o n := rfl
@[simp] theorem posCview_none (o n : Nat) : posCview o n none = .undef := rfl
@[simp] theorem posF_def (ks : List Nat) (k : Nat) : posF ks k = pos k ks := rfl
@[simp] theorem ofOpt_some (o : Ob) : Ob.ofOpt (some o) = o := rfl
@[simp] theorem ofOpt_none  : Ob.ofOpt none = .dead := rfl
@[simp] theorem roOf_some (t : Nat) (v : SV) (c : RC) : roOf t v (some c) = .ro t c := rfl
@[simp] theorem lend_row (hp : List Ob) (ks : List Nat) (t : Nat) (k : Nat) : SV.lend hp ks t (.row k) = if ks.elem k then .row k else roOf t .undef (rowAt hp[k]?) := by simp [SV.lend, SV.strip]
@[simp] theorem back_row (args : List SV) (k : Nat) : SV.back args (.row k) = .row k := by simp [SV.back, SV.strip]
@[simp] theorem lend_view (hp : List Ob) (ks : List Nat) (t : Nat) (k o n : Nat) : SV.lend hp ks t (.view k o n) = if ks.elem k then .view k o n else roOf t .undef (cutAt o n hp[k]?) := by simp [SV.lend, SV.strip]
@[simp] theorem back_view (args : List SV) (k o n : Nat) : SV.back args (.view k o n) = .view k o n := by simp [SV.back, SV.strip]
@[simp] theorem lend_ro (hp : List Ob) (ks : List Nat) (t : Nat) (u : Nat) (c : RC) : SV.lend hp ks t (.ro u c) = .ro t c := by simp [SV.lend, SV.strip]
@[simp] theorem lend_rptr (hp : List Ob) (ks : List Nat) (t : Nat) (u : Nat) (c : RC) (i o : Nat) : SV.lend hp ks t (.rptr u c i o) = .rptr t c i o := by simp [SV.lend, SV.strip]
@[simp] theorem lend_eptr (hp : List Ob) (ks : List Nat) (t : Nat) (k i o : Nat) : SV.lend hp ks t (.eptr k i o) = if ks.elem k then .eptr k i o else .undef := by simp [SV.lend, SV.strip]
@[simp] theorem back_eptr (args : List SV) (k i o : Nat) : SV.back args (.eptr k i o) = .eptr k i o := by simp [SV.back, SV.strip]
@[simp] theorem lend_cview (hp : List Ob) (ks : List Nat) (t : Nat) (k o n : Nat) : SV.lend hp ks t (.cview k o n) = if ks.elem k then .cview k o n else roOf t .undef (cviewAt o n hp[k]?) := by simp [SV.lend, SV.strip]
@[simp] theorem back_cview (args : List SV) (k o n : Nat) : SV.back args (.cview k o n) = .cview k o n := by simp [SV.back, SV.strip]
@[simp] theorem lend_undef (hp : List Ob) (ks : List Nat) (t : Nat)  : SV.lend hp ks t .undef = .undef := by simp [SV.lend, SV.strip]
@[simp] theorem back_undef (args : List SV)  : SV.back args .undef = .undef := by simp [SV.back, SV.strip]
@[simp] theorem lend_int (hp : List Ob) (ks : List Nat) (t : Nat) (k : IntKind) (x : Int) : SV.lend hp ks t (.int k x) = .int k x := by simp [SV.lend, SV.strip]
@[simp] theorem back_int (args : List SV) (k : IntKind) (x : Int) : SV.back args (.int k x) = .int k x := by simp [SV.back, SV.strip]
@[simp] theorem lend_bool (hp : List Ob) (ks : List Nat) (t : Nat) (b : Bool) : SV.lend hp ks t (.bool b) = .bool b := by simp [SV.lend, SV.strip]
@[simp] theorem back_bool (args : List SV) (b : Bool) : SV.back args (.bool b) = .bool b := by simp [SV.back, SV.strip]
@[simp] theorem lend_str (hp : List Ob) (ks : List Nat) (t : Nat) (s : ByteArray) : SV.lend hp ks t (.str s) = .str s := by simp [SV.lend, SV.strip]
@[simp] theorem back_str (args : List SV) (s : ByteArray) : SV.back args (.str s) = .str s := by simp [SV.back, SV.strip]
@[simp] theorem lend_nilp (hp : List Ob) (ks : List Nat) (t : Nat)  : SV.lend hp ks t .nilp = .nilp := by simp [SV.lend, SV.strip]
@[simp] theorem back_nilp (args : List SV)  : SV.back args .nilp = .nilp := by simp [SV.back, SV.strip]
@[simp] theorem lend_ptr (hp : List Ob) (ks : List Nat) (t : Nat) (k o : Nat) : SV.lend hp ks t (.ptr k o) = .ptr k o := by simp [SV.lend, SV.strip]
@[simp] theorem back_ptr (args : List SV) (k o : Nat) : SV.back args (.ptr k o) = .ptr k o := by simp [SV.back, SV.strip]
@[simp] theorem lend_nils (hp : List Ob) (ks : List Nat) (t : Nat) (c : RC) : SV.lend hp ks t (.nils c) = .nils c := by simp [SV.lend, SV.strip]
@[simp] theorem back_nils (args : List SV) (c : RC) : SV.back args (.nils c) = .nils c := by simp [SV.back, SV.strip]
@[simp] theorem lend_fn (hp : List Ob) (ks : List Nat) (t : Nat) (f : Nat) (caps : List SV) : SV.lend hp ks t (.fn f caps) = .fn f (stripL caps) := by simp [SV.lend, SV.strip]
@[simp] theorem back_fn (args : List SV) (f : Nat) (caps : List SV) : SV.back args (.fn f caps) = .fn f (stripL caps) := by simp [SV.back, SV.strip]
@[simp] theorem lend_nilf (hp : List Ob) (ks : List Nat) (t : Nat)  : SV.lend hp ks t .nilf = .nilf := by simp [SV.lend, SV.strip]
@[simp] theorem back_nilf (args : List SV)  : SV.back args .nilf = .nilf := by simp [SV.back, SV.strip]
@[simp] theorem back_ro (args : List SV) (t : Nat) (c : RC) : SV.back args (.ro t c) = roArg t c args[t]? := rfl
@[simp] theorem roArg_ro (t u : Nat) (c d : RC) : roArg t c (some (.ro u d)) = .ro u c := rfl
@[simp] theorem avlend_one (hp : List Ob) (ks : List Nat) (t : Nat) (v : SV) : AV.lend hp ks t (.one v) = .one (v.lend hp ks t) := rfl
@[simp] theorem avlend_agg (hp : List Ob) (ks : List Nat) (t : Nat) (l : List SV) : AV.lend hp ks t (.agg l) = .agg (lendL hp ks t l) := rfl
@[simp] theorem tag_cells (i : Nat) (g : Option Nat) (l : List SV) : Ob.tag i (.cells g l) = .cells (some i) l := rfl
@[simp] theorem tag_rows (i : Nat) (c : RC) : Ob.tag i (.rows c) = .rows c := rfl
@[simp] theorem tag_dead (i : Nat) : Ob.tag i .dead = .dead := rfl
@[simp] theorem orgOf_cells (g : Option Nat) (l : List SV) : orgOf (some (.cells g l)) = g := rfl
@[simp] theorem backF_def (ks : List Nat) (n : Nat) (os : List Ob) (j : Nat) : backF ks n os j = (backKeys ks n os)[j]? := rfl
@[simp] theorem comeBack_none (hp : List Ob) (ks : List Nat) (args : List AV) : comeBack hp ks args none = none := rfl
@[simp] theorem comeBack_some (hp : List Ob) (ks : List Nat) (args : List AV) (r : AV) (os : List Ob) : comeBack hp ks args (some (r, os)) = some ((r.back (argCells args)).ren (backF ks hp.length os), layBack hp ks (backF ks hp.length os) (argCells args) os (killAll hp ks)) := rfl
@[simp] theorem callKs_def (Γ : Nat → Callee) (hp : List Ob) (f : Nat) (args : List AV) (ks : List Nat) : callKs Γ hp f args ks = comeBack hp ks args (Γ f (lendArgs hp ks 0 args) (tagAll 0 (Go.X.pick hp (posF ks) ks))) := rfl
@[simp] theorem pureCall_def (Γ : Nat → Callee) (hp : List Ob) (f : Nat) (args : List AV) : pureCall Γ hp f args = if plainArgs args = true then plainOut hp (Γ f args []) else none := rfl
@[simp] theorem plainOut_some (hp : List Ob) (r : AV) : plainOut hp (some (r, [])) = if r.plain = true then some (r, hp) else none := rfl
@[simp] theorem plainArgs_nil  : plainArgs [] = true := rfl
@[simp] theorem plainArgs_one (v : SV) (l : List AV) : plainArgs (.one v :: l) = (v.plain && plainArgs l) := rfl
@[simp] theorem plainArgs_agg (m : List SV) (l : List AV) : plainArgs (.agg m :: l) = (plainL m && plainArgs l) := rfl
@[simp] theorem plainL_nil  : plainL [] = true := rfl
@[simp] theorem plainL_cons (v : SV) (l : List SV) : plainL (v :: l) = (v.plain && plainL l) := rfl
@[simp] theorem plainT_nil  : plainT [] = true := rfl
@[simp] theorem plainT_cons (v : AV) (l : List AV) : plainT (v :: l) = (v.plain && plainT l) := rfl
@[simp] theorem plain_int (k : IntKind) (x : Int) : SV.plain (.int k x) = true := rfl
@[simp] theorem plain_bool (b : Bool) : SV.plain (.bool b) = true := rfl
@[simp] theorem plain_str (s : ByteArray) : SV.plain (.str s) = true := rfl
@[simp] theorem plain_one (v : SV) : AV.plain (.one v) = v.plain := rfl
@[simp] theorem plain_agg (l : List SV) : AV.plain (.agg l) = plainL l := rfl
@[simp] theorem plain_tup (l : List AV) : AV.plain (.tup l) = plainT l := rfl
@[simp] theorem callee_def (Γ : Nat → Callee) (hp : List Ob) (f : Nat) (args : List AV) : callee Γ hp f args = callKs Γ hp f args (handKs hp args) := rfl
@[simp] theorem handKs_def (hp : List Ob) (args : List AV) : handKs hp args = reachL hp 64 (handed (avsCells args)) [] := rfl
@[simp] theorem tidyKs_def (env : Env) (rts : List SV) (hp : List Ob) (ks : List Nat) : tidyKs env rts hp ks = ⟨env.ren (posF ks), renL (posF ks) rts, Go.X.pick hp (posF ks) ks⟩ := rfl
@[simp] theorem tidy_def (env : Env) (rts : List SV) (hp : List Ob) : tidy env rts hp = tidyKs env rts hp (reachL hp 64 (rts ++ envCells env) []) := rfl
@[simp] theorem head_def (live : List Nat) (env : Env) (rts : List SV) (hp : List Ob) : St.head live ⟨env, rts, hp⟩ = tidy (keep env live) rts hp := rfl
@[simp] theorem giveKs_def (v : AV) (hp : List Ob) (ks : List Nat) : giveKs v hp ks = some (v.ren (posF ks), Go.X.pick hp (posF ks) ks) := rfl
@[simp] theorem give_none (rts : List SV) (hp : List Ob) : give rts hp none = none := rfl
@[simp] theorem give_some (rts : List SV) (hp : List Ob) (l : List AV) : give rts hp (some l) = giveKs (tupOf l) hp (reachL hp 64 (rts ++ avCells (tupOf l)) []) := rfl
@[simp] theorem getO_tmp (env : Env) (t : Nat) : getO env (.tmp t) = getT t env := rfl
@[simp] theorem getO_const (env : Env) (v : AV) : getO env (.const v) = v := rfl
@[simp] theorem getS_def (env : Env) (x : AO) : getS env x = (getO env x).sv := rfl
@[simp] theorem getSo_none (env : Env) : getSo env none = none := rfl
@[simp] theorem getSo_some (env : Env) (x : AO) : getSo env (some x) = some (getS env x) := rfl
@[simp] theorem putE_some (env : Env) (d : Nat) (v : AV) : putE env (some d) v = (d, v) :: env := rfl
@[simp] theorem putE_none (env : Env) (v : AV) : putE env none v = env := rfl
@[simp] theorem sv_one (v : SV) : AV.sv (.one v) = v := rfl
@[simp] theorem sv_agg (l : List SV) : AV.sv (.agg l) = .undef := rfl
@[simp] theorem cells_one (v : SV) : AV.cells (.one v) = [v] := rfl
@[simp] theorem cells_agg (l : List SV) : AV.cells (.agg l) = l := rfl
@[simp] theorem thenC_norm (f : St → Option (Ex × St)) (st : St) : thenC f (some (.norm, st)) = f st := rfl
@[simp] theorem thenC_exit (f : St → Option (Ex × St)) (st : St) (i : Nat) : thenC f (some (.exit i, st)) = some (.exit i, st) := rfl
@[simp] theorem thenC_ret (f : St → Option (Ex × St)) (st : St) : thenC f (some (.ret, st)) = some (.ret, st) := rfl
@[simp] theorem blockC_norm (i : Nat) (st : St) : blockC i (some (.norm, st)) = some (.norm, st) := rfl
@[simp] theorem blockC_exit (i j : Nat) (st : St) : blockC i (some (.exit j, st)) = if i = j then some (.norm, st) else some (.exit j, st) := rfl
@[simp] theorem blockC_ret (i : Nat) (st : St) : blockC i (some (.ret, st)) = some (.ret, st) := rfl
@[simp] theorem normC_some (st : St) : normC (some st) = some (.norm, st) := rfl
@[simp] theorem branchC_bool (f g : St → Option (Ex × St)) (st : St) (t : Bool) : branchC f g st (.one (.bool t)) = if t = true then f st else g st := rfl
@[simp] theorem thenI_none (env : Env) (rts : List SV) (d : Option Nat) (f : St → Option St) : thenI env rts d f none = none := rfl
@[simp] theorem thenI_some (env : Env) (rts : List SV) (d : Option Nat) (f : St → Option St) (v : AV) (hp : List Ob) : thenI env rts d f (some (v, hp)) = f ⟨putE env d v, rts, hp⟩ := rfl
@[simp] theorem evIs_nil (Γ : Nat → Callee) (st : St) : evIs Γ [] st = some st := rfl
@[simp] theorem evIs_plain (Γ : Nat → Callee) (env : Env) (rts : List SV) (hp : List Ob) (dst : Option Nat) (op : AOp) (l : List AI) : evIs Γ (⟨dst, none, op⟩ :: l) ⟨env, rts, hp⟩ = thenI env rts dst (evIs Γ l) (evOp Γ env hp op) := rfl
@[simp] theorem evIs_guard (Γ : Nat → Callee) (env : Env) (rts : List SV) (hp : List Ob) (dst : Option Nat) (t : Nat) (b : Bool) (op : AOp) (l : List AI) : evIs Γ (⟨dst, some (t, b), op⟩ :: l) ⟨env, rts, hp⟩ = guardI b (thenI env rts dst (evIs Γ l) (evOp Γ env hp op)) (evIs Γ l ⟨putE env dst (.tup []), rts, hp⟩) (getT t env) := rfl
@[simp] theorem stepI_plain (Γ : Nat → Callee) (env : Env) (hp : List Ob) (d : Option Nat) (op : AOp) : stepI Γ env hp ⟨d, none, op⟩ = evOp Γ env hp op := rfl
@[simp] theorem stepI_guard (Γ : Nat → Callee) (env : Env) (hp : List Ob) (d : Option Nat) (t : Nat) (b : Bool) (op : AOp) : stepI Γ env hp ⟨d, some (t, b), op⟩ = stepG b (evOp Γ env hp op) hp (getT t env) := rfl
@[simp] theorem stepG_bool (b c : Bool) (r : Res) (hp : List Ob) : stepG b r hp (.one (.bool c)) = if c = b then r else some (.tup [], hp) := rfl
@[simp] theorem stepG_skip (b : Bool) (r : Res) (hp : List Ob) : stepG b r hp (.tup []) = some (.tup [], hp) := rfl
@[simp] theorem thenD_none (d : Option Nat) (b : Bool) (f : Env → List Ob → List (List Ob) → ResD) (env : Env) (hs : List (List Ob)) : thenD d b f env hs none = none := rfl
@[simp] theorem thenD_some (d : Option Nat) (b : Bool) (f : Env → List Ob → List (List Ob) → ResD) (env : Env) (hs : List (List Ob)) (v : AV) (hp : List Ob) : thenD d b f env hs (some (v, hp)) = f (putE env d v) hp (if b = true then hs ++ [hp] else hs) := rfl
@[simp] theorem ckAt_some (Γ : Nat → Callee) (env : Env) (hs : List (List Ob)) (ks : List Nat) (d : Nat) (g : Option (Nat × Bool)) (op : AOp) (b : Bool) : ckAt Γ env hs ks (some (⟨some d, g, op⟩, b)) = ckKs Γ env hs ⟨some d, g, op⟩ (getT d env) ks := rfl
@[simp] theorem ckR_none (v : AV) : ckR v none = false := rfl
@[simp] theorem ckR_some (v u : AV) (hp : List Ob) : ckR v (some (u, hp)) = u.same v := rfl
@[simp] theorem finD_none (Γ : Nat → Callee) (l : List (AI × Bool)) (ck : List (Nat × List Nat)) (rts : List SV) : finD Γ l ck rts none = none := rfl
@[simp] theorem oAppZ_int (hp : List Ob) (c0 : RC) (zero : List Sc) (bytes : Nat) (s : SV) (k : IntKind) (l : Int) : oAppZ hp c0 zero bytes s (.one (.int k l)) = if 0 ≤ l ∧ l * bytes ≤ 140737488355328 then app1 hp c0 bytes s .undef (RC.ofElems c0 (List.replicate l.toNat zero)) else none := rfl
@[simp] theorem repl1_none (n0 : Nat) (ai : AI) (b : Bool) : repl1 n0 (ai, b, none) = (ai, b) := rfl
@[simp] theorem repl1_some (n0 j : Nat) (d : Option Nat) (g : Option (Nat × Bool)) (op : AOp) (b : Bool) : repl1 n0 (⟨d, g, op⟩, b, some j) = (⟨d, none, .mv (.const (.one (.row (n0 + j))))⟩, false) := rfl
@[simp] theorem rowOf_some (c : RC) : rowOf (some (.one (.row 0), [.rows c])) = some c := rfl
@[simp] theorem consO_some (c : RC) (l : List RC) : consO c (some l) = some (c :: l) := rfl
@[simp] theorem passN_some (d : Option Nat) (f : Env → List Ob → Option (List RC)) (env : Env) (v : AV) (hp : List Ob) : passN d f env (some (v, hp)) = f (putE env d v) hp := rfl
@[simp] theorem passR_some (d : Option Nat) (s : Nat) (f : Env → List Ob → Option (List RC)) (env : Env) (hp : List Ob) (c : RC) : passR d s f env hp (some c) = consO c (f (putE env d (.one (.row s))) (hp.set s (.rows c))) := rfl
@[simp] theorem passF_nil (Γ : Nat → Callee) (n0 : Nat) (env : Env) (hp : List Ob) : passF Γ n0 [] env hp = some [] := rfl
@[simp] theorem passF_none (Γ : Nat → Callee) (n0 : Nat) (d : Option Nat) (g : Option (Nat × Bool)) (op : AOp) (b : Bool) (l : List (AI × Bool × Option Nat)) (env : Env) (hp : List Ob) : passF Γ n0 ((⟨d, g, op⟩, b, none) :: l) env hp = passN d (passF Γ n0 l) env (stepI Γ env hp ⟨d, g, op⟩) := rfl
@[simp] theorem passF_some (Γ : Nat → Callee) (n0 j : Nat) (d : Option Nat) (g : Option (Nat × Bool)) (op : AOp) (b : Bool) (l : List (AI × Bool × Option Nat)) (env : Env) (hp : List Ob) : passF Γ n0 ((⟨d, g, op⟩, b, some j) :: l) env hp = passR d (n0 + j) (passF Γ n0 l) env hp (rowOf (evOp Γ env [] op)) := rfl
@[simp] theorem obIs_some (c d : RC) : obIs c (some (.rows d)) = decide (d = c) := rfl
@[simp] theorem rcIs_some (c d : RC) : rcIs c (some d) = decide (d = c) := rfl
@[simp] theorem ckF1_some (Γ : Nat → Callee) (env : Env) (c : RC) (d : Option Nat) (g : Option (Nat × Bool)) (op : AOp) (b : Bool × Option Nat) : ckF1 Γ env c (some (⟨d, g, op⟩, b)) = rcIs c (rowOf (evOp Γ env [] op)) := rfl
@[simp] theorem finF_none (Γ : Nat → Callee) (l : List (AI × Bool × Option Nat)) (n0 : Nat) (cs : List RC) (cf : List (Nat × List Nat)) : finF Γ l n0 cs cf none = none := rfl
@[simp] theorem secF_some (Γ : Nat → Callee) (l : List (AI × Bool × Option Nat)) (ck cf : List (Nat × List Nat)) (env : Env) (rts : List SV) (hp : List Ob) (cs : List RC) : secF Γ l ck cf env rts hp (some cs) = finD Γ (l.map (repl1 hp.length)) ck rts (finF Γ l hp.length cs cf (evDs Γ (l.map (repl1 hp.length)) env (hp ++ rowsOf cs) [hp ++ rowsOf cs])) := rfl
@[simp] theorem tupOf_nil  : tupOf [] = .tup [] := rfl
@[simp] theorem thenC_none (f : St → Option (Ex × St)) : thenC f none = none := rfl
@[simp] theorem blockC_none (i : Nat) : blockC i none = none := rfl
@[simp] theorem normC_none  : normC none = none := rfl
@[simp] theorem guardI_skip (b : Bool) (x y : Option St) : guardI b x y (.tup []) = y := rfl
@[simp] theorem guardI_bool (b c : Bool) (x y : Option St) : guardI b x y (.one (.bool c)) = if c = b then x else y := rfl
@[simp] theorem put1_none (hp : List Ob) : put1 hp none = none := rfl
@[simp] theorem put1_some (hp : List Ob) (v : SV) : put1 hp (some v) = some (.one v, hp) := rfl
@[simp] theorem putA_none (hp : List Ob) : putA hp none = none := rfl
@[simp] theorem putA_some (hp : List Ob) (v : AV) : putA hp (some v) = some (v, hp) := rfl
@[simp] theorem putL_none (hp : List Ob) : putL hp none = none := rfl
@[simp] theorem putL_some (hp : List Ob) (v : List SV) : putL hp (some v) = some (.agg v, hp) := rfl
@[simp] theorem putR_none (hp : List Ob) : putR hp none = none := rfl
@[simp] theorem putR_some (hp : List Ob) (v : RC) : putR hp (some v) = newRow hp v := rfl
@[simp] theorem putH_none  : putH none = none := rfl
@[simp] theorem putH_some (h : List Ob) : putH (some h) = some (.one .undef, h) := rfl
@[simp] theorem putB_none (hp : List Ob) (n : Bool) : putB hp n none = none := rfl
@[simp] theorem putB_some (hp : List Ob) (n b : Bool) : putB hp n (some b) = some (.one (.bool (if n = true then !b else b)), hp) := rfl
@[simp] theorem evOp_mv (Γ : Nat → Callee) (env : Env) (hp : List Ob) (x : AO) : evOp Γ env hp (.mv x) = some (getO env x, hp) := rfl
@[simp] theorem evOp_newNil (Γ : Nat → Callee) (env : Env) (hp : List Ob) (c0 : RC) : evOp Γ env hp (.newNil c0) = newRow hp c0 := rfl
@[simp] theorem evOp_pick (Γ : Nat → Callee) (env : Env) (hp : List Ob) (a b c : AO) : evOp Γ env hp (.pick c a b) = oPick hp (getO env a) (getO env b) (getO env c) := rfl
@[simp] theorem evOp_alloc (Γ : Nat → Callee) (env : Env) (hp : List Ob) (z : List ZV) : evOp Γ env hp (.alloc z) = some (.one (.ptr (zcells z hp).2.length 0), (zcells z hp).2 ++ [.cells none (zcells z hp).1]) := rfl
@[simp] theorem evOp_box (Γ : Nat → Callee) (env : Env) (hp : List Ob) (x : AO) : evOp Γ env hp (.box x) = if (getO env x).cells.all okCell = true then some (.one (.ptr hp.length 0), hp ++ [.cells none (getO env x).cells]) else none := rfl
@[simp] theorem evOp_build (Γ : Nat → Callee) (env : Env) (hp : List Ob) (z : List ZV) (ps : List ((Nat × Nat) × AO)) : evOp Γ env hp (.build z ps) = if (getPP env ps).all (fun q => q.2.cells.all okCell) = true then putL (zcells z hp).2 (fillAll (zcells z hp).1 (getPP env ps)) else none := rfl
@[simp] theorem evOp_bslice (Γ : Nat → Callee) (env : Env) (hp : List Ob) (c0 : RC) (zero : List Sc) (len : Nat) (ps : List (Nat × AO)) : evOp Γ env hp (.bslice c0 zero len ps) = putR hp (ofElemsO c0 (bsFrom zero (getPs env ps) 0 len)) := rfl
@[simp] theorem evOp_load (Γ : Nat → Callee) (env : Env) (hp : List Ob) (x : AO) : evOp Γ env hp (.load none x) = put1 hp (loadOne hp (getS env x)) := rfl
@[simp] theorem evOp_load1 (Γ : Nat → Callee) (env : Env) (hp : List Ob) (n : Nat) (x : AO) : evOp Γ env hp (.load (some n) x) = putL hp (loadN hp n (getS env x)) := rfl
@[simp] theorem evOp_store (Γ : Nat → Callee) (env : Env) (hp : List Ob) (n : Nat) (x v : AO) : evOp Γ env hp (.store n x v) = if (getO env v).cells.length = n then putH (storeCells hp (getO env v).cells (getS env x)) else none := rfl
@[simp] theorem evOp_storeNil (Γ : Nat → Callee) (env : Env) (hp : List Ob) (c0 : RC) (x : AO) : evOp Γ env hp (.storeNil c0 x) = putH (storeCells (hp ++ [.rows c0]) [.row hp.length] (getS env x)) := rfl
@[simp] theorem evOp_nilCheck (Γ : Nat → Callee) (env : Env) (hp : List Ob) (x : AO) : evOp Γ env hp (.nilCheck x) = oNilCheck hp (getO env x) := rfl
@[simp] theorem evOp_bin (Γ : Nat → Callee) (env : Env) (hp : List Ob) (op : BinOp) (x y : AO) : evOp Γ env hp (.bin op x y) = put1 hp (Go.X.bin op (getS env x) (getS env y)) := rfl
@[simp] theorem evOp_eqNil (Γ : Nat → Callee) (env : Env) (hp : List Ob) (neq : Bool) (x : AO) : evOp Γ env hp (.eqNil neq x) = oEqNil hp neq (getO env x) := rfl
@[simp] theorem evOp_eqAgg (Γ : Nat → Callee) (env : Env) (hp : List Ob) (neq : Bool) (z : List Sc) (x y : AO) : evOp Γ env hp (.eqAgg neq z x y) = oEqAgg hp neq z (getO env x) (getO env y) := rfl
@[simp] theorem evOp_eqB (Γ : Nat → Callee) (env : Env) (hp : List Ob) (neq : Bool) (x y : AO) : evOp Γ env hp (.eqB neq x y) = oEqB hp neq (getO env x) (getO env y) := rfl
@[simp] theorem evOp_un (Γ : Nat → Callee) (env : Env) (hp : List Ob) (op : UnOp) (x : AO) : evOp Γ env hp (.un op x) = put1 hp (Go.X.un op (getS env x)) := rfl
@[simp] theorem evOp_conv (Γ : Nat → Callee) (env : Env) (hp : List Ob) (k : IntKind) (x : AO) : evOp Γ env hp (.conv k x) = oConv hp k (getO env x) := rfl
@[simp] theorem evOp_sconv (Γ : Nat → Callee) (env : Env) (hp : List Ob) (x : AO) : evOp Γ env hp (.sconv x) = oSconv hp (getO env x) := rfl
@[simp] theorem evOp_s2b (Γ : Nat → Callee) (env : Env) (hp : List Ob) (x : AO) : evOp Γ env hp (.s2b x) = oS2b hp (getO env x) := rfl
@[simp] theorem evOp_b2s (Γ : Nat → Callee) (env : Env) (hp : List Ob) (x : AO) : evOp Γ env hp (.b2s x) = oB2s hp (content hp (getS env x)) := rfl
@[simp] theorem evOp_cutS (Γ : Nat → Callee) (env : Env) (hp : List Ob) (x : AO) (lo hi : Option AO) : evOp Γ env hp (.cutS x lo hi) = oCutS hp (getSo env lo) (getSo env hi) (getO env x) := rfl
@[simp] theorem evOp_cutR (Γ : Nat → Callee) (env : Env) (hp : List Ob) (size : Nat) (x : AO) (lo hi : Option AO) : evOp Γ env hp (.cutR size x lo hi) = if Go.X.sizeOf hp (getS env x) = some size then oCutR hp (getSo env lo) (getSo env hi) (getS env x) (lenOf hp (getS env x)) else none := rfl
@[simp] theorem evOp_cutA (Γ : Nat → Callee) (env : Env) (hp : List Ob) (n : Nat) (x : AO) (lo hi : Option AO) : evOp Γ env hp (.cutA n x lo hi) = oCutA hp n (getSo env lo) (getSo env hi) (getO env x) := rfl
@[simp] theorem evOp_fadr (Γ : Nat → Callee) (env : Env) (hp : List Ob) (off : Nat) (x : AO) : evOp Γ env hp (.fadr off x) = oFadr hp off (getO env x) := rfl
@[simp] theorem evOp_fld (Γ : Nat → Callee) (env : Env) (hp : List Ob) (off : Nat) (n : Option Nat) (x : AO) : evOp Γ env hp (.fld off n x) = oFld hp off n (getO env x) := rfl
@[simp] theorem evOp_iadrR (Γ : Nat → Callee) (env : Env) (hp : List Ob) (size : Nat) (x i : AO) : evOp Γ env hp (.iadrR size x i) = if Go.X.sizeOf hp (getS env x) = some size then oIadrR hp (getS env x) (lenOf hp (getS env x)) (getO env i) else none := rfl
@[simp] theorem evOp_iadrA (Γ : Nat → Callee) (env : Env) (hp : List Ob) (len size : Nat) (x i : AO) : evOp Γ env hp (.iadrA len size x i) = oIadrA hp len size (getO env x) (getO env i) := rfl
@[simp] theorem evOp_idxA (Γ : Nat → Callee) (env : Env) (hp : List Ob) (len size : Nat) (n : Option Nat) (x i : AO) : evOp Γ env hp (.idxA len size n x i) = oIdxA hp len size n (getO env x) (getO env i) := rfl
@[simp] theorem evOp_idxS (Γ : Nat → Callee) (env : Env) (hp : List Ob) (x i : AO) : evOp Γ env hp (.idxS x i) = oIdxS hp (getO env x) (getO env i) := rfl
@[simp] theorem evOp_extract (Γ : Nat → Callee) (env : Env) (hp : List Ob) (i : Nat) (x : AO) : evOp Γ env hp (.extract i x) = oExtract hp i (getO env x) := rfl
@[simp] theorem evOp_call (Γ : Nat → Callee) (env : Env) (hp : List Ob) (f : Nat) (args : List AO) : evOp Γ env hp (.call f args) = callee Γ hp f (getL env args) := rfl
@[simp] theorem evOp_pcall (Γ : Nat → Callee) (env : Env) (hp : List Ob) (f : Nat) (args : List AO) : evOp Γ env hp (.pcall f args) = pureCall Γ hp f (getL env args) := rfl
@[simp] theorem evOp_callv (Γ : Nat → Callee) (env : Env) (hp : List Ob) (x : AO) (args : List AO) : evOp Γ env hp (.callv x args) = oCallv Γ hp (getL env args) (getO env x) := rfl
@[simp] theorem evOp_lenS (Γ : Nat → Callee) (env : Env) (hp : List Ob) (x : AO) : evOp Γ env hp (.lenS x) = oLenS hp (getO env x) := rfl
@[simp] theorem evOp_len (Γ : Nat → Callee) (env : Env) (hp : List Ob) (x : AO) : evOp Γ env hp (.len x) = oLen hp (lenOf hp (getS env x)) := rfl
@[simp] theorem evOp_append (Γ : Nat → Callee) (env : Env) (hp : List Ob) (c0 : RC) (bytes : Nat) (s x : AO) : evOp Γ env hp (.append c0 bytes s x) = Go.X.append hp c0 bytes (getS env s) (getS env x) := rfl
@[simp] theorem evOp_min (Γ : Nat → Callee) (env : Env) (hp : List Ob) (l : List AO) : evOp Γ env hp (.min l) = oMin hp (getL env l) := rfl
@[simp] theorem evOp_max (Γ : Nat → Callee) (env : Env) (hp : List Ob) (l : List AO) : evOp Γ env hp (.max l) = oMax hp (getL env l) := rfl
@[simp] theorem evOp_mkfn (Γ : Nat → Callee) (env : Env) (hp : List Ob) (f : Nat) (caps : List AO) : evOp Γ env hp (.mkfn f caps) = some (.one (.fn f (getSL env caps)), hp) := rfl
@[simp] theorem evOp_appZ (Γ : Nat → Callee) (env : Env) (hp : List Ob) (c0 : RC) (zero : List Sc) (bytes : Nat) (s x : AO) : evOp Γ env hp (.appZ c0 zero bytes s x) = oAppZ hp c0 zero bytes (getS env s) (getO env x) := rfl
@[simp] theorem evOp_mks (Γ : Nat → Callee) (env : Env) (hp : List Ob) (c0 : RC) (zero : List Sc) (bytes : Nat) (len cap : AO) : evOp Γ env hp (.mks c0 zero bytes len cap) = oMks hp c0 zero bytes (getO env len) (getO env cap) := rfl
@[simp] theorem evOp_copy (Γ : Nat → Callee) (env : Env) (hp : List Ob) (d s : AO) : evOp Γ env hp (.copy d s) = oCopy hp (getS env d) (getS env s) := rfl
@[simp] theorem evOp_bad (Γ : Nat → Callee) (env : Env) (hp : List Ob) : evOp Γ env hp .bad = none := rfl
@[simp] theorem oCopy_cview (hp : List Ob) (k o n j p m : Nat) : oCopy hp (.cview k o n) (.cview j p m) = copyV hp k o (Nat.min m n) (loadPN (hp[j]?) (Nat.min m n) p) := rfl
@[simp] theorem copyV_none (hp : List Ob) (k o n : Nat) : copyV hp k o n none = none := rfl
@[simp] theorem copyV_some (hp : List Ob) (k o n : Nat) (vs : List SV) : copyV hp k o n (some vs) = copyR n (storeP hp k vs o (hp[k]?)) := rfl
@[simp] theorem copyR_none (n : Nat) : copyR n none = none := rfl
@[simp] theorem copyR_some (n : Nat) (h : List Ob) : copyR n (some h) = some (.one (.int .i64 n), h) := rfl
@[simp] theorem newRow_def (hp : List Ob) (c : RC) : newRow hp c = some (.one (.row hp.length), hp ++ [.rows c]) := rfl
@[simp] theorem append_def (hp : List Ob) (c0 : RC) (bytes : Nat) (s x : SV) : Go.X.append hp c0 bytes s x = app1 hp c0 bytes s x (source hp c0 x) := rfl
@[simp] theorem app1_some (hp : List Ob) (c0 : RC) (bytes : Nat) (s x : SV) (y : RC) : app1 hp c0 bytes s x (some y) = app2 hp c0 bytes s x y := rfl
@[simp] theorem app2_nils (hp : List Ob) (c0 c : RC) (bytes : Nat) (x : SV) (y : RC) : app2 hp c0 bytes (.nils c) x y = if y.len * bytes ≤ 140737488355328 ∧ y.size = c0.size then putR hp (RC.app c0 y) else none := rfl
@[simp] theorem app2_row (hp : List Ob) (c0 : RC) (bytes k : Nat) (x : SV) (y : RC) : app2 hp c0 bytes (.row k) x y = if keyOf x = some k then none else app3 hp c0 bytes k y (rowAt (hp[k]?)) := rfl
@[simp] theorem app2_view (hp : List Ob) (c0 : RC) (bytes k o n : Nat) (x : SV) (y : RC) : app2 hp c0 bytes (.view k o n) x y = if keyOf x = some k then none else app3 hp c0 bytes k y (cutAt o n (hp[k]?)) := rfl
@[simp] theorem app3_some (hp : List Ob) (c0 : RC) (bytes k : Nat) (y c : RC) : app3 hp c0 bytes k y (some c) = if (c.len + y.len) * bytes ≤ 140737488355328 ∧ c.size = c0.size ∧ y.size = c0.size then putR (hp.set k .dead) (c.app y) else none := rfl
@[simp] theorem ofElemsO_some (c0 : RC) (l : List (List Sc)) : ofElemsO c0 (some l) = RC.ofElems c0 l := rfl
@[simp] theorem resC_norm (rs : List (Nat × Option (Option Nat))) (env : Env) (rts : List SV) (hp : List Ob) : resC rs (some (.norm, ⟨env, rts, hp⟩)) = give rts hp (resL env hp rs) := rfl
@[simp] theorem resC_ret (rs : List (Nat × Option (Option Nat))) (env : Env) (rts : List SV) (hp : List Ob) : resC rs (some (.ret, ⟨env, rts, hp⟩)) = give rts hp (resL env hp rs) := rfl
@[simp] theorem resC_none (rs : List (Nat × Option (Option Nat))) : resC rs none = none := rfl
@[simp] theorem resOf_tmp (env : Env) (hp : List Ob) (t : Nat) : resOf env hp (t, none) = some (getT t env) := rfl
@[simp] theorem resOf_one (env : Env) (hp : List Ob) (t : Nat) : resOf env hp (t, some none) = oneAV (loadOne hp (getT t env).sv) := rfl
@[simp] theorem resOf_agg (env : Env) (hp : List Ob) (t n : Nat) : resOf env hp (t, some (some n)) = aggAV (loadN hp n (getT t env).sv) := rfl
@[simp] theorem evF_def (Γ : Nat → Callee) (K : Nat) (f : AF) (args : List AV) (hp : List Ob) : evF Γ K f args hp = resC f.results (evC Γ K f.body ⟨argEnv 0 args, handed (avsCells args), hp⟩) := rfl
@[simp] theorem oPick_bool (hp : List Ob) (a b : AV) (t : Bool) : oPick hp a b (.one (.bool t)) = some (if t = true then a else b, hp) := rfl
@[simp] theorem oNilCheck_ptr (hp : List Ob) (k o : Nat) : oNilCheck hp (.one (.ptr k o)) = some (.one (.ptr k o), hp) := rfl
@[simp] theorem oNilCheck_eptr (hp : List Ob) (k i o : Nat) : oNilCheck hp (.one (.eptr k i o)) = some (.one (.eptr k i o), hp) := rfl
@[simp] theorem oNilCheck_rptr (hp : List Ob) (t : Nat) (c : RC) (i o : Nat) : oNilCheck hp (.one (.rptr t c i o)) = some (.one (.rptr t c i o), hp) := rfl
@[simp] theorem oNilCheck_fn (hp : List Ob) (f : Nat) (caps : List SV) : oNilCheck hp (.one (.fn f caps)) = some (.one (.fn f caps), hp) := rfl
@[simp] theorem oNilCheck_nilp (hp : List Ob) : oNilCheck hp (.one .nilp) = none := rfl
@[simp] theorem oEqNil_nilp (hp : List Ob) (neq : Bool) : oEqNil hp neq (.one .nilp) = some (.one (.bool (!neq)), hp) := rfl
@[simp] theorem oEqNil_ptr (hp : List Ob) (neq : Bool) (k o : Nat) : oEqNil hp neq (.one (.ptr k o)) = some (.one (.bool neq), hp) := rfl
@[simp] theorem oEqNil_eptr (hp : List Ob) (neq : Bool) (k i o : Nat) : oEqNil hp neq (.one (.eptr k i o)) = some (.one (.bool neq), hp) := rfl
@[simp] theorem oEqAgg_agg (hp : List Ob) (neq : Bool) (z : List Sc) (l m : List SV) : oEqAgg hp neq z (.agg l) (.agg m) = putB hp neq (eqScs z l m) := rfl
@[simp] theorem oConv_int (hp : List Ob) (k j : IntKind) (n : Int) : oConv hp k (.one (.int j n)) = some (.one (.int k (k.wrap n)), hp) := rfl
@[simp] theorem oSconv_str (hp : List Ob) (s : ByteArray) : oSconv hp (.one (.str s)) = some (.one (.str s), hp) := rfl
@[simp] theorem oS2b_str (hp : List Ob) (s : ByteArray) : oS2b hp (.one (.str s)) = if s.size ≤ 140737488355328 then newRow hp (.ints .u8 (toBytes s)) else none := rfl
@[simp] theorem oB2s_ints (hp : List Ob) (xs : List Int) : oB2s hp (some (.ints .u8 xs)) = some (.one (.str (ofBytes xs)), hp) := rfl
@[simp] theorem optInt_none (d : Nat) : optInt d none = some (d : Int) := rfl
@[simp] theorem optInt_int (d : Nat) (k : IntKind) (z : Int) : optInt d (some (.int k z)) = some z := rfl
@[simp] theorem oCutS_str (hp : List Ob) (lo hi : Option SV) (s : ByteArray) : oCutS hp lo hi (.one (.str s)) = cutS2 hp s (optInt 0 lo) (optInt s.size hi) := rfl
@[simp] theorem cutS2_some (hp : List Ob) (s : ByteArray) (a b : Int) : cutS2 hp s (some a) (some b) = if 0 ≤ a ∧ a ≤ b ∧ b ≤ s.size then some (.one (.str (s.extract a.toNat b.toNat)), hp) else none := rfl
@[simp] theorem oCutR_some (hp : List Ob) (lo hi : Option SV) (x : SV) (n : Nat) : oCutR hp lo hi x (some n) = cutR2 hp x n (optInt 0 lo) (optInt n hi) := rfl
@[simp] theorem cutR2_some (hp : List Ob) (x : SV) (n : Nat) (a b : Int) : cutR2 hp x n (some a) (some b) = if 0 ≤ a ∧ a ≤ b ∧ b ≤ n then put1 hp (cutSV a.toNat (b.toNat - a.toNat) x) else none := rfl
@[simp] theorem cutSV_row (a n k : Nat) : cutSV a n (.row k) = some (.view k a n) := rfl
@[simp] theorem cutSV_view (a n k o m : Nat) : cutSV a n (.view k o m) = some (.view k (o + a) n) := rfl
@[simp] theorem cutSV_cview (a n k o m : Nat) : cutSV a n (.cview k o m) = some (.cview k (o + a) n) := rfl
@[simp] theorem cutSV_ro (a n t : Nat) (c : RC) : cutSV a n (.ro t c) = some (.ro t (c.cut a n)) := rfl
@[simp] theorem cutSV_nils (a n : Nat) (c : RC) : cutSV a n (.nils c) = some (.nils c) := rfl
@[simp] theorem oCutA_ptr (hp : List Ob) (n : Nat) (lo hi : Option SV) (k o : Nat) : oCutA hp n lo hi (.one (.ptr k o)) = cutA2 hp n k o (optInt 0 lo) (optInt n hi) := rfl
@[simp] theorem cutA2_some (hp : List Ob) (n k o : Nat) (a b : Int) : cutA2 hp n k o (some a) (some b) = if 0 ≤ a ∧ a ≤ b ∧ b ≤ n then some (.one (.cview k (o + a.toNat) (b.toNat - a.toNat)), hp) else none := rfl
@[simp] theorem oFadr_ptr (hp : List Ob) (off k o : Nat) : oFadr hp off (.one (.ptr k o)) = some (.one (.ptr k (o + off)), hp) := rfl
@[simp] theorem oFadr_eptr (hp : List Ob) (off k i o : Nat) : oFadr hp off (.one (.eptr k i o)) = some (.one (.eptr k i (o + off)), hp) := rfl
@[simp] theorem oFadr_rptr (hp : List Ob) (off t : Nat) (c : RC) (i o : Nat) : oFadr hp off (.one (.rptr t c i o)) = some (.one (.rptr t c i (o + off)), hp) := rfl
@[simp] theorem oFld_agg (hp : List Ob) (off : Nat) (n : Option Nat) (l : List SV) : oFld hp off n (.agg l) = putA hp (takeAV l off n) := rfl
@[simp] theorem takeAV_none (l : List SV) (off : Nat) : takeAV l off none = (l[off]?).map AV.one := rfl
@[simp] theorem takeAV_some (l : List SV) (off n : Nat) : takeAV l off (some n) = if off + n ≤ l.length then some (.agg ((l.drop off).take n)) else none := rfl
@[simp] theorem elemPtr_row (i k : Nat) : elemPtr i (.row k) = some (.eptr k i 0) := rfl
@[simp] theorem elemPtr_view (i k o n : Nat) : elemPtr i (.view k o n) = some (.eptr k (o + i) 0) := rfl
@[simp] theorem elemPtr_cview (i k o n : Nat) : elemPtr i (.cview k o n) = some (.ptr k (o + i)) := rfl
@[simp] theorem elemPtr_ro (i t : Nat) (c : RC) : elemPtr i (.ro t c) = some (.rptr t c i 0) := rfl
@[simp] theorem oIadrR_some (hp : List Ob) (x : SV) (n : Nat) (k : IntKind) (i : Int) : oIadrR hp x (some n) (.one (.int k i)) = if inBounds i n = true then put1 hp (elemPtr i.toNat x) else none := rfl
@[simp] theorem oIadrA_ptr (hp : List Ob) (len size k o : Nat) (j : IntKind) (i : Int) : oIadrA hp len size (.one (.ptr k o)) (.one (.int j i)) = if inBounds i len = true then some (.one (.ptr k (o + i.toNat * size)), hp) else none := rfl
@[simp] theorem oIdxA_agg (hp : List Ob) (len size : Nat) (n : Option Nat) (l : List SV) (j : IntKind) (i : Int) : oIdxA hp len size n (.agg l) (.one (.int j i)) = if inBounds i len = true then putA hp (takeAV l (i.toNat * size) n) else none := rfl
@[simp] theorem oIdxS_str (hp : List Ob) (s : ByteArray) (j : IntKind) (i : Int) : oIdxS hp (.one (.str s)) (.one (.int j i)) = if inBounds i s.size = true then some (.one (.int .u8 ((toBytes s).getD i.toNat 0)), hp) else none := rfl
@[simp] theorem oExtract_tup (hp : List Ob) (i : Nat) (l : List AV) : oExtract hp i (.tup l) = putA hp l[i]? := rfl
@[simp] theorem oCallv_fn (Γ : Nat → Callee) (hp : List Ob) (args : List AV) (f : Nat) (caps : List SV) : oCallv Γ hp args (.one (.fn f caps)) = callee Γ hp f (args ++ caps.map AV.one) := rfl
@[simp] theorem oLen_some (hp : List Ob) (n : Nat) : oLen hp (some n) = some (.one (.int .i64 n), hp) := rfl
@[simp] theorem oMin_two (hp : List Ob) (k j : IntKind) (x y : Int) : oMin hp [.one (.int k x), .one (.int j y)] = some (.one (.int k (if y < x then y else x)), hp) := rfl
@[simp] theorem oMax_two (hp : List Ob) (k j : IntKind) (x y : Int) : oMax hp [.one (.int k x), .one (.int j y)] = some (.one (.int k (if x < y then y else x)), hp) := rfl
@[simp] theorem oMks_int (hp : List Ob) (c0 : RC) (zero : List Sc) (bytes : Nat) (k j : IntKind) (n c : Int) : oMks hp c0 zero bytes (.one (.int k n)) (.one (.int j c)) = if 0 ≤ n ∧ n ≤ c ∧ c * bytes ≤ 140737488355328 then putR hp (RC.ofElems c0 (List.replicate n.toNat zero)) else none := rfl
@[simp] theorem loadOne_eptr (hp : List Ob) (k i o : Nat) : loadOne hp (.eptr k i o) = loadE (hp[k]?) i o := rfl
@[simp] theorem loadOne_ptr (hp : List Ob) (k o : Nat) : loadOne hp (.ptr k o) = loadP (hp[k]?) o := rfl
@[simp] theorem loadOne_rptr (hp : List Ob) (t : Nat) (c : RC) (i o : Nat) : loadOne hp (.rptr t c i o) = scSV (c.get i o) := rfl
@[simp] theorem loadP_cells (g : Option Nat) (l : List SV) (o : Nat) : loadP (some (.cells g l)) o = l[o]? := rfl
@[simp] theorem loadE_rows (c : RC) (i o : Nat) : loadE (some (.rows c)) i o = scSV (c.get i o) := rfl
@[simp] theorem scSV_none  : scSV none = none := rfl
@[simp] theorem scSV_some (c : Sc) : scSV (some c) = some c.sv := rfl
@[simp] theorem loadN_ptr (hp : List Ob) (n k o : Nat) : loadN hp n (.ptr k o) = loadPN (hp[k]?) n o := rfl
@[simp] theorem loadN_eptr (hp : List Ob) (n k i o : Nat) : loadN hp n (.eptr k i o) = loadEN (hp[k]?) n i o := rfl
@[simp] theorem loadN_rptr (hp : List Ob) (n t : Nat) (c : RC) (i o : Nat) : loadN hp n (.rptr t c i o) = takeE c n i o := rfl
@[simp] theorem loadPN_cells (g : Option Nat) (l : List SV) (n o : Nat) : loadPN (some (.cells g l)) n o = if o + n ≤ l.length then some ((l.drop o).take n) else none := rfl
@[simp] theorem loadEN_rows (c : RC) (n i o : Nat) : loadEN (some (.rows c)) n i o = takeE c n i o := rfl
@[simp] theorem storeCells_ptr (hp : List Ob) (vs : List SV) (k o : Nat) : storeCells hp vs (.ptr k o) = storeP hp k vs o (hp[k]?) := rfl
@[simp] theorem storeCells_eptr (hp : List Ob) (vs : List SV) (k i o : Nat) : storeCells hp vs (.eptr k i o) = storeE hp k vs i o (hp[k]?) := rfl
@[simp] theorem storeP_cells (hp : List Ob) (g : Option Nat) (k : Nat) (vs : List SV) (o : Nat) (l : List SV) : storeP hp k vs o (some (.cells g l)) = if o + vs.length ≤ l.length ∧ vs.all okCell = true then some (hp.set k (.cells g (putAt l o vs))) else none := rfl
@[simp] theorem storeE_rows (hp : List Ob) (k : Nat) (vs : List SV) (i o : Nat) (c : RC) : storeE hp k vs i o (some (.rows c)) = rowsH hp k (setScs c i o vs) := rfl
@[simp] theorem rowsH_some (hp : List Ob) (k : Nat) (c : RC) : rowsH hp k (some c) = some (hp.set k (.rows c)) := rfl
@[simp] theorem rowsH_none (hp : List Ob) (k : Nat) : rowsH hp k none = none := rfl
@[simp] theorem sc_int (k : IntKind) (x : Int) : SV.sc (.int k x) = some (.int k x) := rfl
@[simp] theorem svsc_int (k : IntKind) (x : Int) : Sc.sv (.int k x) = .int k x := rfl
@[simp] theorem sc_bool (b : Bool) : SV.sc (.bool b) = some (.bool b) := rfl
@[simp] theorem svsc_bool (b : Bool) : Sc.sv (.bool b) = .bool b := rfl
@[simp] theorem sc_str (s : ByteArray) : SV.sc (.str s) = some (.str s) := rfl
@[simp] theorem svsc_str (s : ByteArray) : Sc.sv (.str s) = .str s := rfl
@[simp] theorem okCell_undef  : okCell .undef = false := rfl
@[simp] theorem okCell_int (k : IntKind) (x : Int) : okCell (.int k x) = true := rfl
@[simp] theorem okCell_bool (b : Bool) : okCell (.bool b) = true := rfl
@[simp] theorem okCell_str (s : ByteArray) : okCell (.str s) = true := rfl
@[simp] theorem okCell_nilp  : okCell .nilp = true := rfl
@[simp] theorem okCell_ptr (k o : Nat) : okCell (.ptr k o) = true := rfl
@[simp] theorem okCell_row (k : Nat) : okCell (.row k) = true := rfl
@[simp] theorem okCell_view (k o n : Nat) : okCell (.view k o n) = true := rfl
@[simp] theorem okCell_ro (t : Nat) (c : RC) : okCell (.ro t c) = true := rfl
@[simp] theorem okCell_fn (f : Nat) (caps : List SV) : okCell (.fn f caps) = true := rfl
@[simp] theorem okCell_nilf  : okCell .nilf = true := rfl
@[simp] theorem len_ints (k : IntKind) (xs : List (Int)) : RC.len (.ints k xs) = xs.length := rfl
@[simp] theorem size_ints (k : IntKind) (xs : List (Int)) : RC.size (.ints k xs) = 1 := rfl
@[simp] theorem cut_ints (k : IntKind) (xs : List (Int)) (a m : Nat) : RC.cut (.ints k xs) a m = .ints k ((xs.drop a).take m) := rfl
@[simp] theorem len_strs (xs : List (ByteArray)) : RC.len (.strs xs) = xs.length := rfl
@[simp] theorem size_strs (xs : List (ByteArray)) : RC.size (.strs xs) = 1 := rfl
@[simp] theorem cut_strs (xs : List (ByteArray)) (a m : Nat) : RC.cut (.strs xs) a m = .strs ((xs.drop a).take m) := rfl
@[simp] theorem len_bools (xs : List (Bool)) : RC.len (.bools xs) = xs.length := rfl
@[simp] theorem size_bools (xs : List (Bool)) : RC.size (.bools xs) = 1 := rfl
@[simp] theorem cut_bools (xs : List (Bool)) (a m : Nat) : RC.cut (.bools xs) a m = .bools ((xs.drop a).take m) := rfl
@[simp] theorem len_recs (n : Nat) (xs : List (List Sc)) : RC.len (.recs n xs) = xs.length := rfl
@[simp] theorem size_recs (n : Nat) (xs : List (List Sc)) : RC.size (.recs n xs) = n := rfl
@[simp] theorem cut_recs (n : Nat) (xs : List (List Sc)) (a m : Nat) : RC.cut (.recs n xs) a m = .recs n ((xs.drop a).take m) := rfl
@[simp] theorem get_ints (k : IntKind) (xs : List Int) (i off : Nat) : RC.get (.ints k xs) i off = if off = 0 then some (.int k (xs.getD i 0)) else none := rfl
@[simp] theorem get_strs (xs : List ByteArray) (i off : Nat) : RC.get (.strs xs) i off = if off = 0 then some (.str (xs.getD i .empty)) else none := rfl
@[simp] theorem get_bools (xs : List Bool) (i off : Nat) : RC.get (.bools xs) i off = if off = 0 then some (.bool (xs.getD i false)) else none := rfl
@[simp] theorem get_recs (n : Nat) (xs : List (List Sc)) (i off : Nat) : RC.get (.recs n xs) i off = (xs.getD i [])[off]? := rfl
@[simp] theorem elem_ints (k : IntKind) (xs : List Int) (i : Nat) : RC.elem (.ints k xs) i = [.int k (xs.getD i 0)] := rfl
@[simp] theorem elem_recs (n : Nat) (xs : List (List Sc)) (i : Nat) : RC.elem (.recs n xs) i = xs.getD i [] := rfl
@[simp] theorem set_ints (k j : IntKind) (xs : List Int) (i off : Nat) (x : Int) : RC.set (.ints k xs) i off (.int j x) = if off = 0 ∧ k = j then some (.ints k (xs.set i x)) else none := rfl
@[simp] theorem set_recs (n : Nat) (xs : List (List Sc)) (i off : Nat) (c : Sc) : RC.set (.recs n xs) i off c = if off < n then some (.recs n (xs.set i ((xs.getD i []).set off c))) else none := rfl
@[simp] theorem app_ints (k j : IntKind) (xs ys : List Int) : RC.app (.ints k xs) (.ints j ys) = if k = j then some (.ints k (xs ++ ys)) else none := rfl
@[simp] theorem app_strs (xs ys : List ByteArray) : RC.app (.strs xs) (.strs ys) = some (.strs (xs ++ ys)) := rfl
@[simp] theorem app_bools (xs ys : List Bool) : RC.app (.bools xs) (.bools ys) = some (.bools (xs ++ ys)) := rfl
@[simp] theorem app_recs (n m : Nat) (xs ys : List (List Sc)) : RC.app (.recs n xs) (.recs m ys) = if n = m then some (.recs n (xs ++ ys)) else none := rfl
@[simp] theorem content_row (hp : List Ob) (k : Nat) : content hp (.row k) = rowAt (hp[k]?) := rfl
@[simp] theorem content_view (hp : List Ob) (k o n : Nat) : content hp (.view k o n) = cutAt o n (hp[k]?) := rfl
@[simp] theorem content_ro (hp : List Ob) (t : Nat) (c : RC) : content hp (.ro t c) = some c := rfl
@[simp] theorem content_nils (hp : List Ob) (c : RC) : content hp (.nils c) = some c := rfl
@[simp] theorem rowAt_rows (c : RC) : rowAt (some (.rows c)) = some c := rfl
@[simp] theorem cutAt_rows (o n : Nat) (c : RC) : cutAt o n (some (.rows c)) = some (c.cut o n) := rfl
@[simp] theorem sizeAt_rows (c : RC) : sizeAt (some (.rows c)) = some c.size := rfl
@[simp] theorem sizeOf_row (hp : List Ob) (k : Nat) : Go.X.sizeOf hp (.row k) = sizeAt (hp[k]?) := rfl
@[simp] theorem sizeOf_view (hp : List Ob) (k o n : Nat) : Go.X.sizeOf hp (.view k o n) = sizeAt (hp[k]?) := rfl
@[simp] theorem sizeOf_cview (hp : List Ob) (k o n : Nat) : Go.X.sizeOf hp (.cview k o n) = some 1 := rfl
@[simp] theorem sizeOf_ro (hp : List Ob) (t : Nat) (c : RC) : Go.X.sizeOf hp (.ro t c) = some c.size := rfl
@[simp] theorem sizeOf_nils (hp : List Ob) (c : RC) : Go.X.sizeOf hp (.nils c) = some c.size := rfl
@[simp] theorem lenOf_row (hp : List Ob) (k : Nat) : lenOf hp (.row k) = lenAt (hp[k]?) := rfl
@[simp] theorem lenAt_rows (c : RC) : lenAt (some (.rows c)) = some c.len := rfl
@[simp] theorem lenOf_view (hp : List Ob) (k o n : Nat) : lenOf hp (.view k o n) = some n := rfl
@[simp] theorem lenOf_cview (hp : List Ob) (k o n : Nat) : lenOf hp (.cview k o n) = some n := rfl
@[simp] theorem lenOf_ro (hp : List Ob) (t : Nat) (c : RC) : lenOf hp (.ro t c) = some c.len := rfl
@[simp] theorem lenOf_nils (hp : List Ob) (c : RC) : lenOf hp (.nils c) = some 0 := rfl
@[simp] theorem oLenS_str (hp : List Ob) (s : ByteArray) : oLenS hp (.one (.str s)) = some (.one (.int .i64 s.size), hp) := rfl
@[simp] theorem source_str (hp : List Ob) (l : List Int) (s : ByteArray) : source hp (.ints .u8 l) (.str s) = some (.ints .u8 (toBytes s)) := rfl
@[simp] theorem source_row (hp : List Ob) (c0 : RC) (k : Nat) : source hp c0 (.row k) = content hp (.row k) := rfl
@[simp] theorem keyOf_row (k : Nat) : keyOf (.row k) = some k := rfl
@[simp] theorem source_view (hp : List Ob) (c0 : RC) (k o n : Nat) : source hp c0 (.view k o n) = content hp (.view k o n) := rfl
@[simp] theorem keyOf_view (k o n : Nat) : keyOf (.view k o n) = some k := rfl
@[simp] theorem source_ro (hp : List Ob) (c0 : RC) (t : Nat) (c : RC) : source hp c0 (.ro t c) = content hp (.ro t c) := rfl
@[simp] theorem keyOf_ro (t : Nat) (c : RC) : keyOf (.ro t c) = none := rfl
@[simp] theorem source_nils (hp : List Ob) (c0 : RC) (c : RC) : source hp c0 (.nils c) = content hp (.nils c) := rfl
@[simp] theorem keyOf_nils (c : RC) : keyOf (.nils c) = none := rfl
@[simp] theorem keyOf_undef  : keyOf .undef = none := rfl
@[simp] theorem takeE_def (c : RC) (n i o : Nat) : takeE c n i o = if o + n ≤ c.size then some ((((c.elem i).drop o).take n).map Sc.sv) else none := rfl
@[simp] theorem keyOf_str (s : ByteArray) : keyOf (.str s) = none := rfl
@[simp] theorem bin_add (k j : IntKind) (x y : Int) : Go.X.bin .add (.int k x) (.int j y) = if k = j then some (.int k (k.wrap (x + y))) else none := rfl
@[simp] theorem bin_sub (k j : IntKind) (x y : Int) : Go.X.bin .sub (.int k x) (.int j y) = if k = j then some (.int k (k.wrap (x - y))) else none := rfl
@[simp] theorem bin_mul (k j : IntKind) (x y : Int) : Go.X.bin .mul (.int k x) (.int j y) = if k = j then some (.int k (k.wrap (x * y))) else none := rfl
@[simp] theorem bin_and (k j : IntKind) (x y : Int) : Go.X.bin .and (.int k x) (.int j y) = if k = j then some (.int k (bitsI .and k x y)) else none := rfl
@[simp] theorem bin_or (k j : IntKind) (x y : Int) : Go.X.bin .or (.int k x) (.int j y) = if k = j then some (.int k (bitsI .or k x y)) else none := rfl
@[simp] theorem bin_xor (k j : IntKind) (x y : Int) : Go.X.bin .xor (.int k x) (.int j y) = if k = j then some (.int k (bitsI .xor k x y)) else none := rfl
@[simp] theorem bin_andNot (k j : IntKind) (x y : Int) : Go.X.bin .andNot (.int k x) (.int j y) = if k = j then some (.int k (bitsI .andNot k x y)) else none := rfl
@[simp] theorem bin_quo (k j : IntKind) (x y : Int) : Go.X.bin .quo (.int k x) (.int j y) = if k = j then (if y = 0 then none else some (.int k (k.wrap (x.tdiv y)))) else none := rfl
@[simp] theorem bin_rem (k j : IntKind) (x y : Int) : Go.X.bin .rem (.int k x) (.int j y) = if k = j then (if y = 0 then none else some (.int k (x.tmod y))) else none := rfl
@[simp] theorem bin_shl (k j : IntKind) (x y : Int) : Go.X.bin .shl (.int k x) (.int j y) = if y < 0 then none else some (.int k (shlI k x y)) := rfl
@[simp] theorem bin_shr (k j : IntKind) (x y : Int) : Go.X.bin .shr (.int k x) (.int j y) = if y < 0 then none else some (.int k (shrI k x y)) := rfl
@[simp] theorem bin_eql (k j : IntKind) (x y : Int) : Go.X.bin .eql (.int k x) (.int j y) = if k = j then some (.bool (x == y)) else none := rfl
@[simp] theorem bin_neq (k j : IntKind) (x y : Int) : Go.X.bin .neq (.int k x) (.int j y) = if k = j then some (.bool (x != y)) else none := rfl
@[simp] theorem bin_lss (k j : IntKind) (x y : Int) : Go.X.bin .lss (.int k x) (.int j y) = if k = j then some (.bool (decide (x < y))) else none := rfl
@[simp] theorem bin_leq (k j : IntKind) (x y : Int) : Go.X.bin .leq (.int k x) (.int j y) = if k = j then some (.bool (decide (x ≤ y))) else none := rfl
@[simp] theorem bin_gtr (k j : IntKind) (x y : Int) : Go.X.bin .gtr (.int k x) (.int j y) = if k = j then some (.bool (decide (y < x))) else none := rfl
@[simp] theorem bin_geq (k j : IntKind) (x y : Int) : Go.X.bin .geq (.int k x) (.int j y) = if k = j then some (.bool (decide (y ≤ x))) else none := rfl
@[simp] theorem oEqB_bool (hp : List Ob) (neq x y : Bool) : oEqB hp neq (.one (.bool x)) (.one (.bool y)) = putB hp neq (some (x == y)) := rfl
@[simp] theorem bin_sadd (x y : ByteArray) : Go.X.bin .add (.str x) (.str y) = if x.size + y.size ≤ 9223372036854775807 then some (.str (x ++ y)) else none := rfl
@[simp] theorem bin_seql (x y : ByteArray) : Go.X.bin .eql (.str x) (.str y) = some (.bool (x.toList == y.toList)) := rfl
@[simp] theorem bin_sneq (x y : ByteArray) : Go.X.bin .neq (.str x) (.str y) = some (.bool (!(x.toList == y.toList))) := rfl
@[simp] theorem un_neg (k : IntKind) (x : Int) : Go.X.un .neg (.int k x) = some (.int k (k.wrap (0 - x))) := rfl
@[simp] theorem un_xor (k : IntKind) (x : Int) : Go.X.un .xor (.int k x) = some (.int k (bitsI .xor k (if k.signed then -1 else k.max) x)) := rfl
@[simp] theorem un_not (b : Bool) : Go.X.un .not (.bool b) = some (.bool (!b)) := rfl
@[simp] theorem eqSc_int (k0 k j : IntKind) (x0 x y : Int) : eqSc (.int k0 x0) (.int k x) (.int j y) = if k = j then some (x == y) else none := rfl
@[simp] theorem eqSc_bool (x0 x y : Bool) : eqSc (.bool x0) (.bool x) (.bool y) = some (x == y) := rfl
@[simp] theorem eqSc_str (x0 x y : ByteArray) : eqSc (.str x0) (.str x) (.str y) = some (x == y) := rfl
@[simp] theorem oneAV_some (v : SV) : oneAV (some v) = some (.one v) := rfl
@[simp] theorem aggAV_some (l : List SV) : aggAV (some l) = some (.agg l) := rfl
@[simp] theorem tupOf_one (v : AV) : tupOf [v] = v := rfl
@[simp] theorem tupOf_two (v u : AV) (l : List AV) : tupOf (v :: u :: l) = .tup (v :: u :: l) := rfl
@[simp] theorem thenC_ite (f : St → Option (Ex × St)) (c : Prop) [Decidable c] (a b : Option (Ex × St)) : thenC f (if c then a else b) = if c then thenC f a else thenC f b := by split <;> rfl
@[simp] theorem thenI_ite (env : Env) (rts : List SV) (d : Option Nat) (f : St → Option St) (c : Prop) [Decidable c] (a b : Res) : thenI env rts d f (if c then a else b) = if c then thenI env rts d f a else thenI env rts d f b := by split <;> rfl
@[simp] theorem blockC_ite (i : Nat) (c : Prop) [Decidable c] (a b : Option (Ex × St)) : blockC i (if c then a else b) = if c then blockC i a else blockC i b := by split <;> rfl
@[simp] theorem normC_ite  (c : Prop) [Decidable c] (a b : Option St) : normC  (if c then a else b) = if c then normC  a else normC  b := by split <;> rfl
@[simp] theorem put1_ite (hp : List Ob) (c : Prop) [Decidable c] (a b : Option SV) : put1 hp (if c then a else b) = if c then put1 hp a else put1 hp b := by split <;> rfl
@[simp] theorem putA_ite (hp : List Ob) (c : Prop) [Decidable c] (a b : Option AV) : putA hp (if c then a else b) = if c then putA hp a else putA hp b := by split <;> rfl
@[simp] theorem putL_ite (hp : List Ob) (c : Prop) [Decidable c] (a b : Option (List SV)) : putL hp (if c then a else b) = if c then putL hp a else putL hp b := by split <;> rfl
@[simp] theorem putH_ite  (c : Prop) [Decidable c] (a b : Option (List Ob)) : putH  (if c then a else b) = if c then putH  a else putH  b := by split <;> rfl
@[simp] theorem putR_ite (hp : List Ob) (c : Prop) [Decidable c] (a b : Option RC) : putR hp (if c then a else b) = if c then putR hp a else putR hp b := by split <;> rfl
@[simp] theorem ofElemsO_ite (c0 : RC) (c : Prop) [Decidable c] (a b : Option (List (List Sc))) : ofElemsO c0 (if c then a else b) = if c then ofElemsO c0 a else ofElemsO c0 b := by split <;> rfl
@[simp] theorem putB_ite (hp : List Ob) (n : Bool) (c : Prop) [Decidable c] (a b : Option Bool) : putB hp n (if c then a else b) = if c then putB hp n a else putB hp n b := by split <;> rfl
@[simp] theorem resC_ite (rs : List (Nat × Option (Option Nat))) (c : Prop) [Decidable c] (a b : Option (Ex × St)) : resC rs (if c then a else b) = if c then resC rs a else resC rs b := by split <;> rfl
@[simp] theorem rowsH_ite (hp : List Ob) (k : Nat) (c : Prop) [Decidable c] (a b : Option RC) : rowsH hp k (if c then a else b) = if c then rowsH hp k a else rowsH hp k b := by split <;> rfl
@[simp] theorem scSV_ite  (c : Prop) [Decidable c] (a b : Option Sc) : scSV  (if c then a else b) = if c then scSV  a else scSV  b := by split <;> rfl
@[simp] theorem give_ite (rts : List SV) (hp : List Ob) (c : Prop) [Decidable c] (a b : Option (List AV)) : give rts hp (if c then a else b) = if c then give rts hp a else give rts hp b := by split <;> rfl
@[simp] theorem comeBack_ite (hp : List Ob) (ks : List Nat) (args : List AV) (c : Prop) [Decidable c] (a b : Res) : comeBack hp ks args (if c then a else b) = if c then comeBack hp ks args a else comeBack hp ks args b := by split <;> rfl
@[simp] theorem inBounds_nat (i : Int) (n : Nat) : (inBounds i n = true) = (0 ≤ i ∧ i < n) := by simp [inBounds]
end Go.X
set_option linter.unusedVariables false
namespace Go.X
/-! ### plain numbers -/
theorem shrI_eq (k : IntKind) (x y : Int) : shrI k x y = x / ((2 ^ Nat.min y.toNat k.bits : Nat) : Int) := by
  unfold shrI
  have h : ((2 ^ Nat.min y.toNat k.bits : Nat) : Int) = (2 : Int) ^ Nat.min y.toNat k.bits := by simp
  rw [← h, Int.fdiv_eq_ediv_of_nonneg _ (Int.natCast_nonneg _)]
/-- How many bits a number has. -/
def bl (n : Nat) : Nat := if n = 0 then 0 else Nat.log2 n + 1
theorem bl_pos {n : Nat} (h : 0 < n) : 2 ^ (bl n - 1) ≤ n ∧ n < 2 ^ bl n ∧ 0 < bl n := by
  have h' : n ≠ 0 := by omega
  simp only [bl, if_neg h', Nat.add_sub_cancel]
  exact ⟨Nat.log2_self_le h', Nat.lt_log2_self, by omega⟩
theorem bl_unique {n k : Nat} (h1 : 2 ^ k ≤ n) (h2 : n < 2 ^ (k + 1)) : bl n = k + 1 := by
  have h' : n ≠ 0 := by have := Nat.two_pow_pos k; omega
  simp only [bl, if_neg h']
  have h3 := (Nat.le_log2 h').2 h1
  have h4 := (Nat.log2_lt h').2 h2
  omega
theorem bl_div {n : Nat} (k : Nat) (h : 2 ^ k ≤ n) : bl n = k + bl (n / 2 ^ k) := by
  have hp := Nat.two_pow_pos k
  have hq : 0 < n / 2 ^ k := Nat.div_pos h hp
  obtain ⟨h1, h2, h3⟩ := bl_pos hq
  generalize bl (n / 2 ^ k) = b at *
  obtain ⟨c, rfl⟩ : ∃ c, b = c + 1 := ⟨b - 1, by omega⟩
  simp only [Nat.add_sub_cancel] at h1
  rw [show k + (c + 1) = (k + c) + 1 by omega]
  refine bl_unique ?_ ?_
  · rw [Nat.pow_add, Nat.mul_comm]
    exact (Nat.le_div_iff_mul_le hp).1 h1
  · rw [show k + c + 1 = (c + 1) + k by omega, Nat.pow_add]
    exact (Nat.div_lt_iff_lt_mul hp).1 h2
theorem bl_zero : bl 0 = 0 := rfl
theorem bl_le {n k : Nat} (h : n < 2 ^ k) : bl n ≤ k := by
  rcases Nat.eq_zero_or_pos n with e | e
  · subst e; simp [bl]
  · obtain ⟨h1, _, h3⟩ := bl_pos e
    have : 2 ^ (bl n - 1) < 2 ^ k := by omega
    have := (Nat.pow_lt_pow_iff_right (by omega : 1 < 2)).1 this
    omega
theorem bl_half {n : Nat} (h : 0 < n) : bl n = bl (n / 2) + 1 := by
  rcases Nat.lt_or_ge n 2 with h2 | h2
  · obtain rfl : n = 1 := by omega
    rfl
  · have := bl_div (n := n) 1 (by simpa using h2)
    simp at this; omega
end Go.X
set_option maxRecDepth 100000
namespace Go.X
/-! ### loops by their heads -/
def loopH (body : St → Option (Ex × St)) (live : List Nat) (k : Nat) (st : St) : Option (Ex × St) := thenC (loopN body live (k - 1)) (body st)
theorem loop_head {body : St → Option (Ex × St)} {live : List Nat} {k : Nat} (st : St) (h : k ≠ 0) : loopN body live k st = loopH body live k (st.head live) := by
  cases k with
  | zero => exact absurd rfl h
  | succ k => rfl
@[simp] theorem loop_KK (body : St → Option (Ex × St)) (live : List Nat) (st : St) : loopN body live KK st = loopH body live KK (st.head live) := loop_head st (by rw [KK_eq]; omega)
theorem loopH_norm {body : St → Option (Ex × St)} {live : List Nat} {k : Nat} {st st1 : St} (h : body st = some (.norm, st1)) (hk : 1 < k) : loopH body live k st = loopH body live (k - 1) (st1.head live) := by
  rw [loopH, h]; exact loop_head st1 (by omega)
theorem loopH_exit {body : St → Option (Ex × St)} {live : List Nat} {k : Nat} {st st1 : St} {i : Nat} (h : body st = some (.exit i, st1)) : loopH body live k st = some (.exit i, st1) := by
  rw [loopH, h]; rfl
theorem loopH_ret {body : St → Option (Ex × St)} {live : List Nat} {k : Nat} {st st1 : St} (h : body st = some (.ret, st1)) : loopH body live k st = some (.ret, st1) := by
  rw [loopH, h]; rfl
/-- A loop whose every round leads from a state told by a to one told by another, of less measure, or out of it. -/
theorem loopH_ind {α : Type} {body : St → Option (Ex × St)} {live : List Nat} (canon : α → St) (I : α → Prop) (P : α → Ex × St → Prop) (m : α → Nat)
    (hs : ∀ a, I a → (∃ r, body (canon a) = some r ∧ r.1 ≠ .norm ∧ P a r) ∨ (∃ st1 a', body (canon a) = some (.norm, st1) ∧ St.head live st1 = canon a' ∧ I a' ∧ m a' < m a ∧ ∀ r, P a' r → P a r)) :
    ∀ (k : Nat) (a : α), I a → m a < k → ∃ r, loopH body live k (canon a) = some r ∧ P a r
  | 0, a, _, hk => by omega
  | k + 1, a, ha, hk => by
    rcases hs a ha with ⟨r, h1, h2, h3⟩ | ⟨st1, a', h1, h2, h3, h4, h5⟩
    · obtain ⟨x, st1⟩ := r
      cases x with
      | norm => exact absurd rfl h2
      | exit i => exact ⟨_, loopH_exit h1, h3⟩
      | ret => exact ⟨_, loopH_ret h1, h3⟩
    · cases k with
      | zero => omega
      | succ k =>
        obtain ⟨r, e, hp⟩ := loopH_ind canon I P m hs (k + 1) a' h3 (by omega)
        exact ⟨r, by rw [loopH_norm h1 (by omega), h2]; exact e, h5 r hp⟩
/-! ### concrete runs: a loop turned round by round (simp with loop_go0, loop_go1) -/
def loopG (body : St → Option (Ex × St)) (live : List Nat) (n : Nat) (st : St) : Option (Ex × St) := loopH body live (KK - n) st
@[congr] theorem loopG_cg {body : St → Option (Ex × St)} {live : List Nat} {n : Nat} {st st' : St} (h : st = st') : loopG body live n st = loopG body live n st' := by rw [h]
@[congr] theorem loopH_cg {body : St → Option (Ex × St)} {live : List Nat} {k : Nat} {st st' : St} (h : st = st') : loopH body live k st = loopH body live k st' := by rw [h]
theorem loop_go0 (body : St → Option (Ex × St)) (live : List Nat) (st : St) : loopH body live KK st = loopG body live 0 st := rfl
theorem loop_go1 {body : St → Option (Ex × St)} {live : List Nat} {n : Nat} {st : St} (hn : n < 1000) : loopG body live n st = thenC (fun st => loopG body live (n + 1) (st.head live)) (body st) := by
  have hK := KK_eq
  unfold loopG loopH
  cases hb : body st with
  | none => rfl
  | some p =>
    obtain ⟨x, st1⟩ := p
    cases x with
    | norm =>
      have h1 : KK - n - 1 = KK - (n + 1) := by omega
      rw [h1]
      exact loop_head st1 (by omega)
    | exit i => rfl
    | ret => rfl

/-! ### a slice at a key: all of a row, or a part -/
def slv (k : Nat) : Option (Nat × Nat) → SV
  | none => .row k
  | some (o, n) => .view k o n
def slvO (s : Option (Nat × Nat)) : Option Nat → SV
  | some j => slv j s
  | none => .undef
@[simp] theorem slvO_some (s : Option (Nat × Nat)) (j : Nat) : slvO s (some j) = slv j s := rfl
@[simp ↓ high] theorem reachSV_slv (hp : List Ob) (f k : Nat) (s : Option (Nat × Nat)) (ks : List Nat) : reachSV hp (f + 1) (slv k s) ks = if ks.elem k then ks else reachOb hp f hp[k]? k ks := by
  cases s <;> simp only [slv, reachSV]
@[simp ↓ high] theorem ren_slv (f : Nat → Option Nat) (k : Nat) (s : Option (Nat × Nat)) : SV.ren f (slv k s) = slvO s (f k) := by
  cases s <;> simp only [slv, SV.ren, slvO] <;> cases f k <;> rfl
@[simp ↓ high] theorem back_slv (cs : List SV) (k : Nat) (s : Option (Nat × Nat)) : SV.back cs (slv k s) = slv k s := by
  cases s <;> simp [slv]
@[simp ↓ high] theorem strip_slv (k : Nat) (s : Option (Nat × Nat)) : SV.strip (slv k s) = slv k s := by
  cases s <;> simp [slv]
@[simp ↓ high] theorem okCell_slv (k : Nat) (s : Option (Nat × Nat)) : okCell (slv k s) = true := by
  cases s <;> simp [slv]
@[simp ↓ high] theorem handed_slv (k : Nat) (s : Option (Nat × Nat)) (l : List SV) : handed (slv k s :: l) = handed l := by
  cases s <;> simp [slv]
def vw {α : Type} (X : List α) : Option (Nat × Nat) → List α
  | none => X
  | some (o, n) => (X.drop o).take n
def vwn {α : Type} (X : List α) : Option (Nat × Nat) → Nat
  | none => X.length
  | some (_, n) => n
def vok {α : Type} (X : List α) : Option (Nat × Nat) → Prop
  | none => True
  | some (o, n) => o + n ≤ X.length
theorem vw_len {α : Type} (X : List α) (s : Option (Nat × Nat)) (h : vok X s) : (vw X s).length = vwn X s := by
  cases s with
  | none => rfl
  | some p =>
    obtain ⟨o, n⟩ := p
    simp only [vok] at h
    simp only [vw, vwn, List.length_take, List.length_drop]
    omega
@[simp ↓ high] theorem reachSV_sc (hp : List Ob) (f : Nat) (c : Sc) (ks : List Nat) : reachSV hp f c.sv ks = ks := by cases f <;> cases c <;> rfl
@[simp ↓ high] theorem ren_sc (f : Nat → Option Nat) (c : Sc) : SV.ren f c.sv = c.sv := by cases c <;> rfl
@[simp ↓ high] theorem back_sc (cs : List SV) (c : Sc) : SV.back cs c.sv = c.sv := by cases c <;> rfl
@[simp ↓ high] theorem okCell_sc (c : Sc) : okCell c.sv = true := by cases c <;> rfl
end Go.X
set_option maxRecDepth 100000
set_option linter.unusedVariables false
namespace Go.X
open Go.IntWalk
/-! ### bits as plain numbers -/
theorem bitsI_and {k : IntKind} {x y : Nat} (h : k.signed = false) (hx : x < 2 ^ k.bits) (hy : y < 2 ^ k.bits) : bitsI .and k (x : Int) (y : Int) = ((x &&& y : Nat) : Int) := by
  have e : ((BitVec.ofInt k.bits (x : Int) &&& BitVec.ofInt k.bits (y : Int)).toNat : Int) = ((x &&& y : Nat) : Int) := by
    rw [BitVec.toNat_and, BitVec.ofInt_natCast, BitVec.ofInt_natCast, BitVec.toNat_ofNat, BitVec.toNat_ofNat, Nat.mod_eq_of_lt hx, Nat.mod_eq_of_lt hy]
  have hlt : x &&& y < 2 ^ k.bits := Nat.lt_of_le_of_lt Nat.and_le_left hx
  show k.wrap _ = _
  rw [e]
  cases k <;> first | (exact absurd h (by decide)) | (simp only [IntKind.bits] at hlt; first | exact u8_in _ (by omega) | exact u16_in _ (by omega) | exact u32_in _ (by omega) | exact u64_in _ (by omega))
theorem bitsI_or {k : IntKind} {x y : Nat} (h : k.signed = false) (hx : x < 2 ^ k.bits) (hy : y < 2 ^ k.bits) : bitsI .or k (x : Int) (y : Int) = ((x ||| y : Nat) : Int) := by
  have e : ((BitVec.ofInt k.bits (x : Int) ||| BitVec.ofInt k.bits (y : Int)).toNat : Int) = ((x ||| y : Nat) : Int) := by
    rw [BitVec.toNat_or, BitVec.ofInt_natCast, BitVec.ofInt_natCast, BitVec.toNat_ofNat, BitVec.toNat_ofNat, Nat.mod_eq_of_lt hx, Nat.mod_eq_of_lt hy]
  have hlt : x ||| y < 2 ^ k.bits := Nat.or_lt_two_pow hx hy
  show k.wrap _ = _
  rw [e]
  cases k <;> first | (exact absurd h (by decide)) | (simp only [IntKind.bits] at hlt; first | exact u8_in _ (by omega) | exact u16_in _ (by omega) | exact u32_in _ (by omega) | exact u64_in _ (by omega))
theorem bitsI_and_i64 {x y : Nat} (hx : x < 2 ^ 63) (hy : y < 2 ^ 63) : bitsI .and .i64 (x : Int) (y : Int) = ((x &&& y : Nat) : Int) := by
  have e : ((BitVec.ofInt 64 (x : Int) &&& BitVec.ofInt 64 (y : Int)).toNat : Int) = ((x &&& y : Nat) : Int) := by
    rw [BitVec.toNat_and, BitVec.ofInt_natCast, BitVec.ofInt_natCast, BitVec.toNat_ofNat, BitVec.toNat_ofNat, Nat.mod_eq_of_lt (by omega), Nat.mod_eq_of_lt (by omega)]
  have hlt : x &&& y < 2 ^ 63 := Nat.lt_of_le_of_lt Nat.and_le_left hx
  show IntKind.i64.wrap _ = _
  have e2 : ((BitVec.ofInt IntKind.i64.bits (x : Int) &&& BitVec.ofInt IntKind.i64.bits (y : Int)).toNat : Int) = ((x &&& y : Nat) : Int) := e
  rw [e2]
  exact i64_in _ (by omega)
/-- The lowest bits of an index. -/
theorem and7_i64 {x : Nat} (hx : x < 2 ^ 63) : bitsI .and .i64 (x : Int) 7 = ((x % 8 : Nat) : Int) := by
  have := bitsI_and_i64 (y := 7) hx (by omega)
  rw [show ((7 : Nat) : Int) = 7 from rfl] at this
  rw [this, show (7 : Nat) = 2 ^ 3 - 1 from rfl, Nat.and_two_pow_sub_one_eq_mod]
/-- A number's lowest bits by a mask. -/
theorem mask_and {k : IntKind} {x n : Nat} (h : k.signed = false) (hx : x < 2 ^ k.bits) (hn : n ≤ k.bits) : bitsI .and k (x : Int) (((2 ^ n - 1 : Nat)) : Int) = ((x % 2 ^ n : Nat) : Int) := by
  have hp := Nat.pow_le_pow_right (n := 2) (by omega) hn
  have := Nat.two_pow_pos n
  rw [bitsI_and h hx (by omega), Nat.and_two_pow_sub_one_eq_mod]
/-- Bits laid above others. -/
theorem or_add {k : IntKind} {x y n : Nat} (h : k.signed = false) (hx : x < 2 ^ n) (hn : x + y * 2 ^ n < 2 ^ k.bits) : bitsI .or k (x : Int) ((y * 2 ^ n : Nat) : Int) = ((x + y * 2 ^ n : Nat) : Int) := by
  rw [bitsI_or h (by omega) (by omega)]
  have := Nat.shiftLeft_add_eq_or_of_lt hx y
  rw [Nat.shiftLeft_eq] at this
  rw [Nat.or_comm, ← this, Nat.add_comm]
theorem shl_in {k : IntKind} {x n : Nat} (h : k.signed = false) (hn : n ≤ k.bits) (hlt : x * 2 ^ n < 2 ^ k.bits) : shlI k (x : Int) (n : Int) = ((x * 2 ^ n : Nat) : Int) := by
  have e : (x : Int) * 2 ^ Nat.min (n : Int).toNat k.bits = ((x * 2 ^ n : Nat) : Int) := by
    rw [Int.toNat_natCast, show Nat.min n k.bits = n from Nat.min_eq_left hn]
    simp
  show k.wrap _ = _
  rw [e]
  cases k <;> first | (exact absurd h (by decide)) | (simp only [IntKind.bits] at hlt; first | exact u8_in _ (by omega) | exact u16_in _ (by omega) | exact u32_in _ (by omega) | exact u64_in _ (by omega))
theorem shr_in {k : IntKind} {x n : Nat} (hn : n ≤ k.bits) : shrI k (x : Int) (n : Int) = ((x / 2 ^ n : Nat) : Int) := by
  rw [shrI_eq, Int.toNat_natCast, show Nat.min n k.bits = n from Nat.min_eq_left hn]
  simp
/-! ### bytes as one number, the first one lowest -/
def leB : List Int → Nat
  | [] => 0
  | b :: l => b.toNat + 256 * leB l
def isB (l : List Int) : Prop := ∀ b ∈ l, 0 ≤ b ∧ b < 256
theorem isB.tail {b : Int} {l : List Int} (h : isB (b :: l)) : isB l := fun x hx => h x (List.mem_cons_of_mem _ hx)
theorem leB_lt : ∀ {l : List Int}, isB l → leB l < 2 ^ (8 * l.length)
  | [], _ => by simp [leB]
  | b :: l, h => by
    have h1 := leB_lt h.tail
    have h2 := h b (by simp)
    have e : 2 ^ (8 * (l.length + 1)) = 256 * 2 ^ (8 * l.length) := by rw [Nat.mul_add, Nat.pow_add]; omega
    simp only [leB, List.length_cons]
    rw [e]
    omega
theorem leB_at : ∀ {l : List Int} {i : Nat} {b : Int}, isB l → l[i]? = some b → leB l / 2 ^ (8 * i) % 256 = b.toNat
  | [], i, b, _, h => by simp at h
  | c :: l, 0, b, hB, h => by
    simp only [List.getElem?_cons_zero, Option.some.injEq] at h
    subst h
    have := hB c (by simp)
    simp only [leB, Nat.mul_zero, Nat.pow_zero, Nat.div_one]
    omega
  | c :: l, i + 1, b, hB, h => by
    simp only [List.getElem?_cons_succ] at h
    have := hB c (by simp)
    rw [← leB_at hB.tail h, show 8 * (i + 1) = 8 + 8 * i by omega, Nat.pow_add, ← Nat.div_div_eq_div_mul]
    congr 2
    simp only [leB]
    omega
theorem leB_append : ∀ (l m : List Int), leB (l ++ m) = leB l + 2 ^ (8 * l.length) * leB m
  | [], m => by simp [leB]
  | b :: l, m => by
    have e : 2 ^ (8 * (l.length + 1)) = 256 * 2 ^ (8 * l.length) := by rw [Nat.mul_add, Nat.pow_add]; omega
    simp only [List.cons_append, leB, List.length_cons, leB_append l m]
    rw [e, Nat.mul_assoc]
    generalize 2 ^ (8 * l.length) * leB m = Q
    omega
theorem leB_set : ∀ {l : List Int} {i : Nat} {b : Int} {d : Nat}, isB l → l[i]? = some b → leB (l.set i (b + d)) = leB l + d * 2 ^ (8 * i)
  | [], i, b, d, _, h => by simp at h
  | c :: l, 0, b, d, hB, h => by
    simp only [List.getElem?_cons_zero, Option.some.injEq] at h
    subst h
    have := hB c (by simp)
    simp only [List.set_cons_zero, leB, Nat.mul_zero, Nat.pow_zero]
    omega
  | c :: l, i + 1, b, d, hB, h => by
    simp only [List.getElem?_cons_succ] at h
    have e : 2 ^ (8 * (i + 1)) = 256 * 2 ^ (8 * i) := by rw [Nat.mul_add, Nat.pow_add]; omega
    simp only [List.set_cons_succ, leB, leB_set hB.tail h]
    rw [e, Nat.mul_left_comm]
    generalize d * 2 ^ (8 * i) = Q
    omega
theorem leB_inj : ∀ {l m : List Int}, isB l → isB m → l.length = m.length → leB l = leB m → l = m
  | [], [], _, _, _, _ => rfl
  | [], _ :: _, _, _, h, _ => by simp at h
  | _ :: _, [], _, _, h, _ => by simp at h
  | b :: l, c :: m, hl, hm, h, e => by
    have h1 := hl b (by simp)
    have h2 := hm c (by simp)
    simp only [leB] at e
    have e1 : b = c := by omega
    subst e1
    rw [leB_inj hl.tail hm.tail (by simpa using h) (by omega)]
/-- Bits out of a byte. -/
theorem byte_bits {N i a k : Nat} (h : a + k ≤ 8) : N / 2 ^ (8 * i) % 256 / 2 ^ a % 2 ^ k = N / 2 ^ (8 * i + a) % 2 ^ k := by
  rw [Nat.pow_add, ← Nat.div_div_eq_div_mul]
  generalize N / 2 ^ (8 * i) = M
  have e : (256 : Nat) = 2 ^ a * 2 ^ (8 - a) := by rw [← Nat.pow_add, show a + (8 - a) = 8 by omega]
  rw [e, Nat.mod_mul_right_div_self, Nat.mod_mod_of_dvd _ (Nat.pow_dvd_pow 2 (by omega))]
/-- More bits above. -/
theorem mod_more (N g k : Nat) : N % 2 ^ (g + k) = N % 2 ^ g + N / 2 ^ g % 2 ^ k * 2 ^ g := by
  rw [Nat.pow_add, Nat.mod_mul, Nat.mul_comm (2 ^ g)]
/-! ### noughts and ones, the lowest one first -/
def leN : List Int → Nat
  | [] => 0
  | b :: l => b.toNat + 2 * leN l
def isN (l : List Int) : Prop := ∀ b ∈ l, b = 0 ∨ b = 1
theorem isN.tail {b : Int} {l : List Int} (h : isN (b :: l)) : isN l := fun x hx => h x (List.mem_cons_of_mem _ hx)
theorem leN_lt : ∀ {l : List Int}, isN l → leN l < 2 ^ l.length
  | [], _ => by simp [leN]
  | b :: l, h => by
    have h1 := leN_lt h.tail
    have h2 := h b (by simp)
    simp only [leN, List.length_cons, Nat.pow_succ]
    omega
theorem leN_append : ∀ (l m : List Int), leN (l ++ m) = leN l + 2 ^ l.length * leN m
  | [], m => by simp [leN]
  | b :: l, m => by
    simp only [List.cons_append, leN, List.length_cons, leN_append l m, Nat.pow_succ]
    rw [Nat.mul_comm (2 ^ l.length) 2, Nat.mul_assoc]
    generalize 2 ^ l.length * leN m = Q
    omega
theorem leN_take : ∀ {l : List Int} (n : Nat), isN l → leN (l.take n) = leN l % 2 ^ n
  | [], n, _ => by simp [leN]
  | b :: l, 0, _ => by simp [leN, Nat.mod_one]
  | b :: l, n + 1, h => by
    have h2 := h b (by simp)
    have e : (b.toNat + 2 * leN l) / 2 = leN l := by omega
    simp only [List.take_succ_cons, leN, leN_take n h.tail, Nat.pow_succ]
    rw [Nat.mul_comm (2 ^ n) 2, Nat.mod_mul, e]
    generalize leN l % 2 ^ n = Q
    omega
theorem leN_drop : ∀ {l : List Int} (n : Nat), isN l → leN (l.drop n) = leN l / 2 ^ n
  | [], n, _ => by simp [leN]
  | b :: l, 0, _ => by simp
  | b :: l, n + 1, h => by
    have h2 := h b (by simp)
    simp only [List.drop_succ_cons, leN, leN_drop n h.tail, Nat.pow_succ]
    rw [Nat.mul_comm (2 ^ n) 2, ← Nat.div_div_eq_div_mul]
    congr 1
    omega
theorem leN_at {l : List Int} {i : Nat} {b : Int} (hN : isN l) (h : l[i]? = some b) : leN l / 2 ^ i % 2 = b.toNat := by
  obtain ⟨hlt, e⟩ := List.getElem?_eq_some_iff.1 h
  have hb := hN b (List.mem_of_getElem? h)
  rw [← leN_drop i hN, List.drop_eq_getElem_cons hlt, e]
  simp only [leN]
  omega
theorem leN_inj : ∀ {l m : List Int}, isN l → isN m → l.length = m.length → leN l = leN m → l = m
  | [], [], _, _, _, _ => rfl
  | [], _ :: _, _, _, h, _ => by simp at h
  | _ :: _, [], _, _, h, _ => by simp at h
  | b :: l, c :: m, hl, hm, h, e => by
    have h1 := hl b (by simp)
    have h2 := hm c (by simp)
    simp only [leN] at e
    have e1 : b = c := by omega
    subst e1
    rw [leN_inj hl.tail hm.tail (by simpa using h) (by omega)]
/-- The lowest n bits of v. -/
def ofN (v : Nat) : Nat → List Int
  | 0 => []
  | n + 1 => ((v % 2 : Nat) : Int) :: ofN (v / 2) n
theorem ofN_length : ∀ (n v : Nat), (ofN v n).length = n
  | 0, _ => rfl
  | n + 1, v => by simp [ofN, ofN_length n]
theorem ofN_isN : ∀ (n v : Nat), isN (ofN v n)
  | 0, _ => by simp [ofN, isN]
  | n + 1, v => fun b hb => by
    rcases List.mem_cons.1 hb with rfl | hb
    · omega
    · exact ofN_isN n _ b hb
theorem leN_ofN : ∀ (n v : Nat), leN (ofN v n) = v % 2 ^ n
  | 0, v => by simp [ofN, leN, Nat.mod_one]
  | n + 1, v => by
    simp only [ofN, leN, leN_ofN n, Nat.pow_succ]
    rw [Nat.mul_comm (2 ^ n) 2, Nat.mod_mul]
    omega
theorem ofN_snoc : ∀ (n v : Nat), ofN v (n + 1) = ofN v n ++ [((v / 2 ^ n % 2 : Nat) : Int)]
  | 0, v => by simp [ofN]
  | n + 1, v => by
    rw [ofN, ofN_snoc n (v / 2), ofN, List.cons_append, Nat.div_div_eq_div_mul, Nat.pow_succ, Nat.mul_comm 2]
end Go.X
set_option maxRecDepth 100000
set_option linter.unusedVariables false
namespace Go.X
open Go.IntWalk
/-! ### strings as lists of bytes -/
theorem size_toBytes (s : ByteArray) : (toBytes s).length = s.size := by
  unfold toBytes; rw [List.length_map, Array.length_toList]; rfl
theorem isB_toBytes (s : ByteArray) : isB (toBytes s) := fun b hb => by
  simp only [toBytes, List.mem_map] at hb
  obtain ⟨x, _, rfl⟩ := hb
  have := x.toNat_lt
  omega
theorem size_ofBytes (l : List Int) : (ofBytes l).size = l.length := by
  simp [ofBytes, ByteArray.size]
theorem ofBytes_nil : ofBytes [] = ⟨#[]⟩ := rfl
theorem toBytes_ofBytes {l : List Int} (h : isB l) : toBytes (ofBytes l) = l := by
  simp only [toBytes, ofBytes, List.map_map]
  induction l with
  | nil => rfl
  | cons b l ih =>
    have hb := h b (by simp)
    simp only [List.map_cons, Function.comp]
    rw [ih h.tail]
    congr 1
    simp only [UInt8.toNat_ofNat']
    omega
theorem ofBytes_toBytes (s : ByteArray) : ofBytes (toBytes s) = s := by
  obtain ⟨⟨l⟩⟩ := s
  simp only [toBytes, ofBytes, List.map_map]
  congr 2
  induction l with
  | nil => rfl
  | cons x l ih =>
    simp only [List.map_cons, Function.comp, ih]
    congr 1
    simp
theorem ofBytes_append (l m : List Int) : ofBytes l ++ ofBytes m = ofBytes (l ++ m) := by
  apply ByteArray.ext
  simp [ofBytes]
theorem ofBytes_extract (l : List Int) (a b : Nat) : (ofBytes l).extract a b = ofBytes ((l.drop a).take (b - a)) := by
  apply ByteArray.ext
  simp [ofBytes, ByteArray.data_extract, List.extract_eq_take_drop]
theorem ofBytes_inj {l m : List Int} (hl : isB l) (hm : isB m) : ofBytes l = ofBytes m ↔ l = m :=
  ⟨fun h => by rw [← toBytes_ofBytes hl, h, toBytes_ofBytes hm], fun h => by rw [h]⟩
theorem beqS (a b : ByteArray) : (a.toList == b.toList) = decide (a = b) := by
  rw [Bool.eq_iff_iff]
  simp only [beq_iff_eq, decide_eq_true_eq, ByteArray.toList_eq]
  constructor
  · intro h
    apply ByteArray.ext
    exact Array.toList_inj.1 h
  · intro h; rw [h]
theorem eqS {l m : List Int} (hl : isB l) (hm : isB m) : ((ofBytes l).toList == (ofBytes m).toList) = decide (l = m) := by
  rw [beqS]
  exact decide_eq_decide.2 (ofBytes_inj hl hm)
theorem eqS0 (l : List Int) : ((ofBytes l).toList == ({ data := #[] } : ByteArray).toList) = decide (l = []) := by
  rw [beqS]
  refine decide_eq_decide.2 ⟨fun h => ?_, fun h => by rw [h]; rfl⟩
  have := congrArg ByteArray.size h
  rw [size_ofBytes] at this
  exact List.eq_nil_of_length_eq_zero this
theorem emptyS (l : List Int) : (ofBytes l).toList.isEmpty = decide (l = []) := by
  rw [ByteArray.toList_eq]
  cases l <;> simp [ofBytes]
theorem empty_ofBytes : ByteArray.empty = ofBytes [] := rfl
theorem isB_append {l m : List Int} (hl : isB l) (hm : isB m) : isB (l ++ m) := fun b hb => by
  rcases List.mem_append.1 hb with h | h
  · exact hl b h
  · exact hm b h
theorem isB_take {l : List Int} (n : Nat) (hl : isB l) : isB (l.take n) := fun b hb => hl b (List.mem_of_mem_take hb)
theorem isB_drop {l : List Int} (n : Nat) (hl : isB l) : isB (l.drop n) := fun b hb => hl b (List.mem_of_mem_drop hb)
theorem isB_one {b : Int} (h : 0 ≤ b ∧ b < 256) : isB [b] := fun x hx => by
  simp only [List.mem_cons, List.not_mem_nil, or_false] at hx
  omega
end Go.X
set_option maxRecDepth 100000
set_option linter.unusedSimpArgs false
namespace Go.X.Try
open Go.IntWalk
/-- A number's bytes in groups. -/
def grp (v : Nat) : List Int := if _h : v < 128 then [(v : Int)] else ((v % 128 + 128 : Nat) : Int) :: grp (v / 128)
termination_by v
theorem grp_lt {v : Nat} (h : v < 128) : grp v = [(v : Int)] := by rw [grp, dif_pos h]
theorem grp_ge {v : Nat} (h : ¬ v < 128) : grp v = ((v % 128 + 128 : Nat) : Int) :: grp (v / 128) := by rw [grp, dif_neg h]
theorem grp_isB (v : Nat) : isB (grp v) := by
  induction v using Nat.strongRecOn with
  | ind v ih =>
  by_cases h : v < 128
  · rw [grp_lt h]; exact isB_one (by omega)
  · rw [grp_ge h]
    intro x hx
    rcases List.mem_cons.1 hx with rfl | hx
    · omega
    · exact ih (v / 128) (by omega) x hx
theorem grp_len : ∀ (n v : Nat), v < 128 ^ (n + 1) → (grp v).length ≤ n + 1
  | 0, v, h => by rw [grp_lt (by omega)]; simp
  | n + 1, v, h => by
    by_cases hv : v < 128
    · rw [grp_lt hv]; simp
    · rw [grp_ge hv, List.length_cons]
      have := grp_len n (v / 128) (by
        rw [Nat.div_lt_iff_lt_mul (by omega)]
        rw [Nat.pow_succ] at h
        exact h)
      omega
theorem grp_ten {v : Nat} (h : v < 2 ^ 64) : (grp v).length ≤ 10 := grp_len 9 v (by omega)
def wHp (g : Option Nat) (bs : List Int) : List Ob := [.cells g [.row 1], .rows (.ints .u8 bs)]
theorem or128 : ∀ x : Fin 256, bitsI .or .u8 (x.val : Int) 128 = ((x.val % 128 + 128 : Nat) : Int) := by decide +kernel
def canon57 (v0 v : Int) (bs : List Int) : St := ⟨[(0, .one (.ptr 0 0)), (1, .one (.int .u64 v))], [.ptr 0 0, .int .u64 v0], wHp (some 0) bs⟩
theorem body57 (v0 v c b v' : Int) (bs : List Int) (hv : 127 < v) (ec : IntKind.u8.wrap v = c) (eb : bitsI .or .u8 c 128 = b) (es : shrI .u64 v 7 = v') (hm : bs.length + 1 ≤ 140737488355328) :
    ∃ st1, evC T57 KK b57x0 (canon57 v0 v bs) = some (.norm, st1) ∧ St.head [0, 1] st1 = canon57 v0 v' (bs ++ [b]) := by
  simp -implicitDefEqProofs [b57x0, canon57, wHp, upd, hv, ec, eb, es, hm, RC.len, RC.size, RC.app, RC.ofElems]
theorem end57 (v0 v : Int) (bs : List Int) (hv : ¬ 127 < v) :
    ∃ env, evC T57 KK b57x0 (canon57 v0 v bs) = some (.exit 0, ⟨env, [.ptr 0 0, .int .u64 v0], wHp (some 0) bs⟩) ∧ getT 0 env = .one (.ptr 0 0) ∧ getT 1 env = .one (.int .u64 v) := by
  simp -implicitDefEqProofs [b57x0, canon57, upd, hv]
theorem loop57 (v0 : Int) (v : Nat) : ∀ (bs : List Int) (K : Nat), v < 2 ^ 64 → bs.length + (grp v).length ≤ 100000 → (grp v).length < K →
    ∃ env bs' u, loopH (evC T57 KK b57x0) [0, 1] K (canon57 v0 v bs) = some (.exit 0, ⟨env, [.ptr 0 0, .int .u64 v0], wHp (some 0) bs'⟩) ∧ getT 0 env = .one (.ptr 0 0) ∧ getT 1 env = .one (.int .u64 (u : Nat)) ∧ u < 128 ∧ bs' ++ [(u : Int)] = bs ++ grp v := by
  induction v using Nat.strongRecOn with
  | ind v ih =>
  intro bs K hv hl hK
  by_cases h : v < 128
  · obtain ⟨env, e, g0, g1⟩ := end57 v0 v bs (by omega)
    exact ⟨env, bs, v, loopH_exit e, g0, g1, h, by rw [grp_lt h]⟩
  · rw [grp_ge h] at hl hK ⊢
    simp only [List.length_cons] at hl hK
    have eb : bitsI .or .u8 ((v % 256 : Nat) : Int) 128 = ((v % 128 + 128 : Nat) : Int) := by
      have := or128 ⟨v % 256, by omega⟩
      simp only at this
      rw [this]; congr 1; omega
    obtain ⟨st1, e1, e2⟩ := body57 v0 v (v % 256 : Nat) (v % 128 + 128 : Nat) (v / 128 : Nat) bs (by omega) (by rw [IntKind.wrap_u8]; omega) eb (shr_in (n := 7) (by simp only [IntKind.bits]; omega)) (by omega)
    obtain ⟨env, bs', u, e, g0, g1, hu, hb⟩ := ih (v / 128) (by omega) (bs ++ [((v % 128 + 128 : Nat) : Int)]) (K - 1) (by omega) (by rw [List.length_append, List.length_cons, List.length_nil]; omega) (by omega)
    exact ⟨env, bs', u, by rw [loopH_norm e1 (by omega), e2]; exact e, g0, g1, hu, by rw [hb]; simp⟩
theorem f57n (v : Int) : F57 [.one .nilp, .one (.int .u64 v)] [] = some (.one .nilp, []) := by
  simp -implicitDefEqProofs [F57, c57, upd]
theorem f57 (v : Nat) (bs : List Int) (hv : v < 2 ^ 64) (hl : bs.length ≤ 90000) : F57 [.one (.ptr 0 0), .one (.int .u64 v)] (wHp (some 0) bs) = some (.one (.ptr 0 0), wHp (some 0) (bs ++ grp v)) := by
  have h10 := grp_ten hv
  obtain ⟨env, bs', u, e, g0, g1, hu, hb⟩ := loop57 v v bs KK hv (by omega) (by rw [KK_eq]; omega)
  have hbl := congrArg List.length hb
  simp only [List.length_append, List.length_cons, List.length_nil] at hbl
  have w : IntKind.u8.wrap (u : Int) = u := u8_in _ (by omega)
  have hm : bs'.length + 1 ≤ 140737488355328 := by omega
  simp only [canon57, wHp] at e
  rw [← hb]
  clear hb hbl
  simp -implicitDefEqProofs [F57, c57, upd, wHp, e, g0, g1, w, hm, RC.len, RC.size, RC.app, RC.ofElems]
theorem f58n : F58 [.one .nilp] [] = some (.one (.str ⟨#[]⟩), []) := by
  simp -implicitDefEqProofs [F58, c58, upd]
theorem f58 (bs : List Int) : F58 [.one (.ptr 0 0)] (wHp (some 0) bs) = some (.one (.str (ofBytes bs)), wHp (some 0) bs) := by
  simp -implicitDefEqProofs [F58, c58, upd, wHp]
/-! ### the reader -/
def rHp (g : Option Nat) (l : List Int) (bad : Bool) : List Ob := [.cells g [.str (ofBytes l), .bool bad]]
theorem f78 (s : ByteArray) : F78 [.one (.str s)] [] = some (.one (.ptr 0 0), rHp none (toBytes s) false) := by
  simp -implicitDefEqProofs [F78, c78, upd, rHp, ofBytes_toBytes]
theorem f82n : F82 [.one .nilp] [] = some (.one (.bool true), []) := by
  simp -implicitDefEqProofs [F82, c82, upd]
theorem f82 (l : List Int) (bad : Bool) : F82 [.one (.ptr 0 0)] (rHp (some 0) l bad) = some (.one (.bool bad), rHp (some 0) l bad) := by
  simp -implicitDefEqProofs [F82, c82, upd, rHp]
theorem f99 (l : List Int) (bad : Bool) : F99 [.one (.ptr 0 0)] (rHp (some 0) l bad) = some (.tup [], rHp (some 0) [] true) := by
  simp -implicitDefEqProofs [F99, c99, upd, rHp, ofBytes_nil]
theorem f99n : F99 [.one .nilp] [] = some (.tup [], []) := by
  simp -implicitDefEqProofs [F99, c99, upd]
theorem f81n (n : Int) : F81 [.one .nilp, .one (.int .i64 n)] [] = some (.one (.str ⟨#[]⟩), []) := by
  by_cases h : n < 0
  · simp -implicitDefEqProofs [F81, c81, upd, f82n, f99n, h]
  · simp -implicitDefEqProofs [F81, c81, upd, f82n, f99n, h]
theorem f81b (l : List Int) (n : Int) : F81 [.one (.ptr 0 0), .one (.int .i64 n)] (rHp (some 0) l true) = some (.one (.str (ofBytes [])), rHp (some 0) [] true) := by
  have e82 := f82 l true
  have e99 := f99 l true
  simp only [rHp, ofBytes_nil] at e82 e99 ⊢
  by_cases h : n < 0
  · simp -implicitDefEqProofs [F81, c81, upd, e82, e99, h]
  · simp -implicitDefEqProofs [F81, c81, upd, e82, e99, h]
theorem f81s (l : List Int) (n : Int) (h : (l.length : Int) < n) : F81 [.one (.ptr 0 0), .one (.int .i64 n)] (rHp (some 0) l false) = some (.one (.str (ofBytes [])), rHp (some 0) [] true) := by
  have e82 := f82 l false
  have e99 := f99 l false
  have h0 : ¬ n < 0 := by omega
  simp only [rHp, ofBytes_nil] at e82 e99 ⊢
  simp -implicitDefEqProofs [F81, c81, upd, e82, e99, h0, size_ofBytes, h]
theorem f81 (l : List Int) (n : Int) (m : Nat) (h : m = if n < 0 then 0 else n.toNat) (hm : m ≤ l.length) (hl : l.length ≤ 9223372036854775807) : F81 [.one (.ptr 0 0), .one (.int .i64 n)] (rHp (some 0) l false) = some (.one (.str (ofBytes (l.take m))), rHp (some 0) (l.drop m) false) := by
  have e82 := f82 l false
  have hmi : ¬ ((l.length : Int) < (m : Int)) := by omega
  have hmn : ¬ (l.length < m) := by omega
  have htk : List.take (l.length - m) (List.drop m l) = List.drop m l := List.take_of_length_le (by rw [List.length_drop]; omega)
  simp only [rHp] at e82 ⊢
  by_cases h0 : n < 0
  · rw [if_pos h0] at h
    subst h
    have hl0 : ¬ ((l.length : Int) < 0) := by omega
    simp -implicitDefEqProofs [F81, c81, upd, e82, size_ofBytes, h0, hl0, ofBytes_extract, htk, empty_ofBytes]
  · rw [if_neg h0] at h
    obtain ⟨k, rfl⟩ : ∃ k : Nat, n = k := ⟨n.toNat, by omega⟩
    rw [Int.toNat_natCast] at h
    subst h
    simp -implicitDefEqProofs [F81, c81, upd, e82, size_ofBytes, h0, hmi, hmn, hm, ofBytes_extract, htk]
end Go.X.Try
set_option maxRecDepth 100000
set_option linter.unusedSimpArgs false
namespace Go.X.Try
open Go.IntWalk
def canon98 (v i : Int) (l : List Int) : St := ⟨[(0, .one (.ptr 0 0)), (3, .one (.int .u64 v)), (7, .one (.int .i64 i))], [.ptr 0 0], rHp (some 0) l false⟩
/-- There is no byte. -/
theorem body98a (v i : Int) (hi : i < 10) :
    ∃ env, evC T98 KK b98x0 (canon98 v i []) = some (.ret, ⟨env, [.ptr 0 0], rHp (some 0) [] true⟩) ∧ getT 2 env = .one (.int .u64 0) := by
  have e81 := f81s [] 1 (by simp)
  simp only [rHp, ofBytes_nil] at e81
  simp -implicitDefEqProofs [b98x0, canon98, rHp, upd, hi, e81, ofBytes_nil]
section
variable (v i b c : Int) (l : List Int) (e81 : F81 [.one (.ptr 0 0), .one (.int .i64 1)] (rHp (some 0) (b :: l) false) = some (.one (.str (ofBytes [b])), rHp (some 0) l false)) (ht : toBytes (ofBytes [b]) = [b]) (ec : IntKind.u64.wrap b = b)
include e81 ht ec
/-- A byte that may not be. -/
theorem body98b (hi : i < 10) (hbad : i = 9 ∧ 1 < b ∨ 0 < i ∧ b = 0) :
    ∃ env, evC T98 KK b98x0 (canon98 v i (b :: l)) = some (.exit 0, ⟨env, [.ptr 0 0], rHp (some 0) l false⟩) ∧ getT 0 env = .one (.ptr 0 0) := by
  simp only [rHp] at e81
  have hs := size_ofBytes [b]
  have he := emptyS [b]
  by_cases h9 : i = 9
  · subst h9
    by_cases h1 : 1 < b
    · simp -implicitDefEqProofs [b98x0, canon98, rHp, upd, e81, ht, ec, hs, he, h1]
    · have hb : b = 0 := by omega
      subst hb
      simp -implicitDefEqProofs [b98x0, canon98, rHp, upd, e81, ht, ec, hs, he]
  · have h0 : 0 < i := by omega
    have hb : b = 0 := by omega
    subst hb
    simp -implicitDefEqProofs [b98x0, canon98, rHp, upd, hi, e81, ht, ec, hs, he, h9, h0]
/-- The last byte. -/
theorem body98c (m s p v' : Int) (hi : i < 10) (hi0 : 0 ≤ i) (hok : ¬ (i = 9 ∧ 1 < b) ∧ ¬ (0 < i ∧ b = 0)) (hlt : b < 128) (em : bitsI .and .u64 b 127 = m) (es : IntKind.i64.wrap (7 * i) = s) (hs0 : ¬ s < 0) (ep : shlI .u64 m s = p) (ev : bitsI .or .u64 v p = v') :
    ∃ env, evC T98 KK b98x0 (canon98 v i (b :: l)) = some (.ret, ⟨env, [.ptr 0 0], rHp (some 0) l false⟩) ∧ getT 2 env = .one (.int .u64 v') := by
  simp only [rHp] at e81
  have hs := size_ofBytes [b]
  have he := emptyS [b]
  by_cases h9 : i = 9
  · subst h9
    have h1 : ¬ 1 < b := by omega
    have hb : ¬ b = 0 := by omega
    simp only [show (7 : Int) * 9 = 63 from rfl] at es
    simp -implicitDefEqProofs [b98x0, canon98, rHp, upd, e81, ht, ec, hs, he, h1, hb, em, es, hs0, ep, ev, hlt]
  · by_cases h0 : 0 < i
    · have hb : ¬ b = 0 := by omega
      simp -implicitDefEqProofs [b98x0, canon98, rHp, upd, hi, e81, ht, ec, hs, he, h9, h0, hb, em, es, hs0, ep, ev, hlt]
    · have hi : i = 0 := by omega
      subst hi
      simp only [Int.mul_zero] at es
      simp -implicitDefEqProofs [b98x0, canon98, rHp, upd, e81, ht, ec, hs, he, em, es, hs0, ep, ev, hlt]
/-- A byte, and more behind it. -/
theorem body98d (m s p v' i' : Int) (hi : i < 10) (hi0 : 0 ≤ i) (hok : ¬ (i = 9 ∧ 1 < b)) (hlt : 128 ≤ b) (em : bitsI .and .u64 b 127 = m) (es : IntKind.i64.wrap (7 * i) = s) (hs0 : ¬ s < 0) (ep : shlI .u64 m s = p) (ev : bitsI .or .u64 v p = v') (ei : IntKind.i64.wrap (i + 1) = i') :
    ∃ st1, evC T98 KK b98x0 (canon98 v i (b :: l)) = some (.norm, st1) ∧ St.head [0, 3, 7] st1 = canon98 v' i' l := by
  simp only [rHp] at e81
  have hs := size_ofBytes [b]
  have he := emptyS [b]
  have h9 : ¬ i = 9 := by omega
  have hb : ¬ b = 0 := by omega
  have hlt' : ¬ b < 128 := by omega
  by_cases h0 : 0 < i
  · simp -implicitDefEqProofs [b98x0, canon98, rHp, upd, hi, e81, ht, ec, hs, he, h9, h0, hb, em, es, hs0, ep, ev, ei, hlt', hlt]
  · have hi : i = 0 := by omega
    subst hi
    simp only [Int.mul_zero, Int.zero_add] at es ei
    simp -implicitDefEqProofs [b98x0, canon98, rHp, upd, e81, ht, ec, hs, he, em, es, hs0, ep, ev, ei, hlt', hlt]
end
/-- The number in groups at the beginning, and what stands behind. -/
def gdec : Nat → Nat → List Int → Option (Nat × List Int)
  | _, _, [] => none
  | i, v, b :: l => if i = 9 ∧ 1 < b ∨ 0 < i ∧ b = 0 then none else if b < 128 then some (v + b.toNat % 128 * 2 ^ (7 * i), l) else gdec (i + 1) (v + b.toNat % 128 * 2 ^ (7 * i)) l
theorem gdec_grp (l : List Int) (a : Nat) : ∀ (i v : Nat), i ≤ 9 → a * 2 ^ (7 * i) < 2 ^ 64 → (i = 0 ∨ 0 < a) → gdec i v (grp a ++ l) = some (v + a * 2 ^ (7 * i), l) := by
  induction a using Nat.strongRecOn with
  | ind a ih =>
  intro i v hi ha h0
  by_cases h : a < 128
  · rw [grp_lt h]
    simp only [List.cons_append, List.nil_append, gdec, Int.toNat_natCast]
    rw [if_neg, if_pos (by omega), Nat.mod_eq_of_lt h]
    rintro (⟨rfl, h1⟩ | ⟨h1, h2⟩)
    · omega
    · omega
  · rw [grp_ge h]
    have h9 : i ≠ 9 := by
      rintro rfl
      omega
    have hp : 2 ^ (7 * (i + 1)) = 128 * 2 ^ (7 * i) := by rw [Nat.mul_add, Nat.pow_add]; omega
    have hle : a / 128 * (128 * 2 ^ (7 * i)) ≤ a * 2 ^ (7 * i) := by
      rw [← Nat.mul_assoc]
      exact Nat.mul_le_mul_right _ (by omega)
    simp only [List.cons_append, gdec, Int.toNat_natCast]
    rw [if_neg (by omega), if_neg (by omega), ih (a / 128) (by omega) (i + 1) _ (by omega) (by rw [hp]; omega) (.inr (by omega)), hp]
    congr 2
    have e1 : (a % 128 + 128) % 128 = a % 128 := by omega
    rw [e1, ← Nat.mul_assoc, Nat.add_assoc, ← Nat.add_mul]
    congr 2
    omega
theorem and127 {b : Int} (h : 0 ≤ b ∧ b < 256) : bitsI .and .u64 b 127 = ((b.toNat % 128 : Nat) : Int) := by
  obtain ⟨n, rfl⟩ : ∃ n : Nat, b = n := ⟨b.toNat, by omega⟩
  have := mask_and (k := .u64) (x := n) (n := 7) rfl (by simp only [IntKind.bits]; omega) (by simp only [IntKind.bits]; omega)
  simpa using this
theorem loop98 : ∀ (l : List Int) (i v : Nat) (K : Nat), isB l → l.length ≤ 90000 → i ≤ 9 → v < 2 ^ (7 * i) → 12 ≤ i + K →
    match gdec i v l with
    | some (u, rest) => ∃ env, loopH (evC T98 KK b98x0) [0, 3, 7] K (canon98 v i l) = some (.ret, ⟨env, [.ptr 0 0], rHp (some 0) rest false⟩) ∧ getT 2 env = .one (.int .u64 (u : Nat))
    | none => (∃ env, loopH (evC T98 KK b98x0) [0, 3, 7] K (canon98 v i l) = some (.ret, ⟨env, [.ptr 0 0], rHp (some 0) [] true⟩) ∧ getT 2 env = .one (.int .u64 0)) ∨ (∃ env rest, loopH (evC T98 KK b98x0) [0, 3, 7] K (canon98 v i l) = some (.exit 0, ⟨env, [.ptr 0 0], rHp (some 0) rest false⟩) ∧ getT 0 env = .one (.ptr 0 0))
  | [], i, v, K, _, _, hi, _, hK => by
    simp only [gdec]
    obtain ⟨env, e, g⟩ := body98a v i (by omega)
    exact .inl ⟨env, loopH_ret e, g⟩
  | b :: l, i, v, K, hB, hl, hi, hv, hK => by
    have hb := hB b (by simp)
    have hl' : l.length ≤ 90000 := by simp only [List.length_cons] at hl; omega
    have e81 := f81 (b :: l) 1 1 rfl (by simp) (by simp only [List.length_cons] at hl ⊢; omega)
    simp only [List.take_succ_cons, List.take_zero, List.drop_succ_cons, List.drop_zero] at e81
    have ht := toBytes_ofBytes (isB_one hb)
    have ec : IntKind.u64.wrap b = b := u64_in _ (by omega)
    have es : IntKind.i64.wrap (7 * (i : Int)) = ((7 * i : Nat) : Int) := by rw [i64_in _ (by omega)]; omega
    simp only [gdec]
    by_cases hbad : i = 9 ∧ 1 < b ∨ 0 < i ∧ b = 0
    · rw [if_pos hbad]
      obtain ⟨env, e, g⟩ := body98b v i b l e81 ht ec (by omega) (by omega)
      exact .inr ⟨env, l, loopH_exit e, g⟩
    · rw [if_neg hbad]
      have hfit : v + b.toNat % 128 * 2 ^ (7 * i) < 2 ^ 64 := by
        rcases Nat.lt_or_ge i 9 with h9 | h9
        · have e1 : (b.toNat % 128 + 1) * 2 ^ (7 * i) ≤ 128 * 2 ^ (7 * i) := Nat.mul_le_mul_right _ (by omega)
          have e2 : 128 * 2 ^ (7 * i) = 2 ^ (7 * i + 7) := by rw [Nat.pow_add]; omega
          have e3 : 2 ^ (7 * i + 7) ≤ 2 ^ 64 := Nat.pow_le_pow_right (by omega) (by omega)
          rw [Nat.add_mul, Nat.one_mul] at e1
          omega
        · obtain rfl : i = 9 := by omega
          have : b.toNat ≤ 1 := by omega
          have e1 : b.toNat % 128 * 2 ^ (7 * 9) ≤ 1 * 2 ^ (7 * 9) := Nat.mul_le_mul_right _ (by omega)
          omega
      have ep : shlI .u64 ((b.toNat % 128 : Nat) : Int) ((7 * i : Nat) : Int) = ((b.toNat % 128 * 2 ^ (7 * i) : Nat) : Int) := shl_in rfl (by simp only [IntKind.bits]; omega) (by simp only [IntKind.bits]; omega)
      have ev : bitsI .or .u64 (v : Int) ((b.toNat % 128 * 2 ^ (7 * i) : Nat) : Int) = ((v + b.toNat % 128 * 2 ^ (7 * i) : Nat) : Int) := or_add rfl hv (by simp only [IntKind.bits]; exact hfit)
      by_cases hlt : b < 128
      · rw [if_pos hlt]
        obtain ⟨env, e, g⟩ := body98c v i b l e81 ht ec _ _ _ _ (by omega) (by omega) (by omega) hlt (and127 hb) es (by omega) ep ev
        exact ⟨env, loopH_ret e, g⟩
      · rw [if_neg hlt]
        have hi9 : i ≠ 9 := by omega
        have hv' : v + b.toNat % 128 * 2 ^ (7 * i) < 2 ^ (7 * (i + 1)) := by
          have e1 : (b.toNat % 128 + 1) * 2 ^ (7 * i) ≤ 128 * 2 ^ (7 * i) := Nat.mul_le_mul_right _ (by omega)
          rw [Nat.add_mul, Nat.one_mul] at e1
          rw [Nat.mul_add, Nat.pow_add]
          omega
        obtain ⟨st1, e1, e2⟩ := body98d v i b l e81 ht ec _ _ _ _ ((i + 1 : Nat) : Int) (by omega) (by omega) (by omega) (by omega) (and127 hb) es (by omega) ep ev (by rw [i64_in _ (by omega)]; omega)
        have hK2 : 1 < K := by omega
        have next := loop98 l (i + 1) (v + b.toNat % 128 * 2 ^ (7 * i)) (K - 1) hB.tail hl' (by omega) hv' (by omega)
        cases hg : gdec (i + 1) (v + b.toNat % 128 * 2 ^ (7 * i)) l with
        | none =>
          rw [hg] at next
          simp only at next ⊢
          rcases next with ⟨env, e, g⟩ | ⟨env, rest, e, g⟩
          · exact .inl ⟨env, by rw [loopH_norm e1 hK2, e2]; exact e, g⟩
          · exact .inr ⟨env, rest, by rw [loopH_norm e1 hK2, e2]; exact e, g⟩
        | some p =>
          obtain ⟨u, rest⟩ := p
          rw [hg] at next
          simp only at next ⊢
          obtain ⟨env, e, g⟩ := next
          exact ⟨env, by rw [loopH_norm e1 hK2, e2]; exact e, g⟩
/-- What a reader of groups answers, and what is left. -/
def gAns (l : List Int) : Nat × List Int × Bool := match gdec 0 0 l with
  | some (v, rest) => (v, rest, false)
  | none => (0, [], true)
theorem f98 (l : List Int) (hB : isB l) (hl : l.length ≤ 90000) : F98 [.one (.ptr 0 0)] (rHp (some 0) l false) = some (.one (.int .u64 (gAns l).1), rHp (some 0) (gAns l).2.1 (gAns l).2.2) := by
  have h := loop98 l 0 0 KK hB hl (by omega) (by simp) (by rw [KK_eq]; omega)
  have z : ((0 : Nat) : Int) = 0 := rfl
  unfold gAns
  cases hg : gdec 0 0 l with
  | none =>
    rw [hg] at h
    simp only [canon98, rHp, z] at h ⊢
    rcases h with ⟨env, e, g⟩ | ⟨env, rest, e, g⟩
    · simp -implicitDefEqProofs [F98, c98, upd, e, g, ofBytes_nil]
    · have e99 := f99 rest false
      simp only [rHp] at e99
      simp -implicitDefEqProofs [F98, c98, upd, e, g, e99, ofBytes_nil]
  | some p =>
    obtain ⟨u, rest⟩ := p
    rw [hg] at h
    simp only [canon98, rHp, z] at h ⊢
    obtain ⟨env, e, g⟩ := h
    simp -implicitDefEqProofs [F98, c98, upd, e, g]
theorem f98b (l : List Int) : F98 [.one (.ptr 0 0)] (rHp (some 0) l true) = some (.one (.int .u64 0), rHp (some 0) [] true) := by
  have e81 := f81b l 1
  have body : ∃ env, evC T98 KK b98x0 ⟨[(0, .one (.ptr 0 0)), (3, .one (.int .u64 0)), (7, .one (.int .i64 0))], [.ptr 0 0], rHp (some 0) l true⟩ = some (.ret, ⟨env, [.ptr 0 0], rHp (some 0) [] true⟩) ∧ getT 2 env = .one (.int .u64 0) := by
    simp only [rHp, ofBytes_nil] at e81 ⊢
    simp -implicitDefEqProofs [b98x0, upd, e81]
  obtain ⟨env, e, g⟩ := body
  have e' := loopH_ret (live := [0, 3, 7]) (k := KK) e
  simp only [rHp] at e' ⊢
  simp -implicitDefEqProofs [F98, c98, upd, e', g]
theorem f98n : F98 [.one .nilp] [] = some (.one (.int .u64 0), []) := by
  have e81 := f81n 1
  have body : ∃ env, evC T98 KK b98x0 ⟨[(0, .one .nilp), (3, .one (.int .u64 0)), (7, .one (.int .i64 0))], [.nilp], []⟩ = some (.ret, ⟨env, [.nilp], []⟩) ∧ getT 2 env = .one (.int .u64 0) := by
    simp -implicitDefEqProofs [b98x0, upd, e81]
  obtain ⟨env, e, g⟩ := body
  have e' := loopH_ret (live := [0, 3, 7]) (k := KK) e
  simp -implicitDefEqProofs [F98, c98, upd, e', g]
end Go.X.Try
set_option maxRecDepth 100000
set_option linter.unusedSimpArgs false
namespace Go.X.Try
open Go.IntWalk
theorem f63n (s : ByteArray) : F63 [.one .nilp, .one (.str s)] [] = some (.one .nilp, []) := by
  simp -implicitDefEqProofs [F63, c63, upd]
theorem f63 (s : ByteArray) (bs : List Int) (h : bs.length + s.size ≤ 140737488355328) : F63 [.one (.ptr 0 0), .one (.str s)] (wHp (some 0) bs) = some (.one (.ptr 0 0), wHp (some 0) (bs ++ toBytes s)) := by
  have hm : bs.length + (toBytes s).length ≤ 140737488355328 := by rw [size_toBytes]; exact h
  simp -implicitDefEqProofs [F63, c63, upd, wHp, hm, RC.len, RC.size, RC.app]
/-- What a reader of so many bytes answers, and what is left. -/
def rAns (l : List Int) (n : Int) : List Int × List Int × Bool := if (l.length : Int) < n then ([], [], true) else (l.take n.toNat, l.drop n.toNat, false)
theorem f81' (l : List Int) (n : Int) (hl : l.length ≤ 90000) : F81 [.one (.ptr 0 0), .one (.int .i64 n)] (rHp (some 0) l false) = some (.one (.str (ofBytes (rAns l n).1)), rHp (some 0) (rAns l n).2.1 (rAns l n).2.2) := by
  unfold rAns
  by_cases h : (l.length : Int) < n
  · rw [if_pos h]; exact f81s l n h
  · rw [if_neg h]
    by_cases h0 : n < 0
    · have e : n.toNat = 0 := by omega
      rw [e]
      exact f81 l n 0 (by rw [if_pos h0]) (by omega) (by omega)
    · exact f81 l n n.toNat (by rw [if_neg h0]) (by omega) (by omega)
/-- .. a number in groups, not above another one. -/
def iAns (l : List Int) (most : Int) : Nat × List Int × Bool := if (gAns l).2.2 = true ∨ most < 0 ∨ most < (gAns l).1 then (0, [], true) else gAns l
theorem f79b (l : List Int) (most : Int) : F79 [.one (.ptr 0 0), .one (.int .i64 most)] (rHp (some 0) l true) = some (.one (.int .i64 0), rHp (some 0) [] true) := by
  have e98 := f98b l
  have e82 := f82 [] true
  have e99 := f99 [] true
  simp only [rHp] at e98 e82 e99 ⊢
  simp -implicitDefEqProofs [F79, c79, upd, e98, e82, e99]
theorem gdec_lt : ∀ (l : List Int) (i v u : Nat) (r : List Int), isB l → i ≤ 9 → v < 2 ^ (7 * i) → gdec i v l = some (u, r) → u < 2 ^ 64
  | [], _, _, _, _, _, _, _, h => by simp [gdec] at h
  | b :: l, i, v, u, r, hB, hi, hv, h => by
    have hb := hB b (by simp)
    simp only [gdec] at h
    by_cases hbad : i = 9 ∧ 1 < b ∨ 0 < i ∧ b = 0
    · rw [if_pos hbad] at h; cases h
    · rw [if_neg hbad] at h
      by_cases hlt : b < 128
      · rw [if_pos hlt] at h
        simp only [Option.some.injEq, Prod.mk.injEq] at h
        rw [← h.1]
        rcases Nat.lt_or_ge i 9 with h9 | h9
        · have e1 : (b.toNat % 128 + 1) * 2 ^ (7 * i) ≤ 128 * 2 ^ (7 * i) := Nat.mul_le_mul_right _ (by omega)
          have e2 : 128 * 2 ^ (7 * i) = 2 ^ (7 * i + 7) := by rw [Nat.pow_add]; omega
          have e3 : 2 ^ (7 * i + 7) ≤ 2 ^ 64 := Nat.pow_le_pow_right (by omega) (by omega)
          rw [Nat.add_mul, Nat.one_mul] at e1
          omega
        · obtain rfl : i = 9 := by omega
          have : b.toNat ≤ 1 := by omega
          have e1 : b.toNat % 128 * 2 ^ (7 * 9) ≤ 1 * 2 ^ (7 * 9) := Nat.mul_le_mul_right _ (by omega)
          omega
      · rw [if_neg hlt] at h
        have hv' : v + b.toNat % 128 * 2 ^ (7 * i) < 2 ^ (7 * (i + 1)) := by
          have e1 : (b.toNat % 128 + 1) * 2 ^ (7 * i) ≤ 128 * 2 ^ (7 * i) := Nat.mul_le_mul_right _ (by omega)
          rw [Nat.add_mul, Nat.one_mul] at e1
          rw [Nat.mul_add, Nat.pow_add]
          omega
        exact gdec_lt l (i + 1) _ u r hB.tail (by omega) hv' h
theorem gdec_len : ∀ (l : List Int) (i v u : Nat) (r : List Int), gdec i v l = some (u, r) → r.length < l.length
  | [], _, _, _, _, h => by simp [gdec] at h
  | b :: l, i, v, u, r, h => by
    simp only [gdec] at h
    split at h
    · cases h
    · split at h
      · simp only [Option.some.injEq, Prod.mk.injEq] at h
        rw [← h.2]; simp
      · have := gdec_len l _ _ u r h
        simp only [List.length_cons]; omega
theorem gdec_isB : ∀ (l : List Int) (i v u : Nat) (r : List Int), isB l → gdec i v l = some (u, r) → isB r
  | [], _, _, _, _, _, h => by simp [gdec] at h
  | b :: l, i, v, u, r, hB, h => by
    simp only [gdec] at h
    split at h
    · cases h
    · split at h
      · simp only [Option.some.injEq, Prod.mk.injEq] at h
        rw [← h.2]; exact hB.tail
      · exact gdec_isB l _ _ u r hB.tail h
theorem gAns_ok (l : List Int) (hB : isB l) : (gAns l).1 < 2 ^ 64 ∧ isB (gAns l).2.1 ∧ (gAns l).2.1.length ≤ l.length := by
  unfold gAns
  cases h : gdec 0 0 l with
  | none => simp [isB]
  | some p =>
    obtain ⟨u, r⟩ := p
    have := gdec_len l 0 0 u r h
    exact ⟨gdec_lt l 0 0 u r hB (by omega) (by simp) h, gdec_isB l 0 0 u r hB h, by simp only; omega⟩
theorem f79 (l : List Int) (most : Int) (hm : most ≤ 9223372036854775807) (hB : isB l) (hl : l.length ≤ 90000) : F79 [.one (.ptr 0 0), .one (.int .i64 most)] (rHp (some 0) l false) = some (.one (.int .i64 (iAns l most).1), rHp (some 0) (iAns l most).2.1 (iAns l most).2.2) := by
  have e98 := f98 l hB hl
  have hlt := (gAns_ok l hB).1
  have e82 := f82 (gAns l).2.1 (gAns l).2.2
  have e99 := f99 (gAns l).2.1 (gAns l).2.2
  unfold iAns
  generalize hq : gAns l = q at *
  obtain ⟨v', r, bad⟩ := q
  simp only at e98 e82 e99 hlt ⊢
  simp only [rHp] at e98 e82 e99 ⊢
  cases bad with
  | true => simp -implicitDefEqProofs [F79, c79, upd, e98, e82, e99]
  | false =>
    by_cases h0 : most < 0
    · simp -implicitDefEqProofs [F79, c79, upd, e98, e82, e99, h0]
    · have w : IntKind.u64.wrap most = most := u64_in _ (by omega)
      by_cases h1 : most < (v' : Int)
      · simp -implicitDefEqProofs [F79, c79, upd, e98, e82, e99, h0, w, h1]
      · have w2 : IntKind.i64.wrap (v' : Int) = v' := i64_in _ (by omega)
        simp -implicitDefEqProofs [F79, c79, upd, e98, e82, e99, h0, w, w2, h1]
/-- .. of a text. -/
def tAns (l : List Int) (most : Int) : List Int × List Int × Bool := if (iAns l most).2.2 = true then ([], [], true) else rAns (iAns l most).2.1 (iAns l most).1
theorem f83 (l : List Int) (bad : Bool) (hl : l.length ≤ 90000) : F83 [.one (.ptr 0 0)] (rHp (some 0) l bad) = some (.one (.str (ofBytes (if bad = true then [] else l))), rHp (some 0) (if bad = true then l else []) bad) := by
  have e82 := f82 l bad
  cases bad with
  | true =>
    simp only [rHp, if_true] at e82 ⊢
    simp -implicitDefEqProofs [F83, c83, upd, e82, ofBytes_nil]
  | false =>
    have e81 := f81 l l.length l.length (by rw [if_neg (by omega), Int.toNat_natCast]) (Nat.le_refl _) (by omega)
    simp only [List.take_length, List.drop_length] at e81
    simp only [rHp] at e82 e81 ⊢
    simp -implicitDefEqProofs [F83, c83, upd, e82, size_ofBytes, e81]
theorem gAns_grp (a : Nat) (l : List Int) (ha : a < 2 ^ 64) : gAns (grp a ++ l) = (a, l, false) := by
  unfold gAns
  rw [gdec_grp l a 0 0 (by omega) (by simpa using ha) (.inl rfl)]
  simp
theorem grp_mono : ∀ (b a : Nat), a ≤ b → (grp a).length ≤ (grp b).length := by
  intro b
  induction b using Nat.strongRecOn with
  | ind b ih =>
  intro a hab
  by_cases ha : a < 128
  · rw [grp_lt ha]
    by_cases hb : b < 128
    · rw [grp_lt hb]; simp
    · rw [grp_ge hb]; simp
  · rw [grp_ge ha, grp_ge (by omega : ¬ b < 128), List.length_cons, List.length_cons]
    have := ih (b / 128) (by omega) (a / 128) (by omega)
    omega
theorem grp_pos (a : Nat) : 1 ≤ (grp a).length := by
  have := grp_mono a 0 (by omega)
  rw [grp_lt (by omega)] at this
  simpa using this
theorem grp_inj {a b : Nat} (ha : a < 2 ^ 64) (hb : b < 2 ^ 64) : grp a = grp b ↔ a = b := by
  refine ⟨fun h => ?_, fun h => by rw [h]⟩
  have h1 := gAns_grp a [] ha
  rw [h, gAns_grp b [] hb] at h1
  simp only [Prod.mk.injEq] at h1
  exact h1.1.symm
end Go.X.Try
set_option maxRecDepth 100000
set_option linter.unusedSimpArgs false
namespace Go.X.Try
open Go.IntWalk
def sz (n : Int) : Nat := if n < 0 then 0 else if 8 < n then 8 else n.toNat
theorem sz_le (n : Int) : sz n ≤ 8 := by unfold sz; split; omega; split <;> omega
theorem f94 (n : Int) : F94 [.one (.int .i64 n)] [] = some (.one (.int .i64 (sz n)), []) := by
  unfold sz
  by_cases h : n < 0
  · simp -implicitDefEqProofs [F94, c94, upd, h]
  · by_cases h8 : 8 < n
    · simp -implicitDefEqProofs [F94, c94, upd, h, h8]
    · have e : ((n.toNat : Nat) : Int) = n := by omega
      simp -implicitDefEqProofs [F94, c94, upd, h, h8, e]
/-- A number in so many bytes. -/
def fixB : Nat → Nat → List Int
  | _, 0 => []
  | v, n + 1 => ((v % 256 : Nat) : Int) :: fixB (v / 256) n
theorem fixB_length : ∀ (n v : Nat), (fixB v n).length = n
  | 0, _ => rfl
  | n + 1, v => by simp [fixB, fixB_length n]
theorem fixB_isB : ∀ (n v : Nat), isB (fixB v n)
  | 0, _ => by simp [fixB, isB]
  | n + 1, v => fun b hb => by
    rcases List.mem_cons.1 hb with rfl | hb
    · omega
    · exact fixB_isB n _ b hb
def canon59 (v0 n0 v m i : Int) (bs : List Int) : St := ⟨[(0, .one (.ptr 0 0)), (1, .one (.int .u64 v)), (10, .one (.int .i64 m)), (11, .one (.int .i64 i))], [.ptr 0 0, .int .u64 v0, .int .i64 n0], wHp (some 0) bs⟩
theorem body59 (v0 n0 v m i b v' i' : Int) (bs : List Int) (hi : i < m) (eb : IntKind.u8.wrap v = b) (es : shrI .u64 v 8 = v') (ei : IntKind.i64.wrap (i + 1) = i') (hm : bs.length + 1 ≤ 140737488355328) :
    ∃ st1, evC T59 KK b59x0 (canon59 v0 n0 v m i bs) = some (.norm, st1) ∧ St.head [0, 1, 10, 11] st1 = canon59 v0 n0 v' m i' (bs ++ [b]) := by
  simp -implicitDefEqProofs [b59x0, canon59, wHp, upd, hi, eb, es, ei, hm, RC.len, RC.size, RC.app, RC.ofElems]
theorem end59 (v0 n0 v m i : Int) (bs : List Int) (hi : ¬ i < m) :
    ∃ env, evC T59 KK b59x0 (canon59 v0 n0 v m i bs) = some (.exit 0, ⟨env, [.ptr 0 0, .int .u64 v0, .int .i64 n0], wHp (some 0) bs⟩) ∧ getT 0 env = .one (.ptr 0 0) := by
  simp -implicitDefEqProofs [b59x0, canon59, upd, hi]
theorem loop59 (v0 n0 : Int) (m : Nat) (hm : m ≤ 8) : ∀ (j i v : Nat) (bs : List Int) (K : Nat), i + j = m → v < 2 ^ 64 → bs.length + j ≤ 100000 → j < K →
    ∃ env, loopH (evC T59 KK b59x0) [0, 1, 10, 11] K (canon59 v0 n0 v m i bs) = some (.exit 0, ⟨env, [.ptr 0 0, .int .u64 v0, .int .i64 n0], wHp (some 0) (bs ++ fixB v j)⟩) ∧ getT 0 env = .one (.ptr 0 0)
  | 0, i, v, bs, K, hi, hv, hl, hK => by
    obtain ⟨env, e, g⟩ := end59 v0 n0 v m i bs (by omega)
    exact ⟨env, by rw [loopH_exit e]; simp [fixB], g⟩
  | j + 1, i, v, bs, K, hi, hv, hl, hK => by
    obtain ⟨st1, e1, e2⟩ := body59 v0 n0 v m i (v % 256 : Nat) (v / 256 : Nat) (i + 1 : Nat) bs (by omega) (by rw [IntKind.wrap_u8]; omega) (shr_in (n := 8) (by simp only [IntKind.bits]; omega)) (by rw [i64_in _ (by omega)]; omega) (by omega)
    obtain ⟨env, e, g⟩ := loop59 v0 n0 m hm j (i + 1) (v / 256) (bs ++ [((v % 256 : Nat) : Int)]) (K - 1) (by omega) (by omega) (by rw [List.length_append, List.length_cons, List.length_nil]; omega) (by omega)
    exact ⟨env, by rw [loopH_norm e1 (by omega), e2, e]; simp [fixB], g⟩
theorem f59 (v : Nat) (n : Int) (bs : List Int) (hv : v < 2 ^ 64) (hl : bs.length ≤ 90000) : F59 [.one (.ptr 0 0), .one (.int .u64 v), .one (.int .i64 n)] (wHp (some 0) bs) = some (.one (.ptr 0 0), wHp (some 0) (bs ++ fixB v (sz n))) := by
  have h8 := sz_le n
  have e94 := f94 n
  obtain ⟨env, e, g⟩ := loop59 v n (sz n) h8 (sz n) 0 v bs KK (by omega) hv (by omega) (by rw [KK_eq]; omega)
  have z : ((0 : Nat) : Int) = 0 := rfl
  simp only [canon59, wHp, z] at e
  simp -implicitDefEqProofs [F59, c59, upd, wHp, e94, e, g]
def canon65 (v0 n0 v : Int) (l : List Int) (i : Int) : St := ⟨[(0, .one (.int .u64 v)), (1, .one (.int .i64 n0)), (5, .one (.str (ofBytes l))), (6, .one (.int .i64 i))], [.int .u64 v0, .int .i64 n0], []⟩
theorem body65 (v0 n0 v r b v' i i' : Int) (l : List Int) (hi : i < n0) (hi8 : i < 8) (er : v.tmod 256 = r) (eb : IntKind.u8.wrap r = b) (es : IntKind.u64.wrap (v.tdiv 256) = v') (ei : IntKind.i64.wrap (i + 1) = i') (hm : l.length + 1 ≤ 9223372036854775807) :
    ∃ st1, evC T65 KK b65x0 (canon65 v0 n0 v l i) = some (.norm, st1) ∧ St.head [0, 1, 5, 6] st1 = canon65 v0 n0 v' (l ++ [b]) i' := by
  have e1 := ofBytes_append l [b]
  have e2 := size_ofBytes [b]
  have e3 := size_ofBytes l
  simp -implicitDefEqProofs [b65x0, canon65, upd, hi, hi8, er, eb, es, ei, hm, e1, e2, e3, RC.len, RC.size, RC.app, RC.ofElems]
theorem end65 (v0 n0 v i : Int) (l : List Int) (hi : n0 ≤ i ∨ 8 ≤ i) :
    ∃ env, evC T65 KK b65x0 (canon65 v0 n0 v l i) = some (.exit 0, ⟨env, [.int .u64 v0, .int .i64 n0], []⟩) ∧ getT 5 env = .one (.str (ofBytes l)) := by
  by_cases h : i < n0
  · have h8 : ¬ i < 8 := by omega
    simp -implicitDefEqProofs [b65x0, canon65, upd, h, h8]
  · simp -implicitDefEqProofs [b65x0, canon65, upd, h]
theorem loop65 (v0 n0 : Int) : ∀ (j i v : Nat) (l : List Int) (K : Nat), i + j = sz n0 → v < 2 ^ 64 → l.length ≤ i → j < K →
    ∃ env, loopH (evC T65 KK b65x0) [0, 1, 5, 6] K (canon65 v0 n0 v l i) = some (.exit 0, ⟨env, [.int .u64 v0, .int .i64 n0], []⟩) ∧ getT 5 env = .one (.str (ofBytes (l ++ fixB v j)))
  | 0, i, v, l, K, hi, hv, hl, hK => by
    obtain ⟨env, e, g⟩ := end65 v0 n0 v i l (by unfold sz at hi; split at hi; omega; split at hi <;> omega)
    exact ⟨env, loopH_exit e, by rw [g]; simp [fixB]⟩
  | j + 1, i, v, l, K, hi, hv, hl, hK => by
    have h8 := sz_le n0
    have hlt : (i : Int) < n0 := by unfold sz at hi; split at hi; omega; split at hi <;> omega
    obtain ⟨st1, e1, e2⟩ := body65 v0 n0 v (v % 256 : Nat) (v % 256 : Nat) (v / 256 : Nat) i (i + 1 : Nat) l hlt (by omega) (by rw [Int.tmod_eq_emod_of_nonneg (by omega)]; omega) (u8_in _ (by omega)) (by rw [Int.tdiv_eq_ediv_of_nonneg (by omega), u64_in _ (by omega)]; omega) (by rw [i64_in _ (by omega)]; omega) (by omega)
    obtain ⟨env, e, g⟩ := loop65 v0 n0 j (i + 1) (v / 256) (l ++ [((v % 256 : Nat) : Int)]) (K - 1) (by omega) (by omega) (by rw [List.length_append, List.length_cons, List.length_nil]; omega) (by omega)
    exact ⟨env, by rw [loopH_norm e1 (by omega), e2]; exact e, by rw [g]; simp [fixB]⟩
theorem f65 (v : Nat) (n : Int) (hv : v < 2 ^ 64) : F65 [.one (.int .u64 v), .one (.int .i64 n)] [] = some (.one (.str (ofBytes (fixB v (sz n)))), []) := by
  have h8 := sz_le n
  obtain ⟨env, e, g⟩ := loop65 v n (sz n) 0 v [] KK (by omega) hv (Nat.le_refl _) (by rw [KK_eq]; omega)
  have z : ((0 : Nat) : Int) = 0 := rfl
  simp only [canon65, ofBytes_nil, z, List.nil_append] at e g
  simp -implicitDefEqProofs [F65, c65, upd, e, g]
def canon64 (v0 v : Int) (l : List Int) : St := ⟨[(0, .one (.int .u64 v)), (3, .one (.str (ofBytes l)))], [.int .u64 v0], []⟩
theorem body64 (v0 v r s b v' : Int) (l : List Int) (hv : 128 ≤ v) (er : v.tmod 128 = r) (es : IntKind.u64.wrap (r + 128) = s) (eb : IntKind.u8.wrap s = b) (ev : IntKind.u64.wrap (v.tdiv 128) = v') (hm : l.length + 1 ≤ 9223372036854775807) :
    ∃ st1, evC T64 KK b64x0 (canon64 v0 v l) = some (.norm, st1) ∧ St.head [0, 3] st1 = canon64 v0 v' (l ++ [b]) := by
  have e1 := ofBytes_append l [b]
  have e2 := size_ofBytes [b]
  have e3 := size_ofBytes l
  simp -implicitDefEqProofs [b64x0, canon64, upd, hv, er, es, eb, ev, hm, e1, e2, e3, RC.len, RC.size, RC.app, RC.ofElems]
theorem end64 (v0 v : Int) (l : List Int) (hv : ¬ 128 ≤ v) :
    ∃ env, evC T64 KK b64x0 (canon64 v0 v l) = some (.exit 0, ⟨env, [.int .u64 v0], []⟩) ∧ getT 0 env = .one (.int .u64 v) ∧ getT 3 env = .one (.str (ofBytes l)) := by
  simp -implicitDefEqProofs [b64x0, canon64, upd, hv]
theorem loop64 (v0 : Int) (v : Nat) : ∀ (l : List Int) (K : Nat), v < 2 ^ 64 → l.length ≤ 90000 → (grp v).length < K → (grp v).length + l.length ≤ 90000 →
    ∃ env l' u, loopH (evC T64 KK b64x0) [0, 3] K (canon64 v0 v l) = some (.exit 0, ⟨env, [.int .u64 v0], []⟩) ∧ getT 0 env = .one (.int .u64 (u : Nat)) ∧ getT 3 env = .one (.str (ofBytes l')) ∧ u < 128 ∧ l' ++ [(u : Int)] = l ++ grp v := by
  induction v using Nat.strongRecOn with
  | ind v ih =>
  intro l K hv hl hK hl2
  by_cases h : v < 128
  · obtain ⟨env, e, g0, g3⟩ := end64 v0 v l (by omega)
    exact ⟨env, l, v, loopH_exit e, g0, g3, h, by rw [grp_lt h]⟩
  · rw [grp_ge h] at hK hl2 ⊢
    simp only [List.length_cons] at hK hl2
    obtain ⟨st1, e1, e2⟩ := body64 v0 v (v % 128 : Nat) (v % 128 + 128 : Nat) (v % 128 + 128 : Nat) (v / 128 : Nat) l (by omega) (by rw [Int.tmod_eq_emod_of_nonneg (by omega)]; omega) (by rw [u64_in _ (by omega)]; omega) (u8_in _ (by omega)) (by rw [Int.tdiv_eq_ediv_of_nonneg (by omega), u64_in _ (by omega)]; omega) (by omega)
    obtain ⟨env, l', u, e, g0, g3, hu, hb⟩ := ih (v / 128) (by omega) (l ++ [((v % 128 + 128 : Nat) : Int)]) (K - 1) (by omega) (by rw [List.length_append, List.length_cons, List.length_nil]; omega) (by omega) (by rw [List.length_append, List.length_cons, List.length_nil]; omega)
    exact ⟨env, l', u, by rw [loopH_norm e1 (by omega), e2]; exact e, g0, g3, hu, by rw [hb]; simp⟩
theorem f64 (v : Nat) (hv : v < 2 ^ 64) : F64 [.one (.int .u64 v)] [] = some (.one (.str (ofBytes (grp v))), []) := by
  have h10 := grp_ten hv
  obtain ⟨env, l, u, e, g0, g3, hu, hb⟩ := loop64 v v [] KK hv (by simp) (by rw [KK_eq]; omega) (by simp only [List.length_nil]; omega)
  rw [List.nil_append] at hb
  have hl := congrArg List.length hb
  simp only [List.length_append, List.length_cons, List.length_nil] at hl
  have w : IntKind.u8.wrap (u : Int) = u := u8_in _ (by omega)
  have e1 := ofBytes_append l [(u : Int)]
  have e2 := size_ofBytes [(u : Int)]
  have e3 := size_ofBytes l
  have hm : l.length + 1 ≤ 9223372036854775807 := by omega
  simp only [canon64, ofBytes_nil] at e
  rw [← hb]
  clear hb hl
  simp -implicitDefEqProofs [F64, c64, upd, e, g0, g3, w, e1, e2, e3, hm, RC.ofElems]
def canon42 (l : List Int) (v i : Int) : St := ⟨[(0, .one (.str (ofBytes l))), (3, .one (.int .u64 v)), (4, .one (.int .i64 i))], [.str (ofBytes l)], []⟩
def canon80 (n0 : Int) (hp : List Ob) (l : List Int) (v i : Int) : St := ⟨[(5, .one (.int .u64 v)), (12, .one (.row 1)), (13, .one (.int .i64 l.length)), (14, .one (.int .i64 i))], [.ptr 0 0, .int .i64 n0], hp ++ [.rows (.ints .u8 l)]⟩
theorem body80 (n0 v s p v' i' b : Int) (x : ByteArray) (bad : Bool) (l : List Int) (i : Nat) (hi : i < l.length) (hb : l[i]?.getD 0 = b) (ec : IntKind.u64.wrap b = b) (es : IntKind.i64.wrap (8 * (i : Int)) = s) (hs : ¬ s < 0) (ep : shlI .u64 b s = p) (ev : bitsI .or .u64 v p = v') (ei : IntKind.i64.wrap ((i : Int) + 1) = i') :
    ∃ st1, evC T80 KK b80x0 (canon80 n0 [.cells (some 0) [.str x, .bool bad]] l v i) = some (.norm, st1) ∧ St.head [5, 12, 13, 14] st1 = canon80 n0 [.cells (some 0) [.str x, .bool bad]] l v' i' := by
  have hb' : l[i] = b := by rw [List.getElem?_eq_getElem hi] at hb; exact hb
  have hi2 : (i : Int) < l.length := by omega
  simp -implicitDefEqProofs [b80x0, canon80, upd, hi, hi2, hb, hb', ec, es, hs, ep, ev, ei, RC.len, RC.size, RC.get]
theorem end80 (n0 v i : Int) (x : ByteArray) (bad : Bool) (l : List Int) (hi : ¬ i < l.length) :
    ∃ env, evC T80 KK b80x0 (canon80 n0 [.cells (some 0) [.str x, .bool bad]] l v i) = some (.exit 0, ⟨env, [.ptr 0 0, .int .i64 n0], [.cells (some 0) [.str x, .bool bad], .rows (.ints .u8 l)]⟩) ∧ getT 5 env = .one (.int .u64 v) := by
  simp -implicitDefEqProofs [b80x0, canon80, upd, hi]
theorem leB_take {l : List Int} {i : Nat} (h : i < l.length) : leB (l.take (i + 1)) = leB (l.take i) + l[i].toNat * 2 ^ (8 * i) := by
  rw [← List.take_append_getElem h, leB_append, List.length_take, Nat.min_eq_left (by omega)]
  simp [leB, Nat.mul_comm]
theorem loop80 (n0 : Int) (x : ByteArray) (bad : Bool) (l : List Int) (hB : isB l) (hl : l.length ≤ 8) : ∀ (j i K : Nat), i + j = l.length → j < K →
    ∃ env, loopH (evC T80 KK b80x0) [5, 12, 13, 14] K (canon80 n0 [.cells (some 0) [.str x, .bool bad]] l (leB (l.take i) : Nat) i) = some (.exit 0, ⟨env, [.ptr 0 0, .int .i64 n0], [.cells (some 0) [.str x, .bool bad], .rows (.ints .u8 l)]⟩) ∧ getT 5 env = .one (.int .u64 (leB l : Nat))
  | 0, i, K, hi, hK => by
    obtain rfl : i = l.length := by omega
    obtain ⟨env, e, g⟩ := end80 n0 (leB (l.take l.length) : Nat) (l.length : Nat) x bad l (by omega)
    rw [List.take_length] at *
    exact ⟨env, loopH_exit e, g⟩
  | j + 1, i, K, hi, hK => by
    have hlt : i < l.length := by omega
    have hb := hB l[i] (List.getElem_mem hlt)
    have hg : l[i]?.getD 0 = l[i] := by rw [List.getElem?_eq_getElem hlt]; rfl
    obtain ⟨β, hβ⟩ : ∃ β : Nat, l[i] = β := ⟨l[i].toNat, by omega⟩
    rw [hβ] at hg hb
    have hv := leB_lt (isB_take i hB)
    rw [List.length_take, Nat.min_eq_left (by omega)] at hv
    have hstep := leB_take hlt
    rw [hβ, Int.toNat_natCast] at hstep
    have hfit : leB (l.take (i + 1)) < 2 ^ 64 := by
      have h1 := leB_lt (isB_take (i + 1) hB)
      rw [List.length_take, Nat.min_eq_left (by omega)] at h1
      exact Nat.lt_of_lt_of_le h1 (Nat.pow_le_pow_right (by omega) (by omega))
    rw [hstep] at hfit
    have ep : shlI .u64 (β : Int) ((8 * i : Nat) : Int) = ((β * 2 ^ (8 * i) : Nat) : Int) := shl_in rfl (by simp only [IntKind.bits]; omega) (by simp only [IntKind.bits]; omega)
    have ev : bitsI .or .u64 ((leB (l.take i) : Nat) : Int) ((β * 2 ^ (8 * i) : Nat) : Int) = ((leB (l.take i) + β * 2 ^ (8 * i) : Nat) : Int) := or_add rfl hv (by simp only [IntKind.bits]; exact hfit)
    rw [← hstep] at ev
    obtain ⟨st1, e1, e2⟩ := body80 n0 (leB (l.take i) : Nat) (8 * i : Nat) _ _ (i + 1 : Nat) β x bad l i hlt hg (u64_in _ (by omega)) (by rw [i64_in _ (by omega)]; omega) (by omega) ep ev (by rw [i64_in _ (by omega)]; omega)
    obtain ⟨env, e, g⟩ := loop80 n0 x bad l hB hl j (i + 1) (K - 1) (by omega) (by omega)
    exact ⟨env, by rw [loopH_norm e1 (by omega), e2]; exact e, g⟩
theorem f80x (n : Int) (l y r : List Int) (bad bad' : Bool) (hB : isB y) (hy : y.length ≤ 8)
    (e81 : F81 [.one (.ptr 0 0), .one (.int .i64 (sz n))] (rHp (some 0) l bad) = some (.one (.str (ofBytes y)), rHp (some 0) r bad')) :
    F80 [.one (.ptr 0 0), .one (.int .i64 n)] (rHp (some 0) l bad) = some (.one (.int .u64 (leB y : Nat)), rHp (some 0) r bad') := by
  have e94 := f94 n
  obtain ⟨env, e, g⟩ := loop80 n (ofBytes r) bad' y hB hy y.length 0 KK (by omega) (by rw [KK_eq]; omega)
  have z : ((0 : Nat) : Int) = 0 := rfl
  have ht := toBytes_ofBytes hB
  have hsz : (ofBytes y).size ≤ 140737488355328 := by rw [size_ofBytes]; omega
  simp only [canon80, leB, List.take_zero, z, List.cons_append, List.nil_append] at e
  simp only [rHp] at e81 ⊢
  simp -implicitDefEqProofs [F80, c80, upd, e94, e81, ht, hsz, e, g, RC.len]
theorem f80 (l : List Int) (n : Int) (hB : isB l) (hl : l.length ≤ 90000) : F80 [.one (.ptr 0 0), .one (.int .i64 n)] (rHp (some 0) l false) = some (.one (.int .u64 (leB (rAns l (sz n)).1 : Nat)), rHp (some 0) (rAns l (sz n)).2.1 (rAns l (sz n)).2.2) := by
  have h8 := sz_le n
  refine f80x n l _ _ _ _ ?_ ?_ (f81' l (sz n) hl)
  · unfold rAns; split
    · simp [isB]
    · exact isB_take _ hB
  · unfold rAns; split
    · simp
    · rw [List.length_take]; omega
theorem f80b (l : List Int) (n : Int) : F80 [.one (.ptr 0 0), .one (.int .i64 n)] (rHp (some 0) l true) = some (.one (.int .u64 0), rHp (some 0) [] true) :=
  f80x n l [] [] true true (by simp [isB]) (by simp) (f81b l (sz n))
end Go.X.Try
set_option maxRecDepth 100000
set_option linter.unusedSimpArgs false
namespace Go.X.Try
open Go.IntWalk
/-! ### the document's reading of groups -/
theorem gdec_inv : ∀ (l : List Int) (i v u : Nat) (r : List Int), isB l → i ≤ 9 → gdec i v l = some (u, r) → ∃ a, l = grp a ++ r ∧ u = v + a * 2 ^ (7 * i) ∧ (i = 0 ∨ 0 < a)
  | [], _, _, _, _, _, _, h => by simp [gdec] at h
  | b :: l, i, v, u, r, hB, hi, h => by
    have hb := hB b (by simp)
    simp only [gdec] at h
    by_cases hbad : i = 9 ∧ 1 < b ∨ 0 < i ∧ b = 0
    · rw [if_pos hbad] at h; cases h
    · rw [if_neg hbad] at h
      by_cases hlt : b < 128
      · rw [if_pos hlt] at h
        simp only [Option.some.injEq, Prod.mk.injEq] at h
        refine ⟨b.toNat, ?_, ?_, by omega⟩
        · rw [grp_lt (by omega), ← h.2]
          have : ((b.toNat : Nat) : Int) = b := by omega
          rw [this]; rfl
        · rw [← h.1, Nat.mod_eq_of_lt (by omega)]
      · rw [if_neg hlt] at h
        obtain ⟨a, hl, hu, ha⟩ := gdec_inv l (i + 1) _ u r hB.tail (by omega) h
        have ha' : 0 < a := by omega
        refine ⟨b.toNat % 128 + 128 * a, ?_, ?_, .inr (by omega)⟩
        · rw [grp_ge (by omega), hl]
          have e1 : (b.toNat % 128 + 128 * a) / 128 = a := by omega
          have e2 : (((b.toNat % 128 + 128 * a) % 128 + 128 : Nat) : Int) = b := by omega
          rw [e1, e2]; rfl
        · have hp : 2 ^ (7 * (i + 1)) = 128 * 2 ^ (7 * i) := by rw [Nat.mul_add, Nat.pow_add]; omega
          rw [hu, hp, Nat.add_mul, Nat.mul_comm 128 a, Nat.mul_assoc, Nat.add_assoc]
/-- How many bytes at the beginning are of 128 and more. -/
def lead : List Int → Nat
  | [] => 0
  | b :: l => if 128 ≤ b then lead l + 1 else 0
theorem lead_le : ∀ l : List Int, lead l ≤ l.length
  | [] => Nat.le_refl _
  | b :: l => by
    have := lead_le l
    simp only [lead, List.length_cons]; split <;> omega
theorem lead_ge : ∀ (l : List Int) (i : Nat), i < lead l → ∃ b, l[i]? = some b ∧ 128 ≤ b
  | [], i, h => by simp [lead] at h
  | b :: l, i, h => by
    simp only [lead] at h
    split at h
    · rename_i hb
      cases i with
      | zero => exact ⟨b, rfl, hb⟩
      | succ i => simpa using lead_ge l i (by omega)
    · omega
theorem lead_at : ∀ l : List Int, lead l < l.length → ∃ b, l[lead l]? = some b ∧ b < 128
  | [], h => by simp at h
  | b :: l, h => by
    simp only [lead] at h ⊢
    split
    · rename_i hb
      rw [if_pos hb] at h
      simpa using lead_at l (by simpa using h)
    · exact ⟨b, rfl, by omega⟩
theorem lead_grp (l : List Int) (a : Nat) : lead (grp a ++ l) + 1 = (grp a).length := by
  induction a using Nat.strongRecOn with
  | ind a ih =>
  by_cases h : a < 128
  · rw [grp_lt h]
    simp only [List.cons_append, List.nil_append, lead]
    rw [if_neg (by omega)]; rfl
  · rw [grp_ge h]
    simp only [List.cons_append, lead, List.length_cons]
    rw [if_pos (by omega), ih (a / 128) (by omega)]
theorem grp_at (a : Nat) : ∀ (i : Nat) (b : Int), (grp a)[i]? = some b → b.toNat % 128 = a / 128 ^ i % 128 ∧ a / 128 ^ (grp a).length = 0 := by
  induction a using Nat.strongRecOn with
  | ind a ih =>
  intro i b hb
  by_cases h : a < 128
  · rw [grp_lt h] at hb ⊢
    cases i with
    | zero =>
      simp only [List.getElem?_cons_zero, Option.some.injEq] at hb
      subst hb
      simp only [List.length_cons, List.length_nil]
      omega
    | succ i => simp at hb
  · rw [grp_ge h] at hb ⊢
    have hlast : ∃ b', (grp (a / 128))[0]? = some b' := by
      have := grp_pos (a / 128)
      exact ⟨_, List.getElem?_eq_getElem (by omega)⟩
    obtain ⟨b', hb'⟩ := hlast
    have h0 := (ih (a / 128) (by omega) 0 b' hb').2
    have hlen : a / 128 ^ ((grp (a / 128)).length + 1) = 0 := by
      rw [Nat.pow_succ, Nat.mul_comm, ← Nat.div_div_eq_div_mul]
      exact h0
    cases i with
    | zero =>
      simp only [List.getElem?_cons_zero, Option.some.injEq] at hb
      subst hb
      exact ⟨by simp only [Nat.pow_zero, Nat.div_one]; omega, hlen⟩
    | succ i =>
      simp only [List.getElem?_cons_succ] at hb
      have := (ih (a / 128) (by omega) i b hb).1
      refine ⟨?_, hlen⟩
      rw [this, Nat.pow_succ, Nat.mul_comm, Nat.div_div_eq_div_mul]
def canon37a (l : List Int) (n : Int) : St := ⟨[(0, .one (.str (ofBytes l))), (4, .one (.int .i64 n))], [.str (ofBytes l)], []⟩
theorem body37a (l : List Int) (n : Nat) (b : Int) (hl : l.length ≤ 90000) (ht : toBytes (ofBytes l) = l) (hn : n < l.length) (hb : l[n]?.getD 0 = b) (hge : 128 ≤ b) :
    ∃ st1, evC T37 KK b37x0 (canon37a l n) = some (.norm, st1) ∧ St.head [0, 4] st1 = canon37a l (n + 1 : Nat) := by
  have hb' : l[n] = b := by rw [List.getElem?_eq_getElem hn] at hb; exact hb
  have hn2 : (n : Int) < l.length := by omega
  have w : IntKind.i64.wrap ((n : Int) + 1) = (n : Int) + 1 := i64_in _ (by omega)
  have e3 := size_ofBytes l
  simp -implicitDefEqProofs [b37x0, canon37a, upd, ht, hn, hn2, hb, hb', hge, w, e3]
theorem end37a (l : List Int) (n : Nat) (b : Int) (ht : toBytes (ofBytes l) = l) (h : l.length ≤ n ∨ n < l.length ∧ l[n]?.getD 0 = b ∧ b < 128) :
    ∃ env, evC T37 KK b37x0 (canon37a l n) = some (.exit 0, ⟨env, [.str (ofBytes l)], []⟩) ∧ getT 0 env = .one (.str (ofBytes l)) ∧ getT 4 env = .one (.int .i64 n) := by
  have e3 := size_ofBytes l
  rcases h with h | ⟨hn, hb, hlt⟩
  · have hn2 : ¬ (n : Int) < l.length := by omega
    simp -implicitDefEqProofs [b37x0, canon37a, upd, hn2, e3]
  · have hb' : l[n] = b := by rw [List.getElem?_eq_getElem hn] at hb; exact hb
    have hn2 : (n : Int) < l.length := by omega
    have hge : ¬ 128 ≤ b := by omega
    simp -implicitDefEqProofs [b37x0, canon37a, upd, ht, hn, hn2, hb, hb', hge, e3]
theorem loop37a (l : List Int) (hB : isB l) (hl : l.length ≤ 90000) : ∀ (j n K : Nat), n + j = lead l → j < K →
    ∃ env, loopH (evC T37 KK b37x0) [0, 4] K (canon37a l n) = some (.exit 0, ⟨env, [.str (ofBytes l)], []⟩) ∧ getT 0 env = .one (.str (ofBytes l)) ∧ getT 4 env = .one (.int .i64 (lead l : Nat))
  | 0, n, K, hn, hK => by
    obtain rfl : n = lead l := by omega
    have hle := lead_le l
    by_cases hlt : lead l < l.length
    · obtain ⟨b, hb, hb2⟩ := lead_at l hlt
      obtain ⟨env, e, g⟩ := end37a l (lead l) b (toBytes_ofBytes hB) (.inr ⟨hlt, by rw [hb]; rfl, hb2⟩)
      exact ⟨env, loopH_exit e, g⟩
    · obtain ⟨env, e, g⟩ := end37a l (lead l) 0 (toBytes_ofBytes hB) (.inl (by omega))
      exact ⟨env, loopH_exit e, g⟩
  | j + 1, n, K, hn, hK => by
    have hle := lead_le l
    obtain ⟨b, hb, hb2⟩ := lead_ge l n (by omega)
    obtain ⟨st1, e1, e2⟩ := body37a l n b hl (toBytes_ofBytes hB) (by omega) (by rw [hb]; rfl) hb2
    obtain ⟨env, e, g⟩ := loop37a l hB hl j (n + 1) (K - 1) (by omega) (by omega)
    exact ⟨env, by rw [loopH_norm e1 (by omega), e2]; exact e, g⟩
def canon37b (l : List Int) (n v i : Int) : St := ⟨[(0, .one (.str (ofBytes l))), (4, .one (.int .i64 n)), (5, .one (.int .u64 v)), (6, .one (.int .i64 i))], [.str (ofBytes l)], []⟩
theorem body37b (l : List Int) (n v v' i' b r p : Int) (i : Nat) (ht : toBytes (ofBytes l) = l) (hi : i < l.length) (hb : l[i]?.getD 0 = b) (hv : ¬ 144115188075855871 < v) (em : IntKind.u64.wrap (v * 128) = p) (er : b.tmod 128 = r) (ew : IntKind.u64.wrap r = r) (ev : IntKind.u64.wrap (p + r) = v') (ei : IntKind.i64.wrap ((i : Int) - 1) = i') :
    ∃ st1, evC T37 KK b37x1 (canon37b l n v i) = some (.norm, st1) ∧ St.head [0, 4, 5, 6] st1 = canon37b l n v' i' := by
  have hb' : l[i] = b := by rw [List.getElem?_eq_getElem hi] at hb; exact hb
  have hi2 : (i : Int) < l.length := by omega
  have hi0 : (0 : Int) ≤ i := by omega
  have e3 := size_ofBytes l
  simp -implicitDefEqProofs [b37x1, canon37b, upd, ht, hi, hi2, hi0, hb, hb', hv, em, er, ew, ev, ei, e3]
theorem over40b (l : List Int) (n v : Int) (i : Nat) (hv : 144115188075855871 < v) :
    ∃ env, evC T37 KK b37x1 (canon37b l n v i) = some (.ret, ⟨env, [.str (ofBytes l)], []⟩) ∧ getT 2 env = .one (.int .u64 0) ∧ getT 3 env = .one (.int .i64 0) := by
  have hi0 : (0 : Int) ≤ i := by omega
  simp -implicitDefEqProofs [b37x1, canon37b, upd, hi0, hv]
theorem end37b (l : List Int) (n v i : Int) (hi : i < 0) :
    ∃ env, evC T37 KK b37x1 (canon37b l n v i) = some (.exit 2, ⟨env, [.str (ofBytes l)], []⟩) ∧ getT 0 env = .one (.str (ofBytes l)) ∧ getT 4 env = .one (.int .i64 n) ∧ getT 5 env = .one (.int .u64 v) := by
  have h : ¬ 0 ≤ i := by omega
  simp -implicitDefEqProofs [b37x1, canon37b, upd, h]
/-- The number of the first j bytes less of what stands above them in v; or it is too great. -/
theorem loop37b (l : List Int) (n : Int) (hB : isB l) (hl : l.length ≤ 90000) : ∀ (j v K : Nat), j ≤ l.length → v < 2 ^ 64 → j < K →
    (∃ env u, loopH (evC T37 KK b37x1) [0, 4, 5, 6] K (canon37b l n v ((j : Int) - 1)) = some (.exit 2, ⟨env, [.str (ofBytes l)], []⟩) ∧ getT 0 env = .one (.str (ofBytes l)) ∧ getT 4 env = .one (.int .i64 n) ∧ getT 5 env = .one (.int .u64 (u : Nat)) ∧ u < 2 ^ 64 ∧ (∀ a, a / 128 ^ j = v → (∀ i b, i < j → l[i]? = some b → b.toNat % 128 = a / 128 ^ i % 128) → u = a)) ∨
    (∃ env, loopH (evC T37 KK b37x1) [0, 4, 5, 6] K (canon37b l n v ((j : Int) - 1)) = some (.ret, ⟨env, [.str (ofBytes l)], []⟩) ∧ getT 2 env = .one (.int .u64 0) ∧ getT 3 env = .one (.int .i64 0) ∧ (∀ a, a < 2 ^ 64 → a / 128 ^ j = v → ¬ (∀ i b, i < j → l[i]? = some b → b.toNat % 128 = a / 128 ^ i % 128)))
  | 0, v, K, hj, hv, hK => by
    obtain ⟨env, e, g0, g4, g5⟩ := end37b l n v (((0 : Nat) : Int) - 1) (by omega)
    refine .inl ⟨env, v, loopH_exit e, g0, g4, g5, hv, fun a ha _ => ?_⟩
    rw [← ha, Nat.pow_zero, Nat.div_one]
  | j + 1, v, K, hj, hv, hK => by
    have hc : ((j + 1 : Nat) : Int) - 1 = (j : Int) := by omega
    rw [hc]
    have hlt : j < l.length := by omega
    have hb := hB l[j] (List.getElem_mem hlt)
    have hg : l[j]?.getD 0 = l[j] := by rw [List.getElem?_eq_getElem hlt]; rfl
    have hsome : l[j]? = some l[j] := List.getElem?_eq_getElem hlt
    by_cases ho : 144115188075855871 < v
    · obtain ⟨env, e, g2, g3⟩ := over40b l n v j (by omega)
      refine .inr ⟨env, loopH_ret e, g2, g3, fun a ha hav _ => ?_⟩
      have h1 : a / 128 ^ (j + 1) ≤ a / 128 := Nat.div_le_div_left (by rw [Nat.pow_succ]; have := Nat.pow_le_pow_right (n := 128) (by omega) (Nat.zero_le j); omega) (by omega)
      omega
    · obtain ⟨st1, e1, e2⟩ := body37b l n v (v * 128 + l[j].toNat % 128 : Nat) ((j : Int) - 1) l[j] (l[j].toNat % 128 : Nat) (v * 128 : Nat) j (toBytes_ofBytes hB) hlt hg (by omega) (by rw [u64_in _ (by omega)]; omega) (by rw [Int.tmod_eq_emod_of_nonneg hb.1]; omega) (u64_in _ (by omega)) (by rw [u64_in _ (by omega)]; omega) (by rw [i64_in _ (by omega)])
      have hstep : ∀ a, a / 128 ^ (j + 1) = v → (∀ i b, i < j + 1 → l[i]? = some b → b.toNat % 128 = a / 128 ^ i % 128) → a / 128 ^ j = v * 128 + l[j].toNat % 128 := fun a ha hbs => by
        have h1 := hbs j l[j] (by omega) hsome
        rw [Nat.pow_succ, ← Nat.div_div_eq_div_mul] at ha
        omega
      rcases loop37b l n hB hl j (v * 128 + l[j].toNat % 128) (K - 1) (by omega) (by omega) (by omega) with ⟨env, u, e, g0, g4, g5, hu, hspec⟩ | ⟨env, e, g2, g3, hspec⟩
      · exact .inl ⟨env, u, by rw [loopH_norm e1 (by omega), e2]; exact e, g0, g4, g5, hu, fun a ha hbs => hspec a (hstep a ha hbs) fun i b hi hib => hbs i b (by omega) hib⟩
      · exact .inr ⟨env, by rw [loopH_norm e1 (by omega), e2]; exact e, g2, g3, fun a ha hav hbs => hspec a ha (hstep a hav hbs) fun i b hi hib => hbs i b (by omega) hib⟩
def tupF (v n : Int) : AV := .tup [.one (.int .u64 v), .one (.int .i64 n)]
theorem f40_some (l : List Int) (u : Nat) (r : List Int) (hB : isB l) (hl : l.length ≤ 80000) (h : l = grp u ++ r) (hu : u < 2 ^ 64) : F37 [.one (.str (ofBytes l))] [] = some (tupF u (grp u).length, []) := by
  have h10 := grp_ten hu
  have hpos := grp_pos u
  have hlead : lead l + 1 = (grp u).length := by rw [h]; exact lead_grp r u
  have hlen : l.length = (grp u).length + r.length := by rw [h, List.length_append]
  obtain ⟨env, e, g0, g4⟩ := loop37a l hB (by omega) (lead l) 0 KK (by omega) (by rw [KK_eq]; omega)
  have hbytes : ∀ i b, i < lead l + 1 → l[i]? = some b → b.toNat % 128 = u / 128 ^ i % 128 := fun i b hi hb => by
    rw [h, List.getElem?_append_left (by omega)] at hb
    exact (grp_at u i b hb).1
  have hzero : u / 128 ^ (lead l + 1) = 0 := by
    obtain ⟨b, hb⟩ : ∃ b, (grp u)[0]? = some b := ⟨_, List.getElem?_eq_getElem (by omega)⟩
    rw [hlead]
    exact (grp_at u 0 b hb).2
  rcases loop37b l (lead l : Nat) hB (by omega) (lead l + 1) 0 KK (by omega) (by omega) (by rw [KK_eq]; omega) with ⟨env2, u', e2, k0, k4, k5, hu', hspec⟩ | ⟨env2, e2, k2, k3, hspec⟩
  · have huu := hspec u hzero hbytes
    subst huu
    have e64 := f64 u' hu
    have z : ((0 : Nat) : Int) = 0 := rfl
    have hc : ((lead l + 1 : Nat) : Int) - 1 = (lead l : Int) := by omega
    have e3 := size_ofBytes l
    have n1 : ¬ ((lead l : Int) = (l.length : Int)) := by omega
    have n2 : ¬ ((9 : Int) < (lead l : Int)) := by omega
    have n2' : ¬ (9 < lead l) := by omega
    have n1' : ¬ (lead l = l.length) := by omega
    have w : IntKind.i64.wrap ((lead l : Int) + 1) = ((grp u').length : Int) := by rw [i64_in _ (by omega)]; omega
    have hle : ((grp u').length : Int) ≤ (l.length : Int) := by omega
    have hle' : (grp u').length ≤ l.length := by omega
    have ex := ofBytes_extract l 0 (grp u').length
    have htake : (l.drop 0).take ((grp u').length - 0) = grp u' := by rw [List.drop_zero, Nat.sub_zero, h, List.take_left' rfl]
    rw [htake] at ex
    rw [hc, z] at e2
    simp only [canon37a, z] at e
    simp only [canon37b] at e2
    generalize (lead l : Int) = q at *
    generalize grp u' = G at *
    simp -implicitDefEqProofs [F37, c37, upd, e, g0, g4, e3, n1, n1', n2, n2', e2, k0, k4, k5, e64, w, hle, hle', ex, tupF]
  · exact absurd hbytes (hspec u hu hzero)
theorem f40_none (l : List Int) (hB : isB l) (hl : l.length ≤ 80000) (h : ∀ u r, u < 2 ^ 64 → l ≠ grp u ++ r) : F37 [.one (.str (ofBytes l))] [] = some (tupF 0 0, []) := by
  obtain ⟨env, e, g0, g4⟩ := loop37a l hB (by omega) (lead l) 0 KK (by omega) (by have := lead_le l; rw [KK_eq]; omega)
  have hle := lead_le l
  have z : ((0 : Nat) : Int) = 0 := rfl
  have e3 := size_ofBytes l
  simp only [canon37a, z] at e
  by_cases n1 : lead l = l.length
  · have n1i : (lead l : Int) = (l.length : Int) := by omega
    rw [n1i] at g4
    simp -implicitDefEqProofs [F37, c37, upd, e, g0, g4, e3, tupF]
  · have n1i : ¬ ((lead l : Int) = (l.length : Int)) := by omega
    by_cases n2 : 9 < lead l
    · have n2i : (9 : Int) < (lead l : Int) := by omega
      simp -implicitDefEqProofs [F37, c37, upd, e, g0, g4, e3, n1, n1i, n2, n2i, tupF]
    · have n2i : ¬ ((9 : Int) < (lead l : Int)) := by omega
      have hc : ((lead l + 1 : Nat) : Int) - 1 = (lead l : Int) := by omega
      rcases loop37b l (lead l : Nat) hB (by omega) (lead l + 1) 0 KK (by omega) (by omega) (by rw [KK_eq]; omega) with ⟨env2, u, e2, k0, k4, k5, hu, _⟩ | ⟨env2, e2, k2, k3, _⟩
      · have e64 := f64 u hu
        have w : IntKind.i64.wrap ((lead l : Int) + 1) = ((lead l + 1 : Nat) : Int) := by rw [i64_in _ (by omega)]; omega
        have hle1 : ((lead l + 1 : Nat) : Int) ≤ (l.length : Int) := by omega
        have hle1' : lead l + 1 ≤ l.length := by omega
        have ex := ofBytes_extract l 0 (lead l + 1)
        rw [List.drop_zero, Nat.sub_zero] at ex
        have hne : ((ofBytes (grp u)).toList == (ofBytes (l.take (lead l + 1))).toList) = false := by
          rw [eqS (grp_isB u) (isB_take _ hB)]
          refine decide_eq_false fun c => h u (l.drop (lead l + 1)) hu ?_
          rw [c, List.take_append_drop]
        have hne2 : ¬ ((ofBytes (grp u)).toList = (ofBytes (l.take (lead l + 1))).toList) := fun c => by rw [c] at hne; simp at hne
        rw [hc, z] at e2
        simp only [canon37b] at e2
        generalize hq : lead l + 1 = q at *
        generalize (lead l : Int) = q0 at *
        simp -implicitDefEqProofs [F37, c37, upd, e, g0, g4, e3, n1, n1i, n2, n2i, e2, k0, k4, k5, e64, w, hle1, hle1', ex, hne, hne2, tupF]
      · rw [hc, z] at e2
        simp only [canon37b] at e2
        simp -implicitDefEqProofs [F37, c37, upd, e, g0, g4, e3, n1, n1i, n2, n2i, e2, k2, k3, tupF]
end Go.X.Try
set_option maxRecDepth 100000
set_option linter.unusedSimpArgs false
namespace Go.X.Try
open Go.IntWalk
theorem tup0 : tupOf [] = .tup [] := rfl
end Go.X.Try
set_option maxRecDepth 100000
set_option linter.unusedSimpArgs false
namespace Go.X.Try
open Go.IntWalk
theorem loop_go {body : St → Option (Ex × St)} {live : List Nat} {k : Nat} (st : St) (h : k ≠ 0) : loopN body live k st = thenC (loopN body live (k - 1)) (body (st.head live)) := by
  cases k with
  | zero => exact absurd rfl h
  | succ k => rfl
theorem u64_range (x : Int) : 0 ≤ IntKind.u64.wrap x ∧ IntKind.u64.wrap x ≤ 18446744073709551615 := by rw [IntKind.wrap_u64]; omega
def sx (h b : Int) : Int := IntKind.u64.wrap (bitsI .xor .u64 h b * 11400714819323198485)
def sstep (h b : Int) : Int := bitsI .xor .u64 (sx h b) (sx h b / 536870912)
def sy (h n : Int) : Int := IntKind.u64.wrap (IntKind.u64.wrap (h + n) * 13787848793156543929)
def sfin (h n : Int) : Int := bitsI .xor .u64 (sy h n) (sy h n / 4294967296)
theorem sx_quo (h b : Int) : IntKind.u64.wrap ((sx h b).tdiv 536870912) = sx h b / 536870912 := by
  have := u64_range (bitsI .xor .u64 h b * 11400714819323198485)
  exact u64_quo _ _ ⟨this.1, this.2, by omega⟩
theorem sy_quo (h b : Int) : IntKind.u64.wrap ((sy h b).tdiv 4294967296) = sy h b / 4294967296 := by
  have := u64_range (IntKind.u64.wrap (h + b) * 13787848793156543929)
  exact u64_quo _ _ ⟨this.1, this.2, by omega⟩
theorem toBytes_length (t : ByteArray) : (toBytes t).length = t.size := by
  unfold toBytes; rw [List.length_map, Array.length_toList]; rfl
theorem toBytes_range (t : ByteArray) (i : Nat) (b : Int) (h : (toBytes t)[i]? = some b) : 0 ≤ b ∧ b < 256 := by
  simp only [toBytes, List.getElem?_map, Option.map_eq_some_iff] at h
  obtain ⟨x, _, rfl⟩ := h
  have := x.toNat_lt
  omega
theorem l66 (t : ByteArray) (ht : t.size < 1000000) : ∀ (k i : Nat) (h : Int) (env : Env), getT 0 env = .one (.str t) → getT 3 env = .one (.int .u64 h) → getT 4 env = .one (.int .i64 i) → i ≤ t.size → t.size - i < k →
    ∃ env', loopN (evC T66 KK b66x0) [0, 3, 4] k ⟨env, [.str t], []⟩ = some (.exit 0, ⟨env', [.str t], []⟩) ∧ getT 0 env' = .one (.str t) ∧ getT 3 env' = .one (.int .u64 (((toBytes t).drop i).foldl sstep h))
  | 0, i, h, env, _, _, _, _, hk => by omega
  | k + 1, i, h, env, e0, e3, e4, hi, hk => by
    by_cases hlt : i < t.size
    · have hb : ∃ b, (toBytes t)[i]? = some b := ⟨_, List.getElem?_eq_getElem (by rw [toBytes_length]; exact hlt)⟩
      obtain ⟨b, hb⟩ := hb
      have hr := toBytes_range t i b hb
      have w1 : IntKind.u64.wrap b = b := u64_in b (by omega)
      have w2 : IntKind.i64.wrap ((i : Int) + 1) = (i : Int) + 1 := i64_in _ (by omega)
      have hd : (toBytes t).drop i = b :: (toBytes t).drop (i + 1) := by
        obtain ⟨hlt', e⟩ := List.getElem?_eq_some_iff.1 hb
        rw [List.drop_eq_getElem_cons hlt', e]
      have q1 := sx_quo h b
      have hc : (i : Int) < t.size := by omega
      rw [hd]
      simp only [List.foldl_cons]
      have body : ∃ env1, evC T66 KK b66x0 (St.head [0, 3, 4] ⟨env, [.str t], []⟩) = some (.norm, ⟨env1, [.str t], []⟩) ∧ getT 0 env1 = .one (.str t) ∧ getT 3 env1 = .one (.int .u64 (sstep h b)) ∧ getT 4 env1 = .one (.int .i64 ((i + 1 : Nat) : Int)) := by
        have hx : IntKind.u64.wrap (bitsI .xor .u64 h b * 11400714819323198485) = sx h b := rfl
        have hg : (toBytes t)[i]?.getD 0 = b := by rw [hb]; rfl
        simp -implicitDefEqProofs [b66x0, e0, e3, e4, hc, hlt, hg, w1, w2, hx, q1, sstep]
      obtain ⟨env1, h1, a0, a3, a4⟩ := body
      obtain ⟨env', p, q⟩ := l66 t ht k (i + 1) (sstep h b) env1 a0 a3 a4 (by omega) (by omega)
      refine ⟨env', ?_, q⟩
      rw [loopN, h1]
      exact p
    · have hc : ¬ (i : Int) < t.size := by omega
      have hd : (toBytes t).drop i = [] := List.drop_eq_nil_of_le (by rw [toBytes_length]; omega)
      rw [hd]
      have body : ∃ env1, evC T66 KK b66x0 (St.head [0, 3, 4] ⟨env, [.str t], []⟩) = some (.exit 0, ⟨env1, [.str t], []⟩) ∧ getT 0 env1 = .one (.str t) ∧ getT 3 env1 = .one (.int .u64 h) := by
        simp -implicitDefEqProofs [b66x0, e0, e3, e4, hc, hlt]
      obtain ⟨env1, h1, q⟩ := body
      exact ⟨env1, by rw [loopN, h1]; rfl, q⟩
theorem e66 (t : ByteArray) (ht : t.size < 10000) : F66 [.one (.str t)] [] = some (.one (.int .u64 (sfin ((toBytes t).foldl sstep 7640891576956012808) t.size)), []) := by
  obtain ⟨env', p, q0, q3⟩ := l66 t (by omega) KK 0 7640891576956012808 [(4, .one (.int .i64 0)), (3, .one (.int .u64 7640891576956012808)), (2, .one (.int .u64 0)), (0, .one (.str t))] rfl rfl rfl (by omega) (by rw [KK_eq]; omega)
  rw [List.drop_zero] at q3
  have w : IntKind.u64.wrap (t.size : Int) = t.size := u64_in _ (by omega)
  generalize List.foldl sstep 7640891576956012808 (toBytes t) = h at *
  have hy : IntKind.u64.wrap (IntKind.u64.wrap (h + t.size) * 13787848793156543929) = sy h t.size := rfl
  have q1 := sy_quo h t.size
  simp -implicitDefEqProofs [-loop_KK, F66, c66, p, q0, q3, w, hy, q1, sfin]
end Go.X.Try
set_option maxRecDepth 100000
set_option linter.unusedSimpArgs false
namespace Go.X.Try
open Go.IntWalk
def pipeCells (most : Int) (f c : SV) (h n : Int) : List SV := [.int .i64 most, f, c, .int .u64 h, .int .u64 n]
theorem shr29 (x : Int) : shrI .u64 x 29 = x / 536870912 := by rw [shrI_eq]; rfl
theorem shr32 (x : Int) : shrI .u64 x 32 = x / 4294967296 := by rw [shrI_eq]; rfl
theorem f95 (h n b : Int) (hb : 0 ≤ b) (hb' : b < 256) : F95 [.agg [.int .u64 h, .int .u64 n], .one (.int .u8 b)] [] = some (.agg [.int .u64 (sstep h b), .int .u64 (IntKind.u64.wrap (n + 1))], []) := by
  have w : IntKind.u64.wrap b = b := u64_in b (by omega)
  simp -implicitDefEqProofs [F95, c95, w, shr29, sstep, sx]
theorem f62 (h n : Int) : F62 [.agg [.int .u64 h, .int .u64 n]] [] = some (.one (.int .u64 (sfin h n)), []) := by
  simp -implicitDefEqProofs [F62, c62, shr32, sfin, sy]
end Go.X.Try
set_option maxRecDepth 100000
set_option linter.unusedSimpArgs false
set_option linter.unusedVariables false
namespace Go.X.Try
open Go.IntWalk
theorem leB_fixB : ∀ n v, leB (fixB v n) = v % 256 ^ n
  | 0, v => by simp [fixB, leB, Nat.mod_one]
  | n + 1, v => by
    simp only [fixB, leB, leB_fixB n, Int.toNat_natCast]
    rw [Nat.pow_succ, Nat.mul_comm (256 ^ n) 256, Nat.mod_mul]
theorem fixB_leB : ∀ {l : List Int}, isB l → fixB (leB l) l.length = l
  | [], _ => rfl
  | b :: l, h => by
    have hb := h b (by simp)
    have ih := fixB_leB h.tail
    simp only [leB, List.length_cons, fixB]
    have e1 : ((((b.toNat + 256 * leB l) % 256 : Nat)) : Int) = b := by omega
    have e2 : (b.toNat + 256 * leB l) / 256 = leB l := by omega
    rw [e1, e2, ih]
/-- The sum of a text. -/
def sumL (l : List Int) : Int := sfin (l.foldl sstep 7640891576956012808) l.length
theorem xor_range (x y : Int) : 0 ≤ bitsI .xor .u64 x y ∧ bitsI .xor .u64 x y < 18446744073709551616 := by
  have h := u64_range ((BitVec.ofInt IntKind.u64.bits x ^^^ BitVec.ofInt IntKind.u64.bits y).toNat)
  simp only [bitsI]
  omega
theorem sumL_range (l : List Int) : 0 ≤ sumL l ∧ sumL l < 18446744073709551616 := xor_range _ _
theorem isB_app {a b : List Int} (ha : isB a) (hb : isB b) : isB (a ++ b) := fun x hx => by
  rcases List.mem_append.1 hx with h | h
  · exact ha x h
  · exact hb x h
theorem isB_take {l : List Int} (h : isB l) (n : Nat) : isB (l.take n) := fun x hx => h x (List.mem_of_mem_take hx)
theorem isB_drop {l : List Int} (h : isB l) (n : Nat) : isB (l.drop n) := fun x hx => h x (List.mem_of_mem_drop hx)
/-! ### an entry -/
def entB (l : List Int) : List Int := grp l.length ++ (fixB (sumL (grp l.length ++ l)).toNat 8 ++ l)
theorem entB_isB {l : List Int} (h : isB l) : isB (entB l) := isB_app (grp_isB _) (isB_app (fixB_isB _ _) h)
theorem entB_length (l : List Int) : (entB l).length = (grp l.length).length + 8 + l.length := by
  unfold entB; simp only [List.length_append, fixB_length]; omega
theorem entB_pos (l : List Int) : 9 ≤ (entB l).length := by
  have := grp_pos l.length
  rw [entB_length]; omega
/-- The record of the entry at the beginning, and what is behind it. -/
def oneA (l : List Int) : Option (List Int × List Int) := match gdec 0 0 l with
  | none => none
  | some (n, r) => if 512 < n ∨ r.length < 8 + n then none else if (leB (r.take 8) : Int) = sumL (grp n ++ (r.drop 8).take n) then some ((r.drop 8).take n, r.drop (8 + n)) else none
theorem gdec0 (l : List Int) {a : Nat} (ha : a < 2 ^ 64) : gdec 0 0 (grp a ++ l) = some (a, l) := by
  have := gdec_grp l a 0 0 (by omega) (by rw [Nat.mul_zero, Nat.pow_zero, Nat.mul_one]; exact ha) (.inl rfl)
  rw [Nat.mul_zero, Nat.pow_zero, Nat.mul_one, Nat.zero_add] at this
  exact this
theorem oneA_ent {l : List Int} (hl : l.length ≤ 512) (r : List Int) : oneA (entB l ++ r) = some (l, r) := by
  have hs := sumL_range (grp l.length ++ l)
  have hf := fixB_length 8 (sumL (grp l.length ++ l)).toNat
  unfold oneA entB
  rw [List.append_assoc, gdec0 _ (by omega)]
  simp only
  have e1 : (fixB (sumL (grp l.length ++ l)).toNat 8 ++ l ++ r).take 8 = fixB (sumL (grp l.length ++ l)).toNat 8 := by
    rw [List.append_assoc]; exact List.take_left' hf
  have e2 : (fixB (sumL (grp l.length ++ l)).toNat 8 ++ l ++ r).drop 8 = l ++ r := by
    rw [List.append_assoc]; exact List.drop_left' hf
  have e3 : (fixB (sumL (grp l.length ++ l)).toNat 8 ++ l ++ r).drop (8 + l.length) = r := by
    rw [← List.drop_drop, e2]; exact List.drop_left
  rw [if_neg (by simp only [List.length_append, hf]; omega), e1, e2, e3, List.take_left, leB_fixB, if_pos (by omega)]
theorem oneA_inv {l a r : List Int} (hB : isB l) (h : oneA l = some (a, r)) : l = entB a ++ r ∧ a.length ≤ 512 := by
  unfold oneA at h
  split at h
  · simp at h
  · rename_i n x hg
    split at h
    · simp at h
    · rename_i hn
      obtain ⟨c, e1, e2, _⟩ := gdec_inv l 0 0 n x hB (by omega) hg
      rw [Nat.mul_zero, Nat.pow_zero, Nat.mul_one, Nat.zero_add] at e2
      subst e2
      have hxB := gdec_isB l 0 0 n x hB hg
      split at h
      · rename_i hsum
        simp only [Option.some.injEq, Prod.mk.injEq] at h
        obtain ⟨rfl, rfl⟩ := h
        have hlen : ((x.drop 8).take n).length = n := by rw [List.length_take, List.length_drop]; omega
        refine ⟨?_, by omega⟩
        have hfx := fixB_leB (isB_take hxB 8)
        have h8 : (x.take 8).length = 8 := by rw [List.length_take]; omega
        rw [h8] at hfx
        unfold entB
        rw [hlen, ← hsum, Int.toNat_natCast, hfx, e1, List.append_assoc, List.append_assoc, ← List.drop_drop, List.take_append_drop, List.take_append_drop]
      · simp at h
/-- Less than an entry is none. -/
theorem oneA_part {a p q : List Int} (ha : a.length ≤ 512) (hB : isB p) (h : entB a = p ++ q) (hq : q ≠ []) : oneA p = none := by
  cases e : oneA p with
  | none => rfl
  | some x =>
    obtain ⟨a', r⟩ := x
    obtain ⟨e1, e2⟩ := oneA_inv hB e
    have h1 := oneA_ent ha []
    rw [List.append_nil, h, e1, List.append_assoc, oneA_ent e2] at h1
    simp only [Option.some.injEq, Prod.mk.injEq, List.append_eq_nil_iff] at h1
    exact absurd h1.2.2 hq
/-- As far as there are entries. -/
def rdF : Nat → List Int → List (List Int) × List Int
  | 0, l => ([], l)
  | n + 1, l => match oneA l with
    | none => ([], l)
    | some (a, r) => (a :: (rdF n r).1, (rdF n r).2)
def rd (l : List Int) : List (List Int) × List Int := rdF (l.length + 1) l
def entC (rs : List (List Int)) : List Int := rs.flatMap entB
theorem entC_cons (a : List Int) (rs : List (List Int)) : entC (a :: rs) = entB a ++ entC rs := rfl
theorem entC_append (a b : List (List Int)) : entC (a ++ b) = entC a ++ entC b := by simp [entC]
theorem rdF_spec : ∀ (n : Nat) (l : List Int), isB l → l.length < n → l = entC (rdF n l).1 ++ (rdF n l).2 ∧ oneA (rdF n l).2 = none ∧ ∀ a ∈ (rdF n l).1, a.length ≤ 512 ∧ isB a
  | 0, l, _, h => by omega
  | n + 1, l, hB, h => by
    simp only [rdF]
    cases e : oneA l with
    | none => exact ⟨rfl, e, by simp⟩
    | some x =>
      obtain ⟨a, r⟩ := x
      obtain ⟨e1, e2⟩ := oneA_inv hB e
      have hp := entB_pos a
      have hlen : l.length = (entB a).length + r.length := by rw [e1, List.length_append]
      have hBr : isB r := fun z hz => hB z (by rw [e1]; simp [hz])
      obtain ⟨q1, q2, q3⟩ := rdF_spec n r hBr (by omega)
      refine ⟨?_, q2, ?_⟩
      · show l = entC (a :: (rdF n r).1) ++ (rdF n r).2
        rw [entC_cons, List.append_assoc, ← q1]; exact e1
      · intro z hz
        rcases List.mem_cons.1 hz with rfl | hz
        · refine ⟨e2, fun y hy => hB y ?_⟩
          rw [e1]; unfold entB; simp [hy]
        · exact q3 z hz
theorem rd_spec {l : List Int} (hB : isB l) : l = entC (rd l).1 ++ (rd l).2 ∧ oneA (rd l).2 = none ∧ ∀ a ∈ (rd l).1, a.length ≤ 512 ∧ isB a := rdF_spec _ l hB (by omega)
theorem rdF_ent : ∀ (rs : List (List Int)) (n : Nat) (x : List Int), (∀ a ∈ rs, a.length ≤ 512) → rdF (rs.length + n) (entC rs ++ x) = (rs ++ (rdF n x).1, (rdF n x).2)
  | [], n, x, _ => by simp [entC]
  | a :: rs, n, x, h => by
    have ih := rdF_ent rs n x fun z hz => h z (by simp [hz])
    rw [List.length_cons, show rs.length + 1 + n = (rs.length + n) + 1 by omega]
    simp only [rdF, entC_cons, List.append_assoc, oneA_ent (h a (by simp)), ih, List.cons_append]
theorem rdF_more : ∀ (n m : Nat) (l : List Int), isB l → l.length < n → l.length < m → rdF n l = rdF m l
  | 0, _, l, _, h, _ => by omega
  | _, 0, l, _, _, h => by omega
  | n + 1, m + 1, l, hB, h1, h2 => by
    simp only [rdF]
    cases e : oneA l with
    | none => rfl
    | some x =>
      obtain ⟨a, r⟩ := x
      obtain ⟨e1, e2⟩ := oneA_inv hB e
      have hp := entB_pos a
      have hlen : l.length = (entB a).length + r.length := by rw [e1, List.length_append]
      have hBr : isB r := fun z hz => hB z (by rw [e1]; simp [hz])
      simp only
      rw [rdF_more n m r hBr (by omega) (by omega)]
theorem entC_len (rs : List (List Int)) : 9 * rs.length ≤ (entC rs).length := by
  induction rs with
  | nil => simp [entC]
  | cons a rs ih =>
    have := entB_pos a
    rw [entC_cons, List.length_append, List.length_cons]; omega
/-- What is read of entries, and of what is behind them. -/
theorem rd_ent {rs : List (List Int)} {x : List Int} (h : ∀ a ∈ rs, a.length ≤ 512 ∧ isB a) (hx : isB x) : rd (entC rs ++ x) = (rs ++ (rd x).1, (rd x).2) := by
  have hB : isB (entC rs ++ x) := by
    refine isB_app ?_ hx
    intro z hz
    obtain ⟨a, ha, hz⟩ := List.mem_flatMap.1 hz
    exact entB_isB (h a ha).2 z hz
  have hl := entC_len rs
  unfold rd
  rw [rdF_more _ (rs.length + ((entC rs ++ x).length + 1)) _ hB (by omega) (by omega), rdF_ent rs _ x fun a ha => (h a ha).1, rdF_more _ (x.length + 1) x hx (by rw [List.length_append]; omega) (by omega)]
theorem rd_none {x : List Int} (h : oneA x = none) : rd x = ([], x) := by
  unfold rd; simp only [rdF, h]
theorem rd_nil : rd [] = ([], []) := rd_none (by unfold oneA; rfl)
end Go.X.Try
set_option maxRecDepth 100000
set_option linter.unusedSimpArgs false
set_option linter.unusedVariables false
namespace Go.X.Try
open Go.IntWalk
/-! ### sums -/
def sbyte (p : Int × Int) (b : Int) : Int × Int := (sstep p.1 b, IntKind.u64.wrap (p.2 + 1))
theorem drop_cons {s : ByteArray} {i : Nat} (hi : i < s.size) : ∃ b, (toBytes s)[i]? = some b ∧ (toBytes s).drop i = b :: (toBytes s).drop (i + 1) := by
  have hl := toBytes_length s
  refine ⟨(toBytes s)[i], List.getElem?_eq_getElem (by omega), List.drop_eq_getElem_cons (by omega)⟩
theorem drop_end {s : ByteArray} {i : Nat} (hi : s.size ≤ i) : (toBytes s).drop i = [] := List.drop_eq_nil_of_le (by rw [toBytes_length]; exact hi)
theorem fold_sb : ∀ (l : List Int) (h : Int) (n : Nat), n + l.length < 100000 → l.foldl sbyte (h, (n : Int)) = (l.foldl sstep h, ((n + l.length : Nat) : Int))
  | [], h, n, _ => by simp
  | b :: l, h, n, hl => by
    have hl' : n + 1 + l.length < 100000 := by simp only [List.length_cons] at hl; omega
    have w : IntKind.u64.wrap ((n : Int) + 1) = ((n + 1 : Nat) : Int) := by rw [u64_in _ (by omega)]; omega
    simp only [List.foldl_cons, sbyte, w]
    rw [fold_sb l (sstep h b) (n + 1) hl']
    simp only [List.length_cons, Prod.mk.injEq, true_and]
    omega
def canon61 (s : ByteArray) (h0 n0 i h n : Int) : St :=
  ⟨[(1, .one (.str s)), (2, .one (.ptr 0 0)), (4, .one (.ptr 1 0)), (7, .one (.int .i64 s.size)), (8, .one (.int .i64 i))], [.int .u64 h0, .int .u64 n0, .str s], [.cells none [.int .u64 h, .int .u64 n], .cells none [.int .u64 0, .int .u64 0]]⟩
theorem body61 (s : ByteArray) (h0 n0 h n b : Int) (i : Nat) (hi : i < s.size) (hs : s.size < 10000) (hb : (toBytes s)[i]? = some b) :
    ∃ st1, evC T61 KK b61x0 (canon61 s h0 n0 i h n) = some (.norm, st1) ∧ St.head [1, 2, 4, 7, 8] st1 = canon61 s h0 n0 (i + 1 : Nat) (sstep h b) (IntKind.u64.wrap (n + 1)) := by
  have hr := toBytes_range s i b hb
  have hc : (i : Int) < s.size := by omega
  have hg : (toBytes s)[i]?.getD 0 = b := by rw [hb]; rfl
  have w2 : IntKind.i64.wrap ((i : Int) + 1) = (i : Int) + 1 := i64_in _ (by omega)
  have e95 := f95 h n b hr.1 hr.2
  simp -implicitDefEqProofs [b61x0, canon61, upd, hc, hi, hg, w2, e95]
theorem end61 (s : ByteArray) (h0 n0 h n i : Int) (hi : ¬ i < s.size) :
    ∃ env, evC T61 KK b61x0 (canon61 s h0 n0 i h n) = some (.exit 0, ⟨env, [.int .u64 h0, .int .u64 n0, .str s], [.cells none [.int .u64 h, .int .u64 n], .cells none [.int .u64 0, .int .u64 0]]⟩) ∧ getT 2 env = .one (.ptr 0 0) ∧ getT 4 env = .one (.ptr 1 0) := by
  simp -implicitDefEqProofs [b61x0, canon61, upd, hi]
theorem loop61 (s : ByteArray) (h0 n0 : Int) (hs : s.size < 10000) : ∀ (j i : Nat) (h n : Int) (K : Nat), i + j = s.size → j < K →
    ∃ env, loopH (evC T61 KK b61x0) [1, 2, 4, 7, 8] K (canon61 s h0 n0 i h n) = some (.exit 0, ⟨env, [.int .u64 h0, .int .u64 n0, .str s], [.cells none [.int .u64 (((toBytes s).drop i).foldl sbyte (h, n)).1, .int .u64 (((toBytes s).drop i).foldl sbyte (h, n)).2], .cells none [.int .u64 0, .int .u64 0]]⟩) ∧ getT 2 env = .one (.ptr 0 0) ∧ getT 4 env = .one (.ptr 1 0)
  | 0, i, h, n, K, hi, hK => by
    obtain ⟨env, e, g⟩ := end61 s h0 n0 h n i (by omega)
    rw [drop_end (by omega : s.size ≤ i)]
    exact ⟨env, loopH_exit e, g⟩
  | j + 1, i, h, n, K, hi, hK => by
    obtain ⟨b, hb, hd⟩ := drop_cons (by omega : i < s.size)
    obtain ⟨st1, e1, e2⟩ := body61 s h0 n0 h n b i (by omega) hs hb
    obtain ⟨env, e, g⟩ := loop61 s h0 n0 hs j (i + 1) (sstep h b) (IntKind.u64.wrap (n + 1)) (K - 1) (by omega) (by omega)
    refine ⟨env, ?_, g⟩
    rw [loopH_norm e1 (by omega), e2, hd]; exact e
theorem f61 (s : ByteArray) (h0 : Int) (n0 : Nat) (hs : s.size < 10000) (hn : n0 < 10000) : F61 [.agg [.int .u64 h0, .int .u64 n0], .one (.str s)] [] = some (.agg [.int .u64 ((toBytes s).foldl sstep h0), .int .u64 (n0 + s.size : Nat)], []) := by
  obtain ⟨env, e, g2, g4⟩ := loop61 s h0 n0 hs s.size 0 h0 n0 KK (by omega) (by rw [KK_eq]; omega)
  have hf := fold_sb (toBytes s) h0 n0 (by rw [toBytes_length]; omega)
  rw [List.drop_zero, hf, toBytes_length] at e
  have z : ((0 : Nat) : Int) = 0 := rfl
  generalize ((n0 + s.size : Nat) : Int) = m at *
  simp only [canon61, z] at e
  simp -implicitDefEqProofs [F61, c61, upd, e, g2, g4]
theorem f60 : F60 [] [] = some (.agg [.int .u64 7640891576956012808, .int .u64 0], []) := by
  simp -implicitDefEqProofs [F60, c60, upd]
/-! ### entries, made -/
def tupSI (s : ByteArray) (e : Int) : AV := .tup [.one (.str s), .one (.int .i64 e)]
theorem toB_ofB {l : List Int} (h : isB l) : toBytes (ofBytes l) = l := toBytes_ofBytes h
theorem f22l (s : ByteArray) (h : 512 < s.size) : F22 [.one (.str s)] [] = some (tupSI ⟨#[]⟩ 5, []) := by
  have h1 : (512 : Int) < s.size := by omega
  simp -implicitDefEqProofs [F22, c22, upd, h, h1, tupSI]
theorem f22 (s : ByteArray) (h : s.size ≤ 512) : F22 [.one (.str s)] [] = some (tupSI (ofBytes (entB (toBytes s))) 0, []) := by
  have h1 : ¬ (512 : Int) < s.size := by omega
  have h2 : ¬ 512 < s.size := by omega
  have hl := toBytes_length s
  have hg := grp_ten (v := s.size) (by omega)
  have wu : IntKind.u64.wrap (s.size : Int) = s.size := u64_in _ (by omega)
  have e57 := f57 s.size [] (by omega) (by simp)
  rw [List.nil_append] at e57
  have e58 := f58 (grp s.size)
  have hgb := toB_ofB (grp_isB s.size)
  have hgs : (ofBytes (grp s.size)).size = (grp s.size).length := by rw [← toBytes_length, hgb]
  have e61 := f61 (ofBytes (grp s.size)) 7640891576956012808 0 (by omega) (by omega)
  rw [hgb, hgs, Nat.zero_add] at e61
  have e61b := f61 s ((grp s.size).foldl sstep 7640891576956012808) (grp s.size).length (by omega) (by omega)
  rw [← List.foldl_append] at e61b
  have e62 := f62 ((grp s.size ++ toBytes s).foldl sstep 7640891576956012808) ((grp s.size).length + s.size : Nat)
  have hS : sfin ((grp s.size ++ toBytes s).foldl sstep 7640891576956012808) ((grp s.size).length + s.size : Nat) = sumL (grp s.size ++ toBytes s) := by
    unfold sumL; rw [List.length_append, hl]
  rw [hS] at e62
  have hr := sumL_range (grp s.size ++ toBytes s)
  have e59 := f59 (sumL (grp s.size ++ toBytes s)).toNat 8 (grp s.size) (by omega) (by omega)
  have hz : sz 8 = 8 := by unfold sz; rfl
  rw [hz, show (((sumL (grp s.size ++ toBytes s)).toNat : Nat) : Int) = sumL (grp s.size ++ toBytes s) by omega] at e59
  have e63 := f63 s (grp s.size ++ fixB (sumL (grp s.size ++ toBytes s)).toNat 8) (by rw [List.length_append, fixB_length]; omega)
  have hD : grp s.size ++ fixB (sumL (grp s.size ++ toBytes s)).toNat 8 ++ toBytes s = entB (toBytes s) := by
    unfold entB; rw [hl, List.append_assoc]
  rw [hD] at e63
  have e58b := f58 (entB (toBytes s))
  have z : ((0 : Nat) : Int) = 0 := rfl
  rw [z] at e61
  generalize grp s.size ++ fixB (sumL (grp s.size ++ toBytes s)).toNat 8 = q at *
  generalize entB (toBytes s) = d at *
  generalize sumL (grp s.size ++ toBytes s) = m at *
  generalize (grp s.size ++ toBytes s).foldl sstep 7640891576956012808 = w1 at *
  generalize (grp s.size).foldl sstep 7640891576956012808 = w2 at *
  generalize (((grp s.size).length + s.size : Nat) : Int) = n1 at *
  generalize (((grp s.size).length : Nat) : Int) = n2 at *
  generalize grp s.size = g at *
  simp only [wHp] at e57 e58 e59 e63 e58b
  simp -implicitDefEqProofs [F22, c22, upd, h1, h2, tupSI, wu, e57, e58, f60, e61, e61b, e62, e59, e63, e58b]
theorem f66 (s : ByteArray) (hs : s.size < 10000) : F66 [.one (.str s)] [] = some (.one (.int .u64 (sumL (toBytes s))), []) := by
  rw [e66 s hs]; unfold sumL; rw [toBytes_length]
theorem f23 (s : ByteArray) (h : s.size ≤ 5000) : F23 [.one (.str s)] [] = some (.one (.str (ofBytes (entB (toBytes s)))), []) := by
  have hl := toBytes_length s
  have hg := grp_ten (v := s.size) (by omega)
  have wu : IntKind.u64.wrap (s.size : Int) = s.size := u64_in _ (by omega)
  have e64 := f64 s.size (by omega)
  have hgb := toB_ofB (grp_isB s.size)
  have hgs : (ofBytes (grp s.size)).size = (grp s.size).length := by rw [← toBytes_length, hgb]
  have hsb : ofBytes (toBytes s) = s := ofBytes_toBytes s
  have ha := ofBytes_append (grp s.size) (toBytes s)
  rw [hsb] at ha
  have hab : isB (grp s.size ++ toBytes s) := isB_app (grp_isB _) (isB_toBytes s)
  have has : (ofBytes (grp s.size ++ toBytes s)).size = (grp s.size).length + s.size := by rw [← toBytes_length, toB_ofB hab, List.length_append, hl]
  have e66 := f66 (ofBytes (grp s.size ++ toBytes s)) (by omega)
  rw [toB_ofB hab] at e66
  have hr := sumL_range (grp s.size ++ toBytes s)
  have e65 := f65 (sumL (grp s.size ++ toBytes s)).toNat 8 (by omega)
  have hz : sz 8 = 8 := by unfold sz; rfl
  rw [hz, show (((sumL (grp s.size ++ toBytes s)).toNat : Nat) : Int) = sumL (grp s.size ++ toBytes s) by omega] at e65
  have a1 := ofBytes_append (grp s.size) (fixB (sumL (grp s.size ++ toBytes s)).toNat 8)
  have a2 := ofBytes_append (grp s.size ++ fixB (sumL (grp s.size ++ toBytes s)).toNat 8) (toBytes s)
  rw [hsb] at a2
  have hD : grp s.size ++ fixB (sumL (grp s.size ++ toBytes s)).toNat 8 ++ toBytes s = entB (toBytes s) := by
    unfold entB; rw [hl, List.append_assoc]
  rw [hD] at a2
  have hm1 : (ofBytes (grp s.size)).size + s.size ≤ 9223372036854775807 := by omega
  have hm2 : (ofBytes (grp s.size)).size + (ofBytes (fixB (sumL (grp s.size ++ toBytes s)).toNat 8)).size ≤ 9223372036854775807 := by rw [size_ofBytes (fixB _ _), fixB_length]; omega
  have hm3 : (ofBytes (grp s.size ++ fixB (sumL (grp s.size ++ toBytes s)).toNat 8)).size + s.size ≤ 9223372036854775807 := by
    rw [size_ofBytes, List.length_append, fixB_length]; omega
  generalize grp s.size ++ fixB (sumL (grp s.size ++ toBytes s)).toNat 8 = q at *
  generalize entB (toBytes s) = d at *
  generalize fixB (sumL (grp s.size ++ toBytes s)).toNat 8 = fx at *
  generalize sumL (grp s.size ++ toBytes s) = m at *
  generalize grp s.size ++ toBytes s = w1 at *
  generalize grp s.size = g at *
  simp -implicitDefEqProofs [F23, c23, upd, wu, e64, ha, e66, e65, a1, a2, hm1, hm2, hm3]
end Go.X.Try
set_option maxRecDepth 100000
set_option linter.unusedSimpArgs false
set_option linter.unusedVariables false
namespace Go.X.Try
open Go.IntWalk
/-! ### one entry, read -/
def tup3 (a b : ByteArray) (ok : Bool) : AV := .tup [.one (.str a), .one (.str b), .one (.bool ok)]
theorem run36a (l l1 l2 l3 x : List Int) (b1 b2 : Bool) (n v : Int)
    (e78 : F78 [.one (.str (ofBytes l))] [] = some (.one (.ptr 0 0), rHp none l false))
    (e79 : F79 [.one (.ptr 0 0), .one (.int .i64 512)] (rHp (some 0) l false) = some (.one (.int .i64 n), rHp (some 0) l1 b1))
    (e80 : F80 [.one (.ptr 0 0), .one (.int .i64 8)] (rHp (some 0) l1 b1) = some (.one (.int .u64 v), rHp (some 0) l2 b2))
    (e81 : F81 [.one (.ptr 0 0), .one (.int .i64 n)] (rHp (some 0) l2 b2) = some (.one (.str (ofBytes x)), rHp (some 0) l3 true)) :
    F36 [.one (.str (ofBytes l))] [] = some (tup3 ⟨#[]⟩ ⟨#[]⟩ false, []) := by
  have e82 := f82 l3 true
  simp only [rHp] at e78 e79 e80 e81 e82
  simp -implicitDefEqProofs [F36, c36, upd, tup3, e78, e79, e80, e81, e82]
theorem run36b (l l1 l2 l3 l4 x g y : List Int) (b4 : Bool) (n v u : Int)
    (e78 : F78 [.one (.str (ofBytes l))] [] = some (.one (.ptr 0 0), rHp none l false))
    (e79 : F79 [.one (.ptr 0 0), .one (.int .i64 512)] (rHp (some 0) l false) = some (.one (.int .i64 n), rHp (some 0) l1 false))
    (e80 : F80 [.one (.ptr 0 0), .one (.int .i64 8)] (rHp (some 0) l1 false) = some (.one (.int .u64 v), rHp (some 0) l2 false))
    (e81 : F81 [.one (.ptr 0 0), .one (.int .i64 n)] (rHp (some 0) l2 false) = some (.one (.str (ofBytes x)), rHp (some 0) l3 false))
    (e83 : F83 [.one (.ptr 0 0)] (rHp (some 0) l3 false) = some (.one (.str (ofBytes l3)), rHp (some 0) [] false))
    (e22 : F22 [.one (.str (ofBytes x))] [] = some (tupSI (ofBytes (g ++ y)) 0, [])) (hx : x.length ≤ 512) (hg : g.length ≤ 10) (hy : y.length = 8 + x.length)
    (e78b : F78 [.one (.str (ofBytes y))] [] = some (.one (.ptr 0 0), rHp none y false))
    (e80b : F80 [.one (.ptr 0 0), .one (.int .i64 8)] (rHp (some 0) y false) = some (.one (.int .u64 u), rHp (some 0) l4 b4)) :
    F36 [.one (.str (ofBytes l))] [] = some (if u = v then tup3 (ofBytes x) (ofBytes l3) true else tup3 ⟨#[]⟩ ⟨#[]⟩ false, []) := by
  have e82 := f82 l3 false
  have w1 : IntKind.i64.wrap (((g ++ y).length : Int) - x.length) = (g.length : Int) + 8 := by rw [i64_in _ (by rw [List.length_append]; omega), List.length_append]; omega
  have w2 : IntKind.i64.wrap (g.length : Int) = g.length := i64_in _ (by omega)
  have hd : ((g ++ y).drop g.length).take ((g ++ y).length - g.length) = y := by rw [List.drop_left, List.take_of_length_le (by rw [List.length_append]; omega)]
  have hle : g.length ≤ (g ++ y).length := by rw [List.length_append]; omega
  have hlei : (g.length : Int) ≤ (g ++ y).length := by omega
  simp only [rHp, tupSI] at e78 e79 e80 e81 e82 e83 e22 e78b e80b
  generalize hq : g ++ y = q at *
  by_cases h : u = v
  · simp -implicitDefEqProofs [F36, c36, upd, tup3, e78, e79, e80, e81, e82, e83, e22, e78b, e80b, size_ofBytes, w1, w2, ofBytes_extract, hd, hle, hlei, h]
  · simp -implicitDefEqProofs [F36, c36, upd, tup3, e78, e79, e80, e81, e82, e83, e22, e78b, e80b, size_ofBytes, w1, w2, ofBytes_extract, hd, hle, hlei, h]
theorem rAns_nat (l : List Int) (m : Nat) : rAns l m = if l.length < m then ([], [], true) else (l.take m, l.drop m, false) := by
  unfold rAns
  by_cases h : l.length < m
  · rw [if_pos (by omega), if_pos h]
  · rw [if_neg (by omega), if_neg h, Int.toNat_natCast]
def oneR : Option (List Int × List Int) → AV
  | some (a, r) => tup3 (ofBytes a) (ofBytes r) true
  | none => tup3 ⟨#[]⟩ ⟨#[]⟩ false
theorem f36 (l : List Int) (hB : isB l) (hl : l.length ≤ 80000) : F36 [.one (.str (ofBytes l))] [] = some (oneR (oneA l), []) := by
  have e78 := f78 (ofBytes l)
  rw [toB_ofB hB] at e78
  have e79 := f79 l 512 (by omega) hB (by omega)
  have hz : sz 8 = 8 := by unfold sz; rfl
  have bad : iAns l 512 = (0, [], true) → F36 [.one (.str (ofBytes l))] [] = some (oneR none, []) := by
    intro h
    rw [h] at e79
    exact run36a l [] [] [] [] true true 0 0 e78 e79 (f80b [] 8) (f81b [] 0)
  unfold oneA
  cases hg : gdec 0 0 l with
  | none => exact bad (by unfold iAns gAns; rw [hg]; simp)
  | some p =>
    obtain ⟨n, r⟩ := p
    have hrB := gdec_isB l 0 0 n r hB hg
    have hrl := gdec_len l 0 0 n r hg
    simp only
    by_cases h5 : 512 < n
    · rw [if_pos (.inl h5)]
      exact bad (by unfold iAns gAns; rw [hg]; simp only; rw [if_pos (by right; right; omega)])
    · have hi : iAns l 512 = (n, r, false) := by
        unfold iAns gAns
        rw [hg]
        simp only
        rw [if_neg (by rintro (h | h | h); cases h; omega; omega)]
      rw [hi] at e79
      have e80 := f80 r 8 hrB (by omega)
      rw [hz] at e80
      have e8 := rAns_nat r 8
      rw [e8] at e80
      by_cases h8 : r.length < 8
      · rw [if_pos h8] at e80
        rw [if_pos (.inr (by omega))]
        exact run36a l r [] [] [] false true n _ e78 e79 e80 (f81b [] n)
      · rw [if_neg h8] at e80
        have e81 := f81' (r.drop 8) n (by rw [List.length_drop]; omega)
        rw [rAns_nat] at e81
        have hdl : (r.drop 8).length = r.length - 8 := List.length_drop
        by_cases hn : (r.drop 8).length < n
        · rw [if_pos hn] at e81
          rw [if_pos (.inr (by omega))]
          exact run36a l r _ [] [] false false n _ e78 e79 e80 e81
        · rw [if_neg hn] at e81
          rw [if_neg (by omega)]
          have hxl : ((r.drop 8).take n).length = n := by rw [List.length_take]; omega
          have hxB : isB ((r.drop 8).take n) := isB_take (isB_drop hrB 8) n
          have hdd : (r.drop 8).drop n = r.drop (8 + n) := List.drop_drop
          rw [hdd] at e81
          have e83 := f83 (r.drop (8 + n)) false (by rw [List.length_drop]; omega)
          simp only [Bool.false_eq_true, if_false] at e83
          generalize hx : (r.drop 8).take n = x at *
          have hxs : (ofBytes x).size = n := by rw [size_ofBytes, hxl]
          have e22 := f22 (ofBytes x) (by omega)
          rw [toB_ofB hxB] at e22
          have hs := sumL_range (grp x.length ++ x)
          have hf := fixB_length 8 (sumL (grp x.length ++ x)).toNat
          have hyB : isB (fixB (sumL (grp x.length ++ x)).toNat 8 ++ x) := isB_app (fixB_isB _ _) hxB
          have hyl : (fixB (sumL (grp x.length ++ x)).toNat 8 ++ x).length = 8 + x.length := by rw [List.length_append, hf]
          have e78b := f78 (ofBytes (fixB (sumL (grp x.length ++ x)).toNat 8 ++ x))
          rw [toB_ofB hyB] at e78b
          have e80b := f80 (fixB (sumL (grp x.length ++ x)).toNat 8 ++ x) 8 hyB (by omega)
          rw [hz] at e80b
          have e8b := rAns_nat (fixB (sumL (grp x.length ++ x)).toNat 8 ++ x) 8
          rw [if_neg (by omega), List.take_left' hf] at e8b
          rw [e8b, leB_fixB] at e80b
          have hm : (sumL (grp x.length ++ x)).toNat % 256 ^ 8 = (sumL (grp x.length ++ x)).toNat := Nat.mod_eq_of_lt (by omega)
          rw [hm] at e80b
          have hu : (((sumL (grp x.length ++ x)).toNat : Nat) : Int) = sumL (grp x.length ++ x) := by omega
          rw [hu] at e80b
          have := run36b l r (r.drop 8) (r.drop (8 + n)) _ x (grp x.length) (fixB (sumL (grp x.length ++ x)).toNat 8 ++ x) false n _ (sumL (grp x.length ++ x)) e78 e79 e80 e81 e83 e22 (by omega) (grp_ten (by omega)) hyl e78b e80b
          rw [this]
          rw [hxl]
          by_cases hq : (leB (r.take 8) : Int) = sumL (grp n ++ x)
          · rw [if_pos hq, if_pos hq.symm]; rfl
          · rw [if_neg hq, if_neg (fun h => hq h.symm)]; rfl
/-! ### all entries, read -/
def canon10 (s0 : ByteArray) (l : List Int) (out : List ByteArray) (all : Int) : St := ⟨[(0, .one (.str (ofBytes l))), (4, .one (.row 0)), (5, .one (.int .i64 all))], [.str s0], [.rows (.strs out)]⟩
theorem body10 (s0 : ByteArray) (l r : List Int) (out : List ByteArray) (all : Int) (a : ByteArray) (e36 : F36 [.one (.str (ofBytes l))] [] = some (tup3 a (ofBytes r) true, [])) (ho : out.length ≤ 100000) :
    ∃ st1, evC T10 KK b10x0 (canon10 s0 l out all) = some (.norm, st1) ∧ St.head [0, 4, 5] st1 = canon10 s0 r (out ++ [a]) all := by
  have h1 : (out.length + 1) * 16 ≤ 140737488355328 := by omega
  have h2 : ((out.length : Int) + 1) * 16 ≤ 140737488355328 := by omega
  simp only [tup3] at e36
  simp -implicitDefEqProofs [b10x0, canon10, upd, e36, h1, h2, RC.len, RC.size, RC.app, RC.ofElems]
theorem end10 (s0 : ByteArray) (l : List Int) (out : List ByteArray) (all d : Int) (e36 : F36 [.one (.str (ofBytes l))] [] = some (tup3 ⟨#[]⟩ ⟨#[]⟩ false, [])) (w : IntKind.i64.wrap (all - l.length) = d) :
    ∃ st1, evC T10 KK b10x0 (canon10 s0 l out all) = some (.ret, st1) ∧ resC [(2, none), (3, none)] (some (.ret, st1)) = some (.tup [.one (.row 0), .one (.int .i64 d)], [.rows (.strs out)]) := by
  simp only [tup3] at e36
  refine ⟨?w, ?a, ?b⟩
  case a =>
    simp -implicitDefEqProofs [b10x0, canon10, upd, e36, size_ofBytes, w]
    rfl
  case b => simp -implicitDefEqProofs []
theorem loop10 (s0 : ByteArray) (all : Nat) (hall : all ≤ 80000) : ∀ (n : Nat) (l : List Int) (out : List ByteArray) (K : Nat), isB l → l.length < n → l.length ≤ all → out.length + l.length ≤ 100000 → n < K →
    ∃ st1, loopH (evC T10 KK b10x0) [0, 4, 5] K (canon10 s0 l out all) = some (.ret, st1) ∧ resC [(2, none), (3, none)] (some (.ret, st1)) = some (.tup [.one (.row 0), .one (.int .i64 (all - (rdF n l).2.length : Nat))], [.rows (.strs (out ++ (rdF n l).1.map ofBytes))])
  | 0, l, out, K, _, h, _, _, _ => by omega
  | n + 1, l, out, K, hB, h, ha, ho, hK => by
    have e36 := f36 l hB (by omega)
    simp only [rdF]
    cases e : oneA l with
    | none =>
      rw [e] at e36
      obtain ⟨st1, e1, e2⟩ := end10 s0 l out all (all - l.length : Nat) e36 (by rw [i64_in _ (by omega)]; omega)
      exact ⟨st1, loopH_ret e1, by simpa using e2⟩
    | some x =>
      obtain ⟨a, r⟩ := x
      rw [e] at e36
      obtain ⟨q1, q2⟩ := oneA_inv hB e
      have hp := entB_pos a
      have hlen : l.length = (entB a).length + r.length := by rw [q1, List.length_append]
      have hBr : isB r := fun z hz => hB z (by rw [q1]; simp [hz])
      obtain ⟨st1, e1, e2⟩ := body10 s0 l r out all (ofBytes a) e36 (by omega)
      obtain ⟨st2, e3, e4⟩ := loop10 s0 all hall n r (out ++ [ofBytes a]) (K - 1) hBr (by omega) (by omega) (by simp; omega) (by omega)
      refine ⟨st2, by rw [loopH_norm e1 (by omega), e2]; exact e3, ?_⟩
      rw [e4]
      simp
theorem run10 (l : List Int) (st1 : St) (d : Int) (R : List ByteArray) (el : loopH (evC T10 KK b10x0) [0, 4, 5] KK (canon10 (ofBytes l) l [] l.length) = some (.ret, st1)) (er : resC [(2, none), (3, none)] (some (.ret, st1)) = some (.tup [.one (.row 0), .one (.int .i64 d)], [.rows (.strs R)])) :
    F10 [.one (.str (ofBytes l))] [] = some (.tup [.one (.row 0), .one (.int .i64 d)], [.rows (.strs R)]) := by
  simp only [canon10] at el
  rw [← er]
  simp -implicitDefEqProofs [F10, c10, upd, el, size_ofBytes]
theorem f10 (l : List Int) (hB : isB l) (hl : l.length ≤ 80000) : F10 [.one (.str (ofBytes l))] [] = some (.tup [.one (.row 0), .one (.int .i64 (l.length - (rd l).2.length : Nat))], [.rows (.strs ((rd l).1.map ofBytes))]) := by
  obtain ⟨st1, e1, e2⟩ := loop10 (ofBytes l) l.length hl (l.length + 1) l [] KK hB (by omega) (Nat.le_refl _) (by simp; omega) (by rw [KK_eq]; omega)
  exact run10 l st1 _ _ e1 (by rw [e2]; rfl)
end Go.X.Try
set_option maxRecDepth 100000
set_option linter.unusedSimpArgs false
set_option linter.unusedVariables false
namespace Go.X.Try
open Go.IntWalk
/-! ### the document's Read -/
def canon11 (l : List Int) (out : List ByteArray) (at_ : Int) : St := ⟨[(0, .one (.str (ofBytes l))), (4, .one (.row 0)), (5, .one (.int .i64 at_))], [.str (ofBytes l)], [.rows (.strs out)]⟩
def stop11 (l : List Int) (out : List ByteArray) (at_ : Int) : Prop := ∃ st1, evC T11 KK b11x0 (canon11 l out at_) = some (.ret, st1) ∧ resC [(2, none), (3, none)] (some (.ret, st1)) = some (.tup [.one (.row 0), .one (.int .i64 at_)], [.rows (.strs out)])
section
variable (l x : List Int) (out : List ByteArray) (p : Nat) (hp : p ≤ l.length) (hx : (l.drop p).take (l.length - p) = x)
include hp hx
theorem stop11a (n : Int) (e37 : F37 [.one (.str (ofBytes x))] [] = some (tupF n 0, [])) : stop11 l out p := by
  have hpi : (p : Int) ≤ l.length := by omega
  unfold stop11
  simp only [tupF] at e37
  refine ⟨?w, ?a, ?b⟩
  case a =>
    simp -implicitDefEqProofs [b11x0, canon11, upd, size_ofBytes, ofBytes_extract, hp, hpi, hx, e37]
    rfl
  case b => simp -implicitDefEqProofs []
theorem stop11b (n k : Int) (e37 : F37 [.one (.str (ofBytes x))] [] = some (tupF n k, [])) (hk : ¬ k = 0) (hn : 512 < n) : stop11 l out p := by
  have hpi : (p : Int) ≤ l.length := by omega
  unfold stop11
  simp only [tupF] at e37
  refine ⟨?w, ?a, ?b⟩
  case a =>
    simp -implicitDefEqProofs [b11x0, canon11, upd, size_ofBytes, ofBytes_extract, hp, hpi, hx, e37, hk, hn]
    rfl
  case b => simp -implicitDefEqProofs []
theorem stop11c (n k A1 A2 A3 : Int) (e37 : F37 [.one (.str (ofBytes x))] [] = some (tupF n k, [])) (hk : ¬ k = 0) (hn : ¬ 512 < n) (w1 : IntKind.i64.wrap ((l.length : Int) - p) = A1) (w2 : IntKind.i64.wrap (A1 - k) = A2) (w3 : IntKind.i64.wrap (A2 - 8) = A3) (wn : IntKind.i64.wrap n = n) (h : A3 < n) : stop11 l out p := by
  have hpi : (p : Int) ≤ l.length := by omega
  unfold stop11
  simp only [tupF] at e37
  refine ⟨?w, ?a, ?b⟩
  case a =>
    simp -implicitDefEqProofs [b11x0, canon11, upd, size_ofBytes, ofBytes_extract, hp, hpi, hx, e37, hk, hn, w1, w2, w3, wn, h]
    rfl
  case b => simp -implicitDefEqProofs []
theorem stop11d (n k A1 A2 A3 B1 : Int) (b2 b3 : Nat) (a g y : List Int) (e37 : F37 [.one (.str (ofBytes x))] [] = some (tupF n k, [])) (hk : ¬ k = 0) (hn : ¬ 512 < n) (w1 : IntKind.i64.wrap ((l.length : Int) - p) = A1) (w2 : IntKind.i64.wrap (A1 - k) = A2) (w3 : IntKind.i64.wrap (A2 - 8) = A3) (wn : IntKind.i64.wrap n = n) (h : ¬ A3 < n)
    (w4 : IntKind.i64.wrap (p + k) = B1) (w5 : IntKind.i64.wrap (B1 + 8) = (b2 : Int)) (w6 : IntKind.i64.wrap ((b2 : Int) + n) = (b3 : Int)) (h2 : b2 ≤ b3) (h3 : b3 ≤ l.length) (h4 : p ≤ b3) (ha : (l.drop b2).take (b3 - b2) = a) (e23 : F23 [.one (.str (ofBytes a))] [] = some (.one (.str (ofBytes g)), []))
    (hy : (l.drop p).take (b3 - p) = y) (hgB : isB g) (hyB : isB y) (hne : ¬ g = y) : stop11 l out p := by
  have hpi : (p : Int) ≤ l.length := by omega
  have h2i : (b2 : Int) ≤ b3 := by omega
  have h3i : (b3 : Int) ≤ l.length := by omega
  have h4i : (p : Int) ≤ b3 := by omega
  unfold stop11
  simp only [tupF] at e37
  refine ⟨?w, ?a, ?b⟩
  case a =>
    simp -implicitDefEqProofs [b11x0, canon11, upd, size_ofBytes, ofBytes_extract, hp, hpi, hx, e37, hk, hn, w1, w2, w3, wn, h, w4, w5, w6, h2, h2i, h3, h3i, h4, h4i, ha, e23, hy, ofBytes_inj hgB hyB, eqS hgB hyB, hne]
    rfl
  case b => simp -implicitDefEqProofs []
theorem body11 (n k A1 A2 A3 B1 : Int) (b2 b3 : Nat) (a g : List Int) (e37 : F37 [.one (.str (ofBytes x))] [] = some (tupF n k, [])) (hk : ¬ k = 0) (hn : ¬ 512 < n) (w1 : IntKind.i64.wrap ((l.length : Int) - p) = A1) (w2 : IntKind.i64.wrap (A1 - k) = A2) (w3 : IntKind.i64.wrap (A2 - 8) = A3) (wn : IntKind.i64.wrap n = n) (h : ¬ A3 < n)
    (w4 : IntKind.i64.wrap (p + k) = B1) (w5 : IntKind.i64.wrap (B1 + 8) = (b2 : Int)) (w6 : IntKind.i64.wrap ((b2 : Int) + n) = (b3 : Int)) (h2 : b2 ≤ b3) (h3 : b3 ≤ l.length) (h4 : p ≤ b3) (ha : (l.drop b2).take (b3 - b2) = a) (e23 : F23 [.one (.str (ofBytes a))] [] = some (.one (.str (ofBytes g)), []))
    (hy : (l.drop p).take (b3 - p) = g) (ho : out.length ≤ 100000) : ∃ st1, evC T11 KK b11x0 (canon11 l out p) = some (.norm, st1) ∧ St.head [0, 4, 5] st1 = canon11 l (out ++ [ofBytes a]) b3 := by
  have hpi : (p : Int) ≤ l.length := by omega
  have h2i : (b2 : Int) ≤ b3 := by omega
  have h3i : (b3 : Int) ≤ l.length := by omega
  have h4i : (p : Int) ≤ b3 := by omega
  have o1 : (out.length + 1) * 16 ≤ 140737488355328 := by omega
  have o2 : ((out.length : Int) + 1) * 16 ≤ 140737488355328 := by omega
  simp only [tupF] at e37
  simp -implicitDefEqProofs [b11x0, canon11, upd, size_ofBytes, ofBytes_extract, hp, hpi, hx, e37, hk, hn, w1, w2, w3, wn, h, w4, w5, w6, h2, h2i, h3, h3i, h4, h4i, ha, e23, hy, o1, o2, RC.len, RC.size, RC.app, RC.ofElems]
end
theorem loop11 (l : List Int) (hB : isB l) (hl : l.length ≤ 5000) : ∀ (n p : Nat) (out : List ByteArray) (K : Nat), p ≤ l.length → l.length - p < n → out.length + (l.length - p) ≤ 100000 → n < K →
    ∃ st1, loopH (evC T11 KK b11x0) [0, 4, 5] K (canon11 l out p) = some (.ret, st1) ∧ resC [(2, none), (3, none)] (some (.ret, st1)) = some (.tup [.one (.row 0), .one (.int .i64 (l.length - (rdF n (l.drop p)).2.length : Nat))], [.rows (.strs (out ++ (rdF n (l.drop p)).1.map ofBytes))])
  | 0, p, out, K, _, h, _, _ => by omega
  | n + 1, p, out, K, hp, h, ho, hK => by
    have hxe : (l.drop p).take (l.length - p) = l.drop p := List.take_of_length_le (by rw [List.length_drop]; omega)
    have hxB : isB (l.drop p) := isB_drop hB p
    have hxl : (l.drop p).length = l.length - p := List.length_drop
    have hdd : ∀ a, l.drop (p + a) = (l.drop p).drop a := fun a => by rw [List.drop_drop]
    generalize hx : l.drop p = x at *
    have stop : stop11 l out p → rdF (n + 1) x = ([], x) → ∃ st1, loopH (evC T11 KK b11x0) [0, 4, 5] K (canon11 l out p) = some (.ret, st1) ∧ resC [(2, none), (3, none)] (some (.ret, st1)) = some (.tup [.one (.row 0), .one (.int .i64 (l.length - (rdF (n + 1) x).2.length : Nat))], [.rows (.strs (out ++ (rdF (n + 1) x).1.map ofBytes))]) := by
      rintro ⟨st1, e1, e2⟩ hr
      refine ⟨st1, loopH_ret e1, ?_⟩
      rw [hr, e2]
      have : l.length - x.length = p := by omega
      simp [this]
    have hxe' : (l.drop p).take (l.length - p) = x := by rw [hx]; exact hxe
    cases e : oneA x with
    | none =>
      have hrd : rdF (n + 1) x = ([], x) := by simp only [rdF, e]
      refine stop ?_ hrd
      cases hg : gdec 0 0 x with
      | none =>
        exact stop11a l x out p hp hxe' 0 (f40_none x hxB (by omega) fun u r hu hc => by rw [hc, gdec0 r hu] at hg; simp at hg)
      | some q =>
        obtain ⟨u, r⟩ := q
        obtain ⟨c, e1, e2, _⟩ := gdec_inv x 0 0 u r hxB (by omega) hg
        rw [Nat.mul_zero, Nat.pow_zero, Nat.mul_one, Nat.zero_add] at e2
        subst e2
        have hu := gdec_lt x 0 0 u r hxB (by omega) (by decide) hg
        have e37 := f40_some x u r hxB (by omega) e1 hu
        have hk := grp_pos u
        have hxr : x.length = (grp u).length + r.length := by rw [e1, List.length_append]
        by_cases h5 : 512 < u
        · exact stop11b l x out p hp hxe' u _ e37 (by omega) (by omega)
        by_cases h8 : r.length < 8 + u
        · exact stop11c l x out p hp hxe' u _ (x.length : Int) (r.length : Int) ((r.length : Int) - 8) e37 (by omega) (by omega) (by rw [i64_in _ (by omega)]; omega) (by rw [i64_in _ (by omega)]; omega) (i64_in _ (by omega)) (i64_in _ (by omega)) (by omega)
        · have hrB := gdec_isB x 0 0 u r hxB hg
          have hxd : x.drop (grp u).length = r := by rw [e1]; exact List.drop_left
          have ha : (l.drop (p + (grp u).length + 8)).take (p + (grp u).length + 8 + u - (p + (grp u).length + 8)) = (r.drop 8).take u := by
            rw [show p + (grp u).length + 8 = p + ((grp u).length + 8) by omega, hdd, ← List.drop_drop, hxd]
            congr 1; omega
          have haB : isB ((r.drop 8).take u) := isB_take (isB_drop hrB 8) u
          have hal : ((r.drop 8).take u).length = u := by rw [List.length_take, List.length_drop]; omega
          have e23 := f23 (ofBytes ((r.drop 8).take u)) (by rw [size_ofBytes]; omega)
          rw [toB_ofB haB] at e23
          refine stop11d l x out p hp hxe' u _ (x.length : Int) (r.length : Int) ((r.length : Int) - 8) ((p + (grp u).length : Nat) : Int) (p + (grp u).length + 8) (p + (grp u).length + 8 + u) ((r.drop 8).take u) (entB ((r.drop 8).take u)) (x.take ((grp u).length + 8 + u)) e37 (by omega) (by omega) (by rw [i64_in _ (by omega)]; omega) (by rw [i64_in _ (by omega)]; omega) (i64_in _ (by omega)) (i64_in _ (by omega)) (by omega)
            (by rw [i64_in _ (by omega)]; omega) (by rw [i64_in _ (by omega)]; omega) (by rw [i64_in _ (by omega)]; omega) (by omega) (by omega) (by omega) ha e23 ?_ (entB_isB haB) (isB_take hxB _) ?_
          · rw [hx]; congr 1; omega
          · intro hc
            have hx2 : x = entB ((r.drop 8).take u) ++ x.drop ((grp u).length + 8 + u) := by rw [hc, List.take_append_drop]
            rw [hx2, oneA_ent (by omega)] at e
            simp at e
    | some q =>
      obtain ⟨a, r⟩ := q
      obtain ⟨e1, e2⟩ := oneA_inv hxB e
      have hp9 := entB_pos a
      have hel := entB_length a
      have hxr : x.length = (entB a).length + r.length := by rw [e1, List.length_append]
      have haB : isB a := fun z hz => hxB z (by rw [e1]; unfold entB; simp [hz])
      have hg : x = grp a.length ++ (fixB (sumL (grp a.length ++ a)).toNat 8 ++ a ++ r) := by rw [e1]; unfold entB; simp only [List.append_assoc]
      have e37 := f40_some x a.length _ hxB (by omega) hg (by omega)
      have hk := grp_pos a.length
      have hf := fixB_length 8 (sumL (grp a.length ++ a)).toNat
      have ha : (l.drop (p + (grp a.length).length + 8)).take (p + (entB a).length - (p + (grp a.length).length + 8)) = a := by
        rw [show p + (grp a.length).length + 8 = p + ((grp a.length).length + 8) by omega, hdd, hg, ← List.drop_drop, List.drop_left, List.append_assoc, List.drop_left' hf]
        exact List.take_left' (by omega)
      have e23 := f23 (ofBytes a) (by rw [size_ofBytes]; omega)
      rw [toB_ofB haB] at e23
      have hy : (l.drop p).take (p + (entB a).length - p) = entB a := by
        rw [hx, e1]; exact List.take_left' (by omega)
      obtain ⟨st1, s1, s2⟩ := body11 l x out p hp hxe' a.length _ (x.length : Int) ((x.length : Int) - (grp a.length).length) ((x.length : Int) - (grp a.length).length - 8) ((p + (grp a.length).length : Nat) : Int) (p + (grp a.length).length + 8) (p + (entB a).length) a (entB a) e37 (by omega) (by omega) (by rw [i64_in _ (by omega)]; omega) (i64_in _ (by omega)) (i64_in _ (by omega)) (i64_in _ (by omega)) (by omega)
        (by rw [i64_in _ (by omega)]; omega) (by rw [i64_in _ (by omega)]; omega) (by rw [i64_in _ (by omega)]; omega) (by omega) (by omega) (by omega) ha e23 hy (by omega)
      have hdr : l.drop (p + (entB a).length) = r := by rw [hdd, e1]; exact List.drop_left
      obtain ⟨st2, s3, s4⟩ := loop11 l hB hl n (p + (entB a).length) (out ++ [ofBytes a]) (K - 1) (by omega) (by omega) (by simp; omega) (by omega)
      rw [hdr] at s4
      refine ⟨st2, by rw [loopH_norm s1 (by omega), s2]; exact s3, ?_⟩
      rw [s4]
      simp only [rdF, e]
      simp
theorem run11 (l : List Int) (st1 : St) (d : Int) (R : List ByteArray) (el : loopH (evC T11 KK b11x0) [0, 4, 5] KK (canon11 l [] 0) = some (.ret, st1)) (er : resC [(2, none), (3, none)] (some (.ret, st1)) = some (.tup [.one (.row 0), .one (.int .i64 d)], [.rows (.strs R)])) :
    F11 [.one (.str (ofBytes l))] [] = some (.tup [.one (.row 0), .one (.int .i64 d)], [.rows (.strs R)]) := by
  simp only [canon11] at el
  rw [← er]
  simp -implicitDefEqProofs [F11, c11, upd, el]
theorem f11 (l : List Int) (hB : isB l) (hl : l.length ≤ 5000) : F11 [.one (.str (ofBytes l))] [] = some (.tup [.one (.row 0), .one (.int .i64 (l.length - (rd l).2.length : Nat))], [.rows (.strs ((rd l).1.map ofBytes))]) := by
  obtain ⟨st1, e1, e2⟩ := loop11 l hB hl (l.length + 1) 0 [] KK (by omega) (by omega) (by simp; omega) (by rw [KK_eq]; omega)
  exact run11 l st1 _ _ e1 (by rw [e2]; rfl)
end Go.X.Try
set_option maxRecDepth 100000
set_option linter.unusedSimpArgs false
set_option linter.unusedVariables false
namespace Go.X.Try
open Go.IntWalk
/-! ### the same texts? -/
def canon13 (t u : Nat) (a b : List ByteArray) (i : Int) : St := ⟨[(0, .one (.ro t (.strs a))), (1, .one (.ro u (.strs b))), (12, .one (.int .i64 a.length)), (13, .one (.int .i64 i))], [.ro t (.strs a), .ro u (.strs b)], []⟩
theorem body13 (t u : Nat) (a b : List ByteArray) (x : ByteArray) (i : Nat) (ha : a[i]? = some x) (hb : b[i]? = some x) (hl : a.length ≤ 100000) :
    ∃ st1, evC T13 KK b13x0 (canon13 t u a b i) = some (.norm, st1) ∧ St.head [0, 1, 12, 13] st1 = canon13 t u a b (i + 1 : Nat) := by
  have l1 := (List.getElem?_eq_some_iff.1 ha).1
  have l2 := (List.getElem?_eq_some_iff.1 hb).1
  have l1i : (i : Int) < a.length := by omega
  have l2i : (i : Int) < b.length := by omega
  have wi : IntKind.i64.wrap ((i : Int) + 1) = (i : Int) + 1 := i64_in _ (by omega)
  have ha' : ∀ hh, a[i]'hh = x := fun hh => by rw [List.getElem?_eq_getElem hh] at ha; simpa using ha
  have hb' : ∀ hh, b[i]'hh = x := fun hh => by rw [List.getElem?_eq_getElem hh] at hb; simpa using hb
  simp -implicitDefEqProofs [b13x0, canon13, upd, l1, l2, l1i, l2i, wi, ha, ha', hb, hb', RC.len, RC.size, RC.get]
theorem miss13 (t u : Nat) (a b : List ByteArray) (x y : ByteArray) (i : Nat) (ha : a[i]? = some x) (hb : b[i]? = some y) (hxy : ¬ x = y) :
    ∃ st1, evC T13 KK b13x0 (canon13 t u a b i) = some (.ret, st1) ∧ resC [(4, none)] (some (.ret, st1)) = some (.one (.bool false), []) := by
  have l1 := (List.getElem?_eq_some_iff.1 ha).1
  have l2 := (List.getElem?_eq_some_iff.1 hb).1
  have l1i : (i : Int) < a.length := by omega
  have l2i : (i : Int) < b.length := by omega
  have ha' : ∀ hh, a[i]'hh = x := fun hh => by rw [List.getElem?_eq_getElem hh] at ha; simpa using ha
  have hb' : ∀ hh, b[i]'hh = y := fun hh => by rw [List.getElem?_eq_getElem hh] at hb; simpa using hb
  have hxy' : (x.toList == y.toList) = false := by rw [beqS]; simpa using hxy
  refine ⟨?w, ?q1, ?q2⟩
  case q1 =>
    simp -implicitDefEqProofs [b13x0, canon13, upd, l1, l2, l1i, l2i, ha, ha', hb, hb', hxy, hxy', RC.len, RC.size, RC.get]
    rfl
  case q2 => simp -implicitDefEqProofs []
theorem end13 (t u : Nat) (a b : List ByteArray) (i : Int) (h : ¬ i < a.length) :
    ∃ env, evC T13 KK b13x0 (canon13 t u a b i) = some (.exit 0, ⟨env, [.ro t (.strs a), .ro u (.strs b)], []⟩) := by
  simp -implicitDefEqProofs [b13x0, canon13, upd, h]
theorem loop13 (t u : Nat) (a b : List ByteArray) (hl : a.length ≤ 90000) (hab : a.length = b.length) : ∀ (j i K : Nat), i + j = a.length → j < K → a.take i = b.take i →
    (a = b ∧ ∃ env, loopH (evC T13 KK b13x0) [0, 1, 12, 13] K (canon13 t u a b i) = some (.exit 0, ⟨env, [.ro t (.strs a), .ro u (.strs b)], []⟩)) ∨
    (a ≠ b ∧ ∃ st1, loopH (evC T13 KK b13x0) [0, 1, 12, 13] K (canon13 t u a b i) = some (.ret, st1) ∧ resC [(4, none)] (some (.ret, st1)) = some (.one (.bool false), []))
  | 0, i, K, hj, hK, ht => by
    left
    obtain ⟨env, e⟩ := end13 t u a b i (by omega)
    rw [List.take_of_length_le (by omega), List.take_of_length_le (by omega)] at ht
    exact ⟨ht, env, loopH_exit e⟩
  | j + 1, i, K, hj, hK, ht => by
    obtain ⟨x, hx⟩ : ∃ x, a[i]? = some x := ⟨_, List.getElem?_eq_getElem (by omega)⟩
    obtain ⟨y, hy⟩ : ∃ y, b[i]? = some y := ⟨_, List.getElem?_eq_getElem (by omega)⟩
    by_cases hxy : x = y
    · subst hxy
      obtain ⟨st1, e1, e2⟩ := body13 t u a b x i hx hy (by omega)
      have := loop13 t u a b hl hab j (i + 1) (K - 1) (by omega) (by omega) (by rw [List.take_add_one, List.take_add_one, hx, hy, ht])
      rw [loopH_norm e1 (by omega), e2]
      exact this
    · right
      obtain ⟨st1, e1, e2⟩ := miss13 t u a b x y i hx hy hxy
      refine ⟨fun h => hxy ?_, st1, loopH_ret e1, e2⟩
      rw [h, hy] at hx; simpa using hx.symm
theorem f13 (t u : Nat) (a b : List ByteArray) (hl : a.length ≤ 90000) : F13 [.one (.ro t (.strs a)), .one (.ro u (.strs b))] [] = some (.one (.bool (decide (a = b))), []) := by
  by_cases hab : a.length = b.length
  · have habi : (a.length : Int) = b.length := by omega
    rcases loop13 t u a b hl hab a.length 0 KK (by omega) (by rw [KK_eq]; omega) rfl with ⟨he, env, e⟩ | ⟨hne, st1, e, er⟩
    · have z : ((0 : Nat) : Int) = 0 := rfl
      simp only [canon13, z] at e
      rw [decide_eq_true he]
      simp -implicitDefEqProofs [F13, c13, upd, hab, habi, e, RC.len]
      rw [hab] at e
      simp -implicitDefEqProofs [e]
    · have z : ((0 : Nat) : Int) = 0 := rfl
      simp only [canon13, z] at e
      rw [decide_eq_false hne, ← er]
      rw [hab] at e
      simp -implicitDefEqProofs [F13, c13, upd, hab, habi, e, RC.len]
  · have hne : a ≠ b := fun h => hab (by rw [h])
    have habi : ¬ (a.length : Int) = b.length := by omega
    rw [decide_eq_false hne]
    simp -implicitDefEqProofs [F13, c13, upd, hab, habi, RC.len]
end Go.X.Try
set_option maxRecDepth 100000
set_option linter.unusedSimpArgs false
set_option linter.unusedVariables false
namespace Go.X.Try
open Go.IntWalk
/-! ### Write -/
theorem wr_all : ∀ (l : List ByteArray) (acc : List UInt8), (∀ s ∈ l, s.size ≤ 512) → acc.length + 600 * l.length ≤ 140737488355328 → Go.Proofs.wrL F22 l acc = some (⟨acc.toArray⟩ ++ ofBytes (entC (l.map toBytes)), 0)
  | [], acc, _, _ => by
    simp only [Go.Proofs.wrL, List.map_nil, entC, List.flatMap_nil]
    congr 2
    apply ByteArray.ext
    simp [ofBytes]
  | s :: l, acc, h, hl => by
    have h1 := h s (by simp)
    have e22 := f22 s h1
    have hsz : (ofBytes (entB (toBytes s))).size ≤ 600 := by
      have := grp_ten (v := s.size) (by omega)
      rw [size_ofBytes, entB_length, size_toBytes]; omega
    simp only [List.length_cons] at hl
    simp only [Go.Proofs.wrL, e22, tupSI, if_true]
    rw [if_pos (by omega), wr_all l _ (fun z hz => h z (by simp [hz])) (by
      rw [List.length_append]
      have : (ofBytes (entB (toBytes s))).data.toList.length = (ofBytes (entB (toBytes s))).size := Array.length_toList
      omega)]
    congr 2
    rw [List.map_cons, entC_cons, ← ofBytes_append]
    apply ByteArray.ext
    apply Array.toList_inj.1
    simp only [ByteArray.data_append, Array.toList_append, List.append_assoc]
theorem f12 (t : Nat) (l : List ByteArray) (h : ∀ s ∈ l, s.size ≤ 512) (hl : l.length ≤ 10000) : F12 [.one (.ro t (.strs l))] [] = some (tupSI (ofBytes (entC (l.map toBytes))) 0, []) := by
  have hw := wr_all l [] h (by simp; omega)
  have e0 : (⟨([] : List UInt8).toArray⟩ : ByteArray) ++ ofBytes (entC (l.map toBytes)) = ofBytes (entC (l.map toBytes)) := by
    apply ByteArray.ext; simp
  rw [e0] at hw
  simp only [F12, Go.Proofs.wr12]
  rw [if_pos (by omega), hw]
  rfl
/-! ### Match -/
def alk : List ByteArray → List ByteArray → Nat
  | x :: a, y :: b => if x = y then alk a b + 1 else 0
  | _, _ => 0
theorem alk_le : ∀ (a b : List ByteArray), alk a b ≤ a.length ∧ alk a b ≤ b.length
  | [], b => by simp [alk]
  | x :: a, [] => by simp [alk]
  | x :: a, y :: b => by
    have := alk_le a b
    simp only [alk, List.length_cons]
    split <;> omega
theorem alk_at : ∀ (a b : List ByteArray) (i : Nat), i < alk a b → ∃ x, a[i]? = some x ∧ b[i]? = some x
  | [], b, i, h => by simp [alk] at h
  | x :: a, [], i, h => by simp [alk] at h
  | x :: a, y :: b, i, h => by
    simp only [alk] at h
    split at h
    · rename_i hxy
      subst hxy
      cases i with
      | zero => exact ⟨x, rfl, rfl⟩
      | succ i => exact alk_at a b i (by omega)
    · omega
theorem alk_ne : ∀ (a b : List ByteArray) (x y : ByteArray), a[alk a b]? = some x → b[alk a b]? = some y → ¬ x = y
  | [], b, x, y, h, _ => by simp [alk] at h
  | z :: a, [], x, y, _, h => by simp [alk] at h
  | z :: a, v :: b, x, y, h1, h2 => by
    simp only [alk] at h1 h2
    split at h1
    · rename_i hz
      rw [if_pos hz] at h2
      exact alk_ne a b x y (by simpa using h1) (by simpa using h2)
    · rename_i hz
      rw [if_neg hz] at h2
      simp at h1 h2
      rw [← h1, ← h2]; exact hz
def canon14 (s1 s2 : ByteArray) (a b : List ByteArray) (n : Int) : St := ⟨[(5, .one (.row 0)), (7, .one (.row 1)), (9, .one (.int .i64 n))], [.str s1, .str s2], [.rows (.strs a), .rows (.strs b)]⟩
theorem body14 (s1 s2 : ByteArray) (a b : List ByteArray) (x : ByteArray) (i : Nat) (ha : a[i]? = some x) (hb : b[i]? = some x) (hl : a.length ≤ 100000) :
    ∃ st1, evC T14 KK b14x0 (canon14 s1 s2 a b i) = some (.norm, st1) ∧ St.head [5, 7, 9] st1 = canon14 s1 s2 a b (i + 1 : Nat) := by
  have l1 := (List.getElem?_eq_some_iff.1 ha).1
  have l2 := (List.getElem?_eq_some_iff.1 hb).1
  have l1i : (i : Int) < a.length := by omega
  have l2i : (i : Int) < b.length := by omega
  have wi : IntKind.i64.wrap ((i : Int) + 1) = (i : Int) + 1 := i64_in _ (by omega)
  have ha' : ∀ hh, a[i]'hh = x := fun hh => by rw [List.getElem?_eq_getElem hh] at ha; simpa using ha
  have hb' : ∀ hh, b[i]'hh = x := fun hh => by rw [List.getElem?_eq_getElem hh] at hb; simpa using hb
  have hm : (i : Int) < (if b.length < a.length then (b.length : Int) else a.length) := by split <;> omega
  simp -implicitDefEqProofs [b14x0, canon14, upd, l1, l2, l1i, l2i, wi, ha, ha', hb, hb', hm, RC.len, RC.size, RC.get]
theorem end14 (s1 s2 : ByteArray) (a b : List ByteArray) (i : Nat) (h : i = a.length ∨ i = b.length ∨ ∃ x y, a[i]? = some x ∧ b[i]? = some y ∧ ¬ x = y) :
    ∃ env, evC T14 KK b14x0 (canon14 s1 s2 a b i) = some (.exit 0, ⟨env, [.str s1, .str s2], [.rows (.strs a), .rows (.strs b)]⟩) ∧ getT 9 env = .one (.int .i64 i) := by
  by_cases hm : (i : Int) < (if b.length < a.length then (b.length : Int) else a.length)
  · have l1i : (i : Int) < a.length := by split at hm <;> omega
    have l2i : (i : Int) < b.length := by split at hm <;> omega
    have l1 : i < a.length := by omega
    have l2 : i < b.length := by omega
    rcases h with h | h | ⟨x, y, ha, hb, hxy⟩
    · omega
    · omega
    · have ha' : ∀ hh, a[i]'hh = x := fun hh => by rw [List.getElem?_eq_getElem hh] at ha; simpa using ha
      have hb' : ∀ hh, b[i]'hh = y := fun hh => by rw [List.getElem?_eq_getElem hh] at hb; simpa using hb
      have hxy' : (x.toList == y.toList) = false := by rw [beqS]; simpa using hxy
      simp -implicitDefEqProofs [b14x0, canon14, upd, l1, l2, l1i, l2i, ha, ha', hb, hb', hm, hxy, hxy', RC.len, RC.size, RC.get]
  · simp -implicitDefEqProofs [b14x0, canon14, upd, hm, RC.len, RC.size, RC.get]
theorem loop14 (s1 s2 : ByteArray) (a b : List ByteArray) (hl : a.length ≤ 90000) : ∀ (j i K : Nat), i + j = alk a b → j < K →
    ∃ env, loopH (evC T14 KK b14x0) [5, 7, 9] K (canon14 s1 s2 a b i) = some (.exit 0, ⟨env, [.str s1, .str s2], [.rows (.strs a), .rows (.strs b)]⟩) ∧ getT 9 env = .one (.int .i64 (alk a b : Nat))
  | 0, i, K, hj, hK => by
    have hle := alk_le a b
    obtain ⟨env, e, g⟩ := end14 s1 s2 a b i (by
      by_cases h1 : i = a.length
      · exact .inl h1
      · by_cases h2 : i = b.length
        · exact .inr (.inl h2)
        · have e1 : a[i]? = some a[i] := List.getElem?_eq_getElem (by omega)
          have e2 : b[i]? = some b[i] := List.getElem?_eq_getElem (by omega)
          refine .inr (.inr ⟨_, _, e1, e2, ?_⟩)
          have hi : i = alk a b := by omega
          exact alk_ne a b _ _ (by rw [← hi]; exact e1) (by rw [← hi]; exact e2))
    have hi : i = alk a b := by omega
    exact ⟨env, loopH_exit e, by rw [g, hi]⟩
  | j + 1, i, K, hj, hK => by
    obtain ⟨x, h1, h2⟩ := alk_at a b i (by omega)
    obtain ⟨st1, e1, e2⟩ := body14 s1 s2 a b x i h1 h2 (by omega)
    obtain ⟨env, e3, e4⟩ := loop14 s1 s2 a b hl j (i + 1) (K - 1) (by omega) (by omega)
    exact ⟨env, by rw [loopH_norm e1 (by omega), e2]; exact e3, e4⟩
def recS (l : List Int) : List ByteArray := (rd l).1.map ofBytes
theorem recS_len {l : List Int} (hB : isB l) : 9 * (recS l).length ≤ l.length := by
  have h1 := (rd_spec hB).1
  have h2 := entC_len (rd l).1
  have h3 := congrArg List.length h1
  rw [List.length_append] at h3
  simp only [recS, List.length_map]
  omega
theorem f14 (l m : List Int) (hB : isB l) (hl : l.length ≤ 80000) (hB2 : isB m) (hl2 : m.length ≤ 80000) : F14 [.one (.str (ofBytes l)), .one (.str (ofBytes m))] [] = some (.one (.int .i64 (alk (recS l) (recS m) : Nat)), []) := by
  have e1 := f10 l hB hl
  have e2 := f10 m hB2 hl2
  have hrl := recS_len hB
  obtain ⟨env, e, g⟩ := loop14 (ofBytes l) (ofBytes m) (recS l) (recS m) (by omega) (alk (recS l) (recS m)) 0 KK (by omega) (by have := (alk_le (recS l) (recS m)).1; rw [KK_eq]; omega)
  have z : ((0 : Nat) : Int) = 0 := rfl
  simp only [canon14, z, recS] at e g
  simp only [recS]
  simp -implicitDefEqProofs [F14, c14, upd, e1, e2, e, g]
/-! ### a journal -/
def jHp (g : Option Nat) (R : List ByteArray) (x : ByteArray) : List Ob := [.cells g [.row 1, .str x], .rows (.strs R)]
theorem f24 (l : List Int) (hB : isB l) (hl : l.length ≤ 80000) : F24 [.one (.str (ofBytes l))] [] = some (.one (.ptr 0 0), jHp none (recS l) (ofBytes (l.take (l.length - (rd l).2.length)))) := by
  have e1 := f10 l hB hl
  have hle : l.length - (rd l).2.length ≤ l.length := by omega
  have hlei : ((l.length - (rd l).2.length : Nat) : Int) ≤ l.length := by omega
  generalize l.length - (rd l).2.length = n at *
  simp only [recS, jHp]
  simp -implicitDefEqProofs [F24, c24, upd, e1, size_ofBytes, ofBytes_extract, hle, hlei]
theorem f32 (R : List ByteArray) (x : ByteArray) : F32 [.one (.ptr 0 0)] (jHp (some 0) R x) = some (.one (.int .i64 R.length), jHp (some 0) R x) := by
  simp -implicitDefEqProofs [F32, c32, upd, jHp, RC.len]
theorem f32n : F32 [.one .nilp] [] = some (.one (.int .i64 0), []) := by
  simp -implicitDefEqProofs [F32, c32, upd]
theorem f27 (R : List ByteArray) (x : ByteArray) : F27 [.one (.ptr 0 0)] (jHp (some 0) R x) = some (.one (.str x), jHp (some 0) R x) := by
  simp -implicitDefEqProofs [F27, c27, upd, jHp]
theorem f27n : F27 [.one .nilp] [] = some (.one (.str ⟨#[]⟩), []) := by
  simp -implicitDefEqProofs [F27, c27, upd]
theorem f67 (t : Nat) (R : List ByteArray) (h : R.length ≤ 100000) : F67 [.one (.ro t (.strs R))] [] = some (.one (.row 0), [.rows (.strs R)]) := by
  simp only [F67, Go.Proofs.cl67]
  rw [if_pos h]
theorem f26 (R : List ByteArray) (x : ByteArray) (h : R.length ≤ 100000) : F26 [.one (.ptr 0 0)] (jHp (some 0) R x) = some (.one (.row 2), jHp (some 0) R x ++ [.rows (.strs R)]) := by
  have e := fun t => f67 t R h
  simp -implicitDefEqProofs [F26, c26, upd, jHp, e]
theorem f26n : F26 [.one .nilp] [] = some (.one (.row 0), [.rows (.strs [])]) := by
  simp -implicitDefEqProofs [F26, c26, upd]
theorem f25n (n : Int) : F25 [.one .nilp, .one (.int .i64 n)] [] = some (.one (.int .i64 0), []) := by
  simp -implicitDefEqProofs [F25, c25, upd]
theorem f25 (R : List ByteArray) (l : List Int) (n : Int) (k : Nat) (hB : isB l) (hl : l.length ≤ 80000) (hk : k ≤ l.length) (hn : n = k) : F25 [.one (.ptr 0 0), .one (.int .i64 n)] (jHp (some 0) R (ofBytes l)) = some (.one (.int .i64 (recS (l.take k)).length), jHp (some 0) (recS (l.take k)) (ofBytes ((l.take k).take (k - (rd (l.take k)).2.length)))) := by
  have hkl : (l.take k).length = k := by rw [List.length_take]; omega
  have e24 := f24 (l.take k) (isB_take hB k) (by omega)
  rw [hkl] at e24
  subst hn
  have m1 : ¬ (k : Int) < 0 := by omega
  have m2 : ¬ (l.length : Int) < k := by omega
  have hki : (k : Int) ≤ l.length := by omega
  generalize recS (l.take k) = Q at *
  generalize (l.take k).take (k - (rd (l.take k)).2.length) = y at *
  simp only [jHp] at e24 ⊢
  simp -implicitDefEqProofs [F25, c25, upd, size_ofBytes, ofBytes_extract, e24, m1, m2, hk, hki, RC.len]
end Go.X.Try
set_option maxRecDepth 100000
set_option linter.unusedSimpArgs false
set_option linter.unusedVariables false
namespace Go.X.Try
open Go.IntWalk
/-! ### what is torn -/
def tr : List (List Int) → Nat → Nat
  | [], _ => 0
  | a :: rs, k => if (entB a).length ≤ k then tr rs (k - (entB a).length) + 1 else 0
theorem tr_le : ∀ (rs : List (List Int)) (k : Nat), tr rs k ≤ rs.length
  | [], k => by simp [tr]
  | a :: rs, k => by
    simp only [tr, List.length_cons]
    split
    · have := tr_le rs (k - (entB a).length); omega
    · omega
theorem tr_spec : ∀ (rs : List (List Int)) (k : Nat), (∀ a ∈ rs, a.length ≤ 512 ∧ isB a) → ∃ p, (entC rs).take k = entC (rs.take (tr rs k)) ++ p ∧ oneA p = none ∧ isB p
  | [], k, _ => ⟨[], by simp [entC], by unfold oneA; rfl, by simp [isB]⟩
  | a :: rs, k, h => by
    simp only [tr, entC_cons]
    by_cases hk : (entB a).length ≤ k
    · rw [if_pos hk, List.take_succ_cons, entC_cons]
      obtain ⟨p, e1, e2, e3⟩ := tr_spec rs (k - (entB a).length) fun z hz => h z (by simp [hz])
      refine ⟨p, ?_, e2, e3⟩
      rw [List.take_append, List.take_of_length_le hk, e1, List.append_assoc]
    · rw [if_neg hk]
      obtain ⟨h1, h2⟩ := h a (by simp)
      have hB : isB ((entB a).take k) := isB_take (entB_isB h2) k
      refine ⟨(entB a).take k, ?_, ?_, hB⟩
      · rw [List.take_append, show k - (entB a).length = 0 by omega]
        simp [entC]
      · exact oneA_part h1 hB (List.take_append_drop k (entB a)).symm (fun hc => by
          have := congrArg List.length hc
          simp only [List.length_drop, List.length_nil] at this
          omega)
theorem isB_entC {rs : List (List Int)} (h : ∀ a ∈ rs, a.length ≤ 512 ∧ isB a) : isB (entC rs) := fun z hz => by
  obtain ⟨a, ha, hz⟩ := List.mem_flatMap.1 hz
  exact entB_isB (h a ha).2 z hz
theorem rd_take {rs : List (List Int)} (k : Nat) (h : ∀ a ∈ rs, a.length ≤ 512 ∧ isB a) : ∃ p, (entC rs).take k = entC (rs.take (tr rs k)) ++ p ∧ rd ((entC rs).take k) = (rs.take (tr rs k), p) ∧ isB p := by
  obtain ⟨p, e1, e2, e3⟩ := tr_spec rs k h
  refine ⟨p, e1, ?_, e3⟩
  rw [e1, rd_ent (fun a ha => h a (List.mem_of_mem_take ha)) e3, rd_none e2]
  simp
theorem rd_all {rs : List (List Int)} (h : ∀ a ∈ rs, a.length ≤ 512 ∧ isB a) : rd (entC rs) = (rs, []) := by
  have := rd_ent (x := []) h (by simp [isB])
  rw [List.append_nil, rd_nil, List.append_nil] at this
  exact this
/-! ### awake -/
def awR : List (List Int) := [[97], [98, 99]]
theorem awR_ok : ∀ a ∈ awR, a.length ≤ 512 ∧ isB a := by
  intro a ha
  simp [awR] at ha
  rcases ha with rfl | rfl <;> exact ⟨by decide, by simp [isB]⟩
theorem aw_g1 : (grp 1).length = 1 := by rw [grp_lt (by decide)]; rfl
theorem aw_g2 : (grp 2).length = 1 := by rw [grp_lt (by decide)]; rfl
theorem aw_l1 : (entB [97]).length = 10 := by rw [entB_length]; simp [aw_g1]
theorem aw_l2 : (entB [98, 99]).length = 11 := by rw [entB_length]; simp [aw_g2]
theorem aw_len : (entC awR).length = 21 := by simp [awR, entC, aw_l1, aw_l2]
theorem aw_tr : tr awR 20 = 1 := by simp [awR, tr, aw_l1, aw_l2]
theorem h9 : F9 [] [] = some (.one (.bool true), []) := by
  have e12 := f12 0 [⟨#[97]⟩, ⟨#[98, 99]⟩] (by intro s hs; simp only [List.mem_cons, List.not_mem_nil, or_false] at hs; rcases hs with rfl | rfl <;> decide) (by decide)
  have hm : ([⟨#[97]⟩, ⟨#[98, 99]⟩] : List ByteArray).map toBytes = awR := rfl
  rw [hm] at e12
  have hB := isB_entC awR_ok
  have hr := rd_all awR_ok
  have hl := aw_len
  obtain ⟨p, q1, q2, q3⟩ := rd_take (rs := awR) 20 awR_ok
  rw [aw_tr] at q1 q2
  have e24 := f24 (entC awR) hB (by omega)
  have hrs : recS (entC awR) = awR.map ofBytes := by unfold recS; rw [hr]
  have hrs1 : recS ((entC awR).take 20) = [ofBytes [97]] := by unfold recS; rw [q2]; rfl
  rw [hrs, hr] at e24
  simp only [List.length_nil, Nat.sub_zero, List.take_length] at e24
  have e32 := f32 (awR.map ofBytes) (ofBytes (entC awR))
  have e25 := f25 (awR.map ofBytes) (entC awR) 20 20 hB (by omega) (by omega) rfl
  rw [hrs1, q2] at e25
  have hpl : ((entC awR).take 20).length = 20 := by rw [List.length_take]; omega
  have hq := congrArg List.length q1
  rw [hpl, List.length_append] at hq
  have htk : ((entC awR).take 20).take (20 - p.length) = entC (awR.take 1) := by
    rw [q1]; exact List.take_left' (by omega)
  simp only [htk] at e25
  have e32b := f32 [ofBytes [97]] (ofBytes (entC (awR.take 1)))
  have e27 := f27 [ofBytes [97]] (ofBytes (entC (awR.take 1)))
  have h1ok : ∀ a ∈ awR.take 1, a.length ≤ 512 ∧ isB a := fun a ha => awR_ok a (List.mem_of_mem_take ha)
  have e14 := f14 (entC awR) (entC (awR.take 1)) hB (by omega) (isB_entC h1ok) (by have := aw_l1; simp [awR, entC, this])
  have hrs2 : recS (entC (awR.take 1)) = [ofBytes [97]] := by unfold recS; rw [rd_all h1ok]; rfl
  rw [hrs, hrs2] at e14
  have hal : alk (awR.map ofBytes) [ofBytes [97]] = 1 := by simp [awR, alk]
  rw [hal] at e14
  have hsz : (ofBytes (entC awR)).size = 21 := by rw [size_ofBytes, hl]
  have hR2 : (awR.map ofBytes).length = 2 := rfl
  generalize awR.map ofBytes = R at *
  generalize ofBytes (entC awR) = S at *
  generalize ofBytes (entC (awR.take 1)) = S1 at *
  generalize hR1 : [ofBytes [97]] = R1 at *
  have hR1l : R1.length = 1 := by rw [← hR1]; rfl
  rw [hR1l] at e25 e32b
  rw [hR2] at e32
  simp only [jHp, tupSI] at e12 e24 e32 e25 e32b e27
  have z1 : ((1 : Nat) : Int) = 1 := rfl
  have z2 : ((2 : Nat) : Int) = 2 := rfl
  rw [z1] at e25 e32b e14
  rw [z2] at e32
  simp -implicitDefEqProofs [F9, c9, upd, e12, e24, e32, e25, e32b, e27, e14, hsz, RC.ofElems]
end Go.X.Try
set_option maxRecDepth 100000
set_option linter.unusedSimpArgs false
set_option linter.unusedVariables false
namespace Go.X.Try
open Go.IntWalk
def canon3 (a0 a1 bk : ByteArray) (n k e i : Int) (A B C : List ByteArray) : St :=
  ⟨[(0, .one (.str a0)), (1, .one (.str a1)), (5, .one (.row 0)), (6, .one (.int .i64 n)), (7, .one (.row 1)), (8, .one (.int .i64 k)), (9, .one (.str bk)), (10, .one (.int .i64 e)), (11, .one (.row 2)), (13, .one (.int .i64 i))], [.str a0, .str a1], [.rows (.strs A), .rows (.strs B), .rows (.strs C)]⟩
section
variable (a0 a1 bk : ByteArray) (n k e : Int) (A B C : List ByteArray)
theorem body3 (x : ByteArray) (i : Nat) (ha : B[i]? = some x) (hb : C[i]? = some x) (hl : B.length ≤ 100000) :
    ∃ st1, evC T3 KK b3x0 (canon3 a0 a1 bk n k e i A B C) = some (.norm, st1) ∧ St.head [0, 1, 5, 6, 7, 8, 9, 10, 11, 13] st1 = canon3 a0 a1 bk n k e (i + 1 : Nat) A B C := by
  have l1 := (List.getElem?_eq_some_iff.1 ha).1
  have l2 := (List.getElem?_eq_some_iff.1 hb).1
  have l1i : (i : Int) < B.length := by omega
  have l2i : (i : Int) < C.length := by omega
  have wi : IntKind.i64.wrap ((i : Int) + 1) = (i : Int) + 1 := i64_in _ (by omega)
  have ha' : ∀ hh, B[i]'hh = x := fun hh => by rw [List.getElem?_eq_getElem hh] at ha; simpa using ha
  have hb' : ∀ hh, C[i]'hh = x := fun hh => by rw [List.getElem?_eq_getElem hh] at hb; simpa using hb
  have hm : (i : Int) < (if C.length < B.length then (C.length : Int) else B.length) := by split <;> omega
  simp -implicitDefEqProofs [b3x0, canon3, upd, l1, l2, l1i, l2i, wi, ha, ha', hb, hb', hm, RC.len, RC.size, RC.get]
theorem end3 (i : Nat) (h : i = B.length ∨ i = C.length ∨ ∃ x y, B[i]? = some x ∧ C[i]? = some y ∧ ¬ x = y) :
    ∃ env, evC T3 KK b3x0 (canon3 a0 a1 bk n k e i A B C) = some (.exit 0, ⟨env, [.str a0, .str a1], [.rows (.strs A), .rows (.strs B), .rows (.strs C)]⟩) ∧ getT 0 env = .one (.str a0) ∧ getT 1 env = .one (.str a1) ∧ getT 5 env = .one (.row 0) ∧ getT 6 env = .one (.int .i64 n) ∧ getT 7 env = .one (.row 1) ∧ getT 8 env = .one (.int .i64 k) ∧ getT 9 env = .one (.str bk) ∧ getT 10 env = .one (.int .i64 e) ∧ getT 13 env = .one (.int .i64 i) := by
  by_cases hm : (i : Int) < (if C.length < B.length then (C.length : Int) else B.length)
  · have l1i : (i : Int) < B.length := by split at hm <;> omega
    have l2i : (i : Int) < C.length := by split at hm <;> omega
    have l1 : i < B.length := by omega
    have l2 : i < C.length := by omega
    rcases h with h | h | ⟨x, y, ha, hb, hxy⟩
    · omega
    · omega
    · have ha' : ∀ hh, B[i]'hh = x := fun hh => by rw [List.getElem?_eq_getElem hh] at ha; simpa using ha
      have hb' : ∀ hh, C[i]'hh = y := fun hh => by rw [List.getElem?_eq_getElem hh] at hb; simpa using hb
      have hxy' : (x.toList == y.toList) = false := by rw [beqS]; simpa using hxy
      simp -implicitDefEqProofs [b3x0, canon3, upd, l1, l2, l1i, l2i, ha, ha', hb, hb', hm, hxy, hxy', RC.len, RC.size, RC.get]
  · simp -implicitDefEqProofs [b3x0, canon3, upd, hm, RC.len, RC.size, RC.get]
theorem loop3 (hl : B.length ≤ 90000) : ∀ (j i K : Nat), i + j = alk B C → j < K →
    ∃ env, loopH (evC T3 KK b3x0) [0, 1, 5, 6, 7, 8, 9, 10, 11, 13] K (canon3 a0 a1 bk n k e i A B C) = some (.exit 0, ⟨env, [.str a0, .str a1], [.rows (.strs A), .rows (.strs B), .rows (.strs C)]⟩) ∧ getT 0 env = .one (.str a0) ∧ getT 1 env = .one (.str a1) ∧ getT 5 env = .one (.row 0) ∧ getT 6 env = .one (.int .i64 n) ∧ getT 7 env = .one (.row 1) ∧ getT 8 env = .one (.int .i64 k) ∧ getT 9 env = .one (.str bk) ∧ getT 10 env = .one (.int .i64 e) ∧ getT 13 env = .one (.int .i64 (alk B C : Nat))
  | 0, i, K, hj, hK => by
    have hle := alk_le B C
    have hi : i = alk B C := by omega
    obtain ⟨env, e1, g⟩ := end3 a0 a1 bk n k e A B C i (by
      by_cases h1 : i = B.length
      · exact .inl h1
      · by_cases h2 : i = C.length
        · exact .inr (.inl h2)
        · have e1 : B[i]? = some B[i] := List.getElem?_eq_getElem (by omega)
          have e2 : C[i]? = some C[i] := List.getElem?_eq_getElem (by omega)
          refine .inr (.inr ⟨_, _, e1, e2, ?_⟩)
          exact alk_ne B C _ _ (by rw [← hi]; exact e1) (by rw [← hi]; exact e2))
    rw [← hi]
    exact ⟨env, loopH_exit e1, g⟩
  | j + 1, i, K, hj, hK => by
    obtain ⟨x, h1, h2⟩ := alk_at B C i (by omega)
    obtain ⟨st1, e1, e2⟩ := body3 a0 a1 bk n k e A B C x i h1 h2 (by omega)
    obtain ⟨env, e3, e4⟩ := loop3 hl j (i + 1) (K - 1) (by omega) (by omega)
    exact ⟨env, by rw [loopH_norm e1 (by omega), e2]; exact e3, e4⟩
end
theorem run3 (l : List Int) (a1 bk : ByteArray) (n m : Nat) (k al : Int) (A C : List ByteArray) (env : Env) (h0 : ¬ 200 < l.length) (h0i : ¬ (200 : Int) < l.length) (h1 : ¬ 200 < a1.size) (h1i : ¬ (200 : Int) < a1.size) (hn : n ≤ l.length)
    (e10 : F10 [.one (.str (ofBytes l))] [] = some (.tup [.one (.row 0), .one (.int .i64 n)], [.rows (.strs A)])) (e11 : F11 [.one (.str (ofBytes l))] [] = some (.tup [.one (.row 0), .one (.int .i64 n)], [.rows (.strs A)]))
    (e12 : F12 [.one (.ro 0 (.strs A))] [] = some (tupSI bk 0, [])) (e11b : F11 [.one (.str a1)] [] = some (.tup [.one (.row 0), .one (.int .i64 k)], [.rows (.strs C)]))
    (el : loopH (evC T3 KK b3x0) [0, 1, 5, 6, 7, 8, 9, 10, 11, 13] KK (canon3 (ofBytes l) a1 bk n n 0 0 A A C) = some (.exit 0, ⟨env, [.str (ofBytes l), .str a1], [.rows (.strs A), .rows (.strs A), .rows (.strs C)]⟩))
    (g0 : getT 0 env = .one (.str (ofBytes l))) (g1 : getT 1 env = .one (.str a1)) (g5 : getT 5 env = .one (.row 0)) (g6 : getT 6 env = .one (.int .i64 n)) (g7 : getT 7 env = .one (.row 1)) (g8 : getT 8 env = .one (.int .i64 n)) (g9 : getT 9 env = .one (.str bk)) (g10 : getT 10 env = .one (.int .i64 0)) (g13 : getT 13 env = .one (.int .i64 al))
    (e13 : F13 [.one (.ro 0 (.strs A)), .one (.ro 1 (.strs A))] [] = some (.one (.bool true), [])) (hbk : ofBytes (l.take n) = bk) (e14 : F14 [.one (.str (ofBytes l)), .one (.str a1)] [] = some (.one (.int .i64 al), [])) :
    F3 [.one (.str (ofBytes l)), .one (.str a1)] [] = some (.one (.bool true), []) := by
  have hni : (n : Int) ≤ l.length := by omega
  simp only [canon3, tupSI] at el e12
  simp -implicitDefEqProofs [F3, c3, upd, h9, size_ofBytes, ofBytes_extract, h0, h0i, h1, h1i, e10, e11, e12, e11b, el, g0, g1, g5, g6, g7, g8, g9, g10, g13, e13, hn, hni, hbk, e14]
theorem law3 (a0 a1 : ByteArray) (_ : a0.size ≤ maxLen) (_ : a1.size ≤ maxLen) : F3 [.one (.str a0), .one (.str a1)] [] = some (.one (.bool true), []) := by
  by_cases h0 : 200 < a0.size
  · have h0i : (200 : Int) < a0.size := by omega
    simp -implicitDefEqProofs [F3, c3, upd, h9, h0, h0i]
  have h0i : ¬ (200 : Int) < a0.size := by omega
  by_cases h1 : 200 < a1.size
  · have h1i : (200 : Int) < a1.size := by omega
    simp -implicitDefEqProofs [F3, c3, upd, h9, h0, h0i, h1, h1i]
  have h1i : ¬ (200 : Int) < a1.size := by omega
  obtain ⟨l, hl⟩ : ∃ l, l = toBytes a0 := ⟨_, rfl⟩
  obtain ⟨m, hm⟩ : ∃ m, m = toBytes a1 := ⟨_, rfl⟩
  have hB : isB l := hl ▸ isB_toBytes a0
  have hBm : isB m := hm ▸ isB_toBytes a1
  have ha0 : a0 = ofBytes l := by rw [hl, ofBytes_toBytes]
  have ha1 : a1 = ofBytes m := by rw [hm, ofBytes_toBytes]
  have hll : l.length = a0.size := by rw [hl, size_toBytes]
  have hml : m.length = a1.size := by rw [hm, size_toBytes]
  obtain ⟨q1, q2, q3⟩ := rd_spec hB
  have hlen := congrArg List.length q1
  rw [List.length_append] at hlen
  have e10 := f10 l hB (by omega)
  have e11 := f11 l hB (by omega)
  have e11b := f11 m hBm (by omega)
  have hsz : ∀ s ∈ (rd l).1.map ofBytes, s.size ≤ 512 := by
    intro s hs
    obtain ⟨a, ha, rfl⟩ := List.mem_map.1 hs
    rw [size_ofBytes]; exact (q3 a ha).1
  have hrl := recS_len hB
  have hrm := recS_len hBm
  simp only [recS, List.length_map] at hrl hrm
  have e12 := f12 0 ((rd l).1.map ofBytes) hsz (by simp; omega)
  have hmap : ((rd l).1.map ofBytes).map toBytes = (rd l).1 := by
    rw [List.map_map]
    conv => rhs; rw [← List.map_id (rd l).1]
    apply List.map_congr_left
    intro a ha
    exact toB_ofB (q3 a ha).2
  rw [hmap] at e12
  have htk : l.take (l.length - (rd l).2.length) = entC (rd l).1 := by
    conv => lhs; rw [q1]
    exact List.take_left' (by rw [← q1]; omega)
  have e13 := f13 0 1 ((rd l).1.map ofBytes) ((rd l).1.map ofBytes) (by simp; omega)
  rw [decide_eq_true rfl] at e13
  have e14 := f14 l m hB (by omega) hBm (by omega)
  obtain ⟨env, el, g0, g1, g5, g6, g7, g8, g9, g10, g13⟩ := loop3 (ofBytes l) a1 (ofBytes (entC (rd l).1)) (l.length - (rd l).2.length : Nat) (l.length - (rd l).2.length : Nat) 0 ((rd l).1.map ofBytes) ((rd l).1.map ofBytes) ((rd m).1.map ofBytes) (by simp; omega) (alk ((rd l).1.map ofBytes) ((rd m).1.map ofBytes)) 0 KK (by omega) (by have := (alk_le ((rd l).1.map ofBytes) ((rd m).1.map ofBytes)).1; simp only [List.length_map] at this; rw [KK_eq]; omega)
  rw [ha0]
  rw [← ha1] at e11b e14
  exact run3 l a1 _ _ 0 _ _ _ _ env (by omega) (by omega) h1 h1i (by omega) e10 e11 e12 e11b el g0 g1 g5 g6 g7 g8 g9 g10 g13 e13 (by rw [htk]) e14
end Go.X.Try
