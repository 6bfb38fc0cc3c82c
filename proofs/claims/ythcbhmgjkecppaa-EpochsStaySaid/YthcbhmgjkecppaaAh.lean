import Derived.Test.YthcbhmgjkecppaaAg
set_option linter.unusedVariables false
namespace Go.X
section
variable {C : Cx} {ρ : Nat → RV} {hp : List Ob} {o : Oper} {a : Act} {w w' : World} {env : Env}
theorem zeroCells_size (z : Array Value) (n : Nat) : (Builtin.zeroCells z n).size = n * z.size := by simp [Builtin.zeroCells]
/-- The new block of an append that grows. -/
theorem grow_ob {c c' y : RC} {n : Nat} {r : Nat → RV} {e : TypeId} {need old : Nat} {z : Value} {k : Nat} (hF : FR C w) (hw : c'.wf) (hv : c'.vals = c.vals ++ y.vals) (hl : c'.len = need) (hs : c'.size = c.size) (hcl : c.vals.length = c.len * c.size) (hyl : y.vals.length = y.len * c.size) (hn : c.len + y.len = need)
    (hz : z.cells.size = c.size) (hmax : need ≤ maxLen) (hr : r k = ⟨.slice (some ⟨w.heap.size, 0, none⟩) need (grownCap w need old e), c'.size⟩) :
    ObR C n r (w.drew.alloc (.cells (c.vals.toArray ++ y.vals.toArray ++ Builtin.zeroCells z.cells (grownCap w need old e - need)) e)) k (.rows none c') := by
  have hge := grownCap_ge w need old e
  refine ⟨hw, by rw [hr], by simp, .inr ⟨w.heap.size, 0, grownCap w need old e, _, e, (0, 0), by rw [hr, hl], .inr hF.size, new_block w.drew _, by rw [hl]; exact hge, grownCap_le_maxLen w _ _ _ hmax, ?_, fun j u hu => ?_, by intro j _; simp⟩⟩
  · simp only [Array.size_append, List.size_toArray, zeroCells_size, hcl, hyl, hz, hs, ← Nat.add_mul]
    rw [show c.len + y.len + (grownCap w need old e - need) = grownCap w need old e by omega]
    omega
  · rw [hv] at hu
    have hlt := (List.getElem?_eq_some_iff.1 hu).1
    rw [Nat.zero_add, Array.getElem?_append_left (by simpa using hlt)]
    simpa using hu
/-- Where a row of the call's own, or a part of it, lies. -/
theorem own_view {k : Nat} {gk : Option Nat} {ck c : RC} {s : SV} {v : Value} (hs : s = .row k ∨ ∃ o n, s = .view k o n) (hH : HR C ρ hp w) (hv : VR C hp.length ρ s v) (hck : hp[k]? = some (.rows gk ck)) (hc : content hp s = some c) :
    c.wf ∧ ∃ ad cap, v = .slice ad c.len cap ∧ ((ad = none ∧ c.len = 0 ∧ cap = 0) ∨ ∃ b q cur T fr, ad = some ⟨b, q, none⟩ ∧ C.own b ∧ blkOf (ρ k).hdr = some b ∧ w.heap[b]? = some (.cells cur T fr) ∧ c.len ≤ cap ∧ cap ≤ maxLen ∧ q + cap * c.size ≤ cur.size ∧
      (∀ (j : Nat) (u : Value), c.vals[j]? = some u → cur[q + j]? = some u) ∧ ∀ (j : Nat), j < cur.size → ¬ (fr.1 ≤ j ∧ j < fr.2)) := by
  obtain ⟨hw, hsz, _, hob⟩ := hH.ob k _ hck
  rcases hs with rfl | ⟨o, n, rfl⟩
  · simp [content, hck, rowAt] at hc; subst hc
    refine ⟨hw, ?_⟩
    cases hv with
    | row _ ad m cap hk hh =>
      rcases hob with ⟨e, h0⟩ | ⟨b, q, cap', cur, T, fr, e, hown, hb, h1, h2, h3, h4, h5⟩
      · rw [hh] at e; simp at e; obtain ⟨rfl, rfl, rfl⟩ := e
        exact ⟨none, 0, by rw [h0], .inl ⟨rfl, h0, rfl⟩⟩
      · have hbk : blkOf (ρ k).hdr = some b := by rw [e]; rfl
        rw [hh] at e; simp at e; obtain ⟨rfl, rfl, rfl⟩ := e
        exact ⟨_, cap, rfl, .inr ⟨b, q, cur, T, fr, rfl, hown, hbk, hb, h1, h2, h3, h4, h5⟩⟩
  · simp [content, hck, cutAt] at hc; subst hc
    have hle := view_in hH hv hck
    obtain ⟨k1, k2, k3, k4⟩ := RC.cut_vals hw hle
    refine ⟨k3, ?_⟩
    rw [k1, k2]
    cases hv with
    | viewNil _ hk hh => exact ⟨none, 0, rfl, .inl ⟨rfl, rfl, rfl⟩⟩
    | view _ _ _ b q len cap q' hk hh hl hlc hq hq' =>
      refine ⟨_, _, rfl, .inr ?_⟩
      rcases hob with ⟨e, h0⟩ | ⟨b2, q2, cap', cur, T, fr, e, hown, hb, h1, h2, h3, h4, h5⟩
      · rw [hh] at e; simp at e
      · have hbk : blkOf (ρ k).hdr = some b2 := by rw [e]; rfl
        rw [hh] at e; simp at e; obtain ⟨⟨rfl, rfl⟩, rfl, rfl⟩ := e
        rw [hsz] at hq hq'
        have hm : o * ck.size + (cap - o) * ck.size = cap * ck.size ∨ cap < o := by
          rcases Nat.lt_or_ge cap o with h | h
          · exact .inr h
          · left; rw [← Nat.add_mul]; congr 1; omega
        refine ⟨b, q', cur, T, fr, rfl, hown, hbk, hb, by omega, by omega, ?_, fun j u hu => ?_, h5⟩
        · rcases hm with hm | hm
          · omega
          · omega
        · rw [k4] at hu
          have hj := (List.getElem?_eq_some_iff.1 hu).1
          have hn : 0 < n := by
            rcases Nat.eq_zero_or_pos n with h | h
            · subst h; simp at hj
            · exact h
          rw [hq (by omega), Nat.add_assoc]
          exact h4 _ _ (take_get hu)
theorem app_own {k : Nat} {gk : Option Nat} {ck c y c' c0 : RC} {s : SV} {T U e : TypeId} {d : TypeDesc} {i : TypeInfo} {zv : Value} {X Y : Operand} (hs : s = .row k ∨ ∃ o n, s = .view k o n) (hv : VR C hp.length ρ s (a.eval X)) (hck : hp[k]? = some (.rows gk ck)) (hc : content hp s = some c)
    (hT : C.P.underlying T = some (.slice e)) (hU : C.P.underlying U = some d) (hi : C.P.info? e = some i) (hzv : i.zero = some zv) (hsz : i.size = c0.size) (hzs : zv.cells.size = c0.size) (hb1 : 0 < i.bytes) (hcs : c.size = c0.size)
    (hyw : y.wf) (S : Srd C.P w i d (a.eval Y) y.len y.vals) (hys : y.size = c0.size) (hbnd : (c.len + y.len) * i.bytes ≤ 140737488355328) (happ : c.app y = some c') (hH : HR C ρ hp w) (hF : FR C w) {type : TypeId}
    (run : ∀ {v : Value} {w' : World}, (Builtin.append_ #[T, U] type #[a.eval X, a.eval Y]).run C.P w = .ok v w' → (execOp a.eval o).run C.P w = .ok (.value v) w') : Good C ρ hp o a w (.one (.row hp.length), hp.set k .dead ++ [.rows none c']) := by
  obtain ⟨hw, ad, cap, hX, hown⟩ := own_view hs hH hv hck hc
  obtain ⟨a1, a2, a3, a4, a5⟩ := RC.app_vals hw hyw happ
  have hal : alive hp k := ⟨_, hck, by simp⟩
  have hcc : c.len + y.len ≤ 140737488355328 := by
    have : (c.len + y.len) * 1 ≤ (c.len + y.len) * i.bytes := Nat.mul_le_mul_left _ hb1
    omega
  have hvl := RC.vals_length hw
  have hyl := RC.vals_length hyw
  have fresh : ∀ (W : World) (r : RV), blkOf r.hdr = some w.heap.size → ∀ j b, alive (hp.set k .dead) j → blkOf (ρ j).hdr = some b → blkOf r.hdr ≠ some b := by
    intro W r hr j b hj hb
    have hj' : alive hp j := by
      by_cases ej : j = k
      · subst ej; exact hal
      · exact alive_set hj ej
    have := (hH.lt hj' hb).2
    rw [hr]; simp; omega
  rcases hown with ⟨rfl, h0, rfl⟩ | ⟨b, q, cur, T', fr, rfl, hob, hbk, hb, h1, h2, h3, h4, h5⟩
  · rw [h0] at hX
    have hv0 : c.vals = [] := List.eq_nil_of_length_eq_zero (by rw [hvl, h0, Nat.zero_mul])
    rcases Nat.eq_zero_or_pos y.len with hy0 | hy0
    · rw [hy0] at S
      refine good_app (k := k) (v := .slice none 0 0) (w1 := w) (r := ⟨.slice none 0 0, c'.size⟩) (run (by rw [hX]; exact append_zero hT hU hi S)) (hH.dead k) hF rfl ⟨_, _, _, rfl⟩ ⟨a4, by rw [up_at], by simp, .inl ⟨by rw [up_at], by omega⟩⟩ (by simp [blkOf])
    · have hg := append_grow (ty := type) hT hU hi hzv S (ad := none) (m := 0) (cap := 0) (olds := []) (by simp) (fun W _ => by simp [Builtin.firstCells]) (by omega) hb1 (by rw [h0] at hbnd; exact hbnd)
      rw [Nat.zero_add] at hg
      have hob := grow_ob (C := C) (w := w) (c := c) (c' := c') (y := y) (n := hp.length + 1) (r := up ρ hp.length ⟨.slice (some ⟨w.heap.size, 0, none⟩) y.len (grownCap w y.len 0 e), c'.size⟩) (e := e) (need := y.len) (old := 0) (z := zv) (k := hp.length) hF a4 a1 (by omega) a3 hvl (by rw [hyl, hys, hcs]) (by omega) (by rw [hzs, hcs])
        (by simp only [maxLen]; omega) (by rw [up_at])
      rw [hv0] at hob
      exact good_app (k := k) (r := ⟨.slice (some ⟨w.heap.size, 0, none⟩) y.len (grownCap w y.len 0 e), c'.size⟩) (run (by rw [hX]; exact hg)) ((hH.dead k).drew.alloc _) (hF.drew.alloc _) rfl ⟨_, _, _, rfl⟩ hob (fresh w _ rfl)
  · rcases Nat.lt_or_ge cap (c.len + y.len) with hg | hroom
    · have hg := append_grow (ty := type) hT hU hi hzv S (ad := some ⟨b, q, none⟩) (m := c.len) (cap := cap) (olds := c.vals) (by rw [hvl, hcs, hsz]) (fun W hW => run_firstCells_some W i.size c.len ⟨b, q, none⟩ c.len cap c.vals (by rw [hvl, hcs, hsz]) (fun j u hu => by
        rw [Addr.add_lit]
        have := h4 j u hu
        simp [World.cell?, hW, hb, this])) hg hb1 hbnd
      have hob := grow_ob (C := C) (w := w) (c := c) (c' := c') (y := y) (n := hp.length + 1) (r := up ρ hp.length ⟨.slice (some ⟨w.heap.size, 0, none⟩) (c.len + y.len) (grownCap w (c.len + y.len) cap e), c'.size⟩) (e := e) (need := c.len + y.len) (old := cap) (z := zv) (k := hp.length) hF a4 a1 a2 a3 hvl (by rw [hyl, hys, hcs]) rfl (by rw [hzs, hcs])
        (by simp only [maxLen]; omega) (by rw [up_at])
      exact good_app (k := k) (r := ⟨.slice (some ⟨w.heap.size, 0, none⟩) (c.len + y.len) (grownCap w (c.len + y.len) cap e), c'.size⟩) (run (by rw [hX]; exact hg)) ((hH.dead k).drew.alloc _) (hF.drew.alloc _) rfl ⟨_, _, _, rfl⟩ hob (fresh w _ rfl)
    · have hfit : q + c.len * i.size + y.vals.length ≤ cur.size := by
        have h6 : (c.len + y.len) * c.size ≤ cap * c.size := Nat.mul_le_mul_right _ hroom
        rw [hyl, hys, hsz, ← hcs, Nat.add_assoc, ← Nat.add_mul]; omega
      obtain ⟨w', hrun, hb', hsame⟩ := append_room (ty := type) hT hU hi S hb h5 hroom hfit
      have hne : ∀ j b', alive (hp.set k .dead) j → blkOf (ρ j).hdr = some b' → b' ≠ b := by
        intro j b' hj hb2 e2
        have hjk : j ≠ k := by
          rintro rfl
          obtain ⟨x, hx, hd'⟩ := hj
          have hlt := (List.getElem?_eq_some_iff.1 hx).1
          rw [List.length_set] at hlt
          rw [List.getElem?_set_self hlt] at hx
          simp at hx; exact hd' hx.symm
        subst e2
        exact hH.ne j k b' hjk (alive_set hj hjk) hal hb2 hbk
      have hH' : HR C ρ (hp.set k .dead) w' := (hH.dead k).world (fun j b' hj hb2 => hsame.block b' (hne j b' hj hb2))
      refine good_app (k := k) (r := ⟨.slice (some ⟨b, q, none⟩) (c.len + y.len) cap, c'.size⟩) (run (by rw [hX]; exact hrun)) hH' (hF.same hsame hob) rfl ⟨_, _, _, rfl⟩ ?_ (fun j b' hj hb2 => by simp [blkOf]; exact fun e2 => hne j b' hj hb2 e2.symm)
      refine ⟨a4, by rw [up_at], by simp, .inr ⟨b, q, cap, _, T', fr, by rw [up_at, a2], hob, hb', by omega, h2, ?_, fun j u hu => ?_, ?_⟩⟩
      · rw [a3]; simpa [layV_length] using h3
      · rw [a1] at hu
        rw [List.getElem?_toArray, layV_get _ _ _ _ (by simpa using hfit), hsz, ← hcs, ← hvl]
        by_cases hj : j < c.vals.length
        · rw [List.getElem?_append_left hj] at hu
          rw [if_neg (by omega)]
          simpa using h4 j u hu
        · rw [List.getElem?_append_right (by omega)] at hu
          have hj2 := (List.getElem?_eq_some_iff.1 hu).1
          rw [if_pos (by omega), show q + j - (q + c.vals.length) = j - c.vals.length by omega]
          exact hu
      · simpa [layV_length] using h5
theorem zero_flat {zv : Value} {z : List Sc} (hzc : zv.cells.toList = z.map Sc.val) : ∀ n : Nat, (List.replicate n z).flatMap (fun e => e.map Sc.val) = (Builtin.zeroCells zv.cells n).toList := by
  intro n
  have e : (Builtin.zeroCells zv.cells n).toList = (List.range (n * zv.cells.size)).map fun i => zv.cells[i % zv.cells.size]! := by
    simp [Builtin.zeroCells, Array.toList_map, Array.toList_range]
  rw [e]
  clear e
  induction n with
  | zero => simp
  | succ n ih =>
    rw [List.replicate_succ', List.flatMap_append, ih, Nat.succ_mul, List.range_add, List.map_append]
    congr 1
    simp only [List.flatMap_cons, List.flatMap_nil, List.append_nil, List.map_map]
    rw [← hzc]
    apply List.ext_getElem (by simp)
    intro j h1 h2
    have hj : j < zv.cells.size := by simpa using h1
    simp only [List.getElem_map, List.getElem_range, Function.comp]
    rw [Nat.mul_comm n, Nat.mul_add_mod, Nat.mod_eq_of_lt hj, getElem!_pos zv.cells j hj]
    simp
theorem app_core {T U e : TypeId} {d : TypeDesc} {i : TypeInfo} {zv : Value} {X Y : Operand} {c0 yc : RC} {sx xv : SV} {bytes : Nat} {res : AV × List Ob} {type : TypeId}
    (hT : C.P.underlying T = some (.slice e)) (hU : C.P.underlying U = some d) (hi : C.P.info? e = some i) (hzv : i.zero = some zv) (hsz : i.size = c0.size) (hzs : zv.cells.size = c0.size) (hb0 : bytes ≠ 0) (hbi : i.bytes = bytes) (hkw : c0.wf) (hkl : c0.len = 0)
    (h1 : VR C hp.length ρ sx (a.eval X)) (hyw : yc.wf) (S0 : yc.size = c0.size → Srd C.P w i d (a.eval Y) yc.len yc.vals) (hH : HR C ρ hp w) (hF : FR C w) (h : app2 hp c0 bytes sx xv yc = some res)
    (run : ∀ {v : Value} {w' : World}, (Builtin.append_ #[T, U] type #[a.eval X, a.eval Y]).run C.P w = .ok v w' → (execOp a.eval o).run C.P w = .ok (.value v) w') : Good C ρ hp o a w res := by
  have hbnd : ∀ n : Nat, n * bytes ≤ 140737488355328 → n ≤ 140737488355328 := by
    intro n hn
    have : n * 1 ≤ n * bytes := Nat.mul_le_mul_left _ (by omega)
    omega
  have fin : ∀ {k : Nat} {gk : Option Nat} {ck c : RC}, (sx = .row k ∨ ∃ o n, sx = .view k o n) → hp[k]? = some (.rows gk ck) → content hp sx = some c → app3 hp c0 bytes k yc (some c) = some res → Good C ρ hp o a w res := by
    intro k gk ck c hs hck hcont h
    simp only [app3] at h
    split at h
    · rename_i hc
      cases happ : c.app yc with
      | none => simp [happ, putR] at h
      | some c' =>
        simp [happ, putR, Go.X.newRow] at h
        subst h
        have S : Srd C.P w i d (a.eval Y) yc.len yc.vals := S0 hc.2.2
        exact app_own (c0 := c0) hs h1 hck hcont hT hU hi hzv hsz hzs (by omega) hc.2.1 hyw S hc.2.2 (by rw [hbi]; exact hc.1) happ hH hF run
    · simp at h
  unfold app2 at h
  split at h
  · -- nothing was there
    rename_i cn
    split at h
    · rename_i hc
      obtain ⟨c', hc', rfl⟩ := putR_row (n := 0) h
      obtain ⟨a1, a2, a3, a4, a5⟩ := RC.app_vals hkw hyw hc'
      have S : Srd C.P w i d (a.eval Y) yc.len yc.vals := S0 hc.2
      have hv0 : c0.vals = [] := List.eq_nil_of_length_eq_zero (by rw [RC.vals_length hkw, hkl, Nat.zero_mul])
      have hX : a.eval X = .slice none 0 0 := by
        generalize a.eval X = v at h1
        cases h1; rfl
      have hclen : c'.len = yc.len := by rw [a2, hkl, Nat.zero_add]
      rcases Nat.eq_zero_or_pos yc.len with h0 | h0
      · have S' : Srd C.P w i d (a.eval Y) 0 yc.vals := by rw [← h0]; exact S
        refine good_value (v := .slice none 0 0) (w' := w) (run ?_) _ (by simp) (up_ext _ _ _) ?_ (hH.newRow (b := none) (by rw [hclen, h0]) a4) hF
        · rw [hX]; exact append_zero hT hU hi S'
        · simp only [List.length_append, List.length_cons, List.length_nil, Nat.zero_add]
          exact .one _ _ (up_row _ _ _ _ _)
      · have hg := append_grow (ty := type) hT hU hi hzv S (ad := none) (m := 0) (cap := 0) (olds := []) (by simp) (fun W _ => by simp [Builtin.firstCells]) (by omega) (by omega) (by rw [Nat.zero_add, hbi]; exact hc.1)
        rw [Nat.zero_add] at hg
        have hob := grow_ob (C := C) (w := w) (c := c0) (c' := c') (y := yc) (n := hp.length + 1) (r := up ρ hp.length ⟨.slice (some ⟨w.heap.size, 0, none⟩) yc.len (grownCap w yc.len 0 e), c'.size⟩) (e := e) (need := yc.len) (old := 0) (z := zv) (k := hp.length) hF a4 a1 hclen a3 (RC.vals_length hkw) (by rw [RC.vals_length hyw, hc.2]) (by rw [hkl, Nat.zero_add]) hzs
          (by have := hbnd _ hc.1; simp only [maxLen]; omega) (by rw [up_at])
        have hn := (hH.drew.alloc (.cells (c0.vals.toArray ++ yc.vals.toArray ++ Builtin.zeroCells zv.cells (grownCap w yc.len 0 e - yc.len)) e)).push (o := .rows none c') hob (fun k b ha hb' => by have := (hH.lt ha hb').2; simp [blkOf]; omega)
        rw [hv0] at hn
        refine good_value (run (by rw [hX]; exact hg)) _ (by simp) (up_ext _ _ _) ?_ hn (hF.drew.alloc _)
        simp only [List.length_append, List.length_cons, List.length_nil, Nat.zero_add]
        exact .one _ _ (up_row _ _ _ _ _)
    · simp at h
  -- a row of the call's own, or a part of it
  all_goals first | (simp at h; done) | skip
  · rename_i k
    split at h
    · simp at h
    · cases hck : hp[k]? with
      | none => simp [hck, rowAt, app3] at h
      | some ob =>
        cases ob with
        | rows gk ck => exact fin (c := ck) (.inl rfl) hck (by simp [content, hck, rowAt]) (by simpa [hck, rowAt] using h)
        | _ => simp [hck, rowAt, app3] at h
  · rename_i k o n
    split at h
    · simp at h
    · cases hck : hp[k]? with
      | none => simp [hck, cutAt, app3] at h
      | some ob =>
        cases ob with
        | rows gk ck => exact fin (c := ck.cut o n) (.inr ⟨o, n, rfl⟩) hck (by simp [content, hck, cutAt]) (by simpa [hck, cutAt] using h)
        | _ => simp [hck, cutAt, app3] at h
theorem g_append {T U e t t' : TypeId} {d : TypeDesc} {X Y : Operand} {x y : AO} {c0 : RC} {z : List Sc} {bytes : Nat} {res : AV × List Ob} {c : Call} (ho : o.op = .call c) (hcal : c.callee = .builtin .append) (hA : c.args.toList = [X, Y]) (hTs : c.argTypes.toList = [T, U])
    (hT : C.P.underlying T = some (.slice e)) (hU : C.P.underlying U = some d) (hd : (∃ e', d = .slice e') ∨ d = .string) (hr : rowT C.P e = some (c0, z)) (hb : bytesT C.P e = some bytes) (hb0 : bytes ≠ 0) (hx : cOp C.P t X = some x) (hy : cOp C.P t' Y = some y)
    (he : EnvR C hp.length ρ env a) (hH : HR C ρ hp w) (hF : FR C w) (h : Go.X.append hp c0 bytes (getS env x) (getS env y) = some res) : Good C ρ hp o a w res := by
  have hk := rowT_ok hr
  obtain ⟨i, zv, hi, hzv, hsz, hzl, hpos, hzc⟩ := hk.info
  have hbi : i.bytes = bytes := by simp only [bytesT, hi, Option.map_some, Option.some.injEq] at hb; exact hb
  have hzs : zv.cells.size = c0.size := by have := congrArg List.length hzc; simp at this; omega
  have h1 := cOp_ok hx he
  have h2 := cOp_ok hy he
  obtain ⟨dst, op', type, pos, after, guard⟩ := o
  obtain ⟨cl, ca, ct⟩ := c
  dsimp only at ho hcal hA hTs; subst ho hcal
  obtain rfl : ca = #[X, Y] := by rw [← Array.toArray_toList (xs := ca), hA]
  obtain rfl : ct = #[T, U] := by rw [← Array.toArray_toList (xs := ct), hTs]
  have run : ∀ {v : Value} {w' : World}, (Builtin.append_ #[T, U] type #[a.eval X, a.eval Y]).run C.P w = .ok v w' → (execOp a.eval ⟨dst, .call ⟨.builtin .append, #[X, Y], #[T, U]⟩, type, pos, after, guard⟩).run C.P w = .ok (.value v) w' := by
    intro v w' hr
    refine call_builtin fun consts => ?_
    simp [builtin, hr]
  cases hsrc : source hp c0 (getS env y) with
  | none => simp [Go.X.append, hsrc, app1] at h
  | some yc =>
    simp only [Go.X.append, hsrc, app1] at h
    obtain ⟨_, h2⟩ := h2.sv_of (by intro e; rw [getS, e] at hsrc; simp [source, content] at hsrc)
    obtain ⟨_, h1⟩ := h1.sv_of (by intro e; rw [getS, e] at h; simp [app2] at h)
    obtain ⟨hyw, S0⟩ := src_ok hH hF h2 hsrc
    exact app_core hT hU hi hzv hsz hzs hb0 hbi hk.wf hk.len h1 hyw (fun hc => .inl ⟨hd, by rw [hsz, ← hc]; exact S0⟩) hH hF h run
theorem g_appz {T U e t t' : TypeId} {kd : IntKind} {X Y : Operand} {x y : AO} {c0 : RC} {z : List Sc} {bytes : Nat} {res : AV × List Ob} {c : Call} (ho : o.op = .call c) (hcal : c.callee = .builtin .append) (hA : c.args.toList = [X, Y]) (hTs : c.argTypes.toList = [T, U])
    (hT : C.P.underlying T = some (.slice e)) (hU : C.P.underlying U = some (.int kd)) (hr : rowT C.P e = some (c0, z)) (hb : bytesT C.P e = some bytes) (hb0 : bytes ≠ 0) (hx : cOp C.P t X = some x) (hy : cOp C.P t' Y = some y)
    (he : EnvR C hp.length ρ env a) (hH : HR C ρ hp w) (hF : FR C w) (h : oAppZ hp c0 z bytes (getS env x) (getO env y) = some res) : Good C ρ hp o a w res := by
  have hk := rowT_ok hr
  obtain ⟨i, zv, hi, hzv, hsz, hzl, hpos, hzc⟩ := hk.info
  have hbi : i.bytes = bytes := by simp only [bytesT, hi, Option.map_some, Option.some.injEq] at hb; exact hb
  have hzs : zv.cells.size = c0.size := by have := congrArg List.length hzc; simp at this; omega
  have h1 := cOp_ok hx he
  have h2 := cOp_ok hy he
  obtain ⟨dst, op', type, pos, after, guard⟩ := o
  obtain ⟨cl, ca, ct⟩ := c
  dsimp only at ho hcal hA hTs; subst ho hcal
  obtain rfl : ca = #[X, Y] := by rw [← Array.toArray_toList (xs := ca), hA]
  obtain rfl : ct = #[T, U] := by rw [← Array.toArray_toList (xs := ct), hTs]
  have run : ∀ {v : Value} {w' : World}, (Builtin.append_ #[T, U] type #[a.eval X, a.eval Y]).run C.P w = .ok v w' → (execOp a.eval ⟨dst, .call ⟨.builtin .append, #[X, Y], #[T, U]⟩, type, pos, after, guard⟩).run C.P w = .ok (.value v) w' := by
    intro v w' hr
    refine call_builtin fun consts => ?_
    simp [builtin, hr]
  generalize getO env y = yv at h h2
  unfold oAppZ at h
  split at h
  · rename_i j l
    split at h
    · rename_i hc
      cases hq : RC.ofElems c0 (List.replicate l.toNat z) with
      | none => simp [hq, app1] at h
      | some yc =>
        simp only [hq, app1] at h
        obtain ⟨v1, v2, v3, v4, v5⟩ := RC.ofElems_ok hk.wf hq
        rw [List.length_replicate] at v2
        obtain ⟨_, h1⟩ := h1.sv_of (by intro e; rw [getS, e] at h; simp [app2] at h)
        have hY : a.eval Y = .int j l := by
          generalize a.eval Y = v at h2
          cases h2 with | one _ _ h2 => cases h2; rfl
        have hl : ((l.toNat : Nat) : Int) = l := by omega
        have hnb : l.toNat * i.bytes ≤ 140737488355328 := by
          have h3 := hc.2
          rw [← hl, ← hbi] at h3
          have : ((l.toNat * i.bytes : Nat) : Int) = (l.toNat : Int) * (i.bytes : Int) := by simp
          omega
        have hvals : yc.vals = (Builtin.zeroCells zv.cells l.toNat).toList := by
          rw [v1]
          exact zero_flat hzc l.toNat
        have hyl := RC.vals_length v4
        refine app_core hT hU hi hzv hsz hzs hb0 hbi hk.wf hk.len h1 v4 (fun hcs => .inr ⟨kd, j, zv, rfl, ?_, hzv, by rw [hzs, hsz], by omega, ?_, by rw [v2]; exact hnb, ?_, ?_, vals_one v4⟩) hH hF h run
        · rw [hY, v2, hl]
        · rw [v2]; exact hvals
        · rw [v2]
          have : l.toNat * 1 ≤ l.toNat * i.bytes := Nat.mul_le_mul_left _ (by omega)
          omega
        · rw [hyl, v3, hsz]
    · simp at h
  · simp at h
end
end Go.X
