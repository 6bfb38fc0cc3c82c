import Derived.ChangeKeysEq
import Derived.Laws.StructEq
import Derived.Test.YtnbmmdkcmgdpdaaZ0
set_option linter.unusedVariables false
set_option linter.unusedSimpArgs false
set_option linter.unusedSectionVars false
set_option maxRecDepth 100000
namespace Go.X
structure Src (P : Program) (w : World) (size : Nat) (x : Value) (n : Nat) (news : List Value) : Prop where
  len : ∀ W : World, (Builtin.lenOf x).run P W = .ok n W
  cells : ∀ W : World, W.heap = w.heap → (Builtin.firstCells size n x).run P W = .ok news.toArray W
  length : news.length = n * size
  one : ∀ v ∈ news, v.oneCell' = true
def Srd (P : Program) (w : World) (i : TypeInfo) (d : TypeDesc) (x : Value) (n : Nat) (news : List Value) : Prop :=
  (((∃ e', d = .slice e') ∨ d = .string) ∧ Src P w i.size x n news) ∨
  ∃ k j z, d = .int k ∧ x = .int j n ∧ i.zero = some z ∧ z.cells.size = i.size ∧ 0 < i.size ∧ news = (Builtin.zeroCells z.cells n).toList ∧ n * i.bytes ≤ 140737488355328 ∧ n ≤ 140737488355328 ∧ news.length = n * i.size ∧ ∀ v ∈ news, v.oneCell' = true
theorem Srd.length {P : Program} {w : World} {i : TypeInfo} {d : TypeDesc} {x : Value} {n : Nat} {news : List Value} (S : Srd P w i d x n news) : news.length = n * i.size := by
  rcases S with ⟨_, S⟩ | ⟨k, j, z, _, _, _, _, _, _, _, _, h, _⟩
  · exact S.length
  · exact h
theorem Srd.one {P : Program} {w : World} {i : TypeInfo} {d : TypeDesc} {x : Value} {n : Nat} {news : List Value} (S : Srd P w i d x n news) : ∀ v ∈ news, v.oneCell' = true := by
  rcases S with ⟨_, S⟩ | ⟨k, j, z, _, _, _, _, _, _, _, _, _, h⟩
  · exact S.one
  · exact h
section
variable {P : Program} {w : World} {t u ty e : TypeId} {i : TypeInfo} {z : Value} {d : TypeDesc} {x : Value} {n : Nat} {news : List Value}
theorem append_zero (ht : P.underlying t = some (.slice e)) (hu : P.underlying u = some d) (hi : P.info? e = some i) (S : Srd P w i d x 0 news) :
    (Builtin.append_ #[t, u] ty #[.slice none 0 0, x]).run P w = .ok (.slice none 0 0) w := by
  rcases S with ⟨hd, S⟩ | ⟨k, j, z', rfl, rfl, hz', _, _, _, _, _, _, _⟩
  · have h1 := S.len w
    have h2 := S.cells w rfl
    rcases hd with ⟨e', rfl⟩ | rfl <;> simp [Builtin.append_, run_underlying ht, run_underlying hu, Go.sizeOf, typeInfo, hi, h1, h2]
  · have h0 : IntKind.i64.wrap (0 : Int) = 0 := by decide
    simp [Builtin.append_, run_underlying ht, run_underlying hu, Go.sizeOf, typeInfo, hi, asInt, asIntOf, h0]
theorem append_room (ht : P.underlying t = some (.slice e)) (hu : P.underlying u = some d) (hi : P.info? e = some i) (S : Srd P w i d x n news) {b q m cap : Nat} {cur : Array Value} {T : TypeId} {fr : Nat × Nat}
    (hb : w.heap[b]? = some (.cells cur T fr)) (hf : ∀ (j : Nat), j < cur.size → ¬ (fr.1 ≤ j ∧ j < fr.2)) (hroom : m + n ≤ cap) (hfit : q + m * i.size + news.length ≤ cur.size) :
    ∃ w', (Builtin.append_ #[t, u] ty #[.slice (some ⟨b, q, none⟩) m cap, x]).run P w = .ok (.slice (some ⟨b, q, none⟩) (m + n) cap) w' ∧ w'.heap[b]? = some (.cells (layV cur.toList (q + m * i.size) news).toArray T fr) ∧ SameBut w w' b := by
  obtain ⟨w', hr, hb', hs⟩ := run_lay P b (q + m * i.size) T fr news 0 cur w hb hf (by simpa using hfit) S.one
  refine ⟨w', ?_, by simpa using hb', hs⟩
  rcases S with ⟨hd, S⟩ | ⟨k, j, z', rfl, rfl, hz', hzs, hsz, rfl, hnb, hn, _, _⟩
  · have h1 := S.len w
    have h2 := S.cells w rfl
    rcases hd with ⟨e', rfl⟩ | rfl <;> simp [Builtin.append_, run_underlying ht, run_underlying hu, Go.sizeOf, typeInfo, hi, h1, h2, hroom, Addr.add_lit, hr]
  · have h0 : IntKind.i64.wrap (n : Int) = n := Go.IntWalk.i64_in _ (by omega)
    have h3 : ¬ (n : Int) < 0 := by omega
    have h4 : ¬ 281474976710656 < (n : Int) * (i.bytes : Int) := by
      have : ((n * i.bytes : Nat) : Int) = (n : Int) * (i.bytes : Int) := by simp
      omega
    by_cases hn0 : n = 0
    · subst hn0
      have e0 : (Builtin.zeroCells z'.cells 0).toList = [] := by simp [Builtin.zeroCells]
      rw [e0] at hr
      simp [Builtin.append_, run_underlying ht, run_underlying hu, Go.sizeOf, typeInfo, hi, asInt, asIntOf, show IntKind.i64.wrap (0 : Int) = 0 from by decide, show m ≤ cap from by omega, Addr.add_lit, hr]
    · have h5 : ¬ (n * i.size = 0) := by
        intro h; rcases Nat.mul_eq_zero.1 h with h | h <;> omega
      have h6 : ¬ i.size = 0 := by omega
      simp [Builtin.append_, run_underlying ht, run_underlying hu, Go.sizeOf, typeInfo, hi, asInt, asIntOf, h0, h3, h4, h5, h6, hn0, hroom, zeroValue, hz', Addr.add_lit, hr]
theorem append_grow (ht : P.underlying t = some (.slice e)) (hu : P.underlying u = some d) (hi : P.info? e = some i) (hz : i.zero = some z) (S : Srd P w i d x n news) {ad : Option Addr} {m cap : Nat} {olds : List Value}
    (hlo : olds.length = m * i.size) (holds : ∀ W : World, W.heap = w.heap → (Builtin.firstCells i.size m (.slice ad m cap)).run P W = .ok olds.toArray W) (hg : cap < m + n) (hb1 : 0 < i.bytes) (hb : (m + n) * i.bytes ≤ 140737488355328) :
    (Builtin.append_ #[t, u] ty #[.slice ad m cap, x]).run P w = .ok (.slice (some ⟨w.heap.size, 0, none⟩) (m + n) (grownCap w (m + n) cap e))
        (w.drew.alloc (.cells (olds.toArray ++ news.toArray ++ Builtin.zeroCells z.cells (grownCap w (m + n) cap e - (m + n))) e)) := by
  have hmn : m + n ≤ 140737488355328 := by
    have : (m + n) * 1 ≤ (m + n) * i.bytes := Nat.mul_le_mul_left _ hb1
    omega
  have hn : ¬ (m + n ≤ cap) := by omega
  have h63' : ¬ (9223372036854775807 < ((m : Int) + (n : Int))) := by omega
  have h48' : ¬ (281474976710656 < Builtin.nextslicecap (m + n) cap * i.bytes) := by have := growslice_fits hg hb; omega
  have h3 := holds w.drew rfl
  have hb0 : i.bytes ≠ 0 := by omega
  rcases S with ⟨hd, S⟩ | ⟨k, j, z', rfl, rfl, hz', hzs, hsz, rfl, hnb, hnn, _, _⟩
  · have h1 := S.len w
    have h2 := S.cells w.drew rfl
    rcases hd with ⟨e', rfl⟩ | rfl
    · simp [Builtin.append_, run_underlying ht, run_underlying hu, Go.sizeOf, typeInfo, zeroValue, hi, hz, h1, hn, h63', h48', Question.forced, h2, h3, Go.newRow, grownCap]
      congr 2
      apply Array.ext'
      simp [List.append_assoc]
    · simp [Builtin.append_, run_underlying ht, run_underlying hu, Go.sizeOf, typeInfo, zeroValue, hi, hz, h1, hn, h63', h48', Question.forced, h2, h3, Go.newRow, grownCap]
      congr 2
      apply Array.ext'
      simp [List.append_assoc]
  · obtain rfl : z = z' := by rw [hz] at hz'; simpa using hz'
    have h0 : IntKind.i64.wrap (n : Int) = n := Go.IntWalk.i64_in _ (by omega)
    have h5 : ¬ (n : Int) < 0 := by omega
    have h4 : ¬ 281474976710656 < (n : Int) * (i.bytes : Int) := by
      have : ((n * i.bytes : Nat) : Int) = (n : Int) * (i.bytes : Int) := by simp
      omega
    have hkk : ¬ (9223372036854775807 < (m : Int) + (n : Int)) := by omega
    by_cases hn0 : n = 0
    · subst hn0
      have e0 : (Builtin.zeroCells z.cells 0) = #[] := by simp [Builtin.zeroCells]
      have hm' : ¬ m ≤ cap := by omega
      rw [Nat.add_zero] at h48' ⊢
      have h63'' : ¬ (9223372036854775807 < (m : Int)) := by omega
      simp [Builtin.append_, run_underlying ht, run_underlying hu, Go.sizeOf, typeInfo, zeroValue, hi, hz, asInt, asIntOf, show IntKind.i64.wrap (0 : Int) = 0 from by decide, hm', h63'', IntKind.max, IntKind.signed, IntKind.bits, h48', Question.forced, h3, Go.newRow, grownCap, e0]
    · have h7 : ¬ (n * i.size = 0) := by
        intro h; rcases Nat.mul_eq_zero.1 h with h | h <;> omega
      have h6 : ¬ i.size = 0 := by omega
      simp [Builtin.append_, run_underlying ht, run_underlying hu, Go.sizeOf, typeInfo, zeroValue, hi, hz, asInt, asIntOf, h0, h5, h4, h7, h6, hn0, hn, hkk, h63', IntKind.max, IntKind.signed, IntKind.bits, h48', Question.forced, h3, Go.newRow, grownCap]
end
section
variable {C : Cx} {ρ : Nat → RV} {hp : List Ob} {o : Oper} {a : Act} {w w' : World} {env : Env}
theorem HR.dead (h : HR C ρ hp w) (k : Nat) : HR C ρ (hp.set k .dead) w := h.setOb (k := k) (o := .dead) trivial (fun h => absurd rfl h)
theorem bytes_vals (s : ByteArray) : (s.data.map fun b => Value.int .u8 b.toNat) = (RC.ints .u8 (toBytes s)).vals.toArray := by
  simp only [RC.vals, toBytes, List.map_map]
  rw [← Array.toArray_toList (xs := s.data.map fun b => Value.int .u8 b.toNat), Array.toList_map]
  rfl
theorem vals_one {y : RC} (hw : y.wf) : ∀ u ∈ y.vals, u.oneCell' = true := by
  intro u hu
  obtain ⟨j, hj⟩ := List.mem_iff_getElem?.1 hu
  exact (RC.val_at hw hj).2
theorem src_content {y : RC} {s : SV} {v : Value} (hH : HR C ρ hp w) (hF : FR C w) (hv : VR C hp.length ρ s v) (h : content hp s = some y) : y.wf ∧ Src C.P w y.size v y.len y.vals := by
  obtain ⟨hw, ad, cap, rfl, hcell⟩ := content_ok' hH hF hv h
  refine ⟨hw, ⟨fun W => by simp [Builtin.lenOf], fun W hW => ?_, RC.vals_length hw, vals_one hw⟩⟩
  rcases Nat.eq_zero_or_pos y.len with h0 | h0
  · have hv0 : y.vals = [] := List.eq_nil_of_length_eq_zero (by rw [RC.vals_length hw, h0, Nat.zero_mul])
    rw [hv0, h0]
    cases ad with
    | none => simp [Builtin.firstCells]
    | some ad => simp [Builtin.firstCells, loadCells, loadCellsFrom]
  · obtain ⟨b, q, rfl, hc⟩ := hcell h0
    refine run_firstCells_some W y.size y.len ⟨b, q, none⟩ y.len cap y.vals (RC.vals_length hw) (fun j u hu => ?_)
    rw [Addr.add_lit]
    have := hc j u hu
    simpa [World.cell?, hW] using this
theorem src_ok {c0 y : RC} {s : SV} {v : Value} (hH : HR C ρ hp w) (hF : FR C w) (hv : VR C hp.length ρ s v) (h : source hp c0 s = some y) : y.wf ∧ Src C.P w y.size v y.len y.vals := by
  cases s with
  | str b =>
    simp only [source] at h
    split at h <;> simp at h
    subst h
    cases hv
    have hl : (RC.ints .u8 (toBytes b)).len = b.size := by simp [RC.len, toBytes]
    refine ⟨trivial, ⟨fun W => by simp [Builtin.lenOf, hl], fun W _ => ?_, RC.vals_length (c := .ints .u8 (toBytes b)) trivial, vals_one (y := .ints .u8 (toBytes b)) trivial⟩⟩
    rw [hl]
    simp only [Builtin.firstCells]
    rw [← bytes_vals]
    simp [ByteArray.extract_zero_size]
  | _ => exact src_content hH hF hv h
theorem good_app {c : RC} {k : Nat} {v : Value} {w1 : World} {r : RV} (hr : (execOp a.eval o).run C.P w = .ok (.value v) w1) (hH : HR C ρ (hp.set k .dead) w1) (hF : FR C w1) (hv : v = r.hdr) (hs : ∃ ad m cap, r.hdr = .slice ad m cap)
    (hob : ObR C (hp.length + 1) (up ρ hp.length r) w1 hp.length (.rows none c)) (hne : ∀ j b, alive (hp.set k .dead) j → blkOf (ρ j).hdr = some b → blkOf r.hdr ≠ some b) : Good C ρ hp o a w (.one (.row hp.length), hp.set k .dead ++ [.rows none c]) := by
  have hl : (hp.set k .dead).length = hp.length := by simp
  have hn := hH.push (o := .rows none c) (r := r) (by rw [hl]; exact hob) hne
  rw [hl] at hn
  refine good_value hr _ (by simp) (up_ext _ _ _) ?_ hn hF
  obtain ⟨ad, m, cap, e⟩ := hs
  simp only [List.length_append, List.length_set, List.length_cons, List.length_nil, Nat.zero_add]
  rw [hv, e]
  exact .one _ _ (.row _ _ _ _ (Nat.lt_succ_self _) (by rw [up_at]; exact e))
end
section
variable {C : Cx} {ρ : Nat → RV} {hp : List Ob} {o : Oper} {a : Act} {w w' : World} {env : Env}
theorem zeroCells_size (z : Array Value) (n : Nat) : (Builtin.zeroCells z n).size = n * z.size := by simp [Builtin.zeroCells]
theorem grow_ob {c c' y : RC} {n : Nat} {r : Nat → RV} {e : TypeId} {need old : Nat} {z : Value} {k : Nat} (hF : FR C w) (hw : c'.wf) (hv : c'.vals = c.vals ++ y.vals) (hl : c'.len = need) (hs : c'.size = c.size) (hcl : c.vals.length = c.len * c.size) (hyl : y.vals.length = y.len * c.size) (hn : c.len + y.len = need)
    (hz : z.cells.size = c.size) (hmax : need ≤ maxLen) (hr : r k = ⟨.slice (some ⟨w.heap.size, 0, none⟩) need (grownCap w need old e), c'.size⟩) :
    ObR C n r (w.drew.alloc (.cells (c.vals.toArray ++ y.vals.toArray ++ Builtin.zeroCells z.cells (grownCap w need old e - need)) e)) k (.rows none c') := by
  have hge := grownCap_ge w need old e
  refine ⟨hw, by rw [hr], by simp, .inr ⟨w.heap.size, 0, grownCap w need old e, _, e, (0, 0), by rw [hr, hl], .inr hF.size, new_block w.drew _, by rw [hl]; exact hge, grownCap_le_maxLen w _ _ _ hmax, ?_, fun j u hu => ?_, by intro j _; simp⟩⟩
  · simp only [Array.size_append, List.size_toArray, zeroCells_size, hcl, hyl, hz, hs, ← Nat.add_mul]
    rw [show c.len + y.len + (grownCap w need old e - need) = grownCap w need old e by omega]
    omega
  · rw [hv] at hu
    have hlt := (List.getElem?_eq_some_iff.1 hu).1
    rw [Nat.zero_add, Array.getElem?_append_left (by simpa using hlt)]
    simpa using hu
theorem own_view {k : Nat} {gk : Option Nat} {ck c : RC} {s : SV} {v : Value} (hs : s = .row k ∨ ∃ o n, s = .view k o n) (hH : HR C ρ hp w) (hv : VR C hp.length ρ s v) (hck : hp[k]? = some (.rows gk ck)) (hc : content hp s = some c) :
    c.wf ∧ ∃ ad cap, v = .slice ad c.len cap ∧ ((ad = none ∧ c.len = 0 ∧ cap = 0) ∨ ∃ b q cur T fr, ad = some ⟨b, q, none⟩ ∧ C.own b ∧ blkOf (ρ k).hdr = some b ∧ w.heap[b]? = some (.cells cur T fr) ∧ c.len ≤ cap ∧ cap ≤ maxLen ∧ q + cap * c.size ≤ cur.size ∧
      (∀ (j : Nat) (u : Value), c.vals[j]? = some u → cur[q + j]? = some u) ∧ ∀ (j : Nat), j < cur.size → ¬ (fr.1 ≤ j ∧ j < fr.2)) := by
  obtain ⟨hw, hsz, _, hob⟩ := hH.ob k _ hck
  rcases hs with rfl | ⟨o, n, rfl⟩
  · simp [content, hck, rowAt] at hc; subst hc
    refine ⟨hw, ?_⟩
    cases hv with
    | row _ ad m cap hk hh =>
      rcases hob with ⟨e, h0⟩ | ⟨b, q, cap', cur, T, fr, e, hown, hb, h1, h2, h3, h4, h5⟩
      · rw [hh] at e; simp at e; obtain ⟨rfl, rfl, rfl⟩ := e
        exact ⟨none, 0, by rw [h0], .inl ⟨rfl, h0, rfl⟩⟩
      · have hbk : blkOf (ρ k).hdr = some b := by rw [e]; rfl
        rw [hh] at e; simp at e; obtain ⟨rfl, rfl, rfl⟩ := e
        exact ⟨_, cap, rfl, .inr ⟨b, q, cur, T, fr, rfl, hown, hbk, hb, h1, h2, h3, h4, h5⟩⟩
  · simp [content, hck, cutAt] at hc; subst hc
    have hle := view_in hH hv hck
    obtain ⟨k1, k2, k3, k4⟩ := RC.cut_vals hw hle
    refine ⟨k3, ?_⟩
    rw [k1, k2]
    cases hv with
    | viewNil _ hk hh => exact ⟨none, 0, rfl, .inl ⟨rfl, rfl, rfl⟩⟩
    | view _ _ _ b q len cap q' hk hh hl hlc hq hq' =>
      refine ⟨_, _, rfl, .inr ?_⟩
      rcases hob with ⟨e, h0⟩ | ⟨b2, q2, cap', cur, T, fr, e, hown, hb, h1, h2, h3, h4, h5⟩
      · rw [hh] at e; simp at e
      · have hbk : blkOf (ρ k).hdr = some b2 := by rw [e]; rfl
        rw [hh] at e; simp at e; obtain ⟨⟨rfl, rfl⟩, rfl, rfl⟩ := e
        rw [hsz] at hq hq'
        have hm : o * ck.size + (cap - o) * ck.size = cap * ck.size ∨ cap < o := by
          rcases Nat.lt_or_ge cap o with h | h
          · exact .inr h
          · left; rw [← Nat.add_mul]; congr 1; omega
        refine ⟨b, q', cur, T, fr, rfl, hown, hbk, hb, by omega, by omega, ?_, fun j u hu => ?_, h5⟩
        · rcases hm with hm | hm
          · omega
          · omega
        · rw [k4] at hu
          have hj := (List.getElem?_eq_some_iff.1 hu).1
          have hn : 0 < n := by
            rcases Nat.eq_zero_or_pos n with h | h
            · subst h; simp at hj
            · exact h
          rw [hq (by omega), Nat.add_assoc]
          exact h4 _ _ (take_get hu)
theorem app_own {k : Nat} {gk : Option Nat} {ck c y c' c0 : RC} {s : SV} {T U e : TypeId} {d : TypeDesc} {i : TypeInfo} {zv : Value} {X Y : Operand} (hs : s = .row k ∨ ∃ o n, s = .view k o n) (hv : VR C hp.length ρ s (a.eval X)) (hck : hp[k]? = some (.rows gk ck)) (hc : content hp s = some c)
    (hT : C.P.underlying T = some (.slice e)) (hU : C.P.underlying U = some d) (hi : C.P.info? e = some i) (hzv : i.zero = some zv) (hsz : i.size = c0.size) (hzs : zv.cells.size = c0.size) (hb1 : 0 < i.bytes) (hcs : c.size = c0.size)
    (hyw : y.wf) (S : Srd C.P w i d (a.eval Y) y.len y.vals) (hys : y.size = c0.size) (hbnd : (c.len + y.len) * i.bytes ≤ 140737488355328) (happ : c.app y = some c') (hH : HR C ρ hp w) (hF : FR C w) {type : TypeId}
    (run : ∀ {v : Value} {w' : World}, (Builtin.append_ #[T, U] type #[a.eval X, a.eval Y]).run C.P w = .ok v w' → (execOp a.eval o).run C.P w = .ok (.value v) w') : Good C ρ hp o a w (.one (.row hp.length), hp.set k .dead ++ [.rows none c']) := by
  obtain ⟨hw, ad, cap, hX, hown⟩ := own_view hs hH hv hck hc
  obtain ⟨a1, a2, a3, a4, a5⟩ := RC.app_vals hw hyw happ
  have hal : alive hp k := ⟨_, hck, by simp⟩
  have hcc : c.len + y.len ≤ 140737488355328 := by
    have : (c.len + y.len) * 1 ≤ (c.len + y.len) * i.bytes := Nat.mul_le_mul_left _ hb1
    omega
  have hvl := RC.vals_length hw
  have hyl := RC.vals_length hyw
  have fresh : ∀ (W : World) (r : RV), blkOf r.hdr = some w.heap.size → ∀ j b, alive (hp.set k .dead) j → blkOf (ρ j).hdr = some b → blkOf r.hdr ≠ some b := by
    intro W r hr j b hj hb
    have hj' : alive hp j := by
      by_cases ej : j = k
      · subst ej; exact hal
      · exact alive_set hj ej
    have := (hH.lt hj' hb).2
    rw [hr]; simp; omega
  rcases hown with ⟨rfl, h0, rfl⟩ | ⟨b, q, cur, T', fr, rfl, hob, hbk, hb, h1, h2, h3, h4, h5⟩
  · rw [h0] at hX
    have hv0 : c.vals = [] := List.eq_nil_of_length_eq_zero (by rw [hvl, h0, Nat.zero_mul])
    rcases Nat.eq_zero_or_pos y.len with hy0 | hy0
    · rw [hy0] at S
      refine good_app (k := k) (v := .slice none 0 0) (w1 := w) (r := ⟨.slice none 0 0, c'.size⟩) (run (by rw [hX]; exact append_zero hT hU hi S)) (hH.dead k) hF rfl ⟨_, _, _, rfl⟩ ⟨a4, by rw [up_at], by simp, .inl ⟨by rw [up_at], by omega⟩⟩ (by simp [blkOf])
    · have hg := append_grow (ty := type) hT hU hi hzv S (ad := none) (m := 0) (cap := 0) (olds := []) (by simp) (fun W _ => by simp [Builtin.firstCells]) (by omega) hb1 (by rw [h0] at hbnd; exact hbnd)
      rw [Nat.zero_add] at hg
      have hob := grow_ob (C := C) (w := w) (c := c) (c' := c') (y := y) (n := hp.length + 1) (r := up ρ hp.length ⟨.slice (some ⟨w.heap.size, 0, none⟩) y.len (grownCap w y.len 0 e), c'.size⟩) (e := e) (need := y.len) (old := 0) (z := zv) (k := hp.length) hF a4 a1 (by omega) a3 hvl (by rw [hyl, hys, hcs]) (by omega) (by rw [hzs, hcs])
        (by simp only [maxLen]; omega) (by rw [up_at])
      rw [hv0] at hob
      exact good_app (k := k) (r := ⟨.slice (some ⟨w.heap.size, 0, none⟩) y.len (grownCap w y.len 0 e), c'.size⟩) (run (by rw [hX]; exact hg)) ((hH.dead k).drew.alloc _) (hF.drew.alloc _) rfl ⟨_, _, _, rfl⟩ hob (fresh w _ rfl)
  · rcases Nat.lt_or_ge cap (c.len + y.len) with hg | hroom
    · have hg := append_grow (ty := type) hT hU hi hzv S (ad := some ⟨b, q, none⟩) (m := c.len) (cap := cap) (olds := c.vals) (by rw [hvl, hcs, hsz]) (fun W hW => run_firstCells_some W i.size c.len ⟨b, q, none⟩ c.len cap c.vals (by rw [hvl, hcs, hsz]) (fun j u hu => by
        rw [Addr.add_lit]
        have := h4 j u hu
        simp [World.cell?, hW, hb, this])) hg hb1 hbnd
      have hob := grow_ob (C := C) (w := w) (c := c) (c' := c') (y := y) (n := hp.length + 1) (r := up ρ hp.length ⟨.slice (some ⟨w.heap.size, 0, none⟩) (c.len + y.len) (grownCap w (c.len + y.len) cap e), c'.size⟩) (e := e) (need := c.len + y.len) (old := cap) (z := zv) (k := hp.length) hF a4 a1 a2 a3 hvl (by rw [hyl, hys, hcs]) rfl (by rw [hzs, hcs])
        (by simp only [maxLen]; omega) (by rw [up_at])
      exact good_app (k := k) (r := ⟨.slice (some ⟨w.heap.size, 0, none⟩) (c.len + y.len) (grownCap w (c.len + y.len) cap e), c'.size⟩) (run (by rw [hX]; exact hg)) ((hH.dead k).drew.alloc _) (hF.drew.alloc _) rfl ⟨_, _, _, rfl⟩ hob (fresh w _ rfl)
    · have hfit : q + c.len * i.size + y.vals.length ≤ cur.size := by
        have h6 : (c.len + y.len) * c.size ≤ cap * c.size := Nat.mul_le_mul_right _ hroom
        rw [hyl, hys, hsz, ← hcs, Nat.add_assoc, ← Nat.add_mul]; omega
      obtain ⟨w', hrun, hb', hsame⟩ := append_room (ty := type) hT hU hi S hb h5 hroom hfit
      have hne : ∀ j b', alive (hp.set k .dead) j → blkOf (ρ j).hdr = some b' → b' ≠ b := by
        intro j b' hj hb2 e2
        have hjk : j ≠ k := by
          rintro rfl
          obtain ⟨x, hx, hd'⟩ := hj
          have hlt := (List.getElem?_eq_some_iff.1 hx).1
          rw [List.length_set] at hlt
          rw [List.getElem?_set_self hlt] at hx
          simp at hx; exact hd' hx.symm
        subst e2
        exact hH.ne j k b' hjk (alive_set hj hjk) hal hb2 hbk
      have hH' : HR C ρ (hp.set k .dead) w' := (hH.dead k).world (fun j b' hj hb2 => hsame.block b' (hne j b' hj hb2))
      refine good_app (k := k) (r := ⟨.slice (some ⟨b, q, none⟩) (c.len + y.len) cap, c'.size⟩) (run (by rw [hX]; exact hrun)) hH' (hF.same hsame hob) rfl ⟨_, _, _, rfl⟩ ?_ (fun j b' hj hb2 => by simp [blkOf]; exact fun e2 => hne j b' hj hb2 e2.symm)
      refine ⟨a4, by rw [up_at], by simp, .inr ⟨b, q, cap, _, T', fr, by rw [up_at, a2], hob, hb', by omega, h2, ?_, fun j u hu => ?_, ?_⟩⟩
      · rw [a3]; simpa [layV_length] using h3
      · rw [a1] at hu
        rw [List.getElem?_toArray, layV_get _ _ _ _ (by simpa using hfit), hsz, ← hcs, ← hvl]
        by_cases hj : j < c.vals.length
        · rw [List.getElem?_append_left hj] at hu
          rw [if_neg (by omega)]
          simpa using h4 j u hu
        · rw [List.getElem?_append_right (by omega)] at hu
          have hj2 := (List.getElem?_eq_some_iff.1 hu).1
          rw [if_pos (by omega), show q + j - (q + c.vals.length) = j - c.vals.length by omega]
          exact hu
      · simpa [layV_length] using h5
theorem zero_flat {zv : Value} {z : List Sc} (hzc : zv.cells.toList = z.map Sc.val) : ∀ n : Nat, (List.replicate n z).flatMap (fun e => e.map Sc.val) = (Builtin.zeroCells zv.cells n).toList := by
  intro n
  have e : (Builtin.zeroCells zv.cells n).toList = (List.range (n * zv.cells.size)).map fun i => zv.cells[i % zv.cells.size]! := by
    simp [Builtin.zeroCells, Array.toList_map, Array.toList_range]
  rw [e]
  clear e
  induction n with
  | zero => simp
  | succ n ih =>
    rw [List.replicate_succ', List.flatMap_append, ih, Nat.succ_mul, List.range_add, List.map_append]
    congr 1
    simp only [List.flatMap_cons, List.flatMap_nil, List.append_nil, List.map_map]
    rw [← hzc]
    apply List.ext_getElem (by simp)
    intro j h1 h2
    have hj : j < zv.cells.size := by simpa using h1
    simp only [List.getElem_map, List.getElem_range, Function.comp]
    rw [Nat.mul_comm n, Nat.mul_add_mod, Nat.mod_eq_of_lt hj, getElem!_pos zv.cells j hj]
    simp
theorem app_core {T U e : TypeId} {d : TypeDesc} {i : TypeInfo} {zv : Value} {X Y : Operand} {c0 yc : RC} {sx xv : SV} {bytes : Nat} {res : AV × List Ob} {type : TypeId}
    (hT : C.P.underlying T = some (.slice e)) (hU : C.P.underlying U = some d) (hi : C.P.info? e = some i) (hzv : i.zero = some zv) (hsz : i.size = c0.size) (hzs : zv.cells.size = c0.size) (hb0 : bytes ≠ 0) (hbi : i.bytes = bytes) (hkw : c0.wf) (hkl : c0.len = 0)
    (h1 : VR C hp.length ρ sx (a.eval X)) (hyw : yc.wf) (S0 : yc.size = c0.size → Srd C.P w i d (a.eval Y) yc.len yc.vals) (hH : HR C ρ hp w) (hF : FR C w) (h : app2 hp c0 bytes sx xv yc = some res)
    (run : ∀ {v : Value} {w' : World}, (Builtin.append_ #[T, U] type #[a.eval X, a.eval Y]).run C.P w = .ok v w' → (execOp a.eval o).run C.P w = .ok (.value v) w') : Good C ρ hp o a w res := by
  have hbnd : ∀ n : Nat, n * bytes ≤ 140737488355328 → n ≤ 140737488355328 := by
    intro n hn
    have : n * 1 ≤ n * bytes := Nat.mul_le_mul_left _ (by omega)
    omega
  have fin : ∀ {k : Nat} {gk : Option Nat} {ck c : RC}, (sx = .row k ∨ ∃ o n, sx = .view k o n) → hp[k]? = some (.rows gk ck) → content hp sx = some c → app3 hp c0 bytes k yc (some c) = some res → Good C ρ hp o a w res := by
    intro k gk ck c hs hck hcont h
    simp only [app3] at h
    split at h
    · rename_i hc
      cases happ : c.app yc with
      | none => simp [happ, putR] at h
      | some c' =>
        simp [happ, putR, Go.X.newRow] at h
        subst h
        have S : Srd C.P w i d (a.eval Y) yc.len yc.vals := S0 hc.2.2
        exact app_own (c0 := c0) hs h1 hck hcont hT hU hi hzv hsz hzs (by omega) hc.2.1 hyw S hc.2.2 (by rw [hbi]; exact hc.1) happ hH hF run
    · simp at h
  unfold app2 at h
  split at h
  · -- nothing was there
    rename_i cn
    split at h
    · rename_i hc
      obtain ⟨c', hc', rfl⟩ := putR_row (n := 0) h
      obtain ⟨a1, a2, a3, a4, a5⟩ := RC.app_vals hkw hyw hc'
      have S : Srd C.P w i d (a.eval Y) yc.len yc.vals := S0 hc.2
      have hv0 : c0.vals = [] := List.eq_nil_of_length_eq_zero (by rw [RC.vals_length hkw, hkl, Nat.zero_mul])
      have hX : a.eval X = .slice none 0 0 := by
        generalize a.eval X = v at h1
        cases h1; rfl
      have hclen : c'.len = yc.len := by rw [a2, hkl, Nat.zero_add]
      rcases Nat.eq_zero_or_pos yc.len with h0 | h0
      · have S' : Srd C.P w i d (a.eval Y) 0 yc.vals := by rw [← h0]; exact S
        refine good_value (v := .slice none 0 0) (w' := w) (run ?_) _ (by simp) (up_ext _ _ _) ?_ (hH.newRow (b := none) (by rw [hclen, h0]) a4) hF
        · rw [hX]; exact append_zero hT hU hi S'
        · simp only [List.length_append, List.length_cons, List.length_nil, Nat.zero_add]
          exact .one _ _ (up_row _ _ _ _ _)
      · have hg := append_grow (ty := type) hT hU hi hzv S (ad := none) (m := 0) (cap := 0) (olds := []) (by simp) (fun W _ => by simp [Builtin.firstCells]) (by omega) (by omega) (by rw [Nat.zero_add, hbi]; exact hc.1)
        rw [Nat.zero_add] at hg
        have hob := grow_ob (C := C) (w := w) (c := c0) (c' := c') (y := yc) (n := hp.length + 1) (r := up ρ hp.length ⟨.slice (some ⟨w.heap.size, 0, none⟩) yc.len (grownCap w yc.len 0 e), c'.size⟩) (e := e) (need := yc.len) (old := 0) (z := zv) (k := hp.length) hF a4 a1 hclen a3 (RC.vals_length hkw) (by rw [RC.vals_length hyw, hc.2]) (by rw [hkl, Nat.zero_add]) hzs
          (by have := hbnd _ hc.1; simp only [maxLen]; omega) (by rw [up_at])
        have hn := (hH.drew.alloc (.cells (c0.vals.toArray ++ yc.vals.toArray ++ Builtin.zeroCells zv.cells (grownCap w yc.len 0 e - yc.len)) e)).push (o := .rows none c') hob (fun k b ha hb' => by have := (hH.lt ha hb').2; simp [blkOf]; omega)
        rw [hv0] at hn
        refine good_value (run (by rw [hX]; exact hg)) _ (by simp) (up_ext _ _ _) ?_ hn (hF.drew.alloc _)
        simp only [List.length_append, List.length_cons, List.length_nil, Nat.zero_add]
        exact .one _ _ (up_row _ _ _ _ _)
    · simp at h
  -- a row of the call's own, or a part of it
  all_goals first | (simp at h; done) | skip
  · rename_i k
    split at h
    · simp at h
    · cases hck : hp[k]? with
      | none => simp [hck, rowAt, app3] at h
      | some ob =>
        cases ob with
        | rows gk ck => exact fin (c := ck) (.inl rfl) hck (by simp [content, hck, rowAt]) (by simpa [hck, rowAt] using h)
        | _ => simp [hck, rowAt, app3] at h
  · rename_i k o n
    split at h
    · simp at h
    · cases hck : hp[k]? with
      | none => simp [hck, cutAt, app3] at h
      | some ob =>
        cases ob with
        | rows gk ck => exact fin (c := ck.cut o n) (.inr ⟨o, n, rfl⟩) hck (by simp [content, hck, cutAt]) (by simpa [hck, cutAt] using h)
        | _ => simp [hck, cutAt, app3] at h
theorem g_append {T U e t t' : TypeId} {d : TypeDesc} {X Y : Operand} {x y : AO} {c0 : RC} {z : List Sc} {bytes : Nat} {res : AV × List Ob} {c : Call} (ho : o.op = .call c) (hcal : c.callee = .builtin .append) (hA : c.args.toList = [X, Y]) (hTs : c.argTypes.toList = [T, U])
    (hT : C.P.underlying T = some (.slice e)) (hU : C.P.underlying U = some d) (hd : (∃ e', d = .slice e') ∨ d = .string) (hr : rowT C.P e = some (c0, z)) (hb : bytesT C.P e = some bytes) (hb0 : bytes ≠ 0) (hx : cOp C.P t X = some x) (hy : cOp C.P t' Y = some y)
    (he : EnvR C hp.length ρ env a) (hH : HR C ρ hp w) (hF : FR C w) (h : Go.X.append hp c0 bytes (getS env x) (getS env y) = some res) : Good C ρ hp o a w res := by
  have hk := rowT_ok hr
  obtain ⟨i, zv, hi, hzv, hsz, hzl, hpos, hzc⟩ := hk.info
  have hbi : i.bytes = bytes := by simp only [bytesT, hi, Option.map_some, Option.some.injEq] at hb; exact hb
  have hzs : zv.cells.size = c0.size := by have := congrArg List.length hzc; simp at this; omega
  have h1 := cOp_ok hx he
  have h2 := cOp_ok hy he
  obtain ⟨dst, op', type, pos, after, guard⟩ := o
  obtain ⟨cl, ca, ct⟩ := c
  dsimp only at ho hcal hA hTs; subst ho hcal
  obtain rfl : ca = #[X, Y] := by rw [← Array.toArray_toList (xs := ca), hA]
  obtain rfl : ct = #[T, U] := by rw [← Array.toArray_toList (xs := ct), hTs]
  have run : ∀ {v : Value} {w' : World}, (Builtin.append_ #[T, U] type #[a.eval X, a.eval Y]).run C.P w = .ok v w' → (execOp a.eval ⟨dst, .call ⟨.builtin .append, #[X, Y], #[T, U]⟩, type, pos, after, guard⟩).run C.P w = .ok (.value v) w' := by
    intro v w' hr
    refine call_builtin fun consts => ?_
    simp [builtin, hr]
  cases hsrc : source hp c0 (getS env y) with
  | none => simp [Go.X.append, hsrc, app1] at h
  | some yc =>
    simp only [Go.X.append, hsrc, app1] at h
    obtain ⟨_, h2⟩ := h2.sv_of (by intro e; rw [getS, e] at hsrc; simp [source, content] at hsrc)
    obtain ⟨_, h1⟩ := h1.sv_of (by intro e; rw [getS, e] at h; simp [app2] at h)
    obtain ⟨hyw, S0⟩ := src_ok hH hF h2 hsrc
    exact app_core hT hU hi hzv hsz hzs hb0 hbi hk.wf hk.len h1 hyw (fun hc => .inl ⟨hd, by rw [hsz, ← hc]; exact S0⟩) hH hF h run
theorem g_appz {T U e t t' : TypeId} {kd : IntKind} {X Y : Operand} {x y : AO} {c0 : RC} {z : List Sc} {bytes : Nat} {res : AV × List Ob} {c : Call} (ho : o.op = .call c) (hcal : c.callee = .builtin .append) (hA : c.args.toList = [X, Y]) (hTs : c.argTypes.toList = [T, U])
    (hT : C.P.underlying T = some (.slice e)) (hU : C.P.underlying U = some (.int kd)) (hr : rowT C.P e = some (c0, z)) (hb : bytesT C.P e = some bytes) (hb0 : bytes ≠ 0) (hx : cOp C.P t X = some x) (hy : cOp C.P t' Y = some y)
    (he : EnvR C hp.length ρ env a) (hH : HR C ρ hp w) (hF : FR C w) (h : oAppZ hp c0 z bytes (getS env x) (getO env y) = some res) : Good C ρ hp o a w res := by
  have hk := rowT_ok hr
  obtain ⟨i, zv, hi, hzv, hsz, hzl, hpos, hzc⟩ := hk.info
  have hbi : i.bytes = bytes := by simp only [bytesT, hi, Option.map_some, Option.some.injEq] at hb; exact hb
  have hzs : zv.cells.size = c0.size := by have := congrArg List.length hzc; simp at this; omega
  have h1 := cOp_ok hx he
  have h2 := cOp_ok hy he
  obtain ⟨dst, op', type, pos, after, guard⟩ := o
  obtain ⟨cl, ca, ct⟩ := c
  dsimp only at ho hcal hA hTs; subst ho hcal
  obtain rfl : ca = #[X, Y] := by rw [← Array.toArray_toList (xs := ca), hA]
  obtain rfl : ct = #[T, U] := by rw [← Array.toArray_toList (xs := ct), hTs]
  have run : ∀ {v : Value} {w' : World}, (Builtin.append_ #[T, U] type #[a.eval X, a.eval Y]).run C.P w = .ok v w' → (execOp a.eval ⟨dst, .call ⟨.builtin .append, #[X, Y], #[T, U]⟩, type, pos, after, guard⟩).run C.P w = .ok (.value v) w' := by
    intro v w' hr
    refine call_builtin fun consts => ?_
    simp [builtin, hr]
  generalize getO env y = yv at h h2
  unfold oAppZ at h
  split at h
  · rename_i j l
    split at h
    · rename_i hc
      cases hq : RC.ofElems c0 (List.replicate l.toNat z) with
      | none => simp [hq, app1] at h
      | some yc =>
        simp only [hq, app1] at h
        obtain ⟨v1, v2, v3, v4, v5⟩ := RC.ofElems_ok hk.wf hq
        rw [List.length_replicate] at v2
        obtain ⟨_, h1⟩ := h1.sv_of (by intro e; rw [getS, e] at h; simp [app2] at h)
        have hY : a.eval Y = .int j l := by
          generalize a.eval Y = v at h2
          cases h2 with | one _ _ h2 => cases h2; rfl
        have hl : ((l.toNat : Nat) : Int) = l := by omega
        have hnb : l.toNat * i.bytes ≤ 140737488355328 := by
          have h3 := hc.2
          rw [← hl, ← hbi] at h3
          have : ((l.toNat * i.bytes : Nat) : Int) = (l.toNat : Int) * (i.bytes : Int) := by simp
          omega
        have hvals : yc.vals = (Builtin.zeroCells zv.cells l.toNat).toList := by
          rw [v1]
          exact zero_flat hzc l.toNat
        have hyl := RC.vals_length v4
        refine app_core hT hU hi hzv hsz hzs hb0 hbi hk.wf hk.len h1 v4 (fun hcs => .inr ⟨kd, j, zv, rfl, ?_, hzv, by rw [hzs, hsz], by omega, ?_, by rw [v2]; exact hnb, ?_, ?_, vals_one v4⟩) hH hF h run
        · rw [hY, v2, hl]
        · rw [v2]; exact hvals
        · rw [v2]
          have : l.toNat * 1 ≤ l.toNat * i.bytes := Nat.mul_le_mul_left _ (by omega)
          omega
        · rw [hyl, v3, hsz]
    · simp at h
  · simp at h
end
section
variable {C : Cx} {ρ : Nat → RV} {hp : List Ob} {o : Oper} {a : Act} {w w' : World} {env : Env}
theorem fieldsAt_ok {P : Program} {fs : Array Field} {pl : List (Nat × Nat)} : ∀ {ps : List (Nat × Operand)} {qs : List ((Nat × Nat) × AO)}, fieldsAt P fs pl ps = some qs →
    PR (fun (p : Nat × Operand) (q : (Nat × Nat) × AO) => pl.toArray[p.1]? = some q.1 ∧ ∃ t', cOp P t' p.2 = some q.2) ps qs
  | [], qs, h => by simp [fieldsAt] at h; subst h; exact .nil
  | (i, x) :: ps, qs, h => by
    simp only [fieldsAt, Option.bind_eq_some_iff, Option.map_eq_some_iff] at h
    obtain ⟨f, _, p, hp, b, hb, qs', hq, rfl⟩ := h
    exact .cons _ _ _ _ ⟨by simpa using hp, _, hb⟩ (fieldsAt_ok hq)
theorem elemsAt_ok {P : Program} {e n : Nat} : ∀ {ps : List (Nat × Operand)} {qs : List ((Nat × Nat) × AO)}, elemsAt P e n ps = some qs →
    PR (fun (p : Nat × Operand) (q : (Nat × Nat) × AO) => (fun i => some (i * n, n)) p.1 = some q.1 ∧ ∃ t', cOp P t' p.2 = some q.2) ps qs
  | [], qs, h => by simp [elemsAt] at h; subst h; exact .nil
  | (i, x) :: ps, qs, h => by
    simp only [elemsAt, Option.bind_eq_some_iff, Option.map_eq_some_iff] at h
    obtain ⟨b, hb, qs', hq, rfl⟩ := h
    exact .cons _ _ _ _ ⟨rfl, _, hb⟩ (elemsAt_ok hq)
theorem g_sconv {s d t : TypeId} {X : Operand} {x : AO} {res : AV × List Ob} (ho : o.op = .convert s d X) (hs : C.P.underlying s = some .string) (hd : C.P.underlying d = some .string) (hx : cOp C.P t X = some x) (he : EnvR C hp.length ρ env a) (hH : HR C ρ hp w) (hF : FR C w)
    (h : oSconv hp (getO env x) = some res) : Good C ρ hp o a w res := by
  have h1 := cOp_ok hx he
  generalize getO env x = s at h h1
  obtain ⟨dst, op, type, pos, after, guard⟩ := o
  dsimp only at ho; subst ho
  unfold oSconv at h
  split at h <;> simp at h
  subst h
  generalize hv : a.eval X = v at h1
  cases h1 with
  | one _ _ h1 =>
    cases h1
    refine good_same (val_run _ ?_) (.one _ _ (.str _)) hH hF
    rw [hv]
    simp [convert, run_underlying hs, run_underlying hd]
theorem blit_ok {c y c' : RC} {o : Nat} (h : c.blit o y = some c') : c.size = 1 ∧ y.size = 1 ∧ c'.size = 1 ∧ c'.wf ∧ c'.len = c.len ∧ o + y.len ≤ c.len ∧ y.vals.length = y.len ∧ (y.len = 0 → c' = c) ∧ (∀ u ∈ y.vals, u.oneCell' = true) ∧ ∀ (j : Nat) (u : Value), c'.vals[j]? = some u → if o ≤ j ∧ j < o + y.vals.length then y.vals[j - o]? = some u else c.vals[j]? = some u := by
  have key : ∀ {α : Type} (xs ys : List α) (g : α → Value), o + ys.length ≤ xs.length → ∀ (j : Nat) (u : Value), ((xs.take o ++ (ys ++ xs.drop (o + ys.length))).map g)[j]? = some u → if o ≤ j ∧ j < o + (ys.map g).length then (ys.map g)[j - o]? = some u else (xs.map g)[j]? = some u := by
    intro α xs ys g hle j u hu
    rw [List.length_map]
    rw [List.getElem?_map] at hu
    simp only [List.getElem?_map]
    have ht : (xs.take o).length = o := by simp; omega
    by_cases h1 : j < o
    · rw [if_neg (by omega)]
      rw [List.getElem?_append_left (by omega), List.getElem?_take_of_lt h1] at hu
      exact hu
    · rw [List.getElem?_append_right (by omega), ht] at hu
      by_cases h2 : j < o + ys.length
      · rw [if_pos ⟨by omega, h2⟩]
        rw [List.getElem?_append_left (by omega)] at hu
        exact hu
      · rw [if_neg (by omega)]
        rw [List.getElem?_append_right (by omega), List.getElem?_drop, show o + ys.length + (j - o - ys.length) = j by omega] at hu
        exact hu
  have len : ∀ {α : Type} (xs ys : List α), o + ys.length ≤ xs.length → (xs.take o ++ (ys ++ xs.drop (o + ys.length))).length = xs.length := by
    intro α xs ys h; simp; omega
  have nil : ∀ {α : Type} (xs ys : List α), ys.length = 0 → xs.take o ++ (ys ++ xs.drop (o + ys.length)) = xs := by
    intro α xs ys h
    rw [List.length_eq_zero_iff] at h
    subst h; simp
  unfold RC.blit at h
  split at h
  · rename_i k xs j ys
    split at h
    · rename_i hc
      obtain ⟨rfl, hc⟩ := hc
      simp at h; subst h
      exact ⟨rfl, rfl, rfl, trivial, len xs ys hc, hc, by simp [RC.vals, RC.len], fun h => by rw [nil xs ys h], by simp [RC.vals]; intro _ _; rfl, key xs ys _ hc⟩
    · simp at h
  · rename_i xs ys
    split at h
    · rename_i hc
      simp at h; subst h
      exact ⟨rfl, rfl, rfl, trivial, len xs ys hc, hc, by simp [RC.vals, RC.len], fun h => by rw [nil xs ys h], by simp [RC.vals]; intro _ _; rfl, key xs ys _ hc⟩
    · simp at h
  · rename_i xs ys
    split at h
    · rename_i hc
      simp at h; subst h
      exact ⟨rfl, rfl, rfl, trivial, len xs ys hc, hc, by simp [RC.vals, RC.len], fun h => by rw [nil xs ys h], fun u hu => by simp only [RC.vals, List.mem_map] at hu; obtain ⟨x, _, rfl⟩ := hu; rfl, key xs ys _ hc⟩
    · simp at h
  · simp at h
theorem g_copyR {T U e : TypeId} {D S : Operand} {d s : SV} {vd vv : Value} {res : AV × List Ob} {i : TypeInfo} {k o' n : Nat} {ty : TypeId} (hT : C.P.underlying T = some (.slice e)) (hi : C.P.info? e = some i) (hsz : i.size = 1)
    (hd : d = .row k ∧ o' = 0 ∧ lenAt hp[k]? = some n ∨ d = .view k o' n) (h1 : VR C hp.length ρ d vd) (h2 : VR C hp.length ρ s vv) (hH : HR C ρ hp w) (hF : FR C w)
    (h : copyS hp k o' (some n) (content hp s) = some res)
    (run : ∀ {v : Value} {w' : World}, (Builtin.copy_ #[T, U] ty #[vd, vv]).run C.P w = .ok v w' → (execOp a.eval o).run C.P w = .ok (.value v) w') : Good C ρ hp o a w res := by
  unfold copyS at h
  split at h
  · rename_i n' y hn hy
    simp at hn; subst hn
    obtain ⟨hyw, ad, scap, hve, hcell⟩ := content_ok' hH hF h2 hy
    subst hve
    unfold copyT at h
    split at h
    · rename_i g c hk
      unfold copyB at h
      split at h
      · simp at h
      · rename_i c' hb
        simp at h; subst h
        obtain ⟨b1, b2, b3, b4, b5, b6, b7, b8, b9, b10⟩ := blit_ok hb
        obtain ⟨hw, hsz', a0, cap0, hhdr⟩ := rows_wf hH hk
        have hg := (hH.ob k _ hk).2.2.1
        have hm : Nat.min y.len n ≤ y.len := Nat.min_le_left _ _
        have hmn : Nat.min y.len n ≤ n := Nat.min_le_right _ _
        have hcl : (y.cut 0 (Nat.min y.len n)).len = Nat.min y.len n := (RC.cut_vals hyw (a := 0) (m := Nat.min y.len n) (by omega)).1
        have hcv := (RC.cut_vals hyw (a := 0) (m := Nat.min y.len n) (by omega)).2.2.2
        have hys : y.size = 1 := by rw [← (RC.cut_vals hyw (a := 0) (m := Nat.min y.len n) (by omega)).2.1]; exact b2
        rw [hcl] at b6 b7 b8
        simp only [List.drop_zero, hys, Nat.mul_one] at hcv
        generalize hmm : Nat.min y.len n = m at *
        -- the destination's header
        have hdst : ∃ ad' dc, vd = .slice ad' n dc ∧ (0 < n → ∃ b q cap cur TT fr, (ρ k).hdr = .slice (some ⟨b, q, none⟩) c.len cap ∧ C.own b ∧ w.heap[b]? = some (.cells cur TT fr) ∧ c.len ≤ cap ∧ cap ≤ maxLen ∧ q + cap * c.size ≤ cur.size ∧
            (∀ (j : Nat) (u : Value), c.vals[j]? = some u → cur[q + j]? = some u) ∧ (∀ (j : Nat), j < cur.size → ¬ (fr.1 ≤ j ∧ j < fr.2)) ∧ ad' = some ⟨b, q + o', none⟩ ∧ o' + n ≤ c.len) := by
          rcases hd with ⟨rfl, rfl, hl⟩ | rfl
          · rw [hk] at hl; simp [lenAt] at hl; subst hl
            cases h1 with
            | row _ a1 m1 cap1 hk1 hh =>
              rw [hh] at hhdr; simp at hhdr; obtain ⟨rfl, rfl, rfl⟩ := hhdr
              refine ⟨_, _, rfl, fun hp0 => ?_⟩
              obtain ⟨b, q, cap, cur, TT, fr, e1, e2, e3, e4, e5, e6, e7, e8⟩ := row_cells hH hk hp0
              rw [hh] at e1; simp at e1; obtain ⟨rfl, rfl⟩ := e1
              exact ⟨b, q, _, cur, TT, fr, hh, e2, e3, e4, e5, e6, e7, e8, rfl, by omega⟩
          · cases h1 with
            | viewNil _ hk1 hh => exact ⟨_, _, rfl, fun h => by omega⟩
            | view _ _ _ b0 q0 len cap q' hk1 hh hl hc hq hq' =>
              rw [hh] at hhdr; simp at hhdr; obtain ⟨rfl, rfl, rfl⟩ := hhdr
              refine ⟨_, _, rfl, fun hp0 => ?_⟩
              obtain ⟨b, q, cap, cur, TT, fr, e1, e2, e3, e4, e5, e6, e7, e8⟩ := row_cells hH hk (by omega)
              rw [hh] at e1; simp at e1; obtain ⟨⟨rfl, rfl⟩, rfl⟩ := e1
              refine ⟨b0, q0, _, cur, TT, fr, hh, e2, e3, e4, e5, e6, e7, e8, ?_, hl⟩
              rw [hq (by omega), hsz', b1, Nat.mul_one]
        obtain ⟨ad', dc, rfl, hdst⟩ := hdst
        have hcopy : ∀ (us : List Value) (w' : World), (Builtin.firstCells i.size m (.slice ad y.len scap)).run C.P w = .ok us.toArray w → (m = 0 ∨ ∃ A, ad' = some A ∧ (Go.storeCells A us).run C.P w = .ok () w') → (m = 0 → us = [] ∧ w' = w) → (Builtin.copy_ #[T, U] ty #[.slice ad' n dc, .slice ad y.len scap]).run C.P w = .ok (.int .i64 (m : Nat)) w' := by
          intro us w' hf hs h0
          rcases hs with h00 | ⟨A, rfl, hs⟩
          · obtain ⟨rfl, rfl⟩ := h0 h00
            cases ad' <;> simp [Builtin.copy_, run_underlying hT, Go.sizeOf, typeInfo, hi, Builtin.lenOf, hmm, hf, Go.storeCells, goInt]
          · simp [Builtin.copy_, run_underlying hT, Go.sizeOf, typeInfo, hi, Builtin.lenOf, hmm, hf, hs, goInt]
        rcases Nat.eq_zero_or_pos m with hm0 | hm0
        · have hcc : c' = c := b8 (by omega)
          subst hcc
          have hf0 : (Builtin.firstCells i.size m (.slice ad y.len scap)).run C.P w = .ok ([] : List Value).toArray w := by
            subst hm0
            cases ad with
            | none => exact run_firstCells_none w _ _ _ _
            | some A => exact run_firstCells_some w _ _ _ _ _ [] (by simp) (by simp)
          refine good_value (v := .int .i64 (m : Nat)) (w' := w) (run (hcopy [] w hf0 (.inl hm0) (fun _ => ⟨rfl, rfl⟩))) ρ (by simp) (Ext.refl _ _) (.one _ _ (.int _ _)) (hH.setOb (hH.ob k _ hk) (fun _ => ⟨_, hk, by simp⟩)) hF
        · obtain ⟨b, q, cap, cur, TT, fr, hh, hown, hbk, e4, e5, e6, e7, e8, rfl, e9⟩ := hdst (by omega)
          obtain ⟨sb, sq, rfl, hsc⟩ := hcell (by omega)
          have hul : (y.vals.take m).length = m := by rw [List.length_take, RC.vals_length hyw, hys]; omega
          rw [b1] at e6
          have hone : ∀ u ∈ y.vals.take m, u.oneCell' = true := fun u hu => b9 u (by rw [hcv]; exact hu)
          obtain ⟨w', hr, hb', hs⟩ := run_lay C.P b (q + o') TT fr (y.vals.take m) 0 cur w hbk e8 (by rw [hul]; omega) hone
          have hfc : (Builtin.firstCells i.size m (.slice (some ⟨sb, sq, none⟩) y.len scap)).run C.P w = .ok (y.vals.take m).toArray w := by
            refine run_firstCells_some w i.size _ _ _ _ (y.vals.take m) (by rw [hul, hsz, Nat.mul_one]) fun x u hu => ?_
            have hx := (List.getElem?_eq_some_iff.1 hu).1
            rw [hul] at hx
            rw [List.getElem?_take_of_lt hx] at hu
            have := hsc x u hu
            rw [Addr.add_lit]; exact this
          refine good_value (v := .int .i64 (m : Nat)) (w' := w') (run (hcopy _ w' hfc (.inr ⟨_, rfl, hr⟩) (fun h => by omega))) ρ (by simp) (Ext.refl _ _) (.one _ _ (.int _ _)) ?_ (hF.same hs hown)
          refine hH.turn ⟨_, hk, by simp⟩ (by rw [hh]; rfl) hs ⟨b4, by rw [b3, hsz', b1], hg, .inr ⟨b, q, cap, _, TT, fr, by rw [b5]; exact hh, hown, hb', by rw [b5]; exact e4, e5, ?_, ?_, ?_⟩⟩
          · rw [b3]; simpa [layV_length] using e6
          · intro j u hu
            have h7 := b10 j u hu
            rw [hcv, hul] at h7
            simp only [Nat.add_zero, List.getElem?_toArray]
            rw [layV_get (y.vals.take m) cur.toList _ _ (by rw [hul]; simp; omega), hul]
            by_cases ej : o' ≤ j ∧ j < o' + m
            · rw [if_pos ej] at h7
              rw [if_pos (by omega), show q + j - (q + o') = j - o' by omega]
              exact h7
            · rw [if_neg ej] at h7
              rw [if_neg (by omega)]
              simpa using e7 j u h7
          · simpa [layV_length] using e8
    · simp at h
  · simp at h
theorem g_copy {T U e t t' : TypeId} {D S : Operand} {d s : AO} {res : AV × List Ob} {c : Call} (ho : o.op = .call c) (hcal : c.callee = .builtin .copy) (hA : c.args.toList = [D, S]) (hTs : c.argTypes.toList = [T, U])
    (hT : C.P.underlying T = some (.slice e)) (hn : sizeT C.P e = some 1) (hx : cOp C.P t D = some d) (hy : cOp C.P t' S = some s) (he : EnvR C hp.length ρ env a) (hH : HR C ρ hp w) (hF : FR C w)
    (h : oCopy hp (getS env d) (getS env s) = some res) : Good C ρ hp o a w res := by
  have h1 := cOp_ok hx he
  have h2 := cOp_ok hy he
  simp only [sizeT, Option.map_eq_some_iff] at hn
  obtain ⟨i, hi, hsz⟩ := hn
  obtain ⟨dst, op', type, pos, after, guard⟩ := o
  obtain ⟨cl, ca, ct⟩ := c
  dsimp only at ho hcal hA hTs; subst ho hcal
  obtain rfl : ca = #[D, S] := by rw [← Array.toArray_toList (xs := ca), hA]
  obtain rfl : ct = #[T, U] := by rw [← Array.toArray_toList (xs := ct), hTs]
  simp only [getS] at h
  have runB : ∀ {v : Value} {w' : World}, (Builtin.copy_ #[T, U] type #[a.eval D, a.eval S]).run C.P w = .ok v w' → (execOp a.eval ⟨dst, .call ⟨.builtin .copy, #[D, S], #[T, U]⟩, type, pos, after, guard⟩).run C.P w = .ok (.value v) w' := fun hr => call_builtin fun consts => by simp [builtin, hr]
  unfold oCopy at h
  split at h
  · rename_i s' k e1
    obtain ⟨_, h1⟩ := h1.sv_of (by rw [e1]; simp)
    rw [e1] at h1
    cases hl : lenAt hp[k]? with
    | none => rw [hl] at h; simp [copyS] at h
    | some n =>
      rw [hl] at h
      obtain ⟨_, h2⟩ := h2.sv_of (by intro e; rw [e] at h; simp [content, copyS] at h)
      exact g_copyR (D := D) (S := S) hT hi hsz (.inl ⟨rfl, rfl, hl⟩) h1 h2 hH hF h runB
  · rename_i k o' n s' e1
    obtain ⟨_, h1⟩ := h1.sv_of (by rw [e1]; simp)
    rw [e1] at h1
    obtain ⟨_, h2⟩ := h2.sv_of (by intro e; rw [e] at h; simp [content, copyS] at h)
    exact g_copyR (D := D) (S := S) hT hi hsz (.inr rfl) h1 h2 hH hF h runB
  · rename_i k o' n j p m e1 e2
    obtain ⟨_, h1⟩ := h1.sv_of (by rw [e1]; simp)
    obtain ⟨_, h2⟩ := h2.sv_of (by rw [e2]; simp)
    rw [e1] at h1; rw [e2] at h2
    unfold copyV at h
    split at h
    · simp at h
    · rename_i vs hvs
      unfold copyR at h
      split at h
      · simp at h
      · rename_i hp' hst
        simp at h; subst h
        generalize hD : a.eval D = vd at h1
        generalize hS : a.eval S = vv at h2
        cases h1 with
        | cview _ _ _ b q cap hk hb hq hc =>
          cases h2 with
          | cview _ _ _ b' q' cap' hk' hb' hq' hc' =>
            obtain ⟨ad, us, hpv, hul, hus, hvr⟩ := loadN_ok (C := C) (ρ := ρ) (hp := hp) (w := w) (.ptr j p b' hk' hb') hH hF (n := Nat.min m n) (l := vs) (by simpa [Go.X.loadN] using hvs)
            obtain ⟨ad', w', hpv', hr, hl, hH', hF'⟩ := store_ok (C := C) (ρ := ρ) (hp := hp) (w := w) (p := .ptr k o') hvr (.ptr k o' b hk hb) hH hF (hp' := hp') (by simpa [Go.X.storeCells] using hst)
            simp only [Value.pointer.injEq, Option.some.injEq] at hpv hpv'
            subst hpv hpv'
            have hfc : (Builtin.firstCells i.size (Nat.min m n) (.slice (some ⟨b', q', none⟩) m cap')).run C.P w = .ok us.toArray w := by
              refine run_firstCells_some w i.size _ _ _ _ us (by rw [hul, hsz, Nat.mul_one]) fun x u hu => ?_
              have hx := (List.getElem?_eq_some_iff.1 hu).1
              have hm0 : 0 < m := by have : Nat.min m n ≤ m := Nat.min_le_left _ _; omega
              rw [hq' hm0]; exact hus x u hu
            have hstr : (Go.storeCells ⟨b, q, none⟩ us).run C.P w = .ok () w' := by
              by_cases h0 : us = []
              · subst h0; simpa [Go.storeCells] using hr
              · have hpos : 0 < us.length := List.length_pos_iff.2 h0
                have hn0 : 0 < n := by have : Nat.min m n ≤ n := Nat.min_le_right _ _; omega
                rw [hq hn0]; exact hr
            refine good_value (v := .int .i64 (Nat.min m n : Nat)) (w' := w') (call_builtin fun consts => ?_) ρ (Nat.le_of_eq hl.symm) (Ext.refl _ _) (.one _ _ (.int _ _)) hH' hF'
            simp [builtin, Builtin.copy_, run_underlying hT, Go.sizeOf, typeInfo, hi, Builtin.lenOf, hD, hS, hfc, hstr, goInt]
  · simp at h
def plainOp : AOp → Bool
  | .call _ _ => false
  | .callo _ _ => false
  | .calli _ _ => false
  | .callv _ _ => false
  | .eqAgg _ _ _ _ => false
  | _ => true
theorem map_some {α β : Type} {f : α → β} {x : Option α} {y : β} (h : x.map f = some y) : ∃ a, x = some a ∧ f a = y := Option.map_eq_some_iff.1 h
theorem bind_some {α β : Type} {f : α → Option β} {x : Option α} {y : β} (h : x.bind f = some y) : ∃ a, x = some a ∧ f a = some y := Option.bind_eq_some_iff.1 h
theorem op_good {op : AOp} {Γ : Nat → Callee} {res : AV × List Ob} (hc : cOper C.P o = some op) (hpl : plainOp op = true) (he : EnvR C hp.length ρ env a) (hH : HR C ρ hp w) (hF : FR C w) (h : evOp Γ env hp op = some res) : Good C ρ hp o a w res := by
  unfold cOper at hc
  split at hc
  · -- move
    rename_i X hop
    split at hc
    · rename_i hn
      split at hc
      · obtain ⟨⟨c, z⟩, hr, rfl⟩ := map_some hc
        simp [evOp, newRow] at h; subst h
        exact g_newNil (.inl hop) hn hr hH hF
      · simp at hc
    · obtain ⟨x, hx, rfl⟩ := map_some hc
      simp [evOp] at h; subst h
      exact g_mv (.inl hop) hx he hH hF
  · rename_i X hop
    split at hc
    · rename_i hn
      split at hc
      · obtain ⟨⟨c, z⟩, hr, rfl⟩ := map_some hc
        simp [evOp, newRow] at h; subst h
        exact g_newNil (.inr hop) hn hr hH hF
      · simp at hc
    · obtain ⟨x, hx, rfl⟩ := map_some hc
      simp [evOp] at h; subst h
      exact g_mv (.inr hop) hx he hH hF
  · rename_i Cc X Y hop
    obtain ⟨c, hcc, hc⟩ := bind_some hc
    obtain ⟨p, hp', rfl⟩ := map_some hc
    obtain ⟨h1, h2⟩ := both_ok hp'
    exact g_pick hop hcc h1 h2 he hH hF h
  · rename_i e hop
    obtain ⟨z, hz, rfl⟩ := map_some hc
    simp [evOp] at h; subst h
    exact g_alloc hop hz hH hF
  · rename_i e X hop
    obtain ⟨x, hx, rfl⟩ := map_some hc
    exact g_box hop hx he hH hF h
  · rename_i t ps hop
    obtain ⟨z, hz, hc⟩ := bind_some hc
    split at hc
    · rename_i fs hfs
      obtain ⟨pl, hpl', hc⟩ := bind_some hc
      obtain ⟨qs, hqs, rfl⟩ := map_some hc
      refine g_build (place := fun i => pl.toArray[i]?) hop hz ?_ (fieldsAt_ok hqs) he hH hF h
      intro i zv hi hzv ps' cells hfill
      simp only [Program.built, hi, hfs, hzv, hpl']
      exact hfill
    · rename_i m e hT
      obtain ⟨n, hn, hc⟩ := bind_some hc
      obtain ⟨qs, hqs, rfl⟩ := map_some hc
      refine g_build (place := fun i => some (i * n, n)) hop hz ?_ (elemsAt_ok hqs) he hH hF h
      intro i zv hi hzv ps' cells hfill
      simp only [sizeT, Option.map_eq_some_iff] at hn
      obtain ⟨ie, hie, rfl⟩ := hn
      simp only [Program.built, hi, hT, hzv, hie]
      exact hfill
    · simp at hc
  · rename_i T len ps hop
    split at hc
    · rename_i e hT
      obtain ⟨⟨c, z⟩, hr, hc⟩ := bind_some hc
      split at hc
      · rename_i hlen
        obtain ⟨qs, hqs, rfl⟩ := map_some hc
        exact g_bslice hop hT hr hlen hqs he hH hF h
      · simp at hc
    · simp at hc
  · rename_i t X hop
    obtain ⟨b, hb, hc⟩ := bind_some hc
    cases b with
    | true =>
      simp only [if_true] at hc
      obtain ⟨p, hp', rfl⟩ := map_some hc
      obtain ⟨h1, h2⟩ := both_ok hp'
      exact g_loadN hop hb h1 h2 he hH hF h
    | false =>
      simp only [Bool.false_eq_true, if_false] at hc
      obtain ⟨x, hx, rfl⟩ := map_some hc
      exact g_load1 hop hb hx he hH hF h
  · rename_i t A X hop
    split at hc
    · rename_i hn
      split at hc
      · split at hc
        · rename_i hsz
          obtain ⟨p, hp', rfl⟩ := map_some hc
          obtain ⟨h1, h2⟩ := both_ok hp'
          obtain ⟨⟨c, z⟩, y⟩ := p
          exact g_storeNil hop hn hsz h1 h2 he hH hF h
        · simp at hc
      · simp at hc
    · obtain ⟨n, hn, hc⟩ := bind_some hc
      obtain ⟨p, hp', rfl⟩ := map_some hc
      obtain ⟨h1, h2⟩ := both_ok hp'
      exact g_store hop hn h1 h2 he hH hF h
  · rename_i X hop
    obtain ⟨x, hx, rfl⟩ := map_some hc
    exact g_nilCheck hop hx he hH hF h
  · rename_i op' t X Y ty hop
    unfold cBin at hc
    split at hc
    · rename_i k hT
      obtain ⟨p, hp', rfl⟩ := map_some hc
      obtain ⟨h1, h2⟩ := both_ok hp'
      exact g_bin hop h1 h2 he hH hF h
    · rename_i hT
      obtain ⟨p, hp', rfl⟩ := map_some hc
      obtain ⟨h1, h2⟩ := both_ok hp'
      exact g_bin hop h1 h2 he hH hF h
    · rename_i hT
      split at hc
      · obtain ⟨p, hp', rfl⟩ := map_some hc
        obtain ⟨h1, h2⟩ := both_ok hp'
        exact g_eqB (.inl ⟨rfl, rfl⟩) hT hop h1 h2 he hH hF h
      · obtain ⟨p, hp', rfl⟩ := map_some hc
        obtain ⟨h1, h2⟩ := both_ok hp'
        exact g_eqB (.inr ⟨rfl, rfl⟩) hT hop h1 h2 he hH hF h
      · simp at hc
    · rename_i e hT
      split at hc
      · split at hc
        · rename_i hn
          obtain ⟨x, hx, rfl⟩ := map_some hc
          exact g_eqNil (.inl ⟨rfl, rfl⟩) hT (.inl ⟨hop, hn⟩) hx he hH hF h
        · split at hc
          · rename_i hn
            obtain ⟨x, hx, rfl⟩ := map_some hc
            exact g_eqNil (.inl ⟨rfl, rfl⟩) hT (.inr ⟨hop, hn⟩) hx he hH hF h
          · simp at hc
      · split at hc
        · rename_i hn
          obtain ⟨x, hx, rfl⟩ := map_some hc
          exact g_eqNil (.inr ⟨rfl, rfl⟩) hT (.inl ⟨hop, hn⟩) hx he hH hF h
        · split at hc
          · rename_i hn
            obtain ⟨x, hx, rfl⟩ := map_some hc
            exact g_eqNil (.inr ⟨rfl, rfl⟩) hT (.inr ⟨hop, hn⟩) hx he hH hF h
          · simp at hc
      · simp at hc
    · split at hc
      · obtain ⟨z, _, hc⟩ := bind_some hc
        split at hc
        · obtain ⟨p, _, rfl⟩ := map_some hc; simp [plainOp] at hpl
        · obtain ⟨p, _, rfl⟩ := map_some hc; simp [plainOp] at hpl
        · simp at hc
      · simp at hc
    · split at hc
      · obtain ⟨z, _, hc⟩ := bind_some hc
        split at hc
        · obtain ⟨p, _, rfl⟩ := map_some hc; simp [plainOp] at hpl
        · obtain ⟨p, _, rfl⟩ := map_some hc; simp [plainOp] at hpl
        · simp at hc
      · simp at hc
    · simp at hc
  · rename_i op' t X hop
    obtain ⟨x, hx, rfl⟩ := map_some hc
    exact g_un hop hx he hH hF h
  · rename_i s d X hop
    unfold cConv at hc
    split at hc
    · rename_i k' k hs hd
      obtain ⟨x, hx, rfl⟩ := map_some hc
      exact g_conv hop hs hd hx he hH hF h
    · rename_i hs hd
      obtain ⟨x, hx, rfl⟩ := map_some hc
      exact g_sconv hop hs hd hx he hH hF h
    · rename_i e hs hd
      split at hc
      · rename_i hE
        obtain ⟨x, hx, rfl⟩ := map_some hc
        exact g_s2b hop hs hd hE hx he hH hF h
      · simp at hc
    · rename_i e hs hd
      split at hc
      · rename_i hE
        obtain ⟨x, hx, rfl⟩ := map_some hc
        exact g_b2s hop hs hd hE hx he hH hF h
      · simp at hc
    · simp at hc
  · rename_i t X lo hi hop
    split at hc
    · rename_i hT
      obtain ⟨x, hx, hc⟩ := bind_some hc
      obtain ⟨p, hp', rfl⟩ := map_some hc
      obtain ⟨h1, h2⟩ := both_ok hp'
      exact g_cutS hop hT hx h1 h2 he hH hF h
    · rename_i e hT
      obtain ⟨n, hn, hc⟩ := bind_some hc
      obtain ⟨x, hx, hc⟩ := bind_some hc
      obtain ⟨p, hp', rfl⟩ := map_some hc
      obtain ⟨h1, h2⟩ := both_ok hp'
      exact g_cutR hop hT hn hx h1 h2 he hH hF h
    · rename_i m e hT
      split at hc
      · rename_i hn
        obtain ⟨x, hx, hc⟩ := bind_some hc
        obtain ⟨p, hp', rfl⟩ := map_some hc
        obtain ⟨h1, h2⟩ := both_ok hp'
        exact g_cutA hop hT hn hx h1 h2 he hH hF h
      · simp at hc
    · simp at hc
  · rename_i s X f hop
    split at hc
    · rename_i fs hs
      obtain ⟨fd, hfd, hc⟩ := bind_some hc
      obtain ⟨n, hn, hc⟩ := bind_some hc
      split at hc
      · simp at hc
      · rename_i h0
        obtain ⟨x, hx, rfl⟩ := map_some hc
        exact g_fadr hop hs hfd hn h0 hx he hH hF h
    · simp at hc
  · rename_i t X f hop
    split at hc
    · rename_i fs hs
      obtain ⟨fd, hfd, hc⟩ := bind_some hc
      obtain ⟨b, hb, hc⟩ := bind_some hc
      obtain ⟨n, hn, hc⟩ := bind_some hc
      obtain ⟨x, hx, rfl⟩ := map_some hc
      exact g_fld hop hs hfd hb hn hx he hH hF h
    · simp at hc
  · rename_i t X I hop
    split at hc
    · rename_i e hT
      obtain ⟨n, hn, hc⟩ := bind_some hc
      obtain ⟨p, hp', rfl⟩ := map_some hc
      obtain ⟨h1, h2⟩ := both_ok hp'
      exact g_iadrR hop hT hn h1 h2 he hH hF h
    · rename_i m e hT
      obtain ⟨n, hn, hc⟩ := bind_some hc
      obtain ⟨p, hp', rfl⟩ := map_some hc
      obtain ⟨h1, h2⟩ := both_ok hp'
      exact g_iadrA hop hT hn h1 h2 he hH hF h
    · simp at hc
  · rename_i t X I hop
    split at hc
    · rename_i hT
      obtain ⟨p, hp', rfl⟩ := map_some hc
      obtain ⟨h1, h2⟩ := both_ok hp'
      exact g_idxS hop hT h1 h2 he hH hF h
    · rename_i m e hT
      obtain ⟨b, hb, hc⟩ := bind_some hc
      obtain ⟨n, hn, hc⟩ := bind_some hc
      obtain ⟨p, hp', rfl⟩ := map_some hc
      obtain ⟨h1, h2⟩ := both_ok hp'
      exact g_idxA hop hT hb hn h1 h2 he hH hF h
    · simp at hc
  · rename_i X i hop
    obtain ⟨x, hx, rfl⟩ := map_some hc
    exact g_extract hop hx he hH hF h
  · rename_i c hop
    split at hc
    · rename_i b hcal
      unfold cBuiltin at hc
      split at hc
      · rename_i t X hts hargs
        split at hc
        · rename_i hT
          obtain ⟨x, hx, rfl⟩ := map_some hc
          exact g_lenS hop hcal hargs hts hT hx he hH hF h
        · rename_i e hT
          obtain ⟨x, hx, rfl⟩ := map_some hc
          exact g_len hop hcal hargs hts ⟨e, hT⟩ hx he hH hF h
        · simp at hc
      · rename_i t u S X hts hargs
        split at hc
        · rename_i e e' hT hU
          obtain ⟨⟨c0, z⟩, hr, hc⟩ := bind_some hc
          obtain ⟨n, hn, hc⟩ := bind_some hc
          split at hc
          · simp at hc
          · rename_i h0
            obtain ⟨p, hp', rfl⟩ := map_some hc
            obtain ⟨h1, h2⟩ := both_ok hp'
            exact g_append hop hcal hargs hts hT hU (.inl ⟨_, rfl⟩) hr hn h0 h1 h2 he hH hF h
        · rename_i e hT hU
          obtain ⟨⟨c0, z⟩, hr, hc⟩ := bind_some hc
          obtain ⟨n, hn, hc⟩ := bind_some hc
          split at hc
          · simp at hc
          · rename_i h0
            obtain ⟨p, hp', rfl⟩ := map_some hc
            obtain ⟨h1, h2⟩ := both_ok hp'
            exact g_append hop hcal hargs hts hT hU (.inr rfl) hr hn h0 h1 h2 he hH hF h
        · rename_i e kd hT hU
          obtain ⟨⟨c0, z⟩, hr, hc⟩ := bind_some hc
          obtain ⟨n, hn, hc⟩ := bind_some hc
          split at hc
          · simp at hc
          · rename_i h0
            obtain ⟨p, hp', rfl⟩ := map_some hc
            obtain ⟨h1, h2⟩ := both_ok hp'
            exact g_appz hop hcal hargs hts hT hU hr hn h0 h1 h2 he hH hF h
        · simp at hc
      · rename_i t u D S hts hargs
        split at hc
        · rename_i e hT
          split at hc
          · rename_i hn
            obtain ⟨p, hp', rfl⟩ := map_some hc
            obtain ⟨h1, h2⟩ := both_ok hp'
            exact g_copy hop hcal hargs hts hT hn h1 h2 he hH hF h
          · simp at hc
        · simp at hc
      · obtain ⟨l, hl, rfl⟩ := map_some hc
        exact g_min hop hcal hl he hH hF h
      · obtain ⟨l, hl, rfl⟩ := map_some hc
        exact g_max hop hcal hl he hH hF h
      · simp at hc
    · split at hc
      · obtain ⟨l, hl, rfl⟩ := map_some hc; unfold callOf at hpl; (repeat' split at hpl) <;> simp [plainOp] at hpl
      · simp at hc
    · obtain ⟨l, hl, rfl⟩ := map_some hc; simp [plainOp] at hpl
    · simp at hc
  · rename_i f first caps hop
    split at hc
    · rename_i h0
      obtain ⟨l, hl, rfl⟩ := map_some hc
      simp [evOp] at h; subst h
      exact g_mkfn hop h0 hl he hH hF
    · simp at hc
  · rename_i t L K hop
    split at hc
    · rename_i e hT
      obtain ⟨⟨c0, z⟩, hr, hc⟩ := bind_some hc
      obtain ⟨n, hn, hc⟩ := bind_some hc
      split at hc
      · simp at hc
      · rename_i h0
        obtain ⟨p, hp', rfl⟩ := map_some hc
        obtain ⟨h1, h2⟩ := both_ok hp'
        exact g_mks hop hT hr hn h0 h1 h2 he hH hF h
    · simp at hc
  · simp at hc
end
structure Fine (hp : List Ob) (ks : List Nat) : Prop where
  alive : ∀ k ∈ ks, alive hp k
  nodup : ks.Nodup
theorem Fine.nil (hp : List Ob) : Fine hp [] := ⟨by simp, by simp⟩
theorem Fine.snoc {hp : List Ob} {ks : List Nat} (h : Fine hp ks) {k : Nat} (ha : Go.X.alive hp k) (hk : ks.elem k = false) : Fine hp (ks ++ [k]) := by
  have hk' : k ∉ ks := by simpa using hk
  refine ⟨fun j hj => ?_, ?_⟩
  · rcases List.mem_append.1 hj with h1 | h1
    · exact h.alive j h1
    · simp at h1; subst h1; exact ha
  · rw [List.nodup_append]
    exact ⟨h.nodup, by simp, fun x hx y hy e => by simp at hy; subst hy; subst e; exact hk' hx⟩
mutual
theorem reachSV_fine (hp : List Ob) : ∀ (f : Nat) (v : SV) (ks : List Nat), Fine hp ks → Fine hp (reachSV hp f v ks)
  | 0, v, ks, h => by unfold reachSV; exact h
  | f + 1, v, ks, h => by
    cases v <;> simp only [reachSV] <;> first | exact h | skip
    case ptr k o =>
      split
      · exact h
      · rename_i hk; exact reachOb_fine hp f _ k ks h rfl (by simpa using hk)
    case eptr k i o =>
      split
      · exact h
      · rename_i hk; exact reachOb_fine hp f _ k ks h rfl (by simpa using hk)
    case row k =>
      split
      · exact h
      · rename_i hk; exact reachOb_fine hp f _ k ks h rfl (by simpa using hk)
    case view k o n =>
      split
      · exact h
      · rename_i hk; exact reachOb_fine hp f _ k ks h rfl (by simpa using hk)
    case cview k o n =>
      split
      · exact h
      · rename_i hk; exact reachOb_fine hp f _ k ks h rfl (by simpa using hk)
    case fn g caps => exact reachL_fine hp f caps ks h
theorem reachOb_fine (hp : List Ob) : ∀ (f : Nat) (ob : Option Ob) (k : Nat) (ks : List Nat), Fine hp ks → hp[k]? = ob → ks.elem k = false → Fine hp (reachOb hp f ob k ks)
  | 0, ob, k, ks, h, hob, hk => by
    cases ob with
    | none => simp only [reachOb]; exact h
    | some o => cases o <;> simp only [reachOb] <;> first | exact h | exact h.snoc ⟨_, hob, by simp⟩ hk
  | f + 1, ob, k, ks, h, hob, hk => by
    cases ob with
    | none => simp only [reachOb]; exact h
    | some o =>
      cases o with
      | cells g l => simp only [reachOb]; exact reachL_fine hp f l _ (h.snoc ⟨_, hob, by simp⟩ hk)
      | rows g c => simp only [reachOb]; exact h.snoc ⟨_, hob, by simp⟩ hk
      | dead => simp only [reachOb]; exact h
theorem reachL_fine (hp : List Ob) : ∀ (f : Nat) (l : List SV) (ks : List Nat), Fine hp ks → Fine hp (reachL hp f l ks)
  | 0, l, ks, h => by cases l <;> simp only [reachL] <;> exact h
  | f + 1, [], ks, h => by simp only [reachL]; exact h
  | f + 1, v :: l, ks, h => by simp only [reachL]; exact reachL_fine hp f l _ (reachSV_fine hp f v ks h)
end
theorem nodup_inj {ks : List Nat} : ks.Nodup → ∀ {i j k : Nat}, ks[i]? = some k → ks[j]? = some k → i = j := by
  induction ks with
  | nil => intro _ i j k h; simp at h
  | cons x ks ih =>
    intro hn i j k hi hj
    rw [List.nodup_cons] at hn
    cases i with
    | zero =>
      cases j with
      | zero => rfl
      | succ j =>
        simp at hi hj; subst hi
        exact absurd (List.mem_of_getElem? hj) hn.1
    | succ i =>
      cases j with
      | zero =>
        simp at hi hj; subst hj
        exact absurd (List.mem_of_getElem? hi) hn.1
      | succ j => simp at hi hj; exact congrArg _ (ih hn.2 hi hj)
theorem pos_some {k j : Nat} : ∀ {ks : List Nat}, pos k ks = some j → ks[j]? = some k
  | [], h => by simp [pos] at h
  | x :: ks, h => by
    simp only [pos] at h
    split at h
    · rename_i e; simp at h; subst h; simp [e]
    · simp only [Option.map_eq_some_iff] at h
      obtain ⟨i, hi, rfl⟩ := h
      simpa using pos_some hi
theorem pick_length (hp : List Ob) (f : Nat → Option Nat) : ∀ ks : List Nat, (pick hp f ks).length = ks.length
  | [] => rfl
  | k :: ks => by simp [pick, pick_length hp f ks]
theorem pick_get {hp : List Ob} {f : Nat → Option Nat} : ∀ {ks : List Nat} {j : Nat} {o : Ob}, (pick hp f ks)[j]? = some o → ∃ k, ks[j]? = some k ∧ o = (Ob.ofOpt hp[k]?).ren f
  | [], j, o, h => by simp [pick] at h
  | k :: ks, 0, o, h => by simp [pick] at h; exact ⟨k, rfl, by rw [h]⟩
  | k :: ks, j + 1, o, h => by simpa using pick_get (ks := ks) (j := j) (by simpa [pick] using h)
section
variable {C : Cx} {ρ ρ' : Nat → RV} {hp : List Ob} {w w' : World}
theorem VRL.ren' {n n' : Nat} {f : Nat → Option Nat} (T : Turn n n' ρ ρ' f) {l : List SV} {vs : List Value} (h : VRL C n ρ l vs) : VRL C n' ρ' (renL f l) vs := VRL.ren T h
def rho (ρ : Nat → RV) (ks : List Nat) : Nat → RV := fun j => ρ (ks.getD j 0)
theorem turn_pos {n : Nat} {ks : List Nat} : Turn n ks.length ρ (rho ρ ks) (posF ks) := by
  refine ⟨fun k j hk h => ?_⟩
  have h1 := pos_some h
  have hlt := (List.getElem?_eq_some_iff.1 h1).1
  have h2 : rho ρ ks j = ρ k := by simp [rho, List.getD, h1]
  exact ⟨hlt, by rw [h2], fun _ => by rw [h2]⟩
theorem ob_ren {n n' k j : Nat} {f : Nat → Option Nat} {ob : Ob} (T : Turn n n' ρ ρ' f) (hk : ρ' j = ρ k) (h : ObR C n ρ w k ob) : ObR C n' ρ' w j (ob.ren f) := by
  cases ob with
  | dead => trivial
  | cells g l =>
    obtain ⟨b, T', cur, e, hown, hh, hv, hg⟩ := h
    exact ⟨b, T', cur, by rw [hk]; exact e, hown, hh, VRL.ren T hv, by rw [hk]; exact hg⟩
  | rows g c =>
    obtain ⟨h1, h2, hg, h⟩ := h
    exact ⟨h1, by rw [hk]; exact h2, by rw [hk]; exact hg, by rw [hk]; exact h⟩
theorem HR.pick (h : HR C ρ hp w) {ks : List Nat} (hf : Fine hp ks) : HR C (rho ρ ks) (pick hp (posF ks) ks) w := by
  have key : ∀ j, alive (Go.X.pick hp (posF ks) ks) j → ∃ k, ks[j]? = some k ∧ rho ρ ks j = ρ k ∧ alive hp k := by
    intro j hj
    obtain ⟨o, ho, hd⟩ := hj
    obtain ⟨k, hk, e⟩ := pick_get ho
    exact ⟨k, hk, by simp [rho, List.getD, hk], hf.alive k (List.mem_of_getElem? hk)⟩
  refine ⟨fun j o ho => ?_, fun i j b hij hi hj hb => ?_⟩
  · rw [pick_length]
    obtain ⟨k, hk, rfl⟩ := pick_get ho
    obtain ⟨ob, hob, _⟩ := hf.alive k (List.mem_of_getElem? hk)
    rw [hob]
    exact ob_ren turn_pos (by simp [rho, List.getD, hk]) (h.ob k ob hob)
  · obtain ⟨k1, hk1, e1, a1⟩ := key i hi
    obtain ⟨k2, hk2, e2, a2⟩ := key j hj
    rw [e1] at hb
    rw [e2]
    refine h.ne k1 k2 b ?_ a1 a2 hb
    rintro rfl
    have h1 := List.getElem?_eq_some_iff.1 hk1
    have h2 := List.getElem?_eq_some_iff.1 hk2
    exact hij (nodup_inj hf.nodup hk1 hk2)
end
def tagBlk (C : Cx) (ρ : Nat → RV) (n0 : Nat) : Option SV → Nat
  | some (.ro t c) => if 0 < c.len then C.τ t else n0
  | some (.rptr t _ _ _) => C.τ t
  | some (.row k) => (blkOf (ρ k).hdr).getD n0
  | some (.view k _ _) => (blkOf (ρ k).hdr).getD n0
  | some (.cview k _ _) => (blkOf (ρ k).hdr).getD n0
  | _ => n0
def rvAt (ρ : Nat → RV) : Option Nat → RV
  | some k => ρ k
  | none => ⟨.nilFunc, 0⟩
def Cx.callee (C : Cx) (ρ : Nat → RV) (ks : List Nat) (w : World) (cs : List SV) (D : List Deferred) : Cx :=
  { P := C.P, w0 := w, S := fun b => ∃ k ∈ ks, blkOf (ρ k).hdr = some b, τ := fun t => tagBlk C ρ w.heap.size cs[t]?, r0 := fun i => rvAt ρ ks[i]?, df := D }
section
variable {C C' : Cx} {ρ ρ' : Nat → RV} {hp : List Ob} {w w' : World} {ks : List Nat} {cs : List SV} {D : List Deferred}
mutual
theorem VR.strip {n : Nat} : ∀ {s : SV} {v : Value}, VR C n ρ s v → VR C' n ρ s.strip v
  | _, _, .undef v => by simp only [SV.strip]; exact .undef v
  | _, _, .int k x => by simp only [SV.strip]; exact .int k x
  | _, _, .bool b => by simp only [SV.strip]; exact .bool b
  | _, _, .str s => by simp only [SV.strip]; exact .str s
  | _, _, .nilp => by simp only [SV.strip]; exact .nilp
  | _, _, .nilf => by simp only [SV.strip]; exact .nilf
  | _, _, .nils c h hw => by simp only [SV.strip]; exact .nils c h hw
  | _, _, .ro t c a cap h hc => by simp only [SV.strip]; exact .undef _
  | _, _, .rptr t c i o b q h hi => by simp only [SV.strip]; exact .undef _
  | _, _, .fn g caps cs h => by simp only [SV.strip]; exact .fn g _ cs (VRL.strip h)
  | _, _, .ptr k o b hk h => by simp only [SV.strip]; exact .ptr k o b hk h
  | _, _, .eptr k i o b q m cap hk h hi => by simp only [SV.strip]; exact .eptr k i o b q m cap hk h hi
  | _, _, .row k a m cap hk h => by simp only [SV.strip]; exact .row k a m cap hk h
  | _, _, .viewNil k hk h => by simp only [SV.strip]; exact .viewNil k hk h
  | _, _, .view k o m b q len cap q' hk h hl hc hq hq' => by simp only [SV.strip]; exact .view k o m b q len cap q' hk h hl hc hq hq'
  | _, _, .cview k o m b q cap hk h hq hc => by simp only [SV.strip]; exact .cview k o m b q cap hk h hq hc
theorem VRL.strip {n : Nat} : ∀ {l : List SV} {vs : List Value}, VRL C n ρ l vs → VRL C' n ρ (stripL l) vs
  | _, _, .nil => by simp only [stripL]; exact .nil
  | _, _, .cons s v l vs h hl => by simp only [stripL]; exact .cons _ v _ vs (VR.strip h) (VRL.strip hl)
end
theorem view_blk {k : Nat} {s : SV} {v : Value} {n : Nat} (hs : s = .row k ∨ ∃ o m, s = .view k o m) (h : VR C n ρ s v) : blkOf v = blkOf (ρ k).hdr := by
  rcases hs with rfl | ⟨o, m, rfl⟩
  · cases h with | row _ a m cap hk hh => rw [hh]
  · cases h with
    | viewNil _ hk hh => rw [hh]
    | view _ _ _ b q len cap q' hk hh hl hc hq hq' => rw [hh]; rfl
theorem ro_of {k t : Nat} {s : SV} {v : Value} {c : RC} {n' : Nat} {ρ'' : Nat → RV} (hH : HR C ρ hp w) (hF : FR C w) (hs : s = .row k ∨ ∃ o m, s = .view k o m) (hc : content hp s = some c) (hv : VR C hp.length ρ s v)
    (hk : k ∉ ks) (hks : ∀ j ∈ ks, alive hp j) (ht : cs[t]? = some s) : VR (C.callee ρ ks w cs D) n' ρ'' (.ro t c) v := by
  obtain ⟨hw, ad, cap, hve, hcell⟩ := content_ok' hH hF hv hc
  have hal : alive hp k := by
    rcases hs with rfl | ⟨o, m, rfl⟩
    · simp only [content, rowAt] at hc; split at hc <;> simp at hc; exact ⟨_, ‹_›, by simp⟩
    · simp only [content, cutAt] at hc; split at hc <;> simp at hc; exact ⟨_, ‹_›, by simp⟩
  have hcap : c.len ≤ cap := by
    rcases hs with rfl | ⟨o, m, rfl⟩
    · simp only [content, rowAt] at hc
      split at hc <;> simp at hc
      rename_i d hd
      subst hc
      cases hv with
      | row _ a m cap hk hh =>
        simp at hve
        obtain ⟨_, _, _, ⟨e, h0⟩ | ⟨b, o, cap', cur, T, fr, e, _, _, hle, _⟩⟩ := hH.ob k _ hd
        · omega
        · rw [hh] at e; simp at e; omega
    · cases hv with
      | viewNil _ hk hh => simp at hve; omega
      | view _ _ _ b q len cap q' hk hh hl hc' hq hq' => simp at hve; omega
  subst hve
  refine .ro t c ad cap ⟨hw, fun hpos => ?_⟩ hcap
  obtain ⟨b, q, hadd, hcell2⟩ := hcell hpos
  subst hadd
  have hb : some b = blkOf (ρ k).hdr := view_blk hs hv
  refine ⟨b, q, rfl, ?_, ?_, hcell2⟩
  · rintro (⟨j, hj, e⟩ | h)
    · exact hH.ne k j b (fun e => hk (e ▸ hj)) hal (hks j hj) hb.symm e
    · exact absurd (hH.lt hal hb.symm).2 (Nat.not_lt.2 h)
  · show tagBlk C ρ w.heap.size cs[t]? = b
    rw [ht]
    rcases hs with rfl | ⟨o, m, rfl⟩ <;> simp [tagBlk, ← hb]
theorem intsOf_get {k : IntKind} : ∀ {l : List SV} {xs : List Int}, intsOf k l = some xs → xs.length = l.length ∧ ∀ (j : Nat) (x : Int), xs[j]? = some x → l[j]? = some (SV.int k x)
  | [], xs, h => by simp [intsOf] at h; subst h; simp
  | v :: l, xs, h => by
    unfold intsOf at h
    split at h
    · rename_i e; exact absurd e (by simp)
    · rename_i j x l' e
      simp at e; obtain ⟨rfl, rfl⟩ := e
      split at h
      · rename_i e; subst e
        simp only [Option.map_eq_some_iff] at h
        obtain ⟨ys, hy, rfl⟩ := h
        obtain ⟨h1, h2⟩ := intsOf_get hy
        refine ⟨by simp [h1], fun j x hj => ?_⟩
        cases j with
        | zero => simp at hj; subst hj; rfl
        | succ j => simpa using h2 j x (by simpa using hj)
      · simp at h
    · simp at h
theorem rcCells_get {l : List SV} {c : RC} (h : rcCells l = some c) : c.wf ∧ c.size = 1 ∧ c.len = l.length ∧ ∀ (j : Nat) (u : Value), c.vals[j]? = some u → ∃ k x, l[j]? = some (SV.int k x) ∧ u = .int k x := by
  unfold rcCells at h
  split at h
  · rename_i k x l'
    simp only [Option.map_eq_some_iff] at h
    obtain ⟨ys, hy, rfl⟩ := h
    obtain ⟨h1, h2⟩ := intsOf_get hy
    refine ⟨trivial, rfl, by simp [RC.len, h1], fun j u hu => ?_⟩
    simp only [RC.vals, List.getElem?_map, Option.map_eq_some_iff] at hu
    obtain ⟨z, hz, rfl⟩ := hu
    cases j with
    | zero => simp at hz; subst hz; exact ⟨k, x, rfl, rfl⟩
    | succ j => exact ⟨k, z, by simpa using h2 j z (by simpa using hz), rfl⟩
  · simp at h
theorem ro_ofC {k o m t : Nat} {v : Value} {c : RC} {n' : Nat} {ρ'' : Nat → RV} (hH : HR C ρ hp w) (hc : cviewAt o m hp[k]? = some c) (hv : VR C hp.length ρ (.cview k o m) v)
    (hk : k ∉ ks) (hks : ∀ j ∈ ks, alive hp j) (ht : cs[t]? = some (.cview k o m)) : VR (C.callee ρ ks w cs D) n' ρ'' (.ro t c) v := by
  unfold cviewAt at hc
  split at hc
  · rename_i g l e
    split at hc
    · rename_i hle
      obtain ⟨h1, h2, h3, h4⟩ := rcCells_get hc
      have hal : alive hp k := ⟨_, e, by simp⟩
      have hlen : c.len = m := by rw [h3]; simp; omega
      cases hv with
      | cview _ _ _ b q cap hk' hh hq hcap =>
        rw [← hlen]
        refine .ro t c _ cap ⟨h1, fun hpos => ⟨b, q, rfl, ?_, ?_, fun j u hu => ?_⟩⟩ (by omega)
        · rintro (⟨j, hj, e'⟩ | h)
          · exact hH.ne k j b (fun e => hk (e ▸ hj)) hal (hks j hj) (by rw [hh]; rfl) e'
          · exact absurd (hH.lt hal (b := b) (by rw [hh]; rfl)).2 (Nat.not_lt.2 h)
        · show tagBlk C ρ w.heap.size cs[t]? = b
          rw [ht]
          simp [tagBlk, hh, blkOf]
        · obtain ⟨b', T, cur, e1, hown, hb, hvl, _⟩ := hH.ob k _ e
          rw [hh] at e1; simp at e1; subst e1
          show w.cell? ⟨b, q + j, none⟩ = some u
          rw [cell_at hb, hq (by omega)]
          obtain ⟨kk, x, hx, rfl⟩ := h4 j u hu
          have hj : j < m := by have := (List.getElem?_eq_some_iff.1 hx).1; simp at this; omega
          rw [List.getElem?_take_of_lt hj, List.getElem?_drop] at hx
          obtain ⟨v, hv1, hv2⟩ := hvl.get hx
          rw [Array.getElem?_toList] at hv1
          cases hv2
          exact hv1
    · simp at hc
  · simp at hc
theorem reads_lend {t u : Nat} {c : RC} {a : Option Addr} {s : SV} (hF : FR C w) (hH : HR C ρ hp w) (hks : ∀ j ∈ ks, alive hp j) (h : C.reads u c a) (ht : cs[t]? = some s) (hs : s = .ro u c ∨ ∃ i o, s = .rptr u c i o) : (C.callee ρ ks w cs D).reads t c a := by
  refine ⟨h.1, fun hpos => ?_⟩
  obtain ⟨b, o, rfl, hown, hτ, hcell⟩ := h.2 hpos
  refine ⟨b, o, rfl, ?_, ?_, fun j v hv => reads_cell hF h hv⟩
  · rintro (⟨j, hj, e⟩ | h')
    · exact hown (hH.lt (hks j hj) e).1
    · exact hown (.inr (Nat.le_trans hF.size h'))
  · show tagBlk C ρ w.heap.size cs[t]? = b
    rw [ht]
    rcases hs with rfl | ⟨i, o', rfl⟩
    · simp [tagBlk, hpos, hτ]
    · simp [tagBlk, hτ]
theorem roOf_ok {n' : Nat} {ρ'' : Nat → RV} {t : Nat} {v : Value} {oc : Option RC} (h : ∀ c, oc = some c → VR C' n' ρ'' (.ro t c) v) : VR C' n' ρ'' (roOf t .undef oc) v := by
  cases oc with
  | none => exact .undef _
  | some c => exact h c rfl
theorem lend_ok {t : Nat} {s : SV} {v : Value} (hF : FR C w) (hH : HR C ρ hp w) (hf : Fine hp ks) (ht : cs[t]? = some s) (h : VR C hp.length ρ s v) : VR (C.callee ρ ks w cs D) hp.length ρ (s.lend hp ks t) v := by
  cases h with
  | undef v => simp only [SV.lend, SV.strip]; exact .undef v
  | int k x => simp only [SV.lend, SV.strip]; exact .int k x
  | bool b => simp only [SV.lend, SV.strip]; exact .bool b
  | str s => simp only [SV.lend, SV.strip]; exact .str s
  | nilp => simp only [SV.lend, SV.strip]; exact .nilp
  | nilf => simp only [SV.lend, SV.strip]; exact .nilf
  | nils c h hw => simp only [SV.lend, SV.strip]; exact .nils c h hw
  | ro u c a cap h hc => simp only [SV.lend]; exact .ro t c a cap (reads_lend hF hH hf.alive h ht (.inl rfl)) hc
  | rptr u c i o b q h hi => simp only [SV.lend]; exact .rptr t c i o b q (reads_lend hF hH hf.alive h ht (.inr ⟨_, _, rfl⟩)) hi
  | fn g caps cs h => simp only [SV.lend, SV.strip]; exact .fn g _ cs (VRL.strip h)
  | ptr k o b hk h => simp only [SV.lend, SV.strip]; exact .ptr k o b hk h
  | eptr k i o b q m cap hk h hi =>
    simp only [SV.lend]; split
    · exact .eptr k i o b q m cap hk h hi
    · exact .undef _
  | row k a m cap hk h =>
    simp only [SV.lend]; split
    · exact .row k a m cap hk h
    · rename_i hks
      exact roOf_ok fun c hc => ro_of hH hF (.inl rfl) (by simpa [content] using hc) (.row k a m cap hk h) (by simpa using hks) hf.alive ht
  | viewNil k hk h =>
    simp only [SV.lend]; split
    · exact .viewNil k hk h
    · rename_i hks
      exact roOf_ok fun c hc => ro_of hH hF (.inr ⟨_, _, rfl⟩) (by simpa [content] using hc) (.viewNil k hk h) (by simpa using hks) hf.alive ht
  | view k o m b q len cap q' hk h hl hc hq hq' =>
    simp only [SV.lend]; split
    · exact .view k o m b q len cap q' hk h hl hc hq hq'
    · rename_i hks
      exact roOf_ok fun c hc' => ro_of hH hF (.inr ⟨_, _, rfl⟩) (by simpa [content] using hc') (.view k o m b q len cap q' hk h hl hc hq hq') (by simpa using hks) hf.alive ht
  | cview k o m b q cap hk h hq hc =>
    simp only [SV.lend]; split
    · exact .cview k o m b q cap hk h hq hc
    · rename_i hks
      exact roOf_ok fun c hc' => ro_ofC hH hc' (.cview k o m b q cap hk h hq hc) (by simpa using hks) hf.alive ht
theorem lendL_ok (hF : FR C w) (hH : HR C ρ hp w) (hf : Fine hp ks) : ∀ {l : List SV} {vs : List Value} {t : Nat}, VRL C hp.length ρ l vs → (∀ i s, l[i]? = some s → cs[t + i]? = some s) → VRL (C.callee ρ ks w cs D) hp.length ρ (lendL hp ks t l) vs
  | _, _, t, .nil, ht => by simp only [lendL]; exact .nil
  | _, _, t, .cons s v l vs h hl, ht => by
    simp only [lendL]
    refine .cons _ _ _ _ (lend_ok hF hH hf (ht 0 s rfl) h) (lendL_ok hF hH hf hl (fun i s' hi => ?_))
    have := ht (i + 1) s' (by simpa using hi)
    rwa [show t + 1 + i = t + (i + 1) from by omega]
theorem lendArgs_ok (hF : FR C w) (hH : HR C ρ hp w) (hf : Fine hp ks) : ∀ {l : List AV} {vs : List Value} {t : Nat}, AVRL C hp.length ρ l vs → (∀ i s, (argCells l)[i]? = some s → cs[t + i]? = some s) →
    AVRL (C.callee ρ ks w cs D) ks.length (rho ρ ks) (lendArgs hp ks t l) vs
  | _, _, t, .nil, ht => by simp only [lendArgs]; exact .nil
  | _, _, t, .cons s v l vs h hl, ht => by
    simp only [lendArgs]
    refine .cons _ _ _ _ (AVR.ren (turn_pos (n := hp.length)) ?_) (lendArgs_ok hF hH hf hl (fun i s' hi => ?_))
    · have ht' : ∀ i s', s.cells[i]? = some s' → cs[t + i]? = some s' := fun i s' hi => ht i s' (by
        have := (List.getElem?_eq_some_iff.1 hi).1
        simp only [argCells]; rw [List.getElem?_append_left this]; exact hi)
      cases h with
      | one s v h => exact .one _ _ (lend_ok hF hH hf (ht' 0 s rfl) h)
      | agg l vs h => exact .agg _ _ (lendL_ok hF hH hf h ht')
      | tup l vs h => exact .one _ _ (.undef _)
    · have := ht (s.cells.length + i) s' (by simp only [argCells]; rw [List.getElem?_append_right (by omega)]; simpa using hi)
      rwa [show t + s.cells.length + i = t + (s.cells.length + i) from by omega]
theorem tagAll_get {m : Bool} : ∀ {l : List Ob} {i j : Nat} {o : Ob}, (tagAll m i l)[j]? = some o → ∃ o', l[j]? = some o' ∧ o = (o'.tag m (i + j)).strip
  | [], i, j, o, h => by simp [tagAll] at h
  | x :: l, i, 0, o, h => by simp [tagAll] at h; exact ⟨x, rfl, by simpa using h.symm⟩
  | x :: l, i, j + 1, o, h => by
    obtain ⟨o', h1, h2⟩ := tagAll_get (l := l) (i := i + 1) (j := j) (o := o) (by simpa [tagAll] using h)
    exact ⟨o', by simpa using h1, by rw [h2]; congr 2; omega⟩
theorem tagAll_length {m : Bool} : ∀ {l : List Ob} {i : Nat}, (tagAll m i l).length = l.length
  | [], i => rfl
  | x :: l, i => by simp [tagAll, tagAll_length]
theorem alive_tag {m : Bool} {l : List Ob} {i k : Nat} (h : alive (tagAll m i l) k) : alive l k := by
  obtain ⟨o, ho, hd⟩ := h
  obtain ⟨o', h1, rfl⟩ := tagAll_get ho
  exact ⟨o', h1, by rintro rfl; exact hd rfl⟩
theorem handed_ok {m : Bool} (hF : FR C w) (hH : HR C ρ hp w) (hf : Fine hp ks) : HR (C.callee ρ ks w cs D) (rho ρ ks) (tagAll m 0 (pick hp (posF ks) ks)) w := by
  have h := hH.pick hf
  refine ⟨fun k o ho => ?_, fun i j b hij hi hj hb => h.ne i j b hij (alive_tag hi) (alive_tag hj) hb⟩
  rw [tagAll_length, pick_length]
  obtain ⟨o', h1, rfl⟩ := tagAll_get ho
  have h2 := h.ob k o' h1
  obtain ⟨kk, hkk, _⟩ := pick_get h1
  have hρ : rho ρ ks k = ρ kk := by simp [rho, List.getD, hkk]
  rw [pick_length] at h2
  cases o' with
  | dead => trivial
  | cells g l =>
    obtain ⟨b, T, cur, e, hown, hh, hv, hg⟩ := h2
    refine ⟨b, T, cur, e, .inl ⟨kk, List.mem_of_getElem? hkk, by rw [← hρ, e]; rfl⟩, hh, VRL.strip hv, fun i hi => ?_⟩
    simp at hi; subst hi
    show (rvAt ρ ks[k]?).hdr = _
    rw [hkk, hρ]; rfl
  | rows g c =>
    have hg : ∀ i, (if m = true then some (0 + k) else none) = some i → (C.callee ρ ks w cs D).r0 i = rho ρ ks k := by
      intro i hi
      split at hi <;> simp at hi
      subst hi
      show rvAt ρ ks[k]? = _
      rw [hkk, hρ]; rfl
    obtain ⟨h1, h2, _, h | ⟨b, o, cap, cur, T, fr, e, hown, rest⟩⟩ := h2
    · exact ⟨h1, h2, hg, .inl h⟩
    · exact ⟨h1, h2, hg, .inr ⟨b, o, cap, cur, T, fr, e, .inl ⟨kk, List.mem_of_getElem? hkk, by rw [← hρ, e]; rfl⟩, rest⟩⟩
end
def tagged : Ob → Option Nat
  | .cells g _ => g
  | .rows g _ => g
  | _ => none
def laid (hp0 : List Ob) (ks : List Nat) (f : Nat → Option Nat) (cs : List SV) : Ob → Ob
  | .cells (some i) l => .cells (orgOf hp0[ks.getD i 0]?) (renL f (backL cs l))
  | .cells none l => .cells none (renL f (backL cs l))
  | .rows (some i) c => .rows (orgOf hp0[ks.getD i 0]?) c
  | .rows none c => .rows none c
  | .dead => .dead
def cnt : List Ob → Nat
  | [] => 0
  | .cells (some _) _ :: l => cnt l
  | .rows (some _) _ :: l => cnt l
  | _ :: l => cnt l + 1
def rhoB (ρc : Nat → RV) : List Ob → Nat → Nat → (Nat → RV) → Nat → RV
  | [], _, _, ρ => ρ
  | .cells (some _) _ :: os, j, n, ρ => rhoB ρc os (j + 1) n ρ
  | .rows (some _) _ :: os, j, n, ρ => rhoB ρc os (j + 1) n ρ
  | _ :: os, j, n, ρ => rhoB ρc os (j + 1) (n + 1) (up ρ n (ρc j))
section
variable {C C' : Cx} {ρ ρ' ρc : Nat → RV} {hp : List Ob} {w w' : World} {ks : List Nat} {cs : List SV} {D : List Deferred}
theorem rhoB_ext : ∀ (os : List Ob) (j n : Nat) (ρ : Nat → RV), Ext n ρ (rhoB ρc os j n ρ)
  | [], _, n, ρ => Ext.refl _ _
  | .cells (some _) _ :: os, j, n, ρ => rhoB_ext os (j + 1) n ρ
  | .cells none _ :: os, j, n, ρ => (up_ext ρ n (ρc j)).trans (rhoB_ext os (j + 1) (n + 1) _) (Nat.le_succ _)
  | .rows (some _) _ :: os, j, n, ρ => rhoB_ext os (j + 1) n ρ
  | .rows none _ :: os, j, n, ρ => (up_ext ρ n (ρc j)).trans (rhoB_ext os (j + 1) (n + 1) _) (Nat.le_succ _)
  | .dead :: os, j, n, ρ => (up_ext ρ n (ρc j)).trans (rhoB_ext os (j + 1) (n + 1) _) (Nat.le_succ _)
def KeyIs (ρc : Nat → RV) (ks : List Nat) (os : List Ob) (j n : Nat) (ρ : Nat → RV) (i k : Nat) : Prop :=
  ∃ o, os[i]? = some o ∧ ((∃ t, tagged o = some t ∧ k = ks.getD t 0) ∨ (tagged o = none ∧ n ≤ k ∧ k < n + cnt os ∧ rhoB ρc os j n ρ k = ρc (j + i)))
theorem keys_step {o : Ob} {os : List Ob} {j n i k : Nat} {ρ : Nat → RV} (hk : (backKeys ks n (o :: os))[i]? = some k) (ho : tagged o = none)
    (h1 : backKeys ks n (o :: os) = n :: backKeys ks (n + 1) os) (h2 : cnt (o :: os) = cnt os + 1) (h3 : rhoB ρc (o :: os) j n ρ = rhoB ρc os (j + 1) (n + 1) (up ρ n (ρc j)))
    (ih : ∀ i k, (backKeys ks (n + 1) os)[i]? = some k → KeyIs ρc ks os (j + 1) (n + 1) (up ρ n (ρc j)) i k) : KeyIs ρc ks (o :: os) j n ρ i k := by
  rw [h1] at hk
  cases i with
  | zero =>
    simp at hk; subst hk
    refine ⟨o, rfl, .inr ⟨ho, Nat.le_refl _, by omega, ?_⟩⟩
    rw [h3, rhoB_ext os (j + 1) (n + 1) _ n (Nat.lt_succ_self _), up_at]; rfl
  | succ i =>
    obtain ⟨o', h, h'⟩ := ih i k (by simpa using hk)
    refine ⟨o', by simpa using h, ?_⟩
    rcases h' with h' | ⟨e1, e2, e3, e4⟩
    · exact .inl h'
    · refine .inr ⟨e1, by omega, by omega, ?_⟩
      rw [h3, e4]; congr 1; omega
theorem keys_get : ∀ (os : List Ob) (j n : Nat) (ρ : Nat → RV) (i k : Nat), (backKeys ks n os)[i]? = some k → KeyIs ρc ks os j n ρ i k
  | [], j, n, ρ, i, k, h => by simp [backKeys] at h
  | .cells (some t) l :: os, j, n, ρ, i, k, h => by
    simp only [backKeys] at h
    cases i with
    | zero => simp at h; exact ⟨_, rfl, .inl ⟨t, rfl, by simp [h.symm]⟩⟩
    | succ i =>
      obtain ⟨o', h1, h'⟩ := keys_get os (j + 1) n ρ i k (by simpa using h)
      refine ⟨o', by simpa using h1, ?_⟩
      rcases h' with h' | ⟨e1, e2, e3, e4⟩
      · exact .inl h'
      · refine .inr ⟨e1, e2, by simpa only [cnt] using e3, ?_⟩
        simp only [rhoB]; rw [e4]; congr 1; omega
  | .cells none l :: os, j, n, ρ, i, k, h => keys_step h rfl rfl rfl rfl (fun i k h => keys_get os (j + 1) (n + 1) _ i k h)
  | .rows (some t) c :: os, j, n, ρ, i, k, h => by
    simp only [backKeys] at h
    cases i with
    | zero => simp at h; exact ⟨_, rfl, .inl ⟨t, rfl, by simp [h.symm]⟩⟩
    | succ i =>
      obtain ⟨o', h1, h'⟩ := keys_get os (j + 1) n ρ i k (by simpa using h)
      refine ⟨o', by simpa using h1, ?_⟩
      rcases h' with h' | ⟨e1, e2, e3, e4⟩
      · exact .inl h'
      · refine .inr ⟨e1, e2, by simpa only [cnt] using e3, ?_⟩
        simp only [rhoB]; rw [e4]; congr 1; omega
  | .rows none c :: os, j, n, ρ, i, k, h => keys_step h rfl rfl rfl rfl (fun i k h => keys_get os (j + 1) (n + 1) _ i k h)
  | .dead :: os, j, n, ρ, i, k, h => keys_step h rfl rfl rfl rfl (fun i k h => keys_get os (j + 1) (n + 1) _ i k h)
theorem lay_len {hp0 : List Ob} {f : Nat → Option Nat} : ∀ (os hp : List Ob), (layBack hp0 ks f cs os hp).length = hp.length + cnt os
  | [], hp => rfl
  | .cells (some t) l :: os, hp => by simp only [layBack, cnt]; rw [lay_len]; simp
  | .cells none l :: os, hp => by simp only [layBack, cnt]; rw [lay_len]; simp; omega
  | .rows (some t) c :: os, hp => by simp only [layBack, cnt]; rw [lay_len]; simp
  | .rows none c :: os, hp => by simp only [layBack, cnt]; rw [lay_len]; simp; omega
  | .dead :: os, hp => by simp only [layBack, cnt]; rw [lay_len]; simp; omega
def LaidAt (hp0 : List Ob) (ks : List Nat) (f : Nat → Option Nat) (cs : List SV) (os hp : List Ob) (k : Nat) (ob : Ob) : Prop :=
  hp[k]? = some ob ∨ ∃ (i : Nat) (o : Ob), os[i]? = some o ∧ (backKeys ks hp.length os)[i]? = some k ∧ ob = laid hp0 ks f cs o
theorem lay_step {hp0 : List Ob} {f : Nat → Option Nat} {o : Ob} {os hp : List Ob} {k : Nat} {ob : Ob} (h1 : backKeys ks hp.length (o :: os) = hp.length :: backKeys ks (hp.length + 1) os)
    (ih : LaidAt hp0 ks f cs os (hp ++ [laid hp0 ks f cs o]) k ob) : LaidAt hp0 ks f cs (o :: os) hp k ob := by
  rcases ih with h | ⟨i, o', h2, h3, h4⟩
  · by_cases hk : k < hp.length
    · rw [List.getElem?_append_left hk] at h; exact .inl h
    · have hlt := (List.getElem?_eq_some_iff.1 h).1
      simp at hlt
      obtain rfl : k = hp.length := by omega
      simp at h; subst h
      exact .inr ⟨0, o, rfl, by rw [h1]; rfl, rfl⟩
  · refine .inr ⟨i + 1, o', by simpa using h2, ?_, h4⟩
    rw [h1]; simpa using h3
theorem lay_get {hp0 : List Ob} {f : Nat → Option Nat} : ∀ (os hp : List Ob) (k : Nat) (ob : Ob), (layBack hp0 ks f cs os hp)[k]? = some ob → LaidAt hp0 ks f cs os hp k ob
  | [], hp, k, ob, h => Or.inl h
  | .cells (some t) l :: os, hp, k, ob, h => by
    simp only [layBack] at h
    rcases lay_get os _ k ob h with h | ⟨i, o', h2, h3, h4⟩
    · by_cases hk : k = ks.getD t 0
      · subst hk
        have hlt := (List.getElem?_eq_some_iff.1 h).1
        rw [List.length_set] at hlt
        rw [List.getElem?_set_self hlt] at h
        simp only [Option.some.injEq] at h; subst h
        exact .inr ⟨0, _, rfl, by simp [backKeys], rfl⟩
      · rw [List.getElem?_set_ne (Ne.symm hk)] at h; exact .inl h
    · rw [List.length_set] at h3
      exact .inr ⟨i + 1, o', by simpa using h2, by simpa [backKeys] using h3, h4⟩
  | .cells none l :: os, hp, k, ob, h => lay_step rfl (lay_get os _ k ob h)
  | .rows (some t) c :: os, hp, k, ob, h => by
    simp only [layBack] at h
    rcases lay_get os _ k ob h with h | ⟨i, o', h2, h3, h4⟩
    · by_cases hk : k = ks.getD t 0
      · subst hk
        have hlt := (List.getElem?_eq_some_iff.1 h).1
        rw [List.length_set] at hlt
        rw [List.getElem?_set_self hlt] at h
        simp only [Option.some.injEq] at h; subst h
        exact .inr ⟨0, _, rfl, by simp [backKeys], rfl⟩
      · rw [List.getElem?_set_ne (Ne.symm hk)] at h; exact .inl h
    · rw [List.length_set] at h3
      exact .inr ⟨i + 1, o', by simpa using h2, by simpa [backKeys] using h3, h4⟩
  | .rows none c :: os, hp, k, ob, h => lay_step rfl (lay_get os _ k ob h)
  | .dead :: os, hp, k, ob, h => lay_step rfl (lay_get os _ k ob h)
theorem kill_len : ∀ (ks : List Nat) (hp : List Ob), (killAll hp ks).length = hp.length
  | [], hp => rfl
  | k :: ks, hp => by simp only [killAll]; rw [kill_len]; simp
theorem kill_get : ∀ (ks : List Nat) (hp : List Ob) (k : Nat) (ob : Ob), (killAll hp ks)[k]? = some ob → ob ≠ .dead → k ∉ ks ∧ hp[k]? = some ob
  | [], hp, k, ob, h, hd => ⟨by simp, h⟩
  | j :: ks, hp, k, ob, h, hd => by
    simp only [killAll] at h
    obtain ⟨h1, h2⟩ := kill_get ks _ k ob h hd
    by_cases e : k = j
    · subst e
      have hlt := (List.getElem?_eq_some_iff.1 h2).1
      rw [List.length_set] at hlt
      rw [List.getElem?_set_self hlt] at h2
      simp at h2; exact absurd h2.symm hd
    · rw [List.getElem?_set_ne (Ne.symm e)] at h2
      exact ⟨by simp [e, h1], h2⟩
def Lent (C : Cx) (cs : List SV) : Prop := ∀ (t u : Nat) (d : RC), cs[t]? = some (SV.ro u d) → ∃ a, C.reads u d a
theorem back_ok {n : Nat} {s : SV} {v : Value} (hF : FR C w) (hl : Lent C cs) (h : VR (C.callee ρ ks w cs D) n ρc s v) : VR C n ρc (s.back cs) v := by
  cases h with
  | undef v => simp only [SV.back, SV.strip]; exact .undef v
  | int k x => simp only [SV.back, SV.strip]; exact .int k x
  | bool b => simp only [SV.back, SV.strip]; exact .bool b
  | str s => simp only [SV.back, SV.strip]; exact .str s
  | nilp => simp only [SV.back, SV.strip]; exact .nilp
  | nilf => simp only [SV.back, SV.strip]; exact .nilf
  | nils c h hw => simp only [SV.back, SV.strip]; exact .nils c h hw
  | rptr u c i o b q h hi => simp only [SV.back, SV.strip]; exact .undef _
  | fn g caps cs h => simp only [SV.back, SV.strip]; exact .fn g _ cs (VRL.strip h)
  | ptr k o b hk h => simp only [SV.back, SV.strip]; exact .ptr k o b hk h
  | eptr k i o b q m cap hk h hi => simp only [SV.back, SV.strip]; exact .eptr k i o b q m cap hk h hi
  | row k a m cap hk h => simp only [SV.back, SV.strip]; exact .row k a m cap hk h
  | viewNil k hk h => simp only [SV.back, SV.strip]; exact .viewNil k hk h
  | view k o m b q len cap q' hk h hl hc hq hq' => simp only [SV.back, SV.strip]; exact .view k o m b q len cap q' hk h hl hc hq hq'
  | cview k o m b q cap hk h hq hc => simp only [SV.back, SV.strip]; exact .cview k o m b q cap hk h hq hc
  | ro t c a cap h hc =>
    simp only [SV.back]
    unfold roArg
    split
    · rename_i u d e
      refine .ro u c a cap ⟨h.1, fun hpos => ?_⟩ hc
      obtain ⟨b, o, rfl, hown, hτ, hcell⟩ := h.2 hpos
      have hτ' : tagBlk C ρ w.heap.size cs[t]? = b := hτ
      rw [e] at hτ'
      simp only [tagBlk] at hτ'
      split at hτ'
      · rename_i hd
        obtain ⟨a', ha'⟩ := hl t u d e
        obtain ⟨b', o', _, hown', hτ2, _⟩ := ha'.2 hd
        rw [hτ2] at hτ'; subst hτ'
        refine ⟨b', o, rfl, hown', hτ2, fun j v hv => ?_⟩
        have hb : w.heap[b']? = C.w0.heap[b']? := hF.block b' (by
          rcases Nat.lt_or_ge b' C.w0.heap.size with h | h
          · exact h
          · exact absurd (.inr h) hown') (fun h => hown' (.inl h))
        rw [← World.cell?_of_block (a := ⟨b', o + j, none⟩) hb]
        exact hcell j v hv
      · exact absurd (.inr (Nat.le_of_eq hτ')) hown
    · exact .undef _
theorem backL_ok {n : Nat} (hF : FR C w) (hl : Lent C cs) : ∀ {l : List SV} {vs : List Value}, VRL (C.callee ρ ks w cs D) n ρc l vs → VRL C n ρc (backL cs l) vs
  | _, _, .nil => .nil
  | _, _, .cons s v l vs h h' => .cons _ _ _ _ (back_ok hF hl h) (backL_ok hF hl h')
mutual
theorem backA_ok {n : Nat} (hF : FR C w) (hl : Lent C cs) : ∀ {s : AV} {v : Value}, AVR (C.callee ρ ks w cs D) n ρc s v → AVR C n ρc (s.back cs) v
  | _, _, .one s v h => .one _ _ (back_ok hF hl h)
  | _, _, .agg l vs h => .agg _ _ (backL_ok hF hl h)
  | _, _, .tup l vs h => .tup _ _ (backT_ok hF hl h)
theorem backT_ok {n : Nat} (hF : FR C w) (hl : Lent C cs) : ∀ {l : List AV} {vs : List Value}, AVRL (C.callee ρ ks w cs D) n ρc l vs → AVRL C n ρc (backT cs l) vs
  | _, _, .nil => .nil
  | _, _, .cons s v l vs h h' => .cons _ _ _ _ (backA_ok hF hl h) (backT_ok hF hl h')
end
theorem lent_of {n : Nat} : ∀ {l : List AV} {vs : List Value}, AVRL C n ρ l vs → Lent C (argCells l)
  | _, _, .nil => fun t u d h => by simp [argCells] at h
  | _, _, .cons s v l vs h hl => fun t u d e => by
    simp only [argCells] at e
    by_cases ht : t < s.cells.length
    · rw [List.getElem?_append_left ht] at e
      cases h with
      | one s v h =>
        simp only [AV.cells] at e ht
        simp at ht; subst ht; simp at e; subst e
        cases h with | ro _ _ a cap h hc => exact ⟨a, h⟩
      | agg l vs h =>
        obtain ⟨v, _, h⟩ := h.get e
        cases h with | ro _ _ a cap h hc => exact ⟨a, h⟩
      | tup l vs h => simp only [AV.cells] at e ht; simp at ht; subst ht; simp at e
    · rw [List.getElem?_append_right (by omega)] at e
      exact lent_of hl _ u d e
theorem callee_own (hF : FR C w) (hH : HR C ρ hp w) (hf : Fine hp ks) {b : Nat} (h : (C.callee ρ ks w cs D).own b) : C.own b := by
  rcases h with ⟨k, hk, e⟩ | h
  · exact (hH.lt (hf.alive k hk) e).1
  · exact .inr (Nat.le_trans hF.size h)
theorem tagged_at {os : List Ob} {k t : Nat} {o : Ob} (hf : Fine hp ks) (hc : HR (C.callee ρ ks w cs D) ρc os w') (ho : os[k]? = some o) (ht : tagged o = some t) :
    ∃ kk, ks[t]? = some kk ∧ ks.getD t 0 = kk ∧ kk ∈ ks ∧ (ρc k).hdr = (ρ kk).hdr ∧ ((∃ a m c, (ρc k).hdr = .slice a m c) → ρc k = ρ kk) := by
  cases o with
  | dead => simp [tagged] at ht
  | rows g c =>
    simp [tagged] at ht; subst ht
    obtain ⟨_, _, hg, h2⟩ := hc.ob k _ ho
    have h1 : rvAt ρ ks[t]? = ρc k := hg t rfl
    have h3 : ∃ a m c, (ρc k).hdr = .slice a m c := by
      rcases h2 with ⟨e, _⟩ | ⟨b, o, cap, cur, T, fr, e, _⟩
      · exact ⟨_, _, _, e⟩
      · exact ⟨_, _, _, e⟩
    cases hk : ks[t]? with
    | none => obtain ⟨a, m, c', e⟩ := h3; rw [hk] at h1; rw [← h1] at e; simp [rvAt] at e
    | some kk =>
      rw [hk] at h1
      have h1 : ρ kk = ρc k := h1
      exact ⟨kk, rfl, by simp [List.getD, hk], List.mem_of_getElem? hk, by rw [h1], fun _ => h1.symm⟩
  | cells g l =>
    simp [tagged] at ht; subst ht
    obtain ⟨b, T, cur, e, _, _, _, hg⟩ := hc.ob k _ ho
    have h1 : (rvAt ρ ks[t]?).hdr = (ρc k).hdr := hg t rfl
    cases hk : ks[t]? with
    | none => rw [hk, e] at h1; simp [rvAt] at h1
    | some kk =>
      rw [hk] at h1
      exact ⟨kk, rfl, by simp [List.getD, hk], List.mem_of_getElem? hk, h1.symm, fun ⟨a, m, c, e'⟩ => by rw [e] at e'; simp at e'⟩
theorem callee_fr (hF : FR C w) (hH : HR C ρ hp w) (hf : Fine hp ks) (hF' : FR (C.callee ρ ks w cs D) w') : FR C w' :=
  hF.of_block hF'.size (fun b hb hown => hF'.block b hb (fun h => hown (callee_own (cs := cs) hF hH hf (.inl h)))) hF'.os hF'.tape hF'.output
theorem call_back {os : List Ob} {r : AV} {rv : Value} (hF : FR C w) (hH : HR C ρ hp w) (hf : Fine hp ks) (hl : Lent C cs) (hc : HR (C.callee ρ ks w cs D) ρc os w') (hF' : FR (C.callee ρ ks w cs D) w')
    (hr : AVR (C.callee ρ ks w cs D) os.length ρc r rv) :
    ∃ ρ1, Ext hp.length ρ ρ1 ∧ hp.length ≤ (layBack hp ks (backF ks hp.length os) cs os (killAll hp ks)).length ∧
      AVR C (layBack hp ks (backF ks hp.length os) cs os (killAll hp ks)).length ρ1 ((r.back cs).ren (backF ks hp.length os)) rv ∧ HR C ρ1 (layBack hp ks (backF ks hp.length os) cs os (killAll hp ks)) w' ∧ FR C w' := by
  have hlen : (layBack hp ks (backF ks hp.length os) cs os (killAll hp ks)).length = hp.length + cnt os := by rw [lay_len, kill_len]
  have E : Ext hp.length ρ (rhoB ρc os 0 hp.length ρ) := rhoB_ext os 0 hp.length ρ
  have K := fun i k h => keys_get (ρc := ρc) (ks := ks) os 0 hp.length ρ i k h
  -- the table behind a key that came back
  have key : ∀ i k o, os[i]? = some o → backF ks hp.length os i = some k → k < hp.length + cnt os ∧ ((rhoB ρc os 0 hp.length ρ) k).hdr = (ρc i).hdr ∧ ((∃ a m c, (ρc i).hdr = .slice a m c) → ((rhoB ρc os 0 hp.length ρ) k).size = (ρc i).size) := by
    intro i k o ho hk
    obtain ⟨o', ho', h⟩ := K i k hk
    rw [ho] at ho'; simp at ho'; subst ho'
    rcases h with ⟨t, ht, rfl⟩ | ⟨ht, h1, h2, h3⟩
    · obtain ⟨kk, h1, h2, h3, h4, h5⟩ := tagged_at hf hc ho ht
      have hlt := (hf.alive kk h3).lt
      rw [h2]
      refine ⟨by omega, by rw [E kk hlt, h4], fun e => by rw [E kk hlt, h5 e]⟩
    · simp only [Nat.zero_add] at h3
      exact ⟨h2, by rw [h3], fun _ => by rw [h3]⟩
  have T : Turn os.length (hp.length + cnt os) ρc (rhoB ρc os 0 hp.length ρ) (backF ks hp.length os) := by
    refine ⟨fun k j hk h => ?_⟩
    exact key k j os[k] (by simp [hk]) h
  -- an object that is there then
  have ob : ∀ k ob, (layBack hp ks (backF ks hp.length os) cs os (killAll hp ks))[k]? = some ob → ob ≠ .dead → (k ∉ ks ∧ hp[k]? = some ob) ∨ ∃ i o, os[i]? = some o ∧ backF ks hp.length os i = some k ∧ ob = laid hp ks (backF ks hp.length os) cs o ∧ o ≠ .dead := by
    intro k ob h hd
    rcases lay_get os _ k ob h with h | ⟨i, o, h1, h2, h3⟩
    · exact .inl (kill_get ks hp k ob h hd)
    · rw [kill_len] at h2
      exact .inr ⟨i, o, h1, h2, h3, by rintro rfl; exact hd h3⟩
  -- an elder block stays
  have old : ∀ k b, k ∉ ks → alive hp k → blkOf (ρ k).hdr = some b → w'.heap[b]? = w.heap[b]? := by
    intro k b hk hal hb
    refine hF'.block b (hH.lt hal hb).2 ?_
    rintro ⟨j, hj, e⟩
    exact hH.ne k j b (fun e => hk (e ▸ hj)) hal (hf.alive j hj) hb e
  have oldne : ∀ k b i o, k ∉ ks → alive hp k → blkOf (ρ k).hdr = some b → os[i]? = some o → o ≠ .dead → blkOf (ρc i).hdr ≠ some b := by
    intro k b i o hk hal hb ho hd e
    rcases ((hc.ob i o ho).lt hd e).1 with ⟨j, hj, e'⟩ | h
    · exact hH.ne k j b (fun e => hk (e ▸ hj)) hal (hf.alive j hj) hb e'
    · exact absurd (hH.lt hal hb).2 (Nat.not_lt.2 h)
  refine ⟨rhoB ρc os 0 hp.length ρ, E, by omega, ?_, ⟨fun k ob' h => ?_, fun j k b hjk hj hk hb => ?_⟩, callee_fr hF hH hf hF'⟩
  · rw [hlen]; exact AVR.ren T (backA_ok hF hl hr)
  · by_cases hd : ob' = .dead
    · subst hd; trivial
    rw [hlen]
    rcases ob k ob' h hd with ⟨h1, h2⟩ | ⟨i, o, h1, h2, rfl, h4⟩
    · have hal : alive hp k := ⟨_, h2, hd⟩
      exact ((hH.ob k ob' h2).world fun b hb => old k b h1 hal hb).ext (by omega) E hal.lt
    · obtain ⟨k1, k2, k3⟩ := key i k o h1 h2
      have hO := hc.ob i o h1
      cases o with
      | dead => exact absurd rfl h4
      | rows g c =>
        obtain ⟨e1, e2, e0, e3⟩ := hO
        have hsl : ∃ a m c, (ρc i).hdr = .slice a m c := by
          rcases e3 with ⟨e, _⟩ | ⟨b, o, cap, cur, T, fr, e, _⟩
          · exact ⟨_, _, _, e⟩
          · exact ⟨_, _, _, e⟩
        have main : ∀ g', (∀ i, g' = some i → C.r0 i = rhoB ρc os 0 hp.length ρ k) → ObR C (hp.length + cnt os) (rhoB ρc os 0 hp.length ρ) w' k (.rows g' c) := by
          intro g' hg'
          refine ⟨e1, by rw [← e2]; exact k3 hsl, hg', ?_⟩
          rw [k2]
          rcases e3 with e3 | ⟨b, o, cap, cur, T, fr, e, hown, rest⟩
          · exact .inl e3
          · exact .inr ⟨b, o, cap, cur, T, fr, e, callee_own hF hH hf hown, rest⟩
        cases g with
        | none => exact main none (by simp)
        | some t =>
          obtain ⟨kk, q1, q2, q3, q4, q5⟩ := tagged_at hf hc h1 rfl
          refine main _ fun i' hi' => ?_
          rw [q2] at hi'
          obtain ⟨ob2, ho2, hd2⟩ := hf.alive kk q3
          rw [ho2] at hi'
          have hk' : rhoB ρc os 0 hp.length ρ k = ρ kk := by
            obtain ⟨o', ho', hh⟩ := K i k h2
            rw [h1] at ho'; simp at ho'; subst ho'
            rcases hh with ⟨t', ht', rfl⟩ | ⟨ht', _⟩
            · simp [tagged] at ht'; subst ht'
              rw [q2]; exact E kk (hf.alive kk q3).lt
            · simp [tagged] at ht'
          rw [hk']
          cases ob2 with
          | dead => exact absurd rfl hd2
          | rows g2 c2 =>
            simp only [orgOf] at hi'
            exact (hH.ob kk _ ho2).2.2.1 i' hi'
          | cells g2 l2 =>
            obtain ⟨b2, _, _, e', _⟩ := hH.ob kk _ ho2
            obtain ⟨a, m, c', e''⟩ := hsl
            rw [q4, e'] at e''; simp at e''
      | cells g l =>
        obtain ⟨b, T', cur, e, hown, hh, hv, hg⟩ := hO
        have hv' := VRL.ren T (backL_ok hF hl hv)
        cases g with
        | none => exact ⟨b, T', cur, by rw [k2]; exact e, callee_own hF hH hf hown, hh, hv', by simp⟩
        | some t =>
          obtain ⟨kk, q1, q2, q3, q4, q5⟩ := tagged_at hf hc h1 rfl
          refine ⟨b, T', cur, by rw [k2]; exact e, callee_own hF hH hf hown, hh, hv', fun i' hi' => ?_⟩
          rw [q2] at hi'
          obtain ⟨ob2, ho2, hd2⟩ := hf.alive kk q3
          rw [ho2] at hi'
          cases ob2 with
          | dead => exact absurd rfl hd2
          | rows g2 c2 =>
            obtain ⟨_, _, _, e'⟩ := hH.ob kk _ ho2
            rw [← q4, e] at e'
            rcases e' with ⟨e', _⟩ | ⟨_, _, _, _, _, _, e', _⟩ <;> simp at e'
          | cells g2 l2 =>
            simp only [orgOf] at hi'
            obtain ⟨_, _, _, _, _, _, _, hg2⟩ := hH.ob kk _ ho2
            rw [hg2 i' hi', k2, q4]
  · obtain ⟨o1, ho1, hd1⟩ := hj
    obtain ⟨o2, ho2, hd2⟩ := hk
    rcases ob j o1 ho1 hd1 with ⟨h1, h2⟩ | ⟨i1, p1, h1, h2, _, h4⟩
    · have al1 : alive hp j := ⟨_, h2, hd1⟩
      rw [E j al1.lt] at hb
      rcases ob k o2 ho2 hd2 with ⟨g1, g2⟩ | ⟨i2, p2, g1, g2, _, g4⟩
      · have al2 : alive hp k := ⟨_, g2, hd2⟩
        rw [E k al2.lt]
        exact hH.ne j k b hjk al1 al2 hb
      · rw [(key i2 k p2 g1 g2).2.1]
        exact oldne j b i2 p2 h1 al1 hb g1 g4
    · rw [(key i1 j p1 h1 h2).2.1] at hb
      rcases ob k o2 ho2 hd2 with ⟨g1, g2⟩ | ⟨i2, p2, g1, g2, _, g4⟩
      · have al2 : alive hp k := ⟨_, g2, hd2⟩
        rw [E k al2.lt]
        intro e
        exact oldne k b i1 p1 g1 al2 e h1 h4 hb
      · rw [(key i2 k p2 g1 g2).2.1]
        refine hc.ne i1 i2 b ?_ ⟨_, h1, h4⟩ ⟨_, g1, g4⟩ hb
        rintro rfl
        rw [h2] at g2; simp at g2; exact hjk g2
end
def Sound (P : Program) (f : Nat) (F : Callee) : Prop :=
  ∀ (args : List AV) (hp : List Ob) (r : AV) (hp' : List Ob), F args hp = some (r, hp') → hasBody P f = true ∧ ∀ (C : Cx) (ρ : Nat → RV) (w : World) (rargs : List Value), C.P = P → C.w0 = w → C.df = [] → AVRL C hp.length ρ args rargs → HR C ρ hp w →
    Calls P f rargs.toArray w (fun e w' => ∃ ρ' rv, e = .returned rv ∧ AVR C hp'.length ρ' r rv ∧ HR C ρ' hp' w' ∧ FR C w')
theorem run_enter {P : Program} {f : Nat} (h : hasBody P f = true) (args : Array Value) (w : World) : (callFunc f args).run P w = .ok (.enter f args) w := by
  unfold hasBody at h
  split at h
  · rename_i fn hf
    simp only [Bool.and_eq_true, Bool.not_eq_true'] at h
    obtain ⟨h1, h2⟩ := h
    have h1' : ¬ fn.name = "runtime.NumGoroutine" := by simpa using h1
    have h3 : ¬ fn.body = none := by rintro e; simp [e] at h2
    simp [callFunc, hf, h1', h3]
  · simp at h
section
variable {C : Cx} {ρ : Nat → RV} {hp : List Ob} {w : World} {o : Oper} {a : Act} {env : Env}
theorem FR.start {C : Cx} {w : World} (h : C.w0 = w) : FR C w := by
  subst h; exact ⟨Nat.le_refl _, fun _ _ _ => rfl, rfl, rfl, rfl⟩
theorem g_enterK {f : Nat} {args : List AV} {vs : List Value} {Γ : Nat → Callee} {res : AV × List Ob} (hΓ : ∀ f, Sound C.P f (Γ f)) (hr : hasBody C.P f = true → (execOp a.eval o).run C.P w = .ok (.enter f vs.toArray) w)
    (hv : AVRL C hp.length ρ args vs) (hH : HR C ρ hp w) (hF : FR C w) {ks : List Nat} {m : Bool} (hf : Fine hp ks) (h : callKs m Γ hp f args ks = some res) : Good C ρ hp o a w res := by
  unfold callKs at h
  unfold comeBack at h
  split at h
  · simp at h
  · rename_i r os hc
    simp only [Option.some.injEq] at h; subst h
    obtain ⟨hb, hs⟩ := hΓ f _ _ _ _ hc
    intro K Q k
    show o.upon C.P a K Q _
    rw [hr hb, Oper.upon_enter]
    have hl : (tagAll m 0 (pick hp (posF ks) ks)).length = ks.length := by rw [tagAll_length, pick_length]
    refine Calls.mono (hs (C.callee ρ ks w (argCells args) []) (rho ρ ks) w vs rfl rfl rfl ?_ (handed_ok hF hH hf)) ?_
    · rw [hl]; exact lendArgs_ok hF hH hf hv (fun i s h => by simpa using h)
    · rintro e w' ⟨ρc, rv, rfl, h1, h2, h3⟩
      obtain ⟨ρ1, e1, e2, e3, e4, e5⟩ := call_back hF hH hf (lent_of hv) h2 h3 h1
      exact k ρ1 rv w' e2 e1 e3 e4 e5
theorem g_enter {f : Nat} {args : List AV} {vs : List Value} {Γ : Nat → Callee} {res : AV × List Ob} (hΓ : ∀ f, Sound C.P f (Γ f)) (hr : hasBody C.P f = true → (execOp a.eval o).run C.P w = .ok (.enter f vs.toArray) w)
    (hv : AVRL C hp.length ρ args vs) (hH : HR C ρ hp w) (hF : FR C w) (h : callee Γ hp f args = some res) : Good C ρ hp o a w res :=
  g_enterK hΓ hr hv hH hF (reachL_fine hp 64 _ [] (Fine.nil hp)) h
theorem callops_inv {P : Program} {o : Oper} {op : AOp} (h : cOper P o = some op) :
    (∀ f l, op = .call f l → ∃ c, o.op = .call c ∧ c.callee = .value (.func f) ∧ cOps P c.argTypes.toList c.args.toList = some l) ∧
    (∀ x l, op = .callv x l → ∃ c t, o.op = .call c ∧ c.callee = .value (.tmp t) ∧ x = .tmp t ∧ cOps P c.argTypes.toList c.args.toList = some l) ∧
    (∀ f l, op = .callo f l → ∃ c, o.op = .call c ∧ c.callee = .value (.func f) ∧ cOps P c.argTypes.toList c.args.toList = some l) ∧
    (∀ f l, op = .calli f l → ∃ c, o.op = .call c ∧ c.callee = .value (.func f) ∧ cOps P c.argTypes.toList c.args.toList = some l) := by
  unfold cOper at h
  split at h
  case h_20 c e =>
    split at h
    · rename_i b hb
      unfold cBuiltin at h
      refine ⟨?_, ?_, ?_, ?_⟩ <;> rintro _ _ rfl <;> (repeat' split at h) <;> simp [Option.map_eq_some_iff, Option.bind_eq_some_iff] at h
    · rename_i f hb
      split at h
      · obtain ⟨l', hl, e1⟩ := map_some h
        unfold callOf at e1
        split at e1
        · subst e1
          refine ⟨?_, ?_, ?_, ?_⟩
          · rintro _ _ e'; simp at e'
          · rintro _ _ e'; simp at e'
          · rintro _ _ e'; simp at e'; obtain ⟨rfl, rfl⟩ := e'; exact ⟨c, e, hb, hl⟩
          · rintro _ _ e'; simp at e'
        · split at e1
          · subst e1
            refine ⟨?_, ?_, ?_, ?_⟩
            · rintro _ _ e'; simp at e'
            · rintro _ _ e'; simp at e'
            · rintro _ _ e'; simp at e'
            · rintro _ _ e'; simp at e'; obtain ⟨rfl, rfl⟩ := e'; exact ⟨c, e, hb, hl⟩
          · subst e1
            refine ⟨?_, ?_, ?_, ?_⟩
            · rintro _ _ e'; simp at e'; obtain ⟨rfl, rfl⟩ := e'; exact ⟨c, e, hb, hl⟩
            · rintro _ _ e'; simp at e'
            · rintro _ _ e'; simp at e'
            · rintro _ _ e'; simp at e'
      · simp at h
    · rename_i t hb
      obtain ⟨l', hl, rfl⟩ := map_some h
      refine ⟨?_, ?_, ?_, ?_⟩
      · rintro _ _ e'; simp at e'
      · rintro _ _ e'; simp at e'; obtain ⟨rfl, rfl⟩ := e'; exact ⟨c, t, e, hb, rfl, hl⟩
      · rintro _ _ e'; simp at e'
      · rintro _ _ e'; simp at e'
    · simp at h
  all_goals
    (try unfold cBin at h)
    (try unfold cConv at h)
    (refine ⟨?_, ?_, ?_, ?_⟩ <;> rintro _ _ rfl <;> (repeat' split at h) <;> simp [Option.map_eq_some_iff, Option.bind_eq_some_iff] at h)
theorem AVRL.append {n : Nat} {l m : List AV} {vs us : List Value} (h : AVRL C n ρ l vs) (h' : AVRL C n ρ m us) : AVRL C n ρ (l ++ m) (vs ++ us) := by
  induction l generalizing vs with
  | nil => cases h; exact h'
  | cons s' l ih => cases h with | cons _ v' _ vs h hl => exact .cons _ _ _ _ h (ih hl)
theorem ones {n : Nat} : ∀ {l : List SV} {vs : List Value}, VRL C n ρ l vs → AVRL C n ρ (l.map AV.one) vs
  | _, _, .nil => .nil
  | _, _, .cons s v l vs h hl => .cons _ _ _ _ (.one _ _ h) (ones hl)
theorem g_call {f : Nat} {l : List AO} {Γ : Nat → Callee} {res : AV × List Ob} (hΓ : ∀ f, Sound C.P f (Γ f)) (hc : cOper C.P o = some (.call f l)) (he : EnvR C hp.length ρ env a) (hH : HR C ρ hp w) (hF : FR C w)
    (h : evOp Γ env hp (.call f l) = some res) : Good C ρ hp o a w res := by
  obtain ⟨c, ho, hcal, hl⟩ := (callops_inv hc).1 f l rfl
  refine g_enter hΓ (fun hb => ?_) (cOps_ok he hl) hH hF h
  obtain ⟨dst, op', type, pos, after, guard⟩ := o
  dsimp only at ho; subst ho
  have e : (c.args.toList.map a.eval).toArray = c.args.map a.eval := by
    apply Array.ext'; simp
  rw [e]
  have := run_enter hb (c.args.map a.eval) w
  simp [execOp, resolve, hcal, Deferred.ofValue, invoke, Act.eval, this]
theorem g_callo {f : Nat} {l : List AO} {Γ : Nat → Callee} {res : AV × List Ob} (hΓ : ∀ f, Sound C.P f (Γ f)) (hc : cOper C.P o = some (.callo f l)) (he : EnvR C hp.length ρ env a) (hH : HR C ρ hp w) (hF : FR C w)
    (h : evOp Γ env hp (.callo f l) = some res) : Good C ρ hp o a w res := by
  obtain ⟨c, ho, hcal, hl⟩ := (callops_inv hc).2.2.1 f l rfl
  refine g_enterK hΓ (fun hb => ?_) (cOps_ok he hl) hH hF (reachL_fine hp 64 _ [] (Fine.nil hp)) h
  obtain ⟨dst, op', type, pos, after, guard⟩ := o
  dsimp only at ho; subst ho
  have e : (c.args.toList.map a.eval).toArray = c.args.map a.eval := by
    apply Array.ext'; simp
  rw [e]
  have := run_enter hb (c.args.map a.eval) w
  simp [execOp, resolve, hcal, Deferred.ofValue, invoke, Act.eval, this]
theorem g_calli {f : Nat} {l : List AO} {Γ : Nat → Callee} {res : AV × List Ob} (hΓ : ∀ f, Sound C.P f (Γ f)) (hc : cOper C.P o = some (.calli f l)) (he : EnvR C hp.length ρ env a) (hH : HR C ρ hp w) (hF : FR C w)
    (h : evOp Γ env hp (.calli f l) = some res) : Good C ρ hp o a w res := by
  obtain ⟨c, ho, hcal, hl⟩ := (callops_inv hc).2.2.2 f l rfl
  refine g_enterK hΓ (fun hb => ?_) (cOps_ok he hl) hH hF (reachL_fine hp 64 _ [] (Fine.nil hp)) h
  obtain ⟨dst, op', type, pos, after, guard⟩ := o
  dsimp only at ho; subst ho
  have e : (c.args.toList.map a.eval).toArray = c.args.map a.eval := by
    apply Array.ext'; simp
  rw [e]
  have := run_enter hb (c.args.map a.eval) w
  simp [execOp, resolve, hcal, Deferred.ofValue, invoke, Act.eval, this]
theorem g_callv {x : AO} {l : List AO} {Γ : Nat → Callee} {res : AV × List Ob} (hΓ : ∀ f, Sound C.P f (Γ f)) (hc : cOper C.P o = some (.callv x l)) (he : EnvR C hp.length ρ env a) (hH : HR C ρ hp w) (hF : FR C w)
    (h : evOp Γ env hp (.callv x l) = some res) : Good C ρ hp o a w res := by
  obtain ⟨c, t, ho, hcal, rfl, hl⟩ := (callops_inv hc).2.1 x l rfl
  have h1 := he t
  simp only [evOp, oCallv, getO] at h
  generalize getT t env = s at h h1
  split at h
  · rename_i f caps
    generalize hv : a.tmps.getD t undef = v at h1
    cases h1 with
    | one _ _ h1 =>
      cases h1 with
      | fn _ _ cs hcs =>
        refine g_enterK hΓ (fun hb => ?_) ((cOps_ok he hl).append (ones hcs)) hH hF (reachL_fine hp 64 _ [] (Fine.nil hp)) h
        obtain ⟨dst, op', type, pos, after, guard⟩ := o
        dsimp only at ho; subst ho
        have e : (c.args.toList.map a.eval ++ cs).toArray = c.args.map a.eval ++ cs.toArray := by
          apply Array.ext'; simp
        rw [e]
        have := run_enter hb (c.args.map a.eval ++ cs.toArray) w
        have hv' : a.eval (.tmp t) = .func (.func f) #[] cs.toArray := hv
        simp [execOp, resolve, hcal, Deferred.ofValue, invoke, hv', this]
  · simp at h
end
section
variable {C : Cx} {ρ ρ' : Nat → RV} {hp hp1 : List Ob} {w w' : World} {o : Oper} {a : Act} {env : Env} {Γ : Nat → Callee} {n : Nat}
def Rep (C : Cx) (n : Nat) (ρ : Nat → RV) (t : TypeId) (l : List SV) (v : Value) : Prop :=
  match isAggT C.P t with
  | some true => ∃ xs : List Value, v = .agg xs.toArray ∧ VRL C n ρ l xs
  | _ => ∃ s, l = [s] ∧ VR C n ρ s v
theorem eqScs_nil {l m : List SV} {r : Bool} (h : eqScs [] l m = some r) : r = true := by
  cases l <;> cases m <;> simp [eqScs] at h
  exact h
theorem eqScs_append : ∀ {z1 z2 : List Sc} {l m : List SV} {r : Bool}, eqScs (z1 ++ z2) l m = some r → z1.length ≤ l.length ∧ z1.length ≤ m.length ∧
    ∃ r1 r2, eqScs z1 (l.take z1.length) (m.take z1.length) = some r1 ∧ eqScs z2 (l.drop z1.length) (m.drop z1.length) = some r2 ∧ r = (r1 && r2)
  | [], z2, l, m, r, h => ⟨by simp, by simp, true, r, by simp [eqScs], by simpa using h, by simp⟩
  | z :: z1, z2, [], m, r, h => by simp [eqScs] at h
  | z :: z1, z2, x :: l, [], r, h => by simp [eqScs] at h
  | z :: z1, z2, x :: l, y :: m, r, h => by
    simp only [List.cons_append, eqScs, Option.bind_eq_some_iff, Option.map_eq_some_iff] at h
    obtain ⟨a, ha, b, hb, rfl⟩ := h
    obtain ⟨h1, h2, r1, r2, h3, h4, rfl⟩ := eqScs_append hb
    refine ⟨by simpa using h1, by simpa using h2, a && r1, r2, ?_, by simpa using h4, by rw [Bool.and_assoc]⟩
    simp [eqScs, ha, h3]
theorem part_okE {t : TypeId} {k off m : Nat} {l : List SV} {xs : List Value} {b : Bool} (ht : isAggT C.P t = some b) (hk : sizeT C.P t = some k) (h1 : b = false → k = 1) (hl : VRL C m ρ l xs) (hle : off + k ≤ l.length) (w : World) :
    ∃ v, (part t xs.toArray off).run C.P w = .ok v w ∧ Rep C m ρ t ((l.drop off).take k) v := by
  cases b with
  | true =>
    refine ⟨.agg (xs.toArray.extract off (off + k)), ?_, ?_⟩
    · simp [part, run_isAgg w ht, run_sizeT w hk]
    · unfold Rep
      rw [ht]
      refine ⟨(xs.drop off).take k, ?_, (hl.drop off).take k⟩
      congr 1
      apply Array.ext'
      simp [List.extract]
  | false =>
    have := h1 rfl; subst this
    have hs : l[off]? = some l[off] := List.getElem?_eq_getElem (by omega)
    obtain ⟨v, hv, hvr⟩ := hl.get hs
    refine ⟨v, ?_, ?_⟩
    · simp [part, run_isAgg w ht, hv]
    · unfold Rep
      rw [ht]
      refine ⟨l[off], ?_, hvr⟩
      rw [List.drop_eq_getElem_cons (by omega)]
      rfl
def EqAt' (C : Cx) (m : Nat) (ρ : Nat → RV) (D : Nat) (t : TypeId) (z : List Sc) : Prop :=
  ∀ (w : World) (l l' : List SV) (a b : Value) (r : Bool), Rep C m ρ t l a → Rep C m ρ t l' b → eqScs z l l' = some r → (Op.equalIn D t a b).run C.P w = .ok r w
theorem eqFields_ok {m D : Nat} {go : TypeId → Option (List Sc)} (hgo : ∀ t z, go t = some z → EqAt' C m ρ D t z ∧ ∃ b, isAggT C.P t = some b ∧ (b = false → z.length = 1)) {l l' : List SV} {xs ys : List Value} (hl : VRL C m ρ l xs) (hl' : VRL C m ρ l' ys) (w : World) :
    ∀ (fs : List Field) (off : Nat) (z : List Sc) (r : Bool), eqZs C.P go fs off = some z → off ≤ l.length → off ≤ l'.length → eqScs z (l.drop off) (l'.drop off) = some r → (Op.eqFields D xs.toArray ys.toArray fs).run C.P w = .ok r w
  | [], off, z, r, hz, _, _, h => by
    simp [eqZs] at hz; subst hz
    rw [eqScs_nil h]; simp [Op.eqFields]
  | f :: fs, off, z, r, hz, ho, ho', h => by
    simp only [eqZs] at hz
    split at hz
    · rename_i hn
      obtain ⟨z1, hz1, hz⟩ := bind_some hz
      split at hz
      · rename_i hsz
        obtain ⟨z2, hz2, rfl⟩ := map_some hz
        obtain ⟨h1, h2, r1, r2, h3, h4, rfl⟩ := eqScs_append h
        obtain ⟨heq, b, hb, hb1⟩ := hgo _ _ hz1
        simp only [List.length_drop] at h1 h2
        obtain ⟨va, pa, ra⟩ := part_okE (off := off) (t := f.type) hb hsz hb1 hl (by omega) w
        obtain ⟨vb, pb, rb⟩ := part_okE (off := off) (t := f.type) hb hsz hb1 hl' (by omega) w
        have he := heq w _ _ va vb r1 ra rb h3
        simp only [Op.eqFields, if_pos hn.1, Sem.run_bind, hn.2, pa, pb, he, Result.andThen_ok]
        cases r1
        · simp
        · simp only [Bool.not_true, Bool.false_eq_true, if_false, Bool.true_and]
          exact eqFields_ok hgo hl hl' w fs (off + z1.length) z2 r2 hz2 (by omega) (by omega) (by rw [List.drop_drop, List.drop_drop] at h4; exact h4)
      · simp at hz
    · simp at hz
theorem eqItems_ok {m D c : Nat} {e : TypeId} {z : List Sc} (heq : EqAt' C m ρ D e z) {b : Bool} (hb : isAggT C.P e = some b) (hb1 : b = false → z.length = 1) (hsz : sizeT C.P e = some z.length) (hc : c = z.length) {l l' : List SV} {xs ys : List Value} (hl : VRL C m ρ l xs) (hl' : VRL C m ρ l' ys) (w : World) :
    ∀ (k j : Nat) (r : Bool), j * c ≤ l.length → j * c ≤ l'.length → eqScs (repeatZ z k) (l.drop (j * c)) (l'.drop (j * c)) = some r → (Op.eqItems D e c xs.toArray ys.toArray (List.range' j k)).run C.P w = .ok r w
  | 0, j, r, _, _, h => by
    simp only [repeatZ] at h
    rw [eqScs_nil h]; simp [Op.eqItems]
  | k + 1, j, r, ho, ho', h => by
    simp only [repeatZ] at h
    obtain ⟨h1, h2, r1, r2, h3, h4, rfl⟩ := eqScs_append h
    simp only [List.length_drop] at h1 h2
    obtain ⟨va, pa, ra⟩ := part_okE (off := j * c) hb hsz hb1 hl (by omega) w
    obtain ⟨vb, pb, rb⟩ := part_okE (off := j * c) hb hsz hb1 hl' (by omega) w
    have he := heq w _ _ va vb r1 ra rb h3
    simp only [List.range'_succ, Op.eqItems, Sem.run_bind, pa, pb, he, Result.andThen_ok]
    have hj : (j + 1) * c = j * c + z.length := by rw [Nat.succ_mul, hc]
    cases r1
    · simp
    · simp only [Bool.not_true, Bool.false_eq_true, if_false, Bool.true_and]
      exact eqItems_ok heq hb hb1 hsz hc hl hl' w k (j + 1) r2 (by omega) (by omega) (by rw [List.drop_drop, List.drop_drop] at h4; rw [hj]; exact h4)
theorem eqZ_ok {m : Nat} (D : Nat) : ∀ (d : Nat) (t : TypeId) (z : List Sc), eqZ C.P d t = some z → EqAt' C m ρ (D + d) t z ∧ ∃ b, isAggT C.P t = some b ∧ (b = false → z.length = 1)
  | 0, t, z, h => by simp [eqZ] at h
  | d + 1, t, z, h => by
    simp only [eqZ] at h
    split at h
    · rename_i fs hu
      split at h
      · rename_i hs
        refine ⟨fun w l l' a b r ha hb hr => ?_, true, by simp [isAggT, hu], by simp⟩
        have hag : isAggT C.P t = some true := by simp [isAggT, hu]
        unfold Rep at ha hb
        rw [hag] at ha hb
        obtain ⟨xs, rfl, hx⟩ := ha
        obtain ⟨ys, rfl, hy⟩ := hb
        have hfs : C.P.fieldsOf t = fs := by simp [Program.fieldsOf, hu]
        rw [show D + (d + 1) = (D + d) + 1 from rfl, run_equalIn_struct w (D + d) t _ _ (by rw [hfs]; exact hu) hs, hfs]
        exact eqFields_ok (fun t z h => eqZ_ok D d t z h) hx hy w fs.toList 0 z r h (by omega) (by omega) (by simpa using hr)
      · simp at h
    · rename_i k e hu
      obtain ⟨z1, hz1, h⟩ := bind_some h
      split at h
      · rename_i hsz
        simp at h; subst h
        refine ⟨fun w l l' a b r ha hb hr => ?_, true, by simp [isAggT, hu], by simp⟩
        have hag : isAggT C.P t = some true := by simp [isAggT, hu]
        unfold Rep at ha hb
        rw [hag] at ha hb
        obtain ⟨xs, rfl, hx⟩ := ha
        obtain ⟨ys, rfl, hy⟩ := hb
        obtain ⟨heq, b, hb', hb1⟩ := eqZ_ok D d e z1 hz1
        have hsz' := hsz
        simp only [sizeT, Option.map_eq_some_iff] at hsz'
        obtain ⟨i, hi, hi2⟩ := hsz'
        rw [show D + (d + 1) = (D + d) + 1 from rfl, run_equalIn_array w (D + d) _ _ hu hi, List.range_eq_range']
        exact eqItems_ok heq hb' hb1 hsz (by simp [Program.cellsOf, hi, hi2]) hx hy w k 0 r (by omega) (by omega) (by simpa using hr)
      · simp at h
    · rename_i k hu
      simp at h; subst h
      refine ⟨fun w l l' a b r ha hb hr => ?_, false, by simp [isAggT, hu], by simp⟩
      have hag : isAggT C.P t = some false := by simp [isAggT, hu]
      unfold Rep at ha hb
      rw [hag] at ha hb
      obtain ⟨s, rfl, hs⟩ := ha
      obtain ⟨s', rfl, hs'⟩ := hb
      cases s <;> cases s' <;> simp [eqScs, eqSc] at hr
      cases hs; cases hs'
      obtain ⟨rfl, rfl⟩ := hr
      rw [show D + (d + 1) = (D + d) + 1 from rfl, run_equalIn_int w _ t _ k _ _ hu]
    · rename_i hu
      simp at h; subst h
      refine ⟨fun w l l' a b r ha hb hr => ?_, false, by simp [isAggT, hu], by simp⟩
      have hag : isAggT C.P t = some false := by simp [isAggT, hu]
      unfold Rep at ha hb
      rw [hag] at ha hb
      obtain ⟨s, rfl, hs⟩ := ha
      obtain ⟨s', rfl, hs'⟩ := hb
      cases s <;> cases s' <;> simp [eqScs, eqSc] at hr
      cases hs; cases hs'
      subst hr
      rw [show D + (d + 1) = (D + d) + 1 from rfl, run_equalIn_bool' w _ t _ _ hu]
    · rename_i hu
      simp at h; subst h
      refine ⟨fun w l l' a b r ha hb hr => ?_, false, by simp [isAggT, hu], by simp⟩
      have hag : isAggT C.P t = some false := by simp [isAggT, hu]
      unfold Rep at ha hb
      rw [hag] at ha hb
      obtain ⟨s, rfl, hs⟩ := ha
      obtain ⟨s', rfl, hs'⟩ := hb
      cases s <;> cases s' <;> simp [eqScs, eqSc] at hr
      cases hs; cases hs'
      subst hr
      rw [show D + (d + 1) = (D + d) + 1 from rfl, run_equalIn_string w _ t _ _ hu, beq_toListBytes]
    · simp at h
theorem callOf_eqAgg (P : Program) (f : Nat) (l : List AO) (neq : Bool) (z : List Sc) (x y : AO) : (callOf P f l = .eqAgg neq z x y) = False := by
  unfold callOf; (repeat' split) <;> simp
theorem eqAgg_inv {P : Program} {o : Oper} {neq : Bool} {z : List Sc} {x y : AO} (h : cOper P o = some (.eqAgg neq z x y)) :
    ∃ op t X Y ty, o.op = .binOp op t X Y ty ∧ op = (if neq = true then BinOp.neq else BinOp.eql) ∧ isAggT P t = some true ∧ P.eqGuardType P.depth t = false ∧ eqZ P 12 t = some z ∧ cOp P t X = some x ∧ cOp P ty Y = some y := by
  unfold cOper at h
  split at h
  case h_11 op t X Y ty e =>
    unfold cBin at h
    split at h
    case h_5 fs hu =>
      split at h
      · rename_i hg
        obtain ⟨z', hz, h⟩ := bind_some h
        split at h
        · obtain ⟨p, hp, h⟩ := map_some h
          simp at h; obtain ⟨rfl, rfl, rfl, rfl⟩ := h
          obtain ⟨h1, h2⟩ := both_ok hp
          exact ⟨_, t, X, Y, ty, e, by simp, by simp [isAggT, hu], hg, hz, h1, h2⟩
        · obtain ⟨p, hp, h⟩ := map_some h
          simp at h; obtain ⟨rfl, rfl, rfl, rfl⟩ := h
          obtain ⟨h1, h2⟩ := both_ok hp
          exact ⟨_, t, X, Y, ty, e, by simp, by simp [isAggT, hu], hg, hz, h1, h2⟩
        · simp at h
      · simp at h
    case h_6 k e' hu =>
      split at h
      · rename_i hg
        obtain ⟨z', hz, h⟩ := bind_some h
        split at h
        · obtain ⟨p, hp, h⟩ := map_some h
          simp at h; obtain ⟨rfl, rfl, rfl, rfl⟩ := h
          obtain ⟨h1, h2⟩ := both_ok hp
          exact ⟨_, t, X, Y, ty, e, by simp, by simp [isAggT, hu], hg, hz, h1, h2⟩
        · obtain ⟨p, hp, h⟩ := map_some h
          simp at h; obtain ⟨rfl, rfl, rfl, rfl⟩ := h
          obtain ⟨h1, h2⟩ := both_ok hp
          exact ⟨_, t, X, Y, ty, e, by simp, by simp [isAggT, hu], hg, hz, h1, h2⟩
        · simp at h
      · simp at h
    all_goals ((repeat' split at h) <;> simp [Option.map_eq_some_iff, Option.bind_eq_some_iff] at h)
  all_goals
    (try unfold cConv at h)
    (try unfold cBuiltin at h)
    ((repeat' split at h) <;> simp [Option.map_eq_some_iff, Option.bind_eq_some_iff, callOf_eqAgg] at h)
theorem g_eqAgg {neq : Bool} {z : List Sc} {x y : AO} {res : AV × List Ob} (hc : cOper C.P o = some (.eqAgg neq z x y)) (he : EnvR C hp.length ρ env a) (hH : HR C ρ hp w) (hF : FR C w)
    (h : evOp Γ env hp (.eqAgg neq z x y) = some res) : Good C ρ hp o a w res := by
  obtain ⟨op, t, X, Y, ty, ho, hop, hag, hg, hz, hx, hy⟩ := eqAgg_inv hc
  have h1 := cOp_ok hx he
  have h2 := cOp_ok hy he
  simp only [evOp] at h
  generalize getO env x = sx at h h1
  generalize getO env y = sy at h h2
  unfold oEqAgg at h
  split at h
  · rename_i l m
    generalize hvx : a.eval X = vx at h1
    generalize hvy : a.eval Y = vy at h2
    cases h1 with
    | agg _ xs hl =>
      cases h2 with
      | agg _ ys hm =>
        unfold putB at h
        split at h
        · simp at h
        · rename_i r hr
          simp at h; subst h
          have heq := (eqZ_ok (C := C) (m := hp.length) (ρ := ρ) 9988 12 t z hz).1 w l m (.agg xs.toArray) (.agg ys.toArray) r (by unfold Rep; rw [hag]; exact ⟨xs, rfl, hl⟩) (by unfold Rep; rw [hag]; exact ⟨ys, rfl, hm⟩) hr
          refine good_same (v := .bool (if neq = true then !r else r)) ?_ (.one _ _ (.bool _)) hH hF
          obtain ⟨dst, op', type, pos, after, guard⟩ := o
          dsimp only at ho; subst ho
          refine val_run _ ?_
          rw [hvx, hvy]
          simp only [Sem.run_bind, run_eqGuard_agg w op t X Y _ _ hg, Result.andThen_ok]
          subst hop
          cases neq
          · simp only [Bool.false_eq_true, if_false]
            rw [run_eql_struct, heq]; rfl
          · simp only [if_true]
            rw [run_neq_struct, heq]; rfl
  · simp at h
theorem op_ok {op : AOp} {res : AV × List Ob} (hΓ : ∀ f, Sound C.P f (Γ f)) (hc : cOper C.P o = some op) (he : EnvR C hp.length ρ env a) (hH : HR C ρ hp w) (hF : FR C w) (h : evOp Γ env hp op = some res) : Good C ρ hp o a w res := by
  cases hp' : plainOp op
  · cases op <;> simp [plainOp] at hp'
    case call f l => exact g_call hΓ hc he hH hF h
    case callo f l => exact g_callo hΓ hc he hH hF h
    case calli f l => exact g_calli hΓ hc he hH hF h
    case callv x l => exact g_callv hΓ hc he hH hF h
    case eqAgg neq z x y => exact g_eqAgg hc he hH hF h
  · exact op_good hc hp' he hH hF h
structure StR (C : Cx) (ρ : Nat → RV) (n : Nat) (env : Env) (hp : List Ob) (a : Act) (w : World) : Prop where
  env : EnvR C hp.length ρ env a
  heap : HR C ρ hp w
  fr : FR C w
  size : n ≤ a.tmps.size
  defers : a.defers = C.df
theorem put_size (a : Act) (dst : Option Tmp) (v : Value) : (a.put dst v).tmps.size = a.tmps.size := by
  cases dst <;> simp [Act.put]
theorem put_defers (a : Act) (dst : Option Tmp) (v : Value) : (a.put dst v).defers = a.defers := by
  cases dst <;> simp [Act.put]
theorem StR.next {v : AV} {u : Value} {dst : Option Nat} (h : StR C ρ n env hp a w) (hl : hp.length ≤ hp1.length) (E : Ext hp.length ρ ρ') (hv : AVR C hp1.length ρ' v u) (hH : HR C ρ' hp1 w') (hF : FR C w') (hd : cDst n dst = true) :
    StR C ρ' n (putE env dst v) hp1 (a.put dst u) w' := by
  refine ⟨(h.env.ext hl E).put hv dst (fun d e => ?_), hH, hF, by rw [put_size]; exact h.size, by rw [put_defers]; exact h.defers⟩
  subst e
  simp [cDst] at hd
  exact Nat.lt_of_lt_of_le hd h.size
theorem yielded_of {ops : Array Oper} {j t : Nat} {c : Bool} (h : (ops[j]?).bind (·.dst) = some t) (hv : a.tmps.getD t undef = .bool c) : yielded ops a.tmps j = some c := by
  unfold yielded
  rw [h]
  simp only [Option.bind_some]
  rw [Array.getD_eq_getD_getElem?] at hv
  cases e : a.tmps[t]? with
  | none => rw [e] at hv; simp [undef] at hv
  | some x => rw [e] at hv; simp at hv; subst hv; rfl
theorem yielded_skip {ops : Array Oper} {j t : Nat} {want : Bool} (h : (ops[j]?).bind (·.dst) = some t) (hv : a.tmps.getD t undef = undef) : (yielded ops a.tmps j == some want) = false := by
  unfold yielded
  rw [h]
  simp only [Option.bind_some]
  rw [Array.getD_eq_getD_getElem?] at hv
  cases e : a.tmps[t]? with
  | none => rfl
  | some x => rw [e] at hv; simp at hv; subst hv; rfl
theorem instr_inv {P : Program} {ops : Array Oper} {ai : AI} (h : cInstr P n ops o = some ai) : cDst n o.dst = true ∧ ai.dst = o.dst ∧ cGuard ops o.guard = some ai.guard ∧ (cOper P o = some ai.op ∨ ai.op = .bad) := by
  unfold cInstr at h
  split at h
  · rename_i hd
    obtain ⟨g, hg, rfl⟩ := map_some h
    refine ⟨hd, rfl, hg, ?_⟩
    show cOper P o = some (cOperT P o) ∨ cOperT P o = .bad
    unfold cOperT
    split
    · rename_i op e; exact .inl e
    · exact .inr rfl
  · simp at h
theorem step_ok {ops : Array Oper} {ai : AI} {v : AV} {K : Act → World → Prop} {Q : Exit → Act → World → Prop} (hΓ : ∀ f, Sound C.P f (Γ f)) (hi : cInstr C.P n ops o = some ai) (hst : StR C ρ n env hp a w) (h : stepI Γ env hp ai = some (v, hp1))
    (k : ∀ (ρ' : Nat → RV) (u : Value) (w' : World), hp.length ≤ hp1.length → Ext hp.length ρ ρ' → AVR C hp1.length ρ' v u → HR C ρ' hp1 w' → FR C w' → K (a.put o.dst u) w') :
    if Region.wanted o (yielded ops a.tmps) = true then o.wp C.P a w K Q else K (a.put o.dst undef) w := by
  obtain ⟨hd, hdst, hg, ho⟩ := instr_inv hi
  obtain ⟨dst, guard, op⟩ := ai
  dsimp only at hdst hg ho
  have run : evOp Γ env hp op = some (v, hp1) → o.wp C.P a w K Q := fun h => by
    rcases ho with ho | ho
    · exact op_ok hΓ ho hst.env hst.heap hst.fr h K Q (fun ρ' u w' h1 h2 h3 h4 h5 => k ρ' u w' h1 h2 h3 h4 h5)
    · subst ho; simp [evOp] at h
  unfold cGuard at hg
  split at hg
  · rename_i e
    simp at hg; subst hg
    rw [if_pos (by simp [Region.wanted, e])]
    exact run h
  · rename_i j b e
    obtain ⟨t, ht, e'⟩ := map_some hg
    rw [← e'] at h
    simp only [stepI] at h
    unfold stepG at h
    split at h
    · rename_i c hc
      have hv := hst.env t
      rw [hc] at hv
      have hv' : a.tmps.getD t undef = .bool c := by
        generalize a.tmps.getD t undef = z at hv
        cases hv with | one _ _ h => cases h; rfl
      have hW : Region.wanted o (yielded ops a.tmps) = (c == b) := by
        simp only [Region.wanted, e, yielded_of ht hv']
        cases c <;> cases b <;> rfl
      split at h
      · rename_i hcb; subst hcb; rw [if_pos (by rw [hW]; simp)]; exact run h
      · rename_i hcb
        rw [if_neg (by rw [hW]; simpa using hcb)]
        simp at h; obtain ⟨rfl, rfl⟩ := h
        exact k ρ undef w (Nat.le_refl _) (Ext.refl _ _) (.tup _ _ .nil) hst.heap hst.fr
    · rename_i hc
      have hv := hst.env t
      rw [hc] at hv
      have hv' : a.tmps.getD t undef = undef := by
        generalize a.tmps.getD t undef = z at hv
        cases hv with | tup _ _ h => cases h; rfl
      have hW : Region.wanted o (yielded ops a.tmps) = false := by
        simp only [Region.wanted, e]
        exact yielded_skip ht hv'
      rw [if_neg (by rw [hW]; simp)]
      simp at h; obtain ⟨rfl, rfl⟩ := h
      exact k ρ undef w (Nat.le_refl _) (Ext.refl _ _) (.tup _ _ .nil) hst.heap hst.fr
    · simp at h
theorem evIs_step (rts : List SV) (ai : AI) (l : List AI) : evIs Γ (ai :: l) ⟨env, rts, hp⟩ = thenI env rts ai.dst (evIs Γ l) (stepI Γ env hp ai) := by
  obtain ⟨dst, guard, op⟩ := ai
  cases guard with
  | none => rfl
  | some g =>
    obtain ⟨t, b⟩ := g
    simp only [evIs, stepI]
    unfold guardI stepG
    split
    · rename_i c e
      split <;> rfl
    · rfl
    · rfl
def QR (C : Cx) (n : Nat) (ex : Ex) (st : St) : Exit → Act → World → Prop
  | .normal, a, w => ex = .norm ∧ ∃ ρ, StR C ρ n st.env st.hp a w
  | .exit i, a, w => ex = .exit i ∧ ∃ ρ, StR C ρ n st.env st.hp a w
  | .ret, a, w => ex = .ret ∧ ∃ ρ, StR C ρ n st.env st.hp a w
  | _, _, _ => False
theorem ops_ok {ops : Array Oper} {rts : List SV} {st' : St} (hΓ : ∀ f, Sound C.P f (Γ f)) : ∀ (l : List Oper) (k : Nat) (ais : List AI) (ρ : Nat → RV) (env : Env) (hp : List Ob) (a : Act) (w : World), (∀ j, l[j]? = ops[k + j]?) → cInstrs C.P n ops l = some ais → StR C ρ n env hp a w →
    evIs Γ ais ⟨env, rts, hp⟩ = some st' → wpOps C.P ops (QR C n .norm st') (List.range' k l.length) a w
  | [], k, ais, ρ, env, hp, a, w, hl, hc, hst, h => by
    simp [cInstrs] at hc; subst hc
    simp [evIs] at h; subst h
    exact ⟨rfl, ρ, hst⟩
  | o :: l, k, ais, ρ, env, hp, a, w, hl, hc, hst, h => by
    simp only [cInstrs] at hc
    obtain ⟨ai, hi, hc⟩ := bind_some hc
    obtain ⟨ais', hc', rfl⟩ := map_some hc
    rw [evIs_step] at h
    have h0 : ops[k]? = some o := by simpa using (hl 0).symm
    have hl' : ∀ j, l[j]? = ops[k + 1 + j]? := fun j => by have := hl (j + 1); simpa [Nat.add_assoc, Nat.add_comm 1 j] using this
    unfold thenI at h
    split at h
    · simp at h
    · rename_i v hp1 hs
      simp only [List.length_cons, List.range'_succ, wpOps, h0]
      have key := step_ok (K := wpOps C.P ops (QR C n .norm st') (List.range' (k + 1) l.length)) (Q := QR C n .norm st') hΓ hi hst hs (fun ρ' u w' h1 h2 h3 h4 h5 =>
        ops_ok hΓ l (k + 1) ais' ρ' (putE env ai.dst v) hp1 _ w' hl' hc' (by
          obtain ⟨hd, hdst, _, _⟩ := instr_inv hi
          rw [hdst]; exact hst.next h1 h2 h3 h4 h5 hd) h)
      split
      · rename_i hw; rw [if_pos hw] at key; exact .inl key
      · rename_i hw; rw [if_neg hw] at key; exact key
end
section
variable {Γ : Nat → Callee} {env env' : Env}
theorem getO_congr {x : AO} (h : ∀ t ∈ aoT x, getT t env = getT t env') : getO env x = getO env' x := by
  cases x with
  | tmp t => exact h t (by simp [aoT])
  | const v => rfl
theorem getS_congr {x : AO} (h : ∀ t ∈ aoT x, getT t env = getT t env') : getS env x = getS env' x := by
  simp only [getS, getO_congr h]
theorem getSo_congr {x : Option AO} (h : ∀ t ∈ aoO x, getT t env = getT t env') : getSo env x = getSo env' x := by
  cases x with
  | none => rfl
  | some x => simp only [getSo]; rw [getS_congr h]
theorem getL_congr : ∀ {l : List AO}, (∀ t ∈ aoL l, getT t env = getT t env') → getL env l = getL env' l
  | [], _ => rfl
  | x :: l, h => by
    simp only [aoL, List.mem_append] at h
    simp only [getL]; rw [getO_congr fun t ht => h t (.inl ht), getL_congr fun t ht => h t (.inr ht)]
theorem getSL_congr : ∀ {l : List AO}, (∀ t ∈ aoL l, getT t env = getT t env') → getSL env l = getSL env' l
  | [], _ => rfl
  | x :: l, h => by
    simp only [aoL, List.mem_append] at h
    simp only [getSL]; rw [getS_congr fun t ht => h t (.inl ht), getSL_congr fun t ht => h t (.inr ht)]
theorem getPP_congr : ∀ {l : List ((Nat × Nat) × AO)}, (∀ t ∈ aoPP l, getT t env = getT t env') → getPP env l = getPP env' l
  | [], _ => rfl
  | x :: l, h => by
    simp only [aoPP, List.mem_append] at h
    simp only [getPP]; rw [getO_congr fun t ht => h t (.inl ht), getPP_congr fun t ht => h t (.inr ht)]
theorem getPs_congr : ∀ {l : List (Nat × AO)}, (∀ t ∈ aoPs l, getT t env = getT t env') → getPs env l = getPs env' l
  | [], _ => rfl
  | x :: l, h => by
    simp only [aoPs, List.mem_append] at h
    simp only [getPs]; rw [getO_congr fun t ht => h t (.inl ht), getPs_congr fun t ht => h t (.inr ht)]
theorem evOp_congr {op : AOp} (h : ∀ t ∈ opT op, getT t env = getT t env') (hp : List Ob) : evOp Γ env hp op = evOp Γ env' hp op := by
  cases op <;> simp only [opT, List.mem_append] at h
  case mv x => simp only [evOp, getO_congr h]
  case newNil => rfl
  case pick c x y => simp only [evOp, getO_congr fun t ht => h t (.inl ht), getO_congr fun t ht => h t (.inr (.inl ht)), getO_congr fun t ht => h t (.inr (.inr ht))]
  case alloc => rfl
  case box x => simp only [evOp, getO_congr h]
  case build z ps => simp only [evOp, getPP_congr h]
  case bslice c0 z l ps => simp only [evOp, getPs_congr h]
  case load m x => cases m <;> simp only [evOp, getS_congr h]
  case store m x v => simp only [evOp, getS_congr fun t ht => h t (.inl ht), getO_congr fun t ht => h t (.inr ht)]
  case storeNil c x => simp only [evOp, getS_congr h]
  case nilCheck x => simp only [evOp, getO_congr h]
  case bin op x y => simp only [evOp, getS_congr fun t ht => h t (.inl ht), getS_congr fun t ht => h t (.inr ht)]
  case eqNil b x => simp only [evOp, getO_congr h]
  case eqAgg b z x y => simp only [evOp, getO_congr fun t ht => h t (.inl ht), getO_congr fun t ht => h t (.inr ht)]
  case eqB b x y => simp only [evOp, getO_congr fun t ht => h t (.inl ht), getO_congr fun t ht => h t (.inr ht)]
  case un op x => simp only [evOp, getS_congr h]
  case conv k x => simp only [evOp, getO_congr h]
  case sconv x => simp only [evOp, getO_congr h]
  case s2b x => simp only [evOp, getO_congr h]
  case b2s x => simp only [evOp, getS_congr h]
  case cutS x lo hi => simp only [evOp, getO_congr fun t ht => h t (.inl ht), getSo_congr fun t ht => h t (.inr (.inl ht)), getSo_congr fun t ht => h t (.inr (.inr ht))]
  case cutR n x lo hi => simp only [evOp, getS_congr fun t ht => h t (.inl ht), getSo_congr fun t ht => h t (.inr (.inl ht)), getSo_congr fun t ht => h t (.inr (.inr ht))]
  case cutA n x lo hi => simp only [evOp, getO_congr fun t ht => h t (.inl ht), getSo_congr fun t ht => h t (.inr (.inl ht)), getSo_congr fun t ht => h t (.inr (.inr ht))]
  case fadr n x => simp only [evOp, getO_congr h]
  case fld n m x => simp only [evOp, getO_congr h]
  case iadrR n x i => simp only [evOp, getS_congr fun t ht => h t (.inl ht), getO_congr fun t ht => h t (.inr ht)]
  case iadrA n m x i => simp only [evOp, getO_congr fun t ht => h t (.inl ht), getO_congr fun t ht => h t (.inr ht)]
  case idxA n m k x i => simp only [evOp, getO_congr fun t ht => h t (.inl ht), getO_congr fun t ht => h t (.inr ht)]
  case idxS x i => simp only [evOp, getO_congr fun t ht => h t (.inl ht), getO_congr fun t ht => h t (.inr ht)]
  case extract i x => simp only [evOp, getO_congr h]
  case call f l => simp only [evOp, getL_congr h]
  case callo f l => simp only [evOp, getL_congr h]
  case calli f l => simp only [evOp, getL_congr h]
  case pcall f l => simp only [evOp, getL_congr h]
  case callv x l => simp only [evOp, getO_congr fun t ht => h t (.inl ht), getL_congr fun t ht => h t (.inr ht)]
  case lenS x => simp only [evOp, getO_congr h]
  case len x => simp only [evOp, getS_congr h]
  case append c n x y => simp only [evOp, getS_congr fun t ht => h t (.inl ht), getS_congr fun t ht => h t (.inr ht)]
  case appZ c z n x y => simp only [evOp, getS_congr fun t ht => h t (.inl ht), getO_congr fun t ht => h t (.inr ht)]
  case copy x y => simp only [evOp, getS_congr fun t ht => h t (.inl ht), getS_congr fun t ht => h t (.inr ht)]
  case min l => simp only [evOp, getL_congr h]
  case max l => simp only [evOp, getL_congr h]
  case mkfn f l => simp only [evOp, getSL_congr h]
  case mks c z n x y => simp only [evOp, getO_congr fun t ht => h t (.inl ht), getO_congr fun t ht => h t (.inr ht)]
  case bad => rfl
theorem noNil_cells : ∀ {z : List ZV}, noNil z = true → ∀ hp hp2 : List Ob, (zcells z hp).2 = hp ∧ (zcells z hp).1 = (zcells z hp2).1
  | [], _, hp, hp2 => ⟨rfl, rfl⟩
  | .sv v :: z, h, hp, hp2 => by
    obtain ⟨h1, h2⟩ := noNil_cells (z := z) h hp hp2
    exact ⟨h1, by simp only [zcells, h2]⟩
  | .nil _ :: _, h, _, _ => by simp [noNil] at h
theorem plainOut_some' {hp hp1 : List Ob} {r : Res} {v : AV} (h : plainOut hp r = some (v, hp1)) : r = some (v, []) ∧ v.plain = true ∧ hp1 = hp := by
  unfold plainOut at h
  split at h
  · split at h
    · simp at h
      obtain ⟨rfl, rfl⟩ := h
      exact ⟨rfl, by assumption, rfl⟩
    · simp at h
  · simp at h
theorem pure_op {op : AOp} {hp hp1 : List Ob} {v : AV} (hk : opKind op = 0) (h : evOp Γ env hp op = some (v, hp1)) : hp1 = hp ∧ ∀ hp2, evOp Γ env hp2 op = some (v, hp2) := by
  cases op <;> simp [opKind] at hk
  case mv x => simp [evOp] at h ⊢; exact ⟨h.2.symm, h.1⟩
  case pick c x y =>
    simp only [evOp] at h ⊢; unfold oPick at h ⊢
    split at h <;> simp at h ⊢
    exact ⟨h.2.symm, h.1⟩
  case pcall f l =>
    simp only [evOp] at h ⊢
    unfold pureCall at h ⊢
    split at h
    · rename_i hp0
      obtain ⟨h1, h2, h3⟩ := plainOut_some' h
      refine ⟨h3, fun hp2 => ?_⟩
      rw [if_pos hp0, h1]
      simp [plainOut, h2]
    · simp at h
  case build z ps =>
    simp only [evOp] at h ⊢
    obtain ⟨e1, _⟩ := noNil_cells hk hp hp
    rw [e1] at h
    split at h
    · rename_i hc
      refine ⟨?_, fun hp2 => ?_⟩
      · unfold putL at h; split at h <;> simp at h; exact h.2.symm
      · obtain ⟨e3, _⟩ := noNil_cells hk hp2 hp2
        obtain ⟨_, e2⟩ := noNil_cells hk hp hp2
        rw [if_pos hc, e3, ← e2]
        unfold putL at h ⊢; split at h <;> simp at h ⊢; exact h.1
    · simp at h
  case nilCheck x =>
    simp only [evOp] at h ⊢; unfold oNilCheck at h ⊢
    split at h <;> simp at h ⊢ <;> exact ⟨h.2.symm, h.1⟩
  case bin op x y =>
    simp only [evOp] at h ⊢; unfold put1 at h ⊢
    split at h <;> simp at h ⊢
    exact ⟨h.2.symm, h.1⟩
  case eqNil b x =>
    simp only [evOp] at h ⊢; unfold oEqNil at h ⊢
    split at h <;> simp at h ⊢ <;> exact ⟨h.2.symm, h.1⟩
  case eqAgg b z x y =>
    simp only [evOp] at h ⊢; unfold oEqAgg at h ⊢
    split at h
    · unfold putB at h ⊢
      split at h <;> simp at h ⊢
      exact ⟨h.2.symm, h.1⟩
    · simp at h
  case eqB b x y =>
    simp only [evOp] at h ⊢; unfold oEqB at h ⊢
    split at h
    · unfold putB at h ⊢
      simp at h ⊢
      exact ⟨h.2.symm, h.1⟩
    · simp at h
  case un op x =>
    simp only [evOp] at h ⊢; unfold put1 at h ⊢
    split at h <;> simp at h ⊢
    exact ⟨h.2.symm, h.1⟩
  case conv k x =>
    simp only [evOp] at h ⊢; unfold oConv at h ⊢
    split at h <;> simp at h ⊢
    exact ⟨h.2.symm, h.1⟩
  case sconv x =>
    simp only [evOp] at h ⊢; unfold oSconv at h ⊢
    split at h <;> simp at h ⊢
    exact ⟨h.2.symm, h.1⟩
  case cutS x lo hi =>
    simp only [evOp] at h ⊢; unfold oCutS at h ⊢
    split at h
    · unfold cutS2 at h ⊢
      split at h
      · split at h <;> simp at h
        rename_i hc
        simp only [if_pos hc]
        simp; exact ⟨h.2.symm, h.1⟩
      · simp at h
    · simp at h
  case cutA n x lo hi =>
    simp only [evOp] at h ⊢; unfold oCutA at h ⊢
    split at h
    · unfold cutA2 at h ⊢
      split at h
      · split at h <;> simp at h
        rename_i hc
        simp only [if_pos hc]
        simp; exact ⟨h.2.symm, h.1⟩
      · simp at h
    · simp at h
  case fadr n x =>
    simp only [evOp] at h ⊢; unfold oFadr at h ⊢
    split at h <;> simp at h ⊢ <;> exact ⟨h.2.symm, h.1⟩
  case fld n m x =>
    simp only [evOp] at h ⊢; unfold oFld at h ⊢
    split at h
    · unfold putA at h ⊢
      split at h <;> simp at h ⊢
      exact ⟨h.2.symm, h.1⟩
    · simp at h
  case iadrA n m x i =>
    simp only [evOp] at h ⊢; unfold oIadrA at h ⊢
    split at h
    · split at h <;> simp at h
      rename_i hc
      simp only [if_pos hc]
      simp; exact ⟨h.2.symm, h.1⟩
    · simp at h
  case idxA n m k x i =>
    simp only [evOp] at h ⊢; unfold oIdxA at h ⊢
    split at h
    · split at h
      · rename_i hc
        simp only [if_pos hc]
        unfold putA at h ⊢
        split at h <;> simp at h ⊢
        exact ⟨h.2.symm, h.1⟩
      · simp at h
    · simp at h
  case idxS x i =>
    simp only [evOp] at h ⊢; unfold oIdxS at h ⊢
    split at h
    · split at h <;> simp at h
      rename_i hc
      simp only [if_pos hc]
      simp; exact ⟨h.2.symm, h.1⟩
    · simp at h
  case extract i x =>
    simp only [evOp] at h ⊢; unfold oExtract at h ⊢
    split at h
    · unfold putA at h ⊢
      split at h <;> simp at h ⊢
      exact ⟨h.2.symm, h.1⟩
    · simp at h
  case lenS x =>
    simp only [evOp] at h ⊢; unfold oLenS at h ⊢
    split at h <;> simp at h ⊢
    exact ⟨h.2.symm, h.1⟩
  case min l =>
    simp only [evOp] at h ⊢; unfold oMin at h ⊢
    split at h <;> simp at h ⊢
    exact ⟨h.2.symm, h.1⟩
  case max l =>
    simp only [evOp] at h ⊢; unfold oMax at h ⊢
    split at h <;> simp at h ⊢
    exact ⟨h.2.symm, h.1⟩
  case mkfn f l => simp [evOp] at h ⊢; exact ⟨h.2.symm, h.1⟩
theorem read_op {op : AOp} {hp hp1 : List Ob} {v : AV} (hk : opKind op = 1) (h : evOp Γ env hp op = some (v, hp1)) : hp1 = hp := by
  cases op <;> simp [opKind] at hk
  case build z ps => split at hk <;> simp at hk
  case load m x =>
    cases m
    · simp only [evOp] at h; unfold put1 at h; split at h <;> simp at h; exact h.2.symm
    · simp only [evOp] at h; unfold putL at h; split at h <;> simp at h; exact h.2.symm
  case b2s x => simp only [evOp] at h; unfold oB2s at h; split at h <;> simp at h; exact h.2.symm
  case cutR n x lo hi =>
    simp only [evOp] at h
    split at h
    · unfold oCutR at h
      split at h
      · unfold cutR2 at h
        split at h
        · split at h
          · unfold put1 at h; split at h <;> simp at h; exact h.2.symm
          · simp at h
        · simp at h
      · simp at h
    · simp at h
  case iadrR n x i =>
    simp only [evOp] at h
    split at h
    · unfold oIadrR at h
      split at h
      · split at h
        · unfold put1 at h; split at h <;> simp at h; exact h.2.symm
        · simp at h
      · simp at h
    · simp at h
  case len x => simp only [evOp] at h; unfold oLen at h; split at h <;> simp at h; exact h.2.symm
theorem step_congr {ai : AI} (h : ∀ t ∈ aiT ai, getT t env = getT t env') (hp : List Ob) : stepI Γ env hp ai = stepI Γ env' hp ai := by
  obtain ⟨dst, g, op⟩ := ai
  cases g with
  | none => exact evOp_congr h hp
  | some g =>
    obtain ⟨t, b⟩ := g
    simp only [aiT, List.mem_cons] at h
    simp only [stepI]
    rw [h t (.inl rfl), evOp_congr (fun t ht => h t (.inr ht)) hp]
theorem pure_step {ai : AI} {hp hp1 : List Ob} {v : AV} (hk : opKind ai.op = 0) (h : stepI Γ env hp ai = some (v, hp1)) : hp1 = hp ∧ ∀ hp2, stepI Γ env hp2 ai = some (v, hp2) := by
  obtain ⟨dst, g, op⟩ := ai
  cases g with
  | none => exact pure_op hk h
  | some g =>
    obtain ⟨t, b⟩ := g
    simp only [stepI] at h ⊢
    unfold stepG at h ⊢
    split at h
    · split at h
      · rename_i hc
        obtain ⟨h1, h2⟩ := pure_op hk h
        exact ⟨h1, fun hp2 => by simp only [if_pos hc]; exact h2 hp2⟩
      · rename_i hc
        simp at h
        refine ⟨h.2.symm, fun hp2 => ?_⟩
        simp only [if_neg hc]; rw [h.1]
    · simp at h
      exact ⟨h.2.symm, fun hp2 => by rw [h.1]⟩
    · simp at h
theorem quiet_step {ai : AI} {hp hp1 : List Ob} {v : AV} (hk : opKind ai.op ≠ 2) (h : stepI Γ env hp ai = some (v, hp1)) : hp1 = hp := by
  have h3 : opKind ai.op = 0 ∨ opKind ai.op = 1 := by
    have : opKind ai.op ≤ 2 := by
      unfold opKind; split <;> first | omega | skip
      all_goals (split <;> omega)
    omega
  rcases h3 with h3 | h3
  · exact (pure_step h3 h).1
  · obtain ⟨dst, g, op⟩ := ai
    cases g with
    | none => exact read_op h3 h
    | some g =>
      obtain ⟨t, b⟩ := g
      simp only [stepI] at h
      unfold stepG at h
      split at h
      · split at h
        · exact read_op h3 h
        · simp at h; exact h.2.symm
      · simp at h; exact h.2.symm
      · simp at h
end
section
variable {Γ : Nat → Callee}
theorem rank_zero (ld : List Bool) : rank ld 0 = 0 := rfl
theorem rank_succ (b : Bool) (ld : List Bool) (k : Nat) : rank (b :: ld) (k + 1) = (if b = true then 1 else 0) + rank ld k := by
  cases b <;> simp [rank]; omega
theorem trace_of : ∀ (l : List (AI × Bool)) (env : Env) (hp : List Ob) (hs : List (List Ob)) (envN : Env) (hpN : List Ob) (hsN : List (List Ob)), evDs Γ l env hp hs = some (envN, hpN, hsN) → (∀ p ∈ l, p.2 = false → opKind p.1.op ≠ 2) → (∃ h0, hs = h0 ++ [hp]) →
    ∃ (E : Nat → Env) (H : Nat → List Ob) (V : Nat → AV), E 0 = env ∧ H 0 = hp ∧ E l.length = envN ∧ H l.length = hpN ∧
      (∀ i p, l[i]? = some p → stepI Γ (E i) (H i) p.1 = some (V i, H (i + 1)) ∧ E (i + 1) = putE (E i) p.1.dst (V i)) ∧
      (∀ k, k ≤ l.length → hsN[hs.length - 1 + rank (l.map (·.2)) k]? = some (H k))
  | [], env, hp, hs, envN, hpN, hsN, h, hq, ⟨h0, e⟩ => by
    simp [evDs] at h
    obtain ⟨rfl, rfl, rfl⟩ := h
    subst e
    refine ⟨fun _ => env, fun _ => hp, fun _ => .one .undef, rfl, rfl, rfl, rfl, by simp, fun k hk => ?_⟩
    simp at hk; subst hk
    simp [rank]
  | (ai, b) :: l, env, hp, hs, envN, hpN, hsN, h, hq, ⟨h0, e⟩ => by
    simp only [evDs] at h
    unfold thenD at h
    split at h
    · simp at h
    · rename_i v hp1 hst
      have hs1 : ∃ h0, (if b = true then hs ++ [hp1] else hs) = h0 ++ [hp1] := by
        cases b
        · have := quiet_step (hq (ai, false) (by simp) rfl) hst
          subst this; exact ⟨h0, by simpa using e⟩
        · exact ⟨hs, by simp⟩
      obtain ⟨E, H, V, e1, e2, e3, e4, e5, e6⟩ := trace_of l _ hp1 _ envN hpN hsN h (fun p hp hb => hq p (by simp [hp]) hb) hs1
      refine ⟨fun i => if i = 0 then env else E (i - 1), fun i => if i = 0 then hp else H (i - 1), fun i => if i = 0 then v else V (i - 1), rfl, rfl, by simpa using e3, by simpa using e4, fun i p hi => ?_, fun k hk => ?_⟩
      · cases i with
        | zero =>
          simp at hi; subst hi
          simp [e1, e2, hst]
        | succ i =>
          obtain ⟨h1, h2⟩ := e5 i p (by simpa using hi)
          simp [h1, h2]
      · cases k with
        | zero =>
          simp only [if_true, rank_zero, Nat.add_zero]
          have h6 := e6 0 (by omega)
          rw [rank_zero, e2] at h6
          subst e
          -- what was there stays
          have stay : ∀ (l : List (AI × Bool)) (env : Env) (hp : List Ob) (hs : List (List Ob)) (r : Env × List Ob × List (List Ob)), evDs Γ l env hp hs = some r → ∃ t, r.2.2 = hs ++ t := by
            intro l
            induction l with
            | nil => intro env hp hs r h; simp [evDs] at h; subst h; exact ⟨[], by simp⟩
            | cons p l ih =>
              intro env hp hs r h
              obtain ⟨ai, b⟩ := p
              simp only [evDs] at h
              unfold thenD at h
              split at h
              · simp at h
              · rename_i v hp1 _
                obtain ⟨t, ht⟩ := ih _ _ _ _ h
                rw [ht]
                cases b
                · exact ⟨t, by simp⟩
                · exact ⟨hp1 :: t, by simp⟩
          obtain ⟨t, ht⟩ := stay _ _ _ _ _ h
          simp only at ht
          rw [ht]
          cases b <;> simp
        | succ k =>
          have h6 := e6 k (by simpa using hk)
          simp only [List.map_cons, rank_succ]
          simp only [Nat.add_eq_zero_iff, Nat.one_ne_zero, and_false, if_false, Nat.add_sub_cancel]
          rw [← h6]
          congr 1
          subst e
          cases b <;> simp <;> omega
structure Static (N : Nat) (os : List Oper) (ais : List AI) (ld : List Bool) (anc : List (List Nat)) (ck : List (Nat × List Nat)) : Prop where
  len : ais.length = N
  llen : ld.length = N
  edge : ∀ i, i < N → ∀ o, os[i]? = some o → (∀ j ∈ dirs o, j < i) ∧ ∀ j ∈ anc.getD i [], j ∈ dirs o ∨ ∃ e ∈ dirs o, j ∈ anc.getD e []
  kind : ∀ i ai, ais[i]? = some ai → (ld.getD i false = true ↔ opKind ai.op = 2)
  loud : ∀ i j, i < N → j < i → ld.getD i false = true → ld.getD j false = true → j ∈ anc.getD i []
  dst : ∀ i j d, i < N → j < i → dstAt ais i = some d → dstAt ais j ≠ some d
  tmp : ∀ i ai, ais[i]? = some ai → ∀ t ∈ aiT ai, ∀ j, j < N → dstAt ais j = some t → j = i ∨ (j < i ∧ j ∈ anc.getD i []) ∨ (i < j ∧ i ∈ anc.getD j [])
  read : ∀ i ai, ais[i]? = some ai → opKind ai.op = 1 → (∀ k, k ≤ N → offD N ld anc i k = true ∨ rank ld k = rank ld i ∨ ∃ c ∈ ck, c.1 = i ∧ rank ld k ∈ c.2) ∧
    ((∃ c ∈ ck, c.1 = i) → ∀ t ∈ aiT ai, ∀ j, j < N → i ≤ j → dstAt ais j ≠ some t)
theorem static_of {N : Nat} {os : List Oper} {ais : List AI} {ld : List Bool} {anc : List (List Nat)} {ck : List (Nat × List Nat)} (h : okD N os ais ld anc ck = true) : Static N os ais ld anc ck := by
  simp only [okD, Bool.and_eq_true, beq_iff_eq, List.all_eq_true, List.mem_range] at h
  obtain ⟨⟨h1, h2⟩, h3⟩ := h
  have at_ : ∀ i ai, ais[i]? = some ai → okAt N os ais ld anc ck i = true ∧ i < N := fun i ai hi => by
    have := (List.getElem?_eq_some_iff.1 hi).1
    exact ⟨h3 i (by omega), by omega⟩
  have un : ∀ i, i < N → ∃ ai, ais[i]? = some ai := fun i hi => ⟨_, List.getElem?_eq_getElem (by omega)⟩
  have key : ∀ i ai, ais[i]? = some ai → okEdge os anc i = true ∧ (ld.getD i false = decide (opKind ai.op = 2)) ∧ (∀ j, j < i → ld.getD i false = true → ld.getD j false = true → j ∈ anc.getD i []) ∧
      (∀ j, j < i → ai.dst = none ∨ ai.dst ≠ dstAt ais j) ∧ (∀ t ∈ aiT ai, okTmp N ais anc i t = true) ∧ (opKind ai.op = 1 → okRead N ais ld anc ck i ai = true) := by
    intro i ai hi
    have := (at_ i ai hi).1
    unfold okAt at this
    rw [hi] at this
    simp only [Bool.and_eq_true, beq_iff_eq, List.all_eq_true, List.mem_range, Bool.or_eq_true, Bool.not_eq_true', Bool.and_eq_false_iff] at this
    obtain ⟨⟨⟨⟨⟨k1, k2⟩, k3⟩, k4⟩, k5⟩, k6⟩ := this
    refine ⟨k1, k2, fun j hj a b => ?_, fun j hj => ?_, k5, fun hk => ?_⟩
    · rcases k3 j hj with (h | h) | h
      · rw [a] at h; cases h
      · rw [b] at h; cases h
      · simpa using h
    · rcases k4 j hj with h | h
      · exact .inl h
      · exact .inr (by simpa using h)
    · rcases k6 with h | h
      · simp [hk] at h
      · exact h
  refine ⟨h1, h2, fun i hi o ho => ?_, fun i ai hi => ?_, fun i j hi hj a b => ?_, fun i j d hi hj e e' => ?_, fun i ai hi t ht j hj e => ?_, fun i ai hi hk => ?_⟩
  · obtain ⟨ai, hai⟩ := un i hi
    have := (key i ai hai).1
    unfold okEdge at this
    rw [ho] at this
    simp only [Bool.and_eq_true, List.all_eq_true, decide_eq_true_eq, Bool.or_eq_true, List.any_eq_true] at this
    refine ⟨this.1, fun j hj => ?_⟩
    rcases this.2 j hj with h | ⟨e, h, h'⟩
    · exact .inl (by simpa using h)
    · exact .inr ⟨e, h, by simpa using h'⟩
  · rw [(key i ai hi).2.1]; simp
  · obtain ⟨ai, hai⟩ := un i hi
    exact (key i ai hai).2.2.1 j hj a b
  · obtain ⟨ai, hai⟩ := un i hi
    have : dstAt ais i = ai.dst := by simp [dstAt, hai]
    rw [this] at e
    rcases (key i ai hai).2.2.2.1 j hj with h | h
    · rw [h] at e; cases e
    · rw [e] at h; exact h (e'.symm)
  · have := (key i ai hi).2.2.2.2.1 t ht
    simp only [okTmp, List.all_eq_true, List.mem_range, Bool.or_eq_true, Bool.not_eq_true', beq_eq_false_iff_ne, beq_iff_eq] at this
    rcases this j hj with (h | h) | h
    · exact absurd e h
    · exact .inl h
    · by_cases hji : j = i
      · exact .inl hji
      · split at h
        · rename_i hlt; exact .inr (.inl ⟨hlt, by simpa using h⟩)
        · exact .inr (.inr ⟨by omega, by simpa using h⟩)
  · have := (key i ai hi).2.2.2.2.2 hk
    simp only [okRead, Bool.and_eq_true, List.all_eq_true, List.mem_range, Bool.or_eq_true, beq_iff_eq, List.any_eq_true, Bool.not_eq_true', decide_eq_true_eq, beq_eq_false_iff_ne] at this
    obtain ⟨k1, k2⟩ := this
    refine ⟨fun k hk => ?_, fun hc t ht j hj hij => ?_⟩
    · rcases k1 k (by omega) with (h | h) | ⟨c, h, h', h''⟩
      · exact .inl h
      · exact .inr (.inl h)
      · exact .inr (.inr ⟨c, h, h', by simpa using h''⟩)
    · rcases k2 with h | ⟨_, h⟩
      · obtain ⟨c, hc, e⟩ := hc
        simp only [List.any_eq_false, beq_iff_eq] at h
        exact absurd e (h c hc)
      · rcases h t ht j hj with h | h
        · omega
        · exact h
variable {C : Cx} {n : Nat}
theorem instrs_get {P : Program} {ops : Array Oper} : ∀ {l : List Oper} {ais : List AI}, cInstrs P n ops l = some ais → ais.length = l.length ∧ ∀ (i : Nat) (o : Oper), l[i]? = some o → ∃ ai, ais[i]? = some ai ∧ cInstr P n ops o = some ai
  | [], ais, h => by simp [cInstrs] at h; subst h; simp
  | o :: l, ais, h => by
    simp only [cInstrs] at h
    obtain ⟨ai, hi, h⟩ := bind_some h
    obtain ⟨ais', hc, rfl⟩ := map_some h
    obtain ⟨h1, h2⟩ := instrs_get hc
    refine ⟨by simp [h1], fun i o' ho => ?_⟩
    cases i with
    | zero => simp at ho; subst ho; exact ⟨ai, rfl, hi⟩
    | succ i => simpa using h2 i o' (by simpa using ho)
theorem filter_lt {p q : Nat → Bool} {i : Nat} : ∀ {l : List Nat}, (∀ x, q x = true → p x = true) → i ∈ l → p i = true → q i = false → (l.filter q).length < (l.filter p).length
  | [], _, h, _, _ => by simp at h
  | x :: l, hpq, h, hp, hq => by
    have mono : ∀ l : List Nat, (l.filter q).length ≤ (l.filter p).length := by
      intro l
      induction l with
      | nil => simp
      | cons y l ih =>
        by_cases hy : q y = true
        · simp [hy, hpq y hy]; exact ih
        · by_cases hy' : p y = true
          · simp [hy, hy']; omega
          · simp [hy, hy']; exact ih
    by_cases e : x = i
    · subst e
      simp [hp, hq]
      have := mono l; omega
    · have hi : i ∈ l := by simpa [Ne.symm e] using h
      have ih := filter_lt hpq hi hp hq
      by_cases hy : q x = true
      · simp [hy, hpq x hy]; exact ih
      · by_cases hy' : p x = true
        · simp [hy, hy']; omega
        · simp [hy, hy']; exact ih
def doneD (listed : Array Bool) (j : Nat) : Prop := listed.getD j false = true
structure DInv (C : Cx) (n N : Nat) (ops : Array Oper) (ais : List AI) (ld : List Bool) (E0 : Env) (H : Nat → List Ob) (V : Nat → AV) (listed : Array Bool) (a : Act) (w : World) (k : Nat) (ρ : Nat → RV) (Ed : Env) : Prop where
  size : listed.size = N
  le : k ≤ N
  closed : ∀ (i : Nat) (o : Oper), ops[i]? = some o → doneD listed i → ∀ e ∈ dirs o, doneD listed e
  loud : ∀ j, j < N → ld.getD j false = true → (doneD listed j ↔ j < k)
  val : ∀ j d, doneD listed j → dstAt ais j = some d → getT d Ed = V j
  old : ∀ t, (∀ j, doneD listed j → dstAt ais j ≠ some t) → getT t Ed = getT t E0
  st : StR C ρ n Ed (H k) a w
theorem mem_dirs {o : Oper} {j : Nat} : j ∈ dirs o ↔ ∃ e ∈ o.after, Region.binds .any e = true ∧ e.on = j := by
  simp only [dirs, List.mem_map, List.mem_filter, Array.mem_toList_iff]
  constructor
  · rintro ⟨e, ⟨h1, h2⟩, h3⟩; exact ⟨e, h1, h2, h3⟩
  · rintro ⟨e, h1, h2, h3⟩; exact ⟨e, ⟨h1, h2⟩, h3⟩
theorem done_set {listed : Array Bool} {i j : Nat} (hi : i < listed.size) : doneD (listed.setIfInBounds i true) j ↔ doneD listed j ∨ j = i := by
  unfold doneD
  by_cases e : j = i
  · subst e; simp [hi]
  · rw [getD_set_ne false (Ne.symm e)]; simp [e]
mutual
theorem SV.plain_ren {v : SV} (f : Nat → Option Nat) (h : v.plain = true) : v.ren f = v := by
  cases v <;> first | rfl | simp [SV.plain] at h
theorem plainL_ren (f : Nat → Option Nat) : ∀ {l : List SV}, plainL l = true → renL f l = l
  | [], _ => rfl
  | v :: l, h => by
    simp only [plainL, Bool.and_eq_true] at h
    simp only [renL, SV.plain_ren f h.1, plainL_ren f h.2]
end
mutual
theorem AV.plain_ren (f : Nat → Option Nat) : ∀ {v : AV}, v.plain = true → v.ren f = v
  | .one v, h => by simp only [AV.plain] at h; simp only [AV.ren, SV.plain_ren f h]
  | .agg l, h => by simp only [AV.plain] at h; simp only [AV.ren, plainL_ren f h]
  | .tup l, h => by simp only [AV.plain] at h; simp only [AV.ren, plainT_ren f h]
theorem plainT_ren (f : Nat → Option Nat) : ∀ {l : List AV}, plainT l = true → renT f l = l
  | [], _ => rfl
  | v :: l, h => by
    simp only [plainT, Bool.and_eq_true] at h
    simp only [renT, AV.plain_ren f h.1, plainT_ren f h.2]
end
theorem SV.plain_back {v : SV} (cs : List SV) (h : v.plain = true) : v.back cs = v := by
  cases v <;> first | rfl | simp [SV.plain] at h
theorem plainL_back (cs : List SV) : ∀ {l : List SV}, plainL l = true → backL cs l = l
  | [], _ => rfl
  | v :: l, h => by
    simp only [plainL, Bool.and_eq_true] at h
    simp only [backL, SV.plain_back cs h.1, plainL_back cs h.2]
mutual
theorem AV.plain_back (cs : List SV) : ∀ {v : AV}, v.plain = true → v.back cs = v
  | .one v, h => by simp only [AV.plain] at h; simp only [AV.back, SV.plain_back cs h]
  | .agg l, h => by simp only [AV.plain] at h; simp only [AV.back, plainL_back cs h]
  | .tup l, h => by simp only [AV.plain] at h; simp only [AV.back, plainT_back cs h]
theorem plainT_back (cs : List SV) : ∀ {l : List AV}, plainT l = true → backT cs l = l
  | [], _ => rfl
  | v :: l, h => by
    simp only [plainT, Bool.and_eq_true] at h
    simp only [backT, AV.plain_back cs h.1, plainT_back cs h.2]
end
theorem SV.plain_lend {v : SV} (hp : List Ob) (ks : List Nat) (t : Nat) (h : v.plain = true) : v.lend hp ks t = v := by
  cases v <;> first | rfl | simp [SV.plain] at h
theorem plainL_lend (hp : List Ob) (ks : List Nat) : ∀ {l : List SV} (t : Nat), plainL l = true → lendL hp ks t l = l
  | [], _, _ => rfl
  | v :: l, t, h => by
    simp only [plainL, Bool.and_eq_true] at h
    simp only [lendL, SV.plain_lend hp ks t h.1, plainL_lend hp ks (t + 1) h.2]
theorem plainArgs_lend (hp : List Ob) (ks : List Nat) : ∀ {l : List AV} (t : Nat), plainArgs l = true → lendArgs hp ks t l = l
  | [], _, _ => rfl
  | .one v :: l, t, h => by
    simp only [plainArgs, Bool.and_eq_true] at h
    simp only [lendArgs, AV.lend, AV.ren, SV.plain_lend hp ks t h.1, SV.plain_ren _ h.1, plainArgs_lend hp ks _ h.2]
  | .agg m :: l, t, h => by
    simp only [plainArgs, Bool.and_eq_true] at h
    simp only [lendArgs, AV.lend, AV.ren, plainL_lend hp ks t h.1, plainL_ren _ h.1, plainArgs_lend hp ks _ h.2]
  | .tup _ :: _, _, h => by simp [plainArgs] at h
theorem plainL_append : ∀ {l m : List SV}, plainL l = true → plainL m = true → plainL (l ++ m) = true
  | [], _, _, h => h
  | v :: l, m, h, h' => by
    simp only [plainL, List.cons_append, Bool.and_eq_true] at h ⊢
    exact ⟨h.1, plainL_append h.2 h'⟩
theorem plainArgs_cells : ∀ {l : List AV}, plainArgs l = true → plainL (avsCells l) = true
  | [], _ => rfl
  | .one v :: l, h => by
    simp only [plainArgs, Bool.and_eq_true] at h
    simp only [avsCells, avCells]
    exact plainL_append (by simp [plainL, h.1]) (plainArgs_cells h.2)
  | .agg m :: l, h => by
    simp only [plainArgs, Bool.and_eq_true] at h
    simp only [avsCells, avCells]
    exact plainL_append h.1 (plainArgs_cells h.2)
  | .tup _ :: _, h => by simp [plainArgs] at h
theorem plain_reachSV {v : SV} (h : v.plain = true) (hp : List Ob) (n : Nat) (ks : List Nat) : reachSV hp n v ks = ks := by
  cases v <;> first | (simp [SV.plain] at h; done) | (cases n <;> simp only [reachSV])
theorem plain_reach (hp : List Ob) : ∀ {l : List SV} (n : Nat) (ks : List Nat), plainL l = true → reachL hp n (handed l) ks = ks
  | [], n, ks, _ => by cases n <;> simp only [handed, reachL]
  | v :: l, n, ks, h => by
    simp only [plainL, Bool.and_eq_true] at h
    have e : handed (v :: l) = v :: handed l := by
      have h1 := h.1
      cases v <;> first | (simp [SV.plain] at h1; done) | rfl
    rw [e]
    cases n with
    | zero => simp only [reachL]
    | succ n => simp only [reachL, plain_reachSV h.1]; exact plain_reach hp n ks h.2
theorem pure_call {hp hp1 : List Ob} {f : Nat} {args : List AV} {v : AV} (h : pureCall Γ hp f args = some (v, hp1)) : callee Γ hp f args = some (v, hp1) := by
  unfold pureCall at h
  split at h
  · rename_i ha
    obtain ⟨h1, h2, rfl⟩ := plainOut_some' h
    have hk : handKs hp1 args = [] := plain_reach hp1 64 [] (plainArgs_cells ha)
    unfold callee callKs
    rw [hk, plainArgs_lend hp1 [] 0 ha]
    have e : tagAll false 0 (pick hp1 (posF []) []) = [] := rfl
    rw [e, h1]
    simp only [comeBack, AV.plain_back _ h2, AV.plain_ren _ h2, killAll, layBack]
  · simp at h
theorem toP_step {ai : AI} {env : Env} {hp hp1 : List Ob} {v : AV} (h : stepI Γ env hp (toP ai) = some (v, hp1)) : stepI Γ env hp ai = some (v, hp1) := by
  obtain ⟨d, g, op⟩ := ai
  cases op <;> try exact h
  rename_i f l
  have run : ∀ {hp1 : List Ob} {v : AV}, evOp Γ env hp (.pcall f l) = some (v, hp1) → evOp Γ env hp (.call f l) = some (v, hp1) := fun h => by
    simp only [evOp] at h ⊢; exact pure_call h
  cases g with
  | none => exact run h
  | some g =>
    obtain ⟨t, b⟩ := g
    simp only [toP, stepI] at h ⊢
    generalize getT t env = c at h ⊢
    unfold stepG at h ⊢
    split at h <;> try exact h
    split at h
    · rename_i hb; rw [if_pos hb]; exact run h
    · rename_i hb; rw [if_neg hb]; exact h
theorem toP_dst (ai : AI) : (toP ai).dst = ai.dst := by
  obtain ⟨d, g, op⟩ := ai
  cases op <;> rfl
theorem draw_any {N : Nat} {ops : Array Oper} {ais : List AI} {ld : List Bool} {anc : List (List Nat)} {ck : List (Nat × List Nat)} {E : Nat → Env} {H : Nat → List Ob} {V : Nat → AV} {hs : List (List Ob)} {rts : List SV}
    (hΓ : ∀ f, Sound C.P f (Γ f)) (hN : ops.size = N) (hi : ∀ (i : Nat) (o : Oper), ops[i]? = some o → ∃ ai, ais[i]? = some ai ∧ ∃ ai0, cInstr C.P n ops o = some ai0 ∧ ai0.dst = ai.dst ∧ ∀ (env : Env) (hp hp1 : List Ob) (v : AV), stepI Γ env hp ai = some (v, hp1) → stepI Γ env hp ai0 = some (v, hp1)) (S : Static N ops.toList ais ld anc ck)
    (hstep : ∀ (i : Nat) (ai : AI), ais[i]? = some ai → stepI Γ (E i) (H i) ai = some (V i, H (i + 1)) ∧ E (i + 1) = putE (E i) ai.dst (V i))
    (hrank : ∀ k, k ≤ N → hs.getD (rank ld k) [] = H k)
    (hck : ∀ c ∈ ck, ∀ ai, ais[c.1]? = some ai → ∃ d, ai.dst = some d ∧ ∀ r ∈ c.2, ∃ hp', stepI Γ (E N) (hs.getD r []) ai = some (getT d (E N), hp')) :
    ∀ (fuel : Nat) (listed : Array Bool) (a : Act) (w : World) (k : Nat) (ρ : Nat → RV) (Ed : Env), ((List.range N).filter fun j => !listed.getD j false).length ≤ fuel → DInv C n N ops ais ld (E 0) H V listed a w k ρ Ed →
      wpAny C.P .any ops (QR C n .norm ⟨E N, rts, H N⟩) fuel listed a w := by
  -- ahead: what the order cannot touch
  have un : ∀ i, i < N → ∃ ai, ais[i]? = some ai := fun i h => ⟨_, List.getElem?_eq_getElem (by rw [S.len]; exact h)⟩
  have uo : ∀ i, i < N → ∃ o, ops[i]? = some o := fun i h => ⟨_, Array.getElem?_eq_getElem (by omega)⟩
  have dlt : ∀ j d, dstAt ais j = some d → j < N := by
    intro j d h
    unfold dstAt at h
    obtain ⟨ai, h, _⟩ := bind_some h
    have := (List.getElem?_eq_some_iff.1 h).1
    rw [S.len] at this; exact this
  have uniq : ∀ i j d, dstAt ais i = some d → dstAt ais j = some d → i = j := by
    intro i j d h1 h2
    rcases Nat.lt_trichotomy i j with h | h | h
    · exact absurd h1 (S.dst j i d (dlt _ _ h2) h h2)
    · exact h
    · exact absurd h2 (S.dst i j d (dlt _ _ h1) h h1)
  have dstE : ∀ i ai, ais[i]? = some ai → dstAt ais i = ai.dst := fun i ai h => by simp [dstAt, h]
  have look : ∀ i, i ≤ N → ∀ t, ((∀ j, j < i → dstAt ais j ≠ some t) → getT t (E i) = getT t (E 0)) ∧ (∀ j, j < i → dstAt ais j = some t → getT t (E i) = V j) := by
    intro i
    induction i with
    | zero => intro _ t; exact ⟨fun _ => rfl, fun j hj => by omega⟩
    | succ i ih =>
      intro hle t
      obtain ⟨ai, hai⟩ := un i (by omega)
      rw [(hstep i ai hai).2]
      have hd := dstE i ai hai
      obtain ⟨h1, h2⟩ := ih (by omega) t
      refine ⟨fun h => ?_, fun j hj e => ?_⟩
      · cases e : ai.dst with
        | none => simp only [putE]; exact h1 fun j hj => h j (by omega)
        | some d =>
          simp only [putE, getT]
          rw [if_neg (by rintro rfl; exact h i (by omega) (by rw [hd, e]))]
          exact h1 fun j hj => h j (by omega)
      · by_cases hji : j = i
        · subst hji
          rw [hd] at e; rw [e]; simp [putE, getT]
        · cases e' : ai.dst with
          | none => simp only [putE]; exact h2 j (by omega) e
          | some d =>
            simp only [putE, getT]
            rw [if_neg (by rintro rfl; exact hji (uniq j i t e (by rw [hd, e'])))]
            exact h2 j (by omega) e
  have lookN : ∀ i, i ≤ N → ∀ t, (∀ j, j < N → i ≤ j → dstAt ais j ≠ some t) → getT t (E N) = getT t (E i) := by
    intro i hi t h
    by_cases hex : ∃ j, j < N ∧ dstAt ais j = some t
    · obtain ⟨j, hj, e⟩ := hex
      have hji : j < i := Nat.lt_of_not_le fun h' => h j hj h' e
      rw [(look N (Nat.le_refl _) t).2 j hj e, (look i hi t).2 j hji e]
    · have h' : ∀ j, j < N → dstAt ais j ≠ some t := fun j hj e => hex ⟨j, hj, e⟩
      rw [(look N (Nat.le_refl _) t).1 h', (look i hi t).1 fun j hj => h' j (by omega)]
  have quiet : ∀ i k, k ≤ i → i ≤ N → (∀ j, k ≤ j → j < i → ld.getD j false = false) → H i = H k := by
    intro i k hki
    induction hki with
    | refl => intros; rfl
    | @step m hkm ih =>
      intro hN' hq
      obtain ⟨ai, hai⟩ := un m (by omega)
      have hl := hq m hkm (by omega)
      have hk2 : opKind ai.op ≠ 2 := fun e => by rw [(S.kind m ai hai).2 e] at hl; cases hl
      rw [quiet_step hk2 (hstep m ai hai).1]
      exact ih (by omega) fun j h1 h2 => hq j h1 (by omega)
  have anc_done : ∀ (listed : Array Bool), listed.size = N → (∀ (i : Nat) (o : Oper), ops[i]? = some o → doneD listed i → ∀ e ∈ dirs o, doneD listed e) → ∀ i, doneD listed i → ∀ j ∈ anc.getD i [], doneD listed j := by
    intro listed hsz hcl i
    induction i using Nat.strongRecOn with
    | _ i ih =>
      intro hd j hj
      have hiN : i < N := by
        rcases Nat.lt_or_ge i N with h | h
        · exact h
        · unfold doneD at hd; rw [Array.getD_eq_getD_getElem?, Array.getElem?_eq_none (by omega)] at hd; cases hd
      obtain ⟨o, ho⟩ := uo i hiN
      obtain ⟨h1, h2⟩ := S.edge i hiN o (by simpa using ho)
      rcases h2 j hj with h | ⟨e, he, h⟩
      · exact hcl i o ho hd j h
      · exact ih e (h1 e he) (hcl i o ho hd e he) j h
  -- when all is done
  have fin : ∀ (listed : Array Bool) (a : Act) (w : World) (k : Nat) (ρ : Nat → RV) (Ed : Env), DInv C n N ops ais ld (E 0) H V listed a w k ρ Ed → (∀ j, j < N → doneD listed j) → QR C n .norm ⟨E N, rts, H N⟩ .normal a w := by
    intro listed a w k ρ Ed I hall
    have hH : H N = H k := quiet N k I.le (Nat.le_refl _) fun j h1 h2 => by
      cases hl : ld.getD j false
      · rfl
      · have := (I.loud j h2 hl).1 (hall j h2); omega
    refine ⟨rfl, ρ, ⟨fun t => ?_, by rw [hH]; exact I.st.heap, I.st.fr, I.st.size, I.st.defers⟩⟩
    have hT : getT t (E N) = getT t Ed := by
      by_cases hex : ∃ j, j < N ∧ dstAt ais j = some t
      · obtain ⟨j, hj, e⟩ := hex
        rw [(look N (Nat.le_refl _) t).2 j hj e, I.val j t (hall j hj) e]
      · rw [(look N (Nat.le_refl _) t).1 fun j hj e => hex ⟨j, hj, e⟩, I.old t fun j hd e => hex ⟨j, dlt j t e, e⟩]
    rw [hT, hH]
    exact I.st.env t
  have rdy : ∀ (listed : Array Bool), listed.size = N → Region.ready .any ops listed = [] → ∀ j, j < N → doneD listed j := by
    intro listed hsz hr j
    induction j using Nat.strongRecOn with
    | _ j ih =>
      intro hj
      obtain ⟨o, ho⟩ := uo j hj
      cases hd : listed.getD j false with
      | true => exact hd
      | false =>
        exfalso
        have : j ∈ Region.ready .any ops listed := by
          rw [mem_ready]
          refine ⟨?_, o, ho, fun e he hb => ?_⟩
          · rw [Array.getD_eq_getD_getElem?, Array.getElem?_eq_getElem (by omega)] at hd ⊢; exact hd
          · have hlt := (S.edge j hj o (by simpa using ho)).1 e.on (mem_dirs.2 ⟨e, he, hb, rfl⟩)
            exact ih e.on hlt (by omega)
        rw [hr] at this; cases this
  intro fuel
  induction fuel with
  | zero =>
    intro listed a w k ρ Ed hf I
    have hall : ∀ j, j < N → doneD listed j := by
      intro j hj
      cases hd : listed.getD j false with
      | true => exact hd
      | false =>
        have : j ∈ (List.range N).filter fun j => !listed.getD j false := by simp only [List.mem_filter, List.mem_range, hd]; exact ⟨hj, rfl⟩
        have := List.length_pos_of_mem this
        omega
    refine ⟨?_, fin listed a w k ρ Ed I hall⟩
    cases hr : Region.ready .any ops listed with
    | nil => rfl
    | cons x xs =>
      exfalso
      have hx : x ∈ Region.ready .any ops listed := by rw [hr]; simp
      obtain ⟨h0, o, ho, _⟩ := mem_ready.1 hx
      have hxN : x < N := by have := (Array.getElem?_eq_some_iff.1 ho).1; omega
      have := hall x hxN
      unfold doneD at this
      rw [Array.getD_eq_getD_getElem?, Array.getElem?_eq_getElem (by rw [I.size]; exact hxN)] at h0 this
      simp at h0 this; rw [h0] at this; cases this
  | succ fuel ihf =>
    intro listed a w k ρ Ed hf I
    refine ⟨fun hr => fin listed a w k ρ Ed I (rdy listed I.size hr), fun i hir => ?_⟩
    obtain ⟨h0, o, ho, hedges⟩ := mem_ready.1 hir
    have hiN : i < N := by have := (Array.getElem?_eq_some_iff.1 ho).1; omega
    have hnd : ¬ doneD listed i := by
      unfold doneD
      rw [Array.getD_eq_getD_getElem?, Array.getElem?_eq_getElem (by rw [I.size]; exact hiN)] at h0 ⊢
      simp at h0 ⊢; exact h0
    obtain ⟨ai, hai, ai0, hci, hd0, href⟩ := hi i o ho
    have hdirs : ∀ e ∈ dirs o, doneD listed e := fun e he => by
      obtain ⟨x, h1, h2, rfl⟩ := mem_dirs.1 he
      exact hedges x h1 h2
    have hanc : ∀ j ∈ anc.getD i [], doneD listed j := fun j hj => by
      rcases (S.edge i hiN o (by simpa using ho)).2 j hj with h | ⟨e, he, h⟩
      · exact hdirs j h
      · exact anc_done listed I.size I.closed e (hdirs e he) j h
    have hback : ∀ j, doneD listed j → i ∈ anc.getD j [] → False := fun j hd hj => hnd (anc_done listed I.size I.closed j hd i hj)
    -- what the operation looks at is what it was in the text's order
    have look_i : ∀ t ∈ aiT ai, getT t Ed = getT t (E i) := by
      intro t ht
      by_cases hex : ∃ j, j < N ∧ dstAt ais j = some t
      · obtain ⟨j, hj, e⟩ := hex
        have old : ¬ doneD listed j → i ≤ j → getT t Ed = getT t (E i) := fun hd hle => by
          rw [I.old t fun j' hd' e' => hd (uniq j' j t e' e ▸ hd'), (look i (by omega) t).1 fun j' hj' e' => by have := uniq j' j t e' e; omega]
        rcases S.tmp i ai hai t ht j hj e with h | ⟨h1, h2⟩ | ⟨h1, h2⟩
        · exact old (h ▸ hnd) (by omega)
        · rw [I.val j t (hanc j h2) e, (look i (by omega) t).2 j h1 e]
        · exact old (fun hd => hback j hd h2) (by omega)
      · rw [I.old t fun j hd e => hex ⟨j, dlt j t e, e⟩, (look i (by omega) t).1 fun j hj e => hex ⟨j, by omega, e⟩]
    obtain ⟨hs1, hs2⟩ := hstep i ai hai
    -- what it comes to
    have run : ∃ k', k' ≤ N ∧ stepI Γ Ed (H k) ai = some (V i, H k') ∧ (∀ j, j < N → ld.getD j false = true → (doneD listed j ∨ j = i ↔ j < k')) := by
      have hcong : ∀ h, stepI Γ Ed h ai = stepI Γ (E i) h ai := fun h => step_congr look_i h
      have hkind := S.kind i ai hai
      by_cases h2 : opKind ai.op = 2
      · have hl := hkind.2 h2
        have hki : k ≤ i := Nat.le_of_not_lt fun h => hnd ((I.loud i hiN hl).2 h)
        have hH : H i = H k := quiet i k hki (by omega) fun j h1 h3 => by
          cases e : ld.getD j false
          · rfl
          · have := (I.loud j (by omega) e).1 (hanc j (S.loud i j hiN h3 hl e)); omega
        refine ⟨i + 1, hiN, by rw [hcong, ← hH]; exact hs1, fun j hj e => ⟨?_, fun hj' => ?_⟩⟩
        · rintro (h | h)
          · have := (I.loud j hj e).1 h; omega
          · omega
        · by_cases hji : j = i
          · exact .inr hji
          · exact .inl (hanc j (S.loud i j hiN (by omega) hl e))
      · have hl : ld.getD i false = false := by
          cases e : ld.getD i false
          · rfl
          · exact absurd (hkind.1 e) h2
        refine ⟨k, I.le, ?_, fun j hj e => ?_⟩
        · rw [hcong]
          by_cases h3 : opKind ai.op = 0
          · exact (pure_step h3 hs1).2 _
          · have h1 : opKind ai.op = 1 := by
              have : opKind ai.op ≤ 2 := by
                unfold opKind; split <;> first | omega | skip
                all_goals (split <;> omega)
              omega
            obtain ⟨hr, hr2⟩ := S.read i ai hai h1
            rcases hr k I.le with h | h | ⟨c, hc, hci', hck'⟩
            · exfalso
              simp only [offD, Bool.or_eq_true, List.any_eq_true, Bool.and_eq_true, decide_eq_true_eq, List.mem_range] at h
              rcases h with ⟨j, hj, hlj, hkj⟩ | ⟨j, hj, ⟨hlj, hkj⟩, hij⟩
              · have hjd := hanc j hj
                have hjN : j < N := by
                  rcases Nat.lt_or_ge j N with h | h
                  · exact h
                  · unfold doneD at hjd; rw [Array.getD_eq_getD_getElem?, Array.getElem?_eq_none (by rw [I.size]; omega)] at hjd; cases hjd
                have := (I.loud j hjN hlj).1 hjd
                omega
              · exact hback j ((I.loud j hj hlj).2 hkj) (by simpa using hij)
            · have hH : H k = H i := by rw [← hrank k I.le, ← hrank i (by omega), h]
              have hq : H (i + 1) = H i := quiet_step h2 hs1
              rw [hH]; rw [hq] at hs1; exact hs1
            · obtain ⟨d, hd, hrun⟩ := hck c hc ai (by rw [hci']; exact hai)
              obtain ⟨hp4, h4⟩ := hrun _ hck'
              rw [hrank k I.le] at h4
              obtain rfl := quiet_step h2 h4
              rw [step_congr (env' := E i) fun t ht => lookN i (by omega) t fun j hj hij => hr2 ⟨c, hc, hci'⟩ t ht j hj hij] at h4
              rw [h4, (look N (Nat.le_refl _) d).2 i hiN (by rw [dstE i ai hai, hd])]
        · constructor
          · rintro (h | h)
            · exact (I.loud j hj e).1 h
            · subst h; rw [hl] at e; cases e
          · intro h; exact .inl ((I.loud j hj e).2 h)
    obtain ⟨k', hk', hrun, hloud⟩ := run
    obtain ⟨hdc, hdst0, _, _⟩ := instr_inv hci
    have hdst : ai.dst = o.dst := by rw [← hd0]; exact hdst0
    have hsz : i < listed.size := by rw [I.size]; exact hiN
    have key := step_ok (K := wpAny C.P .any ops (QR C n .norm ⟨E N, rts, H N⟩) fuel (listed.setIfInBounds i true)) (Q := QR C n .norm ⟨E N, rts, H N⟩) hΓ hci I.st (href _ _ _ _ hrun) (fun ρ' u w' h1 h2 h3 h4 h5 => by
      refine ihf _ _ _ k' ρ' (putE Ed o.dst (V i)) ?_ ⟨by simp [I.size], hk', fun j o' ho' hd e he => ?_, fun j hj e => ?_, fun j d hd e => ?_, fun t ht => ?_, I.st.next h1 h2 h3 h4 h5 hdc⟩
      · have : ((List.range N).filter fun j => !(listed.setIfInBounds i true).getD j false).length < ((List.range N).filter fun j => !listed.getD j false).length := by
          refine filter_lt (i := i) (fun x hx => ?_) (List.mem_range.2 hiN) ?_ ?_
          · simp only [Bool.not_eq_true'] at hx ⊢
            cases e : listed.getD x false
            · rfl
            · rw [getD_set_true e] at hx; cases hx
          · simp only [Bool.not_eq_true']
            cases e : listed.getD i false
            · rfl
            · exact absurd e hnd
          · simp only [Bool.not_eq_false']
            exact (done_set hsz).2 (.inr rfl)
        omega
      · rw [done_set hsz] at hd ⊢
        rcases hd with hd | rfl
        · exact .inl (I.closed j o' ho' hd e he)
        · rw [ho] at ho'; simp at ho'; subst ho'
          exact .inl (hdirs e he)
      · rw [done_set hsz]; exact hloud j hj e
      · rw [done_set hsz] at hd
        have hdi := dstE i ai hai
        by_cases hji : j = i
        · subst hji
          rw [hdi, hdst] at e
          rw [e]; simp [putE, getT]
        · have hd' : doneD listed j := hd.resolve_right hji
          cases e' : o.dst with
          | none => simp only [putE]; exact I.val j d hd' e
          | some d' =>
            simp only [putE, getT]
            rw [if_neg (by rintro rfl; exact hji (uniq j i d e (by rw [hdi, hdst, e'])))]
            exact I.val j d hd' e
      · have hdi := dstE i ai hai
        cases e' : o.dst with
        | none => simp only [putE]; exact I.old t fun j hd => ht j ((done_set hsz).2 (.inl hd))
        | some d' =>
          simp only [putE, getT]
          rw [if_neg (by rintro rfl; exact ht i ((done_set hsz).2 (.inr rfl)) (by rw [hdi, hdst, e']))]
          exact I.old t fun j hd => ht j ((done_set hsz).2 (.inl hd)))
    unfold wpOp
    rw [ho]
    simp only
    split
    · rename_i hw; rw [if_pos hw] at key; exact .inl key
    · rename_i hw; rw [if_neg hw] at key; exact key
theorem ckKs_mem {env : Env} {hs : List (List Ob)} {ai : AI} {v : AV} : ∀ {ks : List Nat}, ckKs Γ env hs ai v ks = true → ∀ r ∈ ks, ∃ hp', stepI Γ env (hs.getD r []) ai = some (v, hp')
  | [], _, r, h => by simp at h
  | k :: ks, h, r, hr => by
    simp only [ckKs, Bool.and_eq_true] at h
    rcases List.mem_cons.1 hr with e | e
    · subst e
      have h1 := h.1
      unfold ckR at h1
      split at h1
      · cases h1
      · rename_i u hp' e; rw [e, AV.same_eq h1]; exact ⟨hp', rfl⟩
    · exact ckKs_mem h.2 r e
theorem ckAll_mem {l : List (AI × Bool)} {env : Env} {hs : List (List Ob)} : ∀ {cs : List (Nat × List Nat)}, ckAll Γ l env hs cs = true → ∀ c ∈ cs, ckAt Γ env hs c.2 l[c.1]? = true
  | [], _, c, h => by simp at h
  | x :: cs, h, c, hc => by
    simp only [ckAll, Bool.and_eq_true] at h
    rcases List.mem_cons.1 hc with e | e
    · subst e; exact h.1
    · exact ckAll_mem h.2 c e
theorem zip_get {ais : List AI} {ld : List Bool} (hl : ais.length = ld.length) {i : Nat} {ai : AI} (h : ais[i]? = some ai) : (ais.zip ld)[i]? = some (ai, ld.getD i false) := by
  have := (List.getElem?_eq_some_iff.1 h).1
  rw [List.getElem?_zip_eq_some]
  exact ⟨h, by simp [List.getD, List.getElem?_eq_getElem (show i < ld.length by omega)]⟩
theorem draw_ok {K : Nat} {id : Nat} {ops : Array Oper} {ais : List AI} {ac : AC} {st st' : St} {ex : Ex} {ρ : Nat → RV} {a : Act} {w : World} (hΓ : ∀ f, Sound C.P f (Γ f)) (hm : C.P.follows .mixedOrders = true) (hi : ∀ (i : Nat) (o : Oper), ops[i]? = some o → ∃ ai, ais[i]? = some ai ∧ ∃ ai0, cInstr C.P n ops o = some ai0 ∧ ai0.dst = ai.dst ∧ ∀ (env : Env) (hp hp1 : List Ob) (v : AV), stepI Γ env hp ai = some (v, hp1) → stepI Γ env hp ai0 = some (v, hp1)) (hc : drawD ops.toList ais = some ac)
    (hst : StR C ρ n st.env st.hp a w) (h : evC Γ K ac st = some (ex, st')) : (Code.region id ops true).wp C.P (QR C n ex st') a w := by
  unfold drawD at hc
  generalize (ais.map fun a => decide (opKind a.op = 2)) = ld at hc
  generalize ancL ops.toList [] = anc at hc
  generalize ckOf ops.toList.length ais ld anc = ck at hc
  unfold drawC at hc
  split at hc
  · rename_i hok
    simp at hc; subst hc
    have S := static_of hok
    have hN : ops.toList.length = ops.size := by simp
    rw [hN] at S
    have hlen : ais.length = ld.length := by rw [S.len, S.llen]
    simp only [evC] at h
    unfold normC at h
    split at h
    · simp at h
    · rename_i st1 hs1
      simp at h; obtain ⟨rfl, rfl⟩ := h
      unfold finD at hs1
      split at hs1
      · simp at hs1
      · rename_i envN hpN hsN hev
        split at hs1
        · rename_i hck
          simp at hs1; subst hs1
          obtain ⟨E, H, V, e1, e2, e3, e4, e5, e6⟩ := trace_of _ _ _ _ _ _ _ hev (fun p hp hb => by
            obtain ⟨i, hi'⟩ := List.getElem?_of_mem hp
            rw [List.getElem?_zip_eq_some] at hi'
            obtain ⟨h1, h2⟩ := hi'
            intro e
            have := (S.kind i p.1 h1).2 e
            simp [List.getD, h2, hb] at this) ⟨[], rfl⟩
          have hzl : (ais.zip ld).length = ops.size := by simp [S.len, S.llen]
          rw [hzl] at e3 e4 e6
          have hmap : (ais.zip ld).map (·.2) = ld := by
            rw [List.map_snd_zip (by omega)]
          rw [hmap] at e6
          subst e3 e4
          refine wp_region_any hm ?_
          refine draw_any (hs := hsN) (anc := anc) (ck := ck) (V := V) hΓ rfl hi S (fun i ai hai => ?_) (fun k hk => ?_) (fun c hc ai hai => ?_) ops.size _ a _ 0 ρ st.env ?_ ?_
          · exact e5 i _ (zip_get hlen hai)
          · have := e6 k hk
            simp at this
            simp [List.getD, this]
          · have := ckAll_mem hck c hc
            rw [zip_get hlen hai] at this
            obtain ⟨dst, g, op⟩ := ai
            cases dst with
            | none => cases this
            | some d => exact ⟨d, rfl, fun r hr => ckKs_mem this r hr⟩
          · exact Nat.le_trans (List.length_filter_le _ _) (by simp)
          · have hno : ∀ j, ¬ doneD (Array.replicate ops.size false) j := by
              intro j h
              unfold doneD at h
              rw [Array.getD_eq_getD_getElem?, Array.getElem?_replicate] at h
              split at h <;> simp at h
            refine ⟨by simp, Nat.zero_le _, fun i o ho hd => absurd hd (hno i), fun j hj e => ⟨fun h => absurd h (hno j), fun h => by omega⟩, fun j d hd => absurd hd (hno j), fun t _ => by rw [e1], ?_⟩
            rw [e2]
            exact ⟨hst.env, hst.heap.drew, hst.fr.drew, hst.size, hst.defers⟩
        · simp at hs1
  · simp at hc
theorem drawE_ok {K : Nat} {id : Nat} {ops : Array Oper} {ais : List AI} {ac : AC} {st st' : St} {ex : Ex} {ρ : Nat → RV} {a : Act} {w : World} (hΓ : ∀ f, Sound C.P f (Γ f)) (hm : C.P.follows .mixedOrders = true) (hi : cInstrs C.P n ops ops.toList = some ais) (hc : drawE ops.toList ais = some ac)
    (hst : StR C ρ n st.env st.hp a w) (h : evC Γ K ac st = some (ex, st')) : (Code.region id ops true).wp C.P (QR C n ex st') a w := by
  have hget : ∀ (i : Nat) (o : Oper), ops[i]? = some o → ∃ ai, ais[i]? = some ai ∧ cInstr C.P n ops o = some ai := fun i o ho => (instrs_get hi).2 i o (by simpa using ho)
  unfold drawE at hc
  split at hc
  · rename_i ac' hc'
    simp at hc; subst hc
    refine draw_ok hΓ hm (fun i o ho => ?_) hc' hst h
    obtain ⟨ai, h1, h2⟩ := hget i o ho
    exact ⟨ai, h1, ai, h2, rfl, fun _ _ _ _ h => h⟩
  · refine draw_ok hΓ hm (fun i o ho => ?_) hc hst h
    obtain ⟨ai, h1, h2⟩ := hget i o ho
    exact ⟨toP ai, by rw [List.getElem?_map, h1]; rfl, ai, h2, (toP_dst ai).symm, fun _ _ _ _ h => toP_step h⟩
end
section
variable {C : Cx} {n n' : Nat} {ρ ρ' : Nat → RV} {s : Nat}
def Poison (ρ : Nat → RV) (s : Nat) : Prop := (ρ s).hdr = .bool false
mutual
theorem VR.fill (hs : Poison ρ s) (he : ∀ k, k ≠ s → ρ' k = ρ k) : ∀ {v : SV} {u : Value}, VR C n ρ v u → VR C n ρ' v u
  | _, _, .undef v => .undef v
  | _, _, .int k x => .int k x
  | _, _, .bool b => .bool b
  | _, _, .str t => .str t
  | _, _, .nilp => .nilp
  | _, _, .nilf => .nilf
  | _, _, .nils c h hw => .nils c h hw
  | _, _, .ro t c a cap h hc => .ro t c a cap h hc
  | _, _, .rptr t c i o b q h hi => .rptr t c i o b q h hi
  | _, _, .fn g caps cs h => .fn g _ cs (VRL.fill hs he h)
  | _, _, .ptr k o b hk h => by
    have e := he k (by rintro rfl; rw [hs] at h; cases h)
    exact .ptr k o b hk (by rw [e]; exact h)
  | _, _, .eptr k i o b q m cap hk h hi => by
    have e := he k (by rintro rfl; rw [hs] at h; cases h)
    rw [← e]; exact .eptr k i o b q m cap hk (by rw [e]; exact h) hi
  | _, _, .row k a m cap hk h => by
    have e := he k (by rintro rfl; rw [hs] at h; cases h)
    exact .row k a m cap hk (by rw [e]; exact h)
  | _, _, .viewNil k hk h => by
    have e := he k (by rintro rfl; rw [hs] at h; cases h)
    exact .viewNil k hk (by rw [e]; exact h)
  | _, _, .view k o m b q len cap q' hk h hl hc hq hq' => by
    have e := he k (by rintro rfl; rw [hs] at h; cases h)
    exact .view k o m b q len cap q' hk (by rw [e]; exact h) hl hc (by rw [e]; exact hq) (by rw [e]; exact hq')
  | _, _, .cview k o m b q cap hk h hq hc => by
    have e := he k (by rintro rfl; rw [hs] at h; cases h)
    exact .cview k o m b q cap hk (by rw [e]; exact h) hq hc
theorem VRL.fill (hs : Poison ρ s) (he : ∀ k, k ≠ s → ρ' k = ρ k) : ∀ {l : List SV} {vs : List Value}, VRL C n ρ l vs → VRL C n ρ' l vs
  | _, _, .nil => .nil
  | _, _, .cons a v l vs h hl => .cons a v l vs (VR.fill hs he h) (VRL.fill hs he hl)
end
mutual
theorem AVR.fill (hs : Poison ρ s) (he : ∀ k, k ≠ s → ρ' k = ρ k) : ∀ {v : AV} {u : Value}, AVR C n ρ v u → AVR C n ρ' v u
  | _, _, .one a v h => .one a v (VR.fill hs he h)
  | _, _, .agg l vs h => .agg l vs (VRL.fill hs he h)
  | _, _, .tup l vs h => .tup l vs (AVRL.fill hs he h)
theorem AVRL.fill (hs : Poison ρ s) (he : ∀ k, k ≠ s → ρ' k = ρ k) : ∀ {l : List AV} {vs : List Value}, AVRL C n ρ l vs → AVRL C n ρ' l vs
  | _, _, .nil => .nil
  | _, _, .cons a v l vs h hl => .cons a v l vs (AVR.fill hs he h) (AVRL.fill hs he hl)
end
def mvKey (L s k : Nat) : Option Nat := if k = L then some s else if k = s then none else some k
def fillR (ρ : Nat → RV) (s : Nat) (r : RV) (k : Nat) : RV := if k = s then r else ρ k
theorem mvTurn {L : Nat} (hs : s < L) : Turn (L + 1) L ρ (fillR ρ s (ρ L)) (mvKey L s) := by
  refine ⟨fun k j hk e => ?_⟩
  unfold mvKey at e
  split at e
  · rename_i h; subst h
    simp at e; subst e
    exact ⟨hs, by simp [fillR], fun _ => by simp [fillR]⟩
  · rename_i h
    split at e
    · cases e
    · rename_i h2
      simp at e; subst e
      exact ⟨by omega, by simp [fillR, h2], fun _ => by simp [fillR, h2]⟩
theorem fillR_ne {r : RV} {k : Nat} (h : k ≠ s) : fillR ρ s r k = ρ k := by simp [fillR, h]
def slotHp (hp : List Ob) (L s : Nat) : List Ob := ((hp.take L).map (Ob.ren (mvKey L s))).set s ((Ob.ofOpt hp[L]?).ren (mvKey L s))
theorem slotHp_get {hp : List Ob} {L s k : Nat} {o : Ob} (hl : hp.length = L + 1) (hs : s < L) (h : (slotHp hp L s)[k]? = some o) : k < L ∧ ∃ o', hp[if k = s then L else k]? = some o' ∧ o = o'.ren (mvKey L s) := by
  unfold slotHp at h
  rw [List.getElem?_set] at h
  by_cases e : s = k
  · subst e
    have hlt : s < ((hp.take L).map (Ob.ren (mvKey L s))).length := by simp [hl]; omega
    simp only [if_true, hlt] at h
    simp only [Option.some.injEq] at h
    refine ⟨hs, hp[L], by simp, ?_⟩
    rw [← h, List.getElem?_eq_getElem (by omega)]; rfl
  · rw [if_neg e] at h
    simp only [List.getElem?_map, Option.map_eq_some_iff] at h
    obtain ⟨o', ho, rfl⟩ := h
    rw [List.getElem?_take] at ho
    split at ho
    · rename_i hk
      exact ⟨hk, o', by rw [if_neg (Ne.symm e)]; exact ho, rfl⟩
    · cases ho
theorem slotHp_length {hp : List Ob} {L s : Nat} (hl : hp.length = L + 1) : (slotHp hp L s).length = L := by simp [slotHp, hl]
theorem HR.slot {hp : List Ob} {w : World} {L : Nat} (h : HR C ρ hp w) (hl : hp.length = L + 1) (hs : s < L) : HR C (fillR ρ s (ρ L)) (slotHp hp L s) w := by
  have hρ : ∀ k, fillR ρ s (ρ L) k = ρ (if k = s then L else k) := fun k => by unfold fillR; split <;> rfl
  refine ⟨fun k o ho => ?_, fun j k b hjk hj hk hb => ?_⟩
  · obtain ⟨hk, o', ho', rfl⟩ := slotHp_get hl hs ho
    rw [slotHp_length hl]
    have h1 := h.ob _ _ ho'
    rw [hl] at h1
    exact ob_ren (mvTurn hs) (hρ k) h1
  · have key : ∀ k, alive (slotHp hp L s) k → k < L ∧ alive hp (if k = s then L else k) := by
      intro k hk
      obtain ⟨o, ho, hd⟩ := hk
      obtain ⟨hk, o', ho', rfl⟩ := slotHp_get hl hs ho
      exact ⟨hk, o', ho', by rintro rfl; exact hd rfl⟩
    obtain ⟨j1, a1⟩ := key j hj
    obtain ⟨k1, a2⟩ := key k hk
    rw [hρ] at hb ⊢
    refine h.ne _ _ b ?_ a1 a2 hb
    intro e
    split at e <;> split at e <;> omega
theorem killAll_length : ∀ (S : List Nat) (hp : List Ob), (killAll hp S).length = hp.length
  | [], _ => rfl
  | k :: S, hp => by simp only [killAll]; rw [killAll_length S]; simp
theorem killAll_get {k : Nat} : ∀ {S : List Nat} (hp : List Ob), k ∉ S → (killAll hp S)[k]? = hp[k]?
  | [], _, _ => rfl
  | x :: S, hp, h => by
    simp only [killAll]
    rw [killAll_get (S := S) _ (fun e => h (by simp [e])), List.getElem?_set_ne (fun e => h (by simp [e]))]
theorem killAll_set {k : Nat} {o : Ob} : ∀ {S : List Nat} (hp : List Ob), k ∉ S → killAll (hp.set k o) S = (killAll hp S).set k o
  | [], _, _ => rfl
  | x :: S, hp, h => by
    simp only [killAll]
    rw [List.set_comm _ _ (fun e => h (by simp [e])), killAll_set (S := S) _ (fun e => h (by simp [e]))]
theorem killAll_append {l : List Ob} : ∀ {S : List Nat} (hp : List Ob), (∀ k ∈ S, k < hp.length) → killAll (hp ++ l) S = killAll hp S ++ l
  | [], _, _ => rfl
  | x :: S, hp, h => by
    simp only [killAll]
    rw [List.set_append_left _ _ (h x (by simp)), killAll_append (S := S) _ (fun k hk => by simpa using h k (by simp [hk]))]
def keyIn (S : List Nat) : SV → Prop
  | .ptr k _ => k ∈ S
  | .eptr k _ _ => k ∈ S
  | .row k => k ∈ S
  | .view k _ _ => k ∈ S
  | .cview k _ _ => k ∈ S
  | _ => False
theorem VR.not_in {S : List Nat} (hS : ∀ k ∈ S, Poison ρ k) {v : SV} {u : Value} (h : VR C n ρ v u) : ¬ keyIn S v := by
  cases h <;> simp only [keyIn, not_false_eq_true] <;> intro hk <;> (have e := hS _ hk; unfold Poison at e; rename_i h; first | (rw [h] at e; cases e) | skip)
  all_goals simp_all
theorem sizeOf_kill {S : List Nat} (hp : List Ob) {v : SV} (h : ¬ keyIn S v) : sizeOf (killAll hp S) v = sizeOf hp v := by
  cases v <;> simp only [keyIn] at h <;> simp only [sizeOf]
  all_goals rw [killAll_get _ h]
theorem lenOf_kill {S : List Nat} (hp : List Ob) {v : SV} (h : ¬ keyIn S v) : lenOf (killAll hp S) v = lenOf hp v := by
  cases v <;> simp only [keyIn] at h <;> simp only [lenOf]
  all_goals rw [killAll_get _ h]
theorem content_kill {S : List Nat} (hp : List Ob) {v : SV} (h : ¬ keyIn S v) : content (killAll hp S) v = content hp v := by
  cases v <;> simp only [keyIn] at h <;> simp only [content]
  all_goals rw [killAll_get _ h]
theorem loadOne_kill {S : List Nat} (hp : List Ob) {v : SV} (h : ¬ keyIn S v) : loadOne (killAll hp S) v = loadOne hp v := by
  cases v <;> simp only [keyIn] at h <;> simp only [loadOne]
  all_goals rw [killAll_get _ h]
theorem loadN_kill {S : List Nat} (hp : List Ob) (m : Nat) {v : SV} (h : ¬ keyIn S v) : Go.X.loadN (killAll hp S) m v = Go.X.loadN hp m v := by
  cases v <;> simp only [keyIn] at h <;> simp only [Go.X.loadN]
  all_goals rw [killAll_get _ h]
theorem mvKey_id {L k : Nat} (h1 : k < L) (h2 : k ≠ s) : mvKey L s k = some k := by
  unfold mvKey
  rw [if_neg (by omega), if_neg h2]
mutual
theorem VR.ren_id {L : Nat} (hs : Poison ρ s) : ∀ {v : SV} {u : Value}, VR C L ρ v u → v.ren (mvKey L s) = v
  | _, _, .undef v => rfl
  | _, _, .int k x => rfl
  | _, _, .bool b => rfl
  | _, _, .str t => rfl
  | _, _, .nilp => rfl
  | _, _, .nilf => rfl
  | _, _, .nils c h hw => rfl
  | _, _, .ro t c a cap h hc => rfl
  | _, _, .rptr t c i o b q h hi => rfl
  | _, _, .fn g caps cs h => by simp only [SV.ren]; rw [VRL.ren_id hs h]
  | _, _, .ptr k o b hk h => by
    simp only [SV.ren]; rw [mvKey_id hk (by rintro rfl; rw [hs] at h; cases h)]; rfl
  | _, _, .eptr k i o b q m cap hk h hi => by
    simp only [SV.ren]; rw [mvKey_id hk (by rintro rfl; rw [hs] at h; cases h)]; rfl
  | _, _, .row k a m cap hk h => by
    simp only [SV.ren]; rw [mvKey_id hk (by rintro rfl; rw [hs] at h; cases h)]; rfl
  | _, _, .viewNil k hk h => by
    simp only [SV.ren]; rw [mvKey_id hk (by rintro rfl; rw [hs] at h; cases h)]; rfl
  | _, _, .view k o m b q len cap q' hk h hl hc hq hq' => by
    simp only [SV.ren]; rw [mvKey_id hk (by rintro rfl; rw [hs] at h; cases h)]; rfl
  | _, _, .cview k o m b q cap hk h hq hc => by
    simp only [SV.ren]; rw [mvKey_id hk (by rintro rfl; rw [hs] at h; cases h)]; rfl
theorem VRL.ren_id {L : Nat} (hs : Poison ρ s) : ∀ {l : List SV} {vs : List Value}, VRL C L ρ l vs → renL (mvKey L s) l = l
  | _, _, .nil => rfl
  | _, _, .cons a v l vs h hl => by simp only [renL]; rw [VR.ren_id hs h, VRL.ren_id hs hl]
end
theorem ObR.ren_id {L k : Nat} {w : World} {o : Ob} (hs : Poison ρ s) (h : ObR C L ρ w k o) : o.ren (mvKey L s) = o := by
  cases o with
  | dead => rfl
  | rows g c => rfl
  | cells g l =>
    obtain ⟨b, T, cur, _, _, _, hv, _⟩ := h
    simp only [Ob.ren]; rw [VRL.ren_id hs hv]
theorem slotHp_new {hp : List Ob} {w : World} {o : Ob} (ho : ∀ f, o.ren f = o) (h : HR C ρ hp w) (hs : Poison ρ s) : slotHp (hp ++ [o]) hp.length s = hp.set s o := by
  unfold slotHp
  rw [List.take_left' rfl, List.getElem?_append_right (Nat.le_refl _), Nat.sub_self]
  have e : hp.map (Ob.ren (mvKey hp.length s)) = hp := by
    apply List.ext_getElem (by simp)
    intro k h1 h2
    rw [List.getElem_map]
    exact ObR.ren_id hs (h.ob k _ (List.getElem?_eq_getElem h2))
  rw [e]
  show hp.set s (o.ren (mvKey hp.length s)) = hp.set s o
  rw [ho]
theorem newRow_kill {S : List Nat} {hp hp1 : List Ob} {c : RC} {v : AV} (hS : ∀ k ∈ S, k < hp.length) (h : Go.X.newRow hp c = some (v, hp1)) : Go.X.newRow (killAll hp S) c = some (v, killAll hp1 S) := by
  simp only [Go.X.newRow, Option.some.injEq, Prod.mk.injEq] at h ⊢
  obtain ⟨rfl, rfl⟩ := h
  exact ⟨by rw [killAll_length], (killAll_append hp hS).symm⟩
theorem putR_kill {S : List Nat} {hp hp1 : List Ob} {c : Option RC} {v : AV} (hS : ∀ k ∈ S, k < hp.length) (h : putR hp c = some (v, hp1)) : putR (killAll hp S) c = some (v, killAll hp1 S) := by
  cases c with
  | none => simp [putR] at h
  | some c => exact newRow_kill hS h
theorem app3_kill {S : List Nat} {hp hp1 : List Ob} {c0 y : RC} {bytes k : Nat} {c : Option RC} {v : AV} (hS : ∀ k ∈ S, k < hp.length) (hk : k ∉ S) (h : app3 hp c0 bytes k y c = some (v, hp1)) : app3 (killAll hp S) c0 bytes k y c = some (v, killAll hp1 S) := by
  cases c with
  | none => simp [app3] at h
  | some c =>
    simp only [app3] at h ⊢
    split at h
    · rename_i hc
      rw [if_pos hc, ← killAll_set hp hk]
      exact putR_kill (fun j hj => by simpa using hS j hj) h
    · simp at h
theorem app2_kill {S : List Nat} {hp hp1 : List Ob} {c0 y : RC} {bytes : Nat} {s x : SV} {v : AV} (hS : ∀ k ∈ S, k < hp.length) (hs : ¬ keyIn S s) (h : app2 hp c0 bytes s x y = some (v, hp1)) : app2 (killAll hp S) c0 bytes s x y = some (v, killAll hp1 S) := by
  unfold app2 at h ⊢
  cases s with
  | nils c =>
    simp only at h ⊢
    split at h
    · rename_i hc; rw [if_pos hc]; exact putR_kill hS h
    · simp at h
  | row k =>
    simp only [keyIn] at hs
    simp only at h ⊢
    split at h
    · simp at h
    · rename_i hc; rw [if_neg hc, killAll_get _ hs]; exact app3_kill hS hs h
  | view k o n =>
    simp only [keyIn] at hs
    simp only at h ⊢
    split at h
    · simp at h
    · rename_i hc; rw [if_neg hc, killAll_get _ hs]; exact app3_kill hS hs h
  | _ => simp at h
theorem append_kill {S : List Nat} {hp hp1 : List Ob} {c0 : RC} {bytes : Nat} {s x : SV} {v : AV} (hS : ∀ k ∈ S, k < hp.length) (hs : ¬ keyIn S s) (hx : ¬ keyIn S x) (h : Go.X.append hp c0 bytes s x = some (v, hp1)) : Go.X.append (killAll hp S) c0 bytes s x = some (v, killAll hp1 S) := by
  have e : source (killAll hp S) c0 x = source hp c0 x := by
    cases x <;> first | rfl | (simp only [source]; exact content_kill hp hx)
  unfold Go.X.append at h ⊢
  rw [e]
  cases hy : source hp c0 x with
  | none => rw [hy] at h; simp [app1] at h
  | some y =>
    rw [hy] at h
    simp only [app1] at h ⊢
    unfold app2 at h ⊢
    cases s with
    | nils c =>
      simp only at h ⊢
      split at h
      · rename_i hc; rw [if_pos hc]; exact putR_kill hS h
      · simp at h
    | row k =>
      simp only [keyIn] at hs
      simp only at h ⊢
      split at h
      · simp at h
      · rename_i hc; rw [if_neg hc, killAll_get _ hs]; exact app3_kill hS hs h
    | view k o n =>
      simp only [keyIn] at hs
      simp only at h ⊢
      split at h
      · simp at h
      · rename_i hc; rw [if_neg hc, killAll_get _ hs]; exact app3_kill hS hs h
    | _ => simp at h
mutual
def offS (S : List Nat) : SV → Prop
  | .ptr k _ => k ∉ S
  | .eptr k _ _ => k ∉ S
  | .row k => k ∉ S
  | .view k _ _ => k ∉ S
  | .cview k _ _ => k ∉ S
  | .fn _ caps => offSL S caps
  | _ => True
def offSL (S : List Nat) : List SV → Prop
  | [] => True
  | v :: l => offS S v ∧ offSL S l
end
mutual
theorem VR.off {S : List Nat} (hS : ∀ k ∈ S, Poison ρ k) : ∀ {v : SV} {u : Value}, VR C n ρ v u → offS S v
  | _, _, .undef v => trivial
  | _, _, .int k x => trivial
  | _, _, .bool b => trivial
  | _, _, .str t => trivial
  | _, _, .nilp => trivial
  | _, _, .nilf => trivial
  | _, _, .nils c h hw => trivial
  | _, _, .ro t c a cap h hc => trivial
  | _, _, .rptr t c i o b q h hi => trivial
  | _, _, .fn g caps cs h => VRL.off hS h
  | _, _, .ptr k o b hk h => fun hk' => by have e := hS _ hk'; unfold Poison at e; rw [h] at e; cases e
  | _, _, .eptr k i o b q m cap hk h hi => fun hk' => by have e := hS _ hk'; unfold Poison at e; rw [h] at e; cases e
  | _, _, .row k a m cap hk h => fun hk' => by have e := hS _ hk'; unfold Poison at e; rw [h] at e; cases e
  | _, _, .viewNil k hk h => fun hk' => by have e := hS _ hk'; unfold Poison at e; rw [h] at e; cases e
  | _, _, .view k o m b q len cap q' hk h hl hc hq hq' => fun hk' => by have e := hS _ hk'; unfold Poison at e; rw [h] at e; cases e
  | _, _, .cview k o m b q cap hk h hq hc => fun hk' => by have e := hS _ hk'; unfold Poison at e; rw [h] at e; cases e
theorem VRL.off {S : List Nat} (hS : ∀ k ∈ S, Poison ρ k) : ∀ {l : List SV} {us : List Value}, VRL C n ρ l us → offSL S l
  | _, _, .nil => trivial
  | _, _, .cons v u l us h hl => ⟨VR.off hS h, VRL.off hS hl⟩
end
def closedS (hp : List Ob) (S : List Nat) : Prop := ∀ (k : Nat) (g : Option Nat) (l : List SV), k ∉ S → hp[k]? = some (.cells g l) → offSL S l
mutual
theorem reachSV_kill {hp : List Ob} {S : List Nat} (hc : closedS hp S) : ∀ (f : Nat) (v : SV) (ks : List Nat), offS S v → (∀ k ∈ ks, k ∉ S) → reachSV (killAll hp S) f v ks = reachSV hp f v ks ∧ ∀ k ∈ reachSV hp f v ks, k ∉ S
  | 0, v, ks, _, h => by unfold reachSV; exact ⟨rfl, h⟩
  | f + 1, v, ks, hv, h => by
    have key : ∀ k, k ∉ S → (if ks.elem k then ks else reachOb (killAll hp S) f (killAll hp S)[k]? k ks) = (if ks.elem k then ks else reachOb hp f hp[k]? k ks) ∧ ∀ j ∈ (if ks.elem k then ks else reachOb hp f hp[k]? k ks), j ∉ S := by
      intro k hk
      split
      · exact ⟨rfl, h⟩
      · rw [killAll_get hp hk]
        exact reachOb_kill hc f hp[k]? k ks hk (fun g l e => hc k g l hk e) h
    cases v <;> simp only [reachSV] <;> first | exact ⟨rfl, h⟩ | exact ⟨trivial, h⟩ | exact key _ hv | skip
    case fn g caps => exact reachL_kill hc f caps ks hv h
theorem reachOb_kill {hp : List Ob} {S : List Nat} (hc : closedS hp S) : ∀ (f : Nat) (ob : Option Ob) (k : Nat) (ks : List Nat), k ∉ S → (∀ g l, ob = some (.cells g l) → offSL S l) → (∀ k ∈ ks, k ∉ S) → reachOb (killAll hp S) f ob k ks = reachOb hp f ob k ks ∧ ∀ j ∈ reachOb hp f ob k ks, j ∉ S
  | 0, ob, k, ks, hk, ho, h => by
    have h' : ∀ j ∈ ks ++ [k], j ∉ S := fun j hj => by
      rcases List.mem_append.1 hj with e | e
      · exact h j e
      · simp at e; subst e; exact hk
    cases ob with
    | none => simp only [reachOb]; exact ⟨trivial, h⟩
    | some o => cases o <;> simp only [reachOb] <;> first | exact ⟨trivial, h⟩ | exact ⟨trivial, h'⟩
  | f + 1, ob, k, ks, hk, ho, h => by
    have h' : ∀ j ∈ ks ++ [k], j ∉ S := fun j hj => by
      rcases List.mem_append.1 hj with e | e
      · exact h j e
      · simp at e; subst e; exact hk
    cases ob with
    | none => simp only [reachOb]; exact ⟨trivial, h⟩
    | some o =>
      cases o with
      | cells g l => simp only [reachOb]; exact reachL_kill hc f l _ (ho g l rfl) h'
      | rows g c => simp only [reachOb]; exact ⟨trivial, h'⟩
      | dead => simp only [reachOb]; exact ⟨trivial, h⟩
theorem reachL_kill {hp : List Ob} {S : List Nat} (hc : closedS hp S) : ∀ (f : Nat) (l : List SV) (ks : List Nat), offSL S l → (∀ k ∈ ks, k ∉ S) → reachL (killAll hp S) f l ks = reachL hp f l ks ∧ ∀ k ∈ reachL hp f l ks, k ∉ S
  | 0, l, ks, hl, h => by cases l <;> simp only [reachL] <;> exact ⟨trivial, h⟩
  | f + 1, [], ks, hl, h => by simp only [reachL]; exact ⟨trivial, h⟩
  | f + 1, v :: l, ks, hl, h => by
    obtain ⟨e1, e2⟩ := reachSV_kill hc f v ks hl.1 h
    simp only [reachL]; rw [e1]
    exact reachL_kill hc f l _ hl.2 e2
end
theorem lend_kill {hp : List Ob} {S : List Nat} (ks : List Nat) (t : Nat) {v : SV} (h : offS S v) : SV.lend (killAll hp S) ks t v = SV.lend hp ks t v := by
  cases v <;> simp only [offS] at h <;> simp only [SV.lend] <;> (try rw [killAll_get hp h])
theorem lendL_kill {hp : List Ob} {S : List Nat} (ks : List Nat) : ∀ (l : List SV) (t : Nat), offSL S l → lendL (killAll hp S) ks t l = lendL hp ks t l
  | [], t, h => rfl
  | v :: l, t, h => by simp only [lendL]; rw [lend_kill ks t h.1, lendL_kill ks l (t + 1) h.2]
theorem offSL_append {S : List Nat} : ∀ {l m : List SV}, offSL S (l ++ m) ↔ offSL S l ∧ offSL S m
  | [], m => by simp [offSL]
  | v :: l, m => by simp only [List.cons_append, offSL]; rw [offSL_append]; exact and_assoc.symm
theorem lendArgs_kill {hp : List Ob} {S : List Nat} (ks : List Nat) : ∀ (l : List AV) (t : Nat), offSL S (avsCells l) → lendArgs (killAll hp S) ks t l = lendArgs hp ks t l
  | [], t, h => rfl
  | v :: l, t, h => by
    simp only [avsCells] at h
    obtain ⟨h1, h2⟩ := offSL_append.1 h
    simp only [lendArgs]
    rw [lendArgs_kill ks l _ h2]
    congr 2
    cases v with
    | one v => simp only [AV.lend]; rw [lend_kill ks t h1.1]
    | agg m => simp only [AV.lend]; rw [lendL_kill ks m t h1]
    | tup m => simp only [AV.lend]
theorem pick_kill {hp : List Ob} {S : List Nat} (f : Nat → Option Nat) : ∀ (ks : List Nat), (∀ k ∈ ks, k ∉ S) → pick (killAll hp S) f ks = pick hp f ks
  | [], h => rfl
  | k :: ks, h => by simp only [pick]; rw [killAll_get hp (h k (by simp)), pick_kill f ks (fun j hj => h j (by simp [hj]))]
theorem killAll_at' {k : Nat} : ∀ {S : List Nat} (hp : List Ob), (killAll hp S)[k]? = if k ∈ S ∧ k < hp.length then some .dead else hp[k]?
  | [], hp => by simp [killAll]
  | x :: S, hp => by
    simp only [killAll]
    rw [killAll_at' (S := S)]
    by_cases e : k = x
    · subst e
      by_cases hk : k < hp.length
      · simp [hk]
      · simp [hk, List.getElem?_set]
    · simp [e, List.getElem?_set_ne (Ne.symm e)]
theorem killAll_comm (hp : List Ob) (S T : List Nat) : killAll (killAll hp S) T = killAll (killAll hp T) S := by
  apply List.ext_getElem?
  intro k
  simp only [killAll_at', killAll_length]
  by_cases h1 : k < hp.length <;> by_cases h2 : k ∈ S <;> by_cases h3 : k ∈ T <;> simp [h1, h2, h3]
theorem lay_kill {hp0 : List Ob} {S ks : List Nat} {f : Nat → Option Nat} {cs : List SV} (hk : ∀ i, ks.getD i 0 ∉ S) : ∀ (os M : List Ob), (∀ k ∈ S, k < M.length) → layBack (killAll hp0 S) ks f cs os (killAll M S) = killAll (layBack hp0 ks f cs os M) S
  | [], M, hS => rfl
  | .cells (some i) l :: os, M, hS => by
    simp only [layBack]
    rw [killAll_get hp0 (hk i), ← killAll_set M (hk i)]
    exact lay_kill hk os _ (fun k h => by simpa using hS k h)
  | .rows (some i) c :: os, M, hS => by
    simp only [layBack]
    rw [killAll_get hp0 (hk i), ← killAll_set M (hk i)]
    exact lay_kill hk os _ (fun k h => by simpa using hS k h)
  | .cells none l :: os, M, hS => by
    simp only [layBack]
    rw [← killAll_append M hS]
    exact lay_kill hk os _ (fun k h => by have := hS k h; simp; omega)
  | .rows none c :: os, M, hS => by
    simp only [layBack]
    rw [← killAll_append M hS]
    exact lay_kill hk os _ (fun k h => by have := hS k h; simp; omega)
  | .dead :: os, M, hS => by
    simp only [layBack]
    rw [← killAll_append M hS]
    exact lay_kill hk os _ (fun k h => by have := hS k h; simp; omega)
theorem call_kill {Γ : Nat → Callee} {m : Bool} {f : Nat} {args : List AV} {ks : List Nat} {S : List Nat} {hp hp1 : List Ob} {v : AV} (hS : ∀ k ∈ S, k < hp.length) (h0 : 0 ∉ S) (ha : offSL S (avsCells args)) (hks : ∀ k ∈ ks, k ∉ S)
    (h : callKs m Γ hp f args ks = some (v, hp1)) : callKs m Γ (killAll hp S) f args ks = some (v, killAll hp1 S) := by
  have hk : ∀ i, ks.getD i 0 ∉ S := by
    intro i
    by_cases hi : i < ks.length
    · rw [List.getD_eq_getElem?_getD, List.getElem?_eq_getElem hi]; exact hks _ (List.getElem_mem hi)
    · rw [List.getD_eq_getElem?_getD, List.getElem?_eq_none (by omega)]; exact h0
  unfold callKs at h ⊢
  rw [lendArgs_kill ks args 0 ha, pick_kill (posF ks) ks hks]
  unfold comeBack at h ⊢
  split at h
  · simp at h
  · rename_i r os e
    simp only [Option.some.injEq, Prod.mk.injEq] at h
    obtain ⟨rfl, rfl⟩ := h
    simp only [killAll_length]
    rw [killAll_comm, lay_kill hk os _ (fun k hk' => by rw [killAll_length]; exact hS k hk')]
theorem handed_off {S : List Nat} : ∀ {l : List SV}, offSL S l → offSL S (handed l)
  | [], h => h
  | v :: l, h => by
    have := handed_off h.2
    cases v <;> simp only [handed] <;> first | exact this | exact ⟨h.1, this⟩
def freeOp (env : Env) (S : List Nat) (hp : List Ob) : AOp → Prop
  | .load _ x => ¬ keyIn S (getS env x)
  | .b2s x => ¬ keyIn S (getS env x)
  | .cutR _ x _ _ => ¬ keyIn S (getS env x)
  | .iadrR _ x _ => ¬ keyIn S (getS env x)
  | .len x => ¬ keyIn S (getS env x)
  | .append _ _ x y => ¬ keyIn S (getS env x) ∧ ¬ keyIn S (getS env y)
  | .appZ _ _ _ x _ => ¬ keyIn S (getS env x)
  | .mks _ _ _ _ _ => True
  | .bslice _ _ _ _ => True
  | .newNil _ => True
  | .store _ x _ => ¬ keyIn S (getS env x)
  | .call _ l => offSL S (avsCells (getL env l)) ∧ closedS hp S ∧ 0 ∉ S
  | .callo _ l => offSL S (avsCells (getL env l)) ∧ closedS hp S ∧ 0 ∉ S
  | .calli _ l => offSL S (avsCells (getL env l)) ∧ closedS hp S ∧ 0 ∉ S
  | op => opKind op = 0
theorem op_kill {Γ : Nat → Callee} {env : Env} {S : List Nat} {op : AOp} {hp hp1 : List Ob} {v : AV} (hS : ∀ k ∈ S, k < hp.length) (hf : freeOp env S hp op) (h : evOp Γ env hp op = some (v, hp1)) : evOp Γ env (killAll hp S) op = some (v, killAll hp1 S) := by
  have zero : opKind op = 0 → evOp Γ env (killAll hp S) op = some (v, killAll hp1 S) := fun hk => by
    obtain ⟨e, h2⟩ := pure_op hk h
    subst e; exact h2 _
  cases op <;> first | exact zero hf | skip
  case load m x =>
    simp only [freeOp] at hf
    cases m with
    | none =>
      simp only [evOp] at h ⊢
      rw [loadOne_kill hp hf]
      unfold put1 at h ⊢
      split at h <;> simp at h ⊢
      obtain ⟨rfl, rfl⟩ := h; exact ⟨rfl, rfl⟩
    | some m =>
      simp only [evOp] at h ⊢
      rw [loadN_kill hp m hf]
      unfold putL at h ⊢
      split at h <;> simp at h ⊢
      obtain ⟨rfl, rfl⟩ := h; exact ⟨rfl, rfl⟩
  case len x =>
    simp only [freeOp] at hf
    simp only [evOp] at h ⊢
    rw [lenOf_kill hp hf]
    unfold oLen at h ⊢
    split at h <;> simp at h ⊢
    obtain ⟨rfl, rfl⟩ := h; exact ⟨rfl, rfl⟩
  case b2s x =>
    simp only [freeOp] at hf
    simp only [evOp] at h ⊢
    rw [content_kill hp hf]
    unfold oB2s at h ⊢
    split at h <;> simp at h ⊢
    obtain ⟨rfl, rfl⟩ := h; exact ⟨rfl, rfl⟩
  case append c0 b x y =>
    simp only [freeOp] at hf
    simp only [evOp] at h ⊢
    exact append_kill hS hf.1 hf.2 h
  case appZ c0 z b x y =>
    simp only [freeOp] at hf
    simp only [evOp] at h ⊢
    unfold oAppZ at h ⊢
    split at h
    · split at h
      · rename_i hc
        simp only [if_pos hc]
        generalize RC.ofElems c0 _ = q at h ⊢
        cases q with
        | none => simp [app1] at h
        | some q => simp only [app1] at h ⊢; exact app2_kill hS hf h
      · simp at h
    · simp at h
  case store m x y =>
    simp only [freeOp] at hf
    simp only [evOp] at h ⊢
    split at h
    · rename_i hc
      rw [if_pos hc]
      generalize getS env x = xv at hf h ⊢
      generalize (getO env y).cells = vs at h ⊢
      cases xv <;> simp only [keyIn] at hf <;> simp only [Go.X.storeCells] at h ⊢ <;> first | (simp [putH] at h; done) | skip
      case ptr k o =>
        rw [killAll_get hp hf]
        cases hk : hp[k]? with
        | none => simp [hk, storeP, putH] at h
        | some ob =>
          cases ob <;> simp only [hk, storeP] at h ⊢ <;> first | (simp [putH] at h; done) | skip
          split at h
          · rename_i hc2
            rw [if_pos hc2]
            simp only [putH, Option.some.injEq, Prod.mk.injEq] at h ⊢
            obtain ⟨rfl, rfl⟩ := h
            exact ⟨rfl, (killAll_set hp hf).symm⟩
          · simp [putH] at h
      case eptr k i o =>
        rw [killAll_get hp hf]
        cases hk : hp[k]? with
        | none => simp [hk, storeE, putH] at h
        | some ob =>
          cases ob <;> simp only [hk, storeE] at h ⊢ <;> first | (simp [putH] at h; done) | skip
          generalize setScs _ _ _ _ = q at h ⊢
          cases q with
          | none => simp [rowsH, putH] at h
          | some q =>
            simp only [rowsH, putH, Option.some.injEq, Prod.mk.injEq] at h ⊢
            obtain ⟨rfl, rfl⟩ := h
            exact ⟨rfl, (killAll_set hp hf).symm⟩
    · simp at h
  case call f l =>
    simp only [freeOp] at hf
    obtain ⟨h1, h2, h3⟩ := hf
    simp only [evOp, callee] at h ⊢
    obtain ⟨e1, e2⟩ := reachL_kill h2 64 (handed (avsCells (getL env l))) [] (handed_off h1) (by simp)
    have e : handKs (killAll hp S) (getL env l) = handKs hp (getL env l) := e1
    rw [e]
    exact call_kill hS h3 h1 e2 h
  case callo f l =>
    simp only [freeOp] at hf
    obtain ⟨h1, h2, h3⟩ := hf
    simp only [evOp] at h ⊢
    obtain ⟨e1, e2⟩ := reachL_kill h2 64 (avsCells (getL env l)) [] h1 (by simp)
    rw [e1]
    exact call_kill hS h3 h1 e2 h
  case calli f l =>
    simp only [freeOp] at hf
    obtain ⟨h1, h2, h3⟩ := hf
    simp only [evOp] at h ⊢
    obtain ⟨e1, e2⟩ := reachL_kill h2 64 (avsCells (getL env l)) [] h1 (by simp)
    rw [e1]
    exact call_kill hS h3 h1 e2 h
  case newNil c => simp only [evOp] at h ⊢; exact newRow_kill hS h
  case bslice c z m ps => simp only [evOp] at h ⊢; exact putR_kill hS h
  case mks c z b x y =>
    simp only [evOp] at h ⊢
    unfold oMks at h ⊢
    split at h
    · split at h
      · rename_i hc; rw [if_pos hc]; exact putR_kill hS h
      · simp at h
    · simp at h
  case cutR n x lo hi =>
    simp only [freeOp] at hf
    simp only [evOp] at h ⊢
    rw [sizeOf_kill hp hf, lenOf_kill hp hf]
    split at h
    · rename_i hc; rw [if_pos hc]
      unfold oCutR cutR2 put1 at h ⊢
      (repeat' split at h) <;> simp_all
    · simp at h
  case iadrR n x i =>
    simp only [freeOp] at hf
    simp only [evOp] at h ⊢
    rw [sizeOf_kill hp hf, lenOf_kill hp hf]
    split at h
    · rename_i hc; rw [if_pos hc]
      unfold oIadrR put1 at h ⊢
      (repeat' split at h) <;> simp_all
    · simp at h
end
end Go.X
