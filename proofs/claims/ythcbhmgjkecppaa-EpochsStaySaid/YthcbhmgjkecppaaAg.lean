import Derived.Test.YthcbhmgjkecppaaAf
set_option linter.unusedVariables false
set_option linter.unusedSimpArgs false
namespace Go.X
/-- What is appended: how many elements, and their cells, in whatever world that has this memory. -/
structure Src (P : Program) (w : World) (size : Nat) (x : Value) (n : Nat) (news : List Value) : Prop where
  len : ∀ W : World, (Builtin.lenOf x).run P W = .ok n W
  cells : ∀ W : World, W.heap = w.heap → (Builtin.firstCells size n x).run P W = .ok news.toArray W
  length : news.length = n * size
  one : ∀ v ∈ news, v.oneCell' = true
/-- What is appended: a slice, a string, or so many zeros. -/
def Srd (P : Program) (w : World) (i : TypeInfo) (d : TypeDesc) (x : Value) (n : Nat) (news : List Value) : Prop :=
  (((∃ e', d = .slice e') ∨ d = .string) ∧ Src P w i.size x n news) ∨
  ∃ k j z, d = .int k ∧ x = .int j n ∧ i.zero = some z ∧ z.cells.size = i.size ∧ 0 < i.size ∧ news = (Builtin.zeroCells z.cells n).toList ∧ n * i.bytes ≤ 140737488355328 ∧ n ≤ 140737488355328 ∧ news.length = n * i.size ∧ ∀ v ∈ news, v.oneCell' = true
theorem Srd.length {P : Program} {w : World} {i : TypeInfo} {d : TypeDesc} {x : Value} {n : Nat} {news : List Value} (S : Srd P w i d x n news) : news.length = n * i.size := by
  rcases S with ⟨_, S⟩ | ⟨k, j, z, _, _, _, _, _, _, _, _, h, _⟩
  · exact S.length
  · exact h
theorem Srd.one {P : Program} {w : World} {i : TypeInfo} {d : TypeDesc} {x : Value} {n : Nat} {news : List Value} (S : Srd P w i d x n news) : ∀ v ∈ news, v.oneCell' = true := by
  rcases S with ⟨_, S⟩ | ⟨k, j, z, _, _, _, _, _, _, _, _, _, h⟩
  · exact S.one
  · exact h
section
variable {P : Program} {w : World} {t u ty e : TypeId} {i : TypeInfo} {z : Value} {d : TypeDesc} {x : Value} {n : Nat} {news : List Value}
theorem append_zero (ht : P.underlying t = some (.slice e)) (hu : P.underlying u = some d) (hi : P.info? e = some i) (S : Srd P w i d x 0 news) :
    (Builtin.append_ #[t, u] ty #[.slice none 0 0, x]).run P w = .ok (.slice none 0 0) w := by
  rcases S with ⟨hd, S⟩ | ⟨k, j, z', rfl, rfl, hz', _, _, _, _, _, _, _⟩
  · have h1 := S.len w
    have h2 := S.cells w rfl
    rcases hd with ⟨e', rfl⟩ | rfl <;> simp [Builtin.append_, run_underlying ht, run_underlying hu, Go.sizeOf, typeInfo, hi, h1, h2]
  · have h0 : IntKind.i64.wrap (0 : Int) = 0 := by decide
    simp [Builtin.append_, run_underlying ht, run_underlying hu, Go.sizeOf, typeInfo, hi, asInt, asIntOf, h0]
theorem append_room (ht : P.underlying t = some (.slice e)) (hu : P.underlying u = some d) (hi : P.info? e = some i) (S : Srd P w i d x n news) {b q m cap : Nat} {cur : Array Value} {T : TypeId} {fr : Nat × Nat}
    (hb : w.heap[b]? = some (.cells cur T fr)) (hf : ∀ (j : Nat), j < cur.size → ¬ (fr.1 ≤ j ∧ j < fr.2)) (hroom : m + n ≤ cap) (hfit : q + m * i.size + news.length ≤ cur.size) :
    ∃ w', (Builtin.append_ #[t, u] ty #[.slice (some ⟨b, q, none⟩) m cap, x]).run P w = .ok (.slice (some ⟨b, q, none⟩) (m + n) cap) w' ∧ w'.heap[b]? = some (.cells (layV cur.toList (q + m * i.size) news).toArray T fr) ∧ SameBut w w' b := by
  obtain ⟨w', hr, hb', hs⟩ := run_lay P b (q + m * i.size) T fr news 0 cur w hb hf (by simpa using hfit) S.one
  refine ⟨w', ?_, by simpa using hb', hs⟩
  rcases S with ⟨hd, S⟩ | ⟨k, j, z', rfl, rfl, hz', hzs, hsz, rfl, hnb, hn, _, _⟩
  · have h1 := S.len w
    have h2 := S.cells w rfl
    rcases hd with ⟨e', rfl⟩ | rfl <;> simp [Builtin.append_, run_underlying ht, run_underlying hu, Go.sizeOf, typeInfo, hi, h1, h2, hroom, Addr.add_lit, hr]
  · have h0 : IntKind.i64.wrap (n : Int) = n := Go.IntWalk.i64_in _ (by omega)
    have h3 : ¬ (n : Int) < 0 := by omega
    have h4 : ¬ 281474976710656 < (n : Int) * (i.bytes : Int) := by
      have : ((n * i.bytes : Nat) : Int) = (n : Int) * (i.bytes : Int) := by simp
      omega
    by_cases hn0 : n = 0
    · subst hn0
      have e0 : (Builtin.zeroCells z'.cells 0).toList = [] := by simp [Builtin.zeroCells]
      rw [e0] at hr
      simp [Builtin.append_, run_underlying ht, run_underlying hu, Go.sizeOf, typeInfo, hi, asInt, asIntOf, show IntKind.i64.wrap (0 : Int) = 0 from by decide, show m ≤ cap from by omega, Addr.add_lit, hr]
    · have h5 : ¬ (n * i.size = 0) := by
        intro h; rcases Nat.mul_eq_zero.1 h with h | h <;> omega
      have h6 : ¬ i.size = 0 := by omega
      simp [Builtin.append_, run_underlying ht, run_underlying hu, Go.sizeOf, typeInfo, hi, asInt, asIntOf, h0, h3, h4, h5, h6, hn0, hroom, zeroValue, hz', Addr.add_lit, hr]
theorem append_grow (ht : P.underlying t = some (.slice e)) (hu : P.underlying u = some d) (hi : P.info? e = some i) (hz : i.zero = some z) (S : Srd P w i d x n news) {ad : Option Addr} {m cap : Nat} {olds : List Value}
    (hlo : olds.length = m * i.size) (holds : ∀ W : World, W.heap = w.heap → (Builtin.firstCells i.size m (.slice ad m cap)).run P W = .ok olds.toArray W) (hg : cap < m + n) (hb1 : 0 < i.bytes) (hb : (m + n) * i.bytes ≤ 140737488355328) :
    (Builtin.append_ #[t, u] ty #[.slice ad m cap, x]).run P w = .ok (.slice (some ⟨w.heap.size, 0, none⟩) (m + n) (grownCap w (m + n) cap e))
        (w.drew.alloc (.cells (olds.toArray ++ news.toArray ++ Builtin.zeroCells z.cells (grownCap w (m + n) cap e - (m + n))) e)) := by
  have hmn : m + n ≤ 140737488355328 := by
    have : (m + n) * 1 ≤ (m + n) * i.bytes := Nat.mul_le_mul_left _ hb1
    omega
  have hn : ¬ (m + n ≤ cap) := by omega
  have h63' : ¬ (9223372036854775807 < ((m : Int) + (n : Int))) := by omega
  have h48' : ¬ (281474976710656 < Builtin.nextslicecap (m + n) cap * i.bytes) := by have := growslice_fits hg hb; omega
  have h3 := holds w.drew rfl
  have hb0 : i.bytes ≠ 0 := by omega
  rcases S with ⟨hd, S⟩ | ⟨k, j, z', rfl, rfl, hz', hzs, hsz, rfl, hnb, hnn, _, _⟩
  · have h1 := S.len w
    have h2 := S.cells w.drew rfl
    rcases hd with ⟨e', rfl⟩ | rfl
    · simp [Builtin.append_, run_underlying ht, run_underlying hu, Go.sizeOf, typeInfo, zeroValue, hi, hz, h1, hn, h63', h48', Question.forced, h2, h3, Go.newRow, grownCap]
      congr 2
      apply Array.ext'
      simp [List.append_assoc]
    · simp [Builtin.append_, run_underlying ht, run_underlying hu, Go.sizeOf, typeInfo, zeroValue, hi, hz, h1, hn, h63', h48', Question.forced, h2, h3, Go.newRow, grownCap]
      congr 2
      apply Array.ext'
      simp [List.append_assoc]
  · obtain rfl : z = z' := by rw [hz] at hz'; simpa using hz'
    have h0 : IntKind.i64.wrap (n : Int) = n := Go.IntWalk.i64_in _ (by omega)
    have h5 : ¬ (n : Int) < 0 := by omega
    have h4 : ¬ 281474976710656 < (n : Int) * (i.bytes : Int) := by
      have : ((n * i.bytes : Nat) : Int) = (n : Int) * (i.bytes : Int) := by simp
      omega
    have hkk : ¬ (9223372036854775807 < (m : Int) + (n : Int)) := by omega
    by_cases hn0 : n = 0
    · subst hn0
      have e0 : (Builtin.zeroCells z.cells 0) = #[] := by simp [Builtin.zeroCells]
      have hm' : ¬ m ≤ cap := by omega
      rw [Nat.add_zero] at h48' ⊢
      have h63'' : ¬ (9223372036854775807 < (m : Int)) := by omega
      simp [Builtin.append_, run_underlying ht, run_underlying hu, Go.sizeOf, typeInfo, zeroValue, hi, hz, asInt, asIntOf, show IntKind.i64.wrap (0 : Int) = 0 from by decide, hm', h63'', IntKind.max, IntKind.signed, IntKind.bits, h48', Question.forced, h3, Go.newRow, grownCap, e0]
    · have h7 : ¬ (n * i.size = 0) := by
        intro h; rcases Nat.mul_eq_zero.1 h with h | h <;> omega
      have h6 : ¬ i.size = 0 := by omega
      simp [Builtin.append_, run_underlying ht, run_underlying hu, Go.sizeOf, typeInfo, zeroValue, hi, hz, asInt, asIntOf, h0, h5, h4, h7, h6, hn0, hn, hkk, h63', IntKind.max, IntKind.signed, IntKind.bits, h48', Question.forced, h3, Go.newRow, grownCap]
end
section
variable {C : Cx} {ρ : Nat → RV} {hp : List Ob} {o : Oper} {a : Act} {w w' : World} {env : Env}
theorem HR.dead (h : HR C ρ hp w) (k : Nat) : HR C ρ (hp.set k .dead) w := h.setOb (k := k) (o := .dead) trivial (fun h => absurd rfl h)
theorem bytes_vals (s : ByteArray) : (s.data.map fun b => Value.int .u8 b.toNat) = (RC.ints .u8 (toBytes s)).vals.toArray := by
  simp only [RC.vals, toBytes, List.map_map]
  rw [← Array.toArray_toList (xs := s.data.map fun b => Value.int .u8 b.toNat), Array.toList_map]
  rfl
theorem vals_one {y : RC} (hw : y.wf) : ∀ u ∈ y.vals, u.oneCell' = true := by
  intro u hu
  obtain ⟨j, hj⟩ := List.mem_iff_getElem?.1 hu
  exact (RC.val_at hw hj).2
theorem src_content {y : RC} {s : SV} {v : Value} (hH : HR C ρ hp w) (hF : FR C w) (hv : VR C hp.length ρ s v) (h : content hp s = some y) : y.wf ∧ Src C.P w y.size v y.len y.vals := by
  obtain ⟨hw, ad, cap, rfl, hcell⟩ := content_ok' hH hF hv h
  refine ⟨hw, ⟨fun W => by simp [Builtin.lenOf], fun W hW => ?_, RC.vals_length hw, vals_one hw⟩⟩
  rcases Nat.eq_zero_or_pos y.len with h0 | h0
  · have hv0 : y.vals = [] := List.eq_nil_of_length_eq_zero (by rw [RC.vals_length hw, h0, Nat.zero_mul])
    rw [hv0, h0]
    cases ad with
    | none => simp [Builtin.firstCells]
    | some ad => simp [Builtin.firstCells, loadCells, loadCellsFrom]
  · obtain ⟨b, q, rfl, hc⟩ := hcell h0
    refine run_firstCells_some W y.size y.len ⟨b, q, none⟩ y.len cap y.vals (RC.vals_length hw) (fun j u hu => ?_)
    rw [Addr.add_lit]
    have := hc j u hu
    simpa [World.cell?, hW] using this
theorem src_ok {c0 y : RC} {s : SV} {v : Value} (hH : HR C ρ hp w) (hF : FR C w) (hv : VR C hp.length ρ s v) (h : source hp c0 s = some y) : y.wf ∧ Src C.P w y.size v y.len y.vals := by
  cases s with
  | str b =>
    simp only [source] at h
    split at h <;> simp at h
    subst h
    cases hv
    have hl : (RC.ints .u8 (toBytes b)).len = b.size := by simp [RC.len, toBytes]
    refine ⟨trivial, ⟨fun W => by simp [Builtin.lenOf, hl], fun W _ => ?_, RC.vals_length (c := .ints .u8 (toBytes b)) trivial, vals_one (y := .ints .u8 (toBytes b)) trivial⟩⟩
    rw [hl]
    simp only [Builtin.firstCells]
    rw [← bytes_vals]
    simp [ByteArray.extract_zero_size]
  | _ => exact src_content hH hF hv h
/-- A row that an append leaves: the elder one is no more. -/
theorem good_app {c : RC} {k : Nat} {v : Value} {w1 : World} {r : RV} (hr : (execOp a.eval o).run C.P w = .ok (.value v) w1) (hH : HR C ρ (hp.set k .dead) w1) (hF : FR C w1) (hv : v = r.hdr) (hs : ∃ ad m cap, r.hdr = .slice ad m cap)
    (hob : ObR C (hp.length + 1) (up ρ hp.length r) w1 hp.length (.rows none c)) (hne : ∀ j b, alive (hp.set k .dead) j → blkOf (ρ j).hdr = some b → blkOf r.hdr ≠ some b) : Good C ρ hp o a w (.one (.row hp.length), hp.set k .dead ++ [.rows none c]) := by
  have hl : (hp.set k .dead).length = hp.length := by simp
  have hn := hH.push (o := .rows none c) (r := r) (by rw [hl]; exact hob) hne
  rw [hl] at hn
  refine good_value hr _ (by simp) (up_ext _ _ _) ?_ hn hF
  obtain ⟨ad, m, cap, e⟩ := hs
  simp only [List.length_append, List.length_set, List.length_cons, List.length_nil, Nat.zero_add]
  rw [hv, e]
  exact .one _ _ (.row _ _ _ _ (Nat.lt_succ_self _) (by rw [up_at]; exact e))
end
end Go.X
