import Derived.Deep.Slices
import Derived.Deep.Fields
import Derived.ChangeSame
import Derived.SizedLaws
import Derived.Test.YtemhdllnhgefkaaZ4
set_option linter.unusedVariables false
set_option linter.unusedSimpArgs false
set_option maxRecDepth 100000
namespace Go.X
open Go.RowKit Go.ChangeShapes Go.ChangeAt Go.WideShapes Go.Deep
/-! ### an argument that is a slice, as what it reads -/
theorem list_of {α : Type} {p : Nat → α → Prop} : ∀ (n : Nat), (∀ i, i < n → ∃ a, p i a) → ∃ zs : List α, zs.length = n ∧ ∀ (i : Nat) (a : α), zs[i]? = some a → p i a
  | 0, _ => ⟨[], rfl, fun i a h => by simp at h⟩
  | n + 1, h => by
    obtain ⟨zs, hl, hz⟩ := list_of n (fun i hi => h i (by omega))
    obtain ⟨a, ha⟩ := h n (by omega)
    refine ⟨zs ++ [a], by simp [hl], fun i b hb => ?_⟩
    by_cases hi : i < n
    · rw [List.getElem?_append_left (by omega)] at hb
      exact hz i b hb
    · have hlt := (List.getElem?_eq_some_iff.1 hb).1
      simp only [List.length_append, List.length_cons, List.length_nil] at hlt
      have hin : i = n := by omega
      subst hin
      rw [← hl, List.getElem?_concat_length] at hb
      simp only [Option.some.injEq] at hb
      subst hb
      exact ha
theorem flat_at {α β : Type} {g : α → List β} {s : Nat} {u : β} : ∀ {zs : List α} {j : Nat}, (∀ a ∈ zs, (g a).length = s) → (zs.flatMap g)[j]? = some u → ∃ i r a, j = i * s + r ∧ r < s ∧ zs[i]? = some a ∧ (g a)[r]? = some u
  | [], j, _, h => by simp at h
  | a :: zs, j, hs, h => by
    have ha := hs a (by simp)
    rw [List.flatMap_cons] at h
    by_cases hj : j < s
    · rw [List.getElem?_append_left (by omega)] at h
      exact ⟨0, j, a, by simp, hj, rfl, h⟩
    · rw [List.getElem?_append_right (by omega), ha] at h
      obtain ⟨i, r, b, h1, h2, h3, h4⟩ := flat_at (zs := zs) (fun b hb => hs b (by simp [hb])) h
      exact ⟨i + 1, r, b, by rw [Nat.add_mul]; omega, h2, by simpa using h3, h4⟩
section
variable {H : Type} {enc : TypeId × Value → H} {P : Program} {W : World} {spare : Nat → Bool} {held : Bool}
theorem open_ro {α : Type} (enc' : α → List Sc) (mkc : List α → RC) (Q : α → Prop) {t e : TypeId} {v : Value} {d : DataW H} {ps : List MemPlace} {r : Reach} {b0 : Nat}
    (hsz : ∀ a, Q a → (enc' a).length = P.cellsOf e) (hv : ∀ zs, (mkc zs).vals = zs.flatMap fun a => (enc' a).map Sc.val) (hl : ∀ zs, (mkc zs).len = zs.length)
    (hw : ∀ zs, (∀ a ∈ zs, Q a) → (mkc zs).wf) (hel : ∀ (fuel : Nat) (cs : List Value) (x : DataW H × List MemPlace), DataW.trod enc P W 0 spare held fuel e cs = some x → ∃ a, cs = (enc' a).map Sc.val ∧ Q a)
    (ht : P.underlying t = some (.slice e)) (hpos : 0 < P.cellsOf e) (hval : Value.okWide P W r b0 t v) (h : DataW.Trod enc P W 0 spare held t v d ps) :
    ∃ (zs : List α) (a : Option Addr) (cap b : Nat), v = .slice a (mkc zs).len cap ∧ (mkc zs).len ≤ cap ∧ zs.length ≤ maxLen ∧ (∀ z ∈ zs, Q z) ∧ ∀ (τ : Nat → Nat) (u : Nat), τ u = b → (cx0 P W τ).reads u (mkc zs) a := by
  obtain ⟨a, len, cap, rfl⟩ := okWide_slice ht hval
  obtain ⟨fuel, hf⟩ := h
  rcases open_slice ht hf with ⟨hcs, hx⟩ | ⟨a, len, cap, m, n, D, Pl, hcs, _, hlc, hm, hmm, hx, hi⟩
  · simp [Value.cells] at hcs
    obtain ⟨rfl, rfl, rfl⟩ := hcs
    refine ⟨[], none, 0, 0, by rw [hl]; rfl, by rw [hl]; exact Nat.le_refl _, by simp, by simp, fun τ u _ => ⟨hw [] (by simp), fun h0 => ?_⟩⟩
    rw [hl] at h0
    simp at h0
  · simp [Value.cells] at hcs
    obtain ⟨rfl, rfl, rfl⟩ := hcs
    have hmle : len ≤ m := by rw [hmm]; split <;> omega
    obtain ⟨zs, hzl, hz⟩ := list_of (p := fun i z => W.cells? 0 (a.add (i * P.cellsOf e)) (P.cellsOf e) = some ((enc' z).map Sc.val) ∧ Q z) len (fun i hilt => by
      obtain ⟨cs', h1, h2⟩ := hi i (by omega)
      obtain ⟨z, rfl, hq⟩ := hel _ _ _ h2
      exact ⟨z, h1, hq⟩)
    have hQ : ∀ z ∈ zs, Q z := fun z hm => by
      obtain ⟨i, hi'⟩ := List.getElem?_of_mem hm
      exact (hz i z hi').2
    obtain ⟨b, o, spot⟩ := a
    have spotOf : 0 < len → spot = none := fun h0 => by
      have h1 := hz 0 _ (List.getElem?_eq_getElem (by omega))
      obtain ⟨_, hcl, hat⟩ := World.cells?_some h1.1
      have h2 := hat 0 hpos
      rw [List.getElem?_eq_getElem (by rw [hcl]; exact hpos)] at h2
      simpa [Addr.add] using World.cell?_spot h2
    refine ⟨zs, some ⟨b, o, spot⟩, cap, b, by rw [hl, hzl], by rw [hl]; omega, by omega, hQ, fun τ u hu => ⟨hw zs hQ, fun h0 => ?_⟩⟩
    rw [hl, hzl] at h0
    have hsp := spotOf h0
    subst hsp
    have hcell : ∀ j v, (mkc zs).vals[j]? = some v → W.cell? ⟨b, o + j, none⟩ = some v := fun j v hj => by
      rw [hv] at hj
      obtain ⟨i, q, z, rfl, hq, hzi, hqv⟩ := flat_at (s := P.cellsOf e) (fun z hzm => by rw [List.length_map]; exact hsz z (hQ z hzm)) hj
      obtain ⟨h1, _⟩ := hz i z hzi
      obtain ⟨_, _, hat⟩ := World.cells?_some h1
      have h2 := hat q hq
      rw [hqv] at h2
      rw [← h2, Go.WideShapes.add_plain, Go.WideShapes.add_plain, Nat.add_assoc]
    refine ⟨b, o, rfl, fun hown => ?_, hu, hcell⟩
    rcases hown with hS | hge
    · exact hS
    · have h1 := hz 0 _ (List.getElem?_eq_getElem (by omega))
      obtain ⟨_, hcl, hat⟩ := World.cells?_some h1.1
      have h2 := hat 0 hpos
      rw [List.getElem?_eq_getElem (by rw [hcl]; exact hpos)] at h2
      have h3 : b < W.heap.size := by simpa [Addr.add] using World.block_lt_of_cell? W _ h2
      simp only [cx0] at hge
      omega
def isU8 (x : Int) : Prop := 0 ≤ x ∧ x < 256
/-- Integers of a kind. -/
theorem open_ro_ints {k : IntKind} {t e : TypeId} {v : Value} {d : DataW H} {ps : List MemPlace} {r : Reach} {b0 : Nat} (ht : P.underlying t = some (.slice e)) (he : P.underlying e = some (.int k)) (hc : P.cellsOf e = 1)
    (hval : Value.okWide P W r b0 t v) (h : DataW.Trod enc P W 0 spare held t v d ps) :
    ∃ (zs : List Int) (a : Option Addr) (cap b : Nat), v = .slice a (RC.ints k zs).len cap ∧ (RC.ints k zs).len ≤ cap ∧ zs.length ≤ maxLen ∧ (∀ z ∈ zs, (Lit.int k z).wf = true) ∧ ∀ (τ : Nat → Nat) (u : Nat), τ u = b → (cx0 P W τ).reads u (.ints k zs) a := by
  refine open_ro (fun z => [.int k z]) (RC.ints k) (fun z => (Lit.int k z).wf = true) (fun a _ => by rw [hc]; rfl) (fun zs => ?_) (fun zs => rfl) (fun zs _ => trivial) (fun fuel cs x hx => ?_) ht (by omega) hval h
  · simp only [RC.vals, List.map_cons, List.map_nil, Sc.val]
    induction zs with
    | nil => rfl
    | cons z zs ih => simp [ih]
  · obtain ⟨n, rfl, _, hw⟩ := DataW.trod_int he hx
    exact ⟨n, rfl, hw⟩
theorem open_ro_strs {t e : TypeId} {v : Value} {d : DataW H} {ps : List MemPlace} {r : Reach} {b0 : Nat} (ht : P.underlying t = some (.slice e)) (he : P.underlying e = some .string) (hc : P.cellsOf e = 1)
    (hval : Value.okWide P W r b0 t v) (h : DataW.Trod enc P W 0 spare held t v d ps) :
    ∃ (zs : List ByteArray) (a : Option Addr) (cap b : Nat), v = .slice a (RC.strs zs).len cap ∧ (RC.strs zs).len ≤ cap ∧ zs.length ≤ maxLen ∧ (∀ z ∈ zs, z.size ≤ maxLen) ∧ ∀ (τ : Nat → Nat) (u : Nat), τ u = b → (cx0 P W τ).reads u (.strs zs) a := by
  refine open_ro (fun z => [.str z]) RC.strs (fun z => z.size ≤ maxLen) (fun a _ => by rw [hc]; rfl) (fun zs => ?_) (fun zs => rfl) (fun zs _ => trivial) (fun fuel cs x hx => ?_) ht (by omega) hval h
  · simp only [RC.vals, List.map_cons, List.map_nil, Sc.val]
    induction zs with
    | nil => rfl
    | cons z zs ih => simp [ih]
  · obtain ⟨n, rfl, _, hw⟩ := DataW.trod_string he hx
    exact ⟨n, rfl, hw⟩
theorem open_ro_bools {t e : TypeId} {v : Value} {d : DataW H} {ps : List MemPlace} {r : Reach} {b0 : Nat} (ht : P.underlying t = some (.slice e)) (he : P.underlying e = some .bool) (hc : P.cellsOf e = 1)
    (hval : Value.okWide P W r b0 t v) (h : DataW.Trod enc P W 0 spare held t v d ps) :
    ∃ (zs : List Bool) (a : Option Addr) (cap b : Nat), v = .slice a (RC.bools zs).len cap ∧ (RC.bools zs).len ≤ cap ∧ zs.length ≤ maxLen ∧ (∀ z ∈ zs, True) ∧ ∀ (τ : Nat → Nat) (u : Nat), τ u = b → (cx0 P W τ).reads u (.bools zs) a := by
  refine open_ro (fun z => [.bool z]) RC.bools (fun _ => True) (fun a _ => by rw [hc]; rfl) (fun zs => ?_) (fun zs => rfl) (fun zs _ => trivial) (fun fuel cs x hx => ?_) ht (by omega) hval h
  · simp only [RC.vals, List.map_cons, List.map_nil, Sc.val]
    induction zs with
    | nil => rfl
    | cons z zs ih => simp [ih]
  · obtain ⟨n, rfl, _⟩ := DataW.trod_bool he hx
    exact ⟨n, rfl, trivial⟩
/-- Structs whose cells are told by an opener of their own. -/
theorem open_ro_recs (n : Nat) (Q : List Sc → Prop) {t e : TypeId} {v : Value} {d : DataW H} {ps : List MemPlace} {r : Reach} {b0 : Nat} (hn : 0 < n) (hQ : ∀ l, Q l → l.length = n)
    (hel : ∀ (fuel : Nat) (cs : List Value) (x : DataW H × List MemPlace), DataW.trod enc P W 0 spare held fuel e cs = some x → ∃ a : List Sc, cs = a.map Sc.val ∧ Q a)
    (ht : P.underlying t = some (.slice e)) (hc : P.cellsOf e = n) (hval : Value.okWide P W r b0 t v) (h : DataW.Trod enc P W 0 spare held t v d ps) :
    ∃ (zs : List (List Sc)) (a : Option Addr) (cap b : Nat), v = .slice a (RC.recs n zs).len cap ∧ (RC.recs n zs).len ≤ cap ∧ zs.length ≤ maxLen ∧ (∀ z ∈ zs, Q z) ∧ ∀ (τ : Nat → Nat) (u : Nat), τ u = b → (cx0 P W τ).reads u (.recs n zs) a :=
  open_ro id (RC.recs n) Q (fun a ha => by rw [hc]; exact hQ a ha) (fun zs => rfl) (fun zs => rfl) (fun zs hz => ⟨hn, fun l hl => hQ l (hz l hl)⟩) hel ht (by omega) hval h
/-- What a field of a struct among the arguments is. -/
inductive FK where
  | int (k : IntKind)
  | str
  | bool
def FK.ok : FK → Sc → Prop
  | .int k, .int j x => j = k ∧ (Lit.int k x).wf = true
  | .str, .str s => s.size ≤ maxLen
  | .bool, .bool _ => True
  | _, _ => False
def FK.is (P : Program) (t : TypeId) : FK → Bool
  | .int k => match P.underlying t with
    | some (.int j) => decide (j = k)
    | _ => false
  | .str => match P.underlying t with
    | some .string => true
    | _ => false
  | .bool => match P.underlying t with
    | some .bool => true
    | _ => false
def okFields : List FK → List Sc → Prop
  | [], [] => True
  | k :: ks, c :: cs => k.ok c ∧ okFields ks cs
  | _, _ => False
theorem okFields_length : ∀ {ks : List FK} {l : List Sc}, okFields ks l → l.length = ks.length
  | [], [], _ => rfl
  | [], _ :: _, h => h.elim
  | _ :: _, [], h => h.elim
  | k :: ks, c :: cs, h => by simp [okFields_length h.2]
theorem okFields_of : ∀ {ks : List FK} {l : List Sc}, l.length = ks.length → (∀ (j : Nat) (k : FK) (c : Sc), ks[j]? = some k → l[j]? = some c → k.ok c) → okFields ks l
  | [], [], _, _ => trivial
  | [], _ :: _, h, _ => by simp at h
  | _ :: _, [], h, _ => by simp at h
  | k :: ks, c :: cs, h, hf => ⟨hf 0 k c rfl rfl, okFields_of (by simpa using h) fun j k' c' h1 h2 => hf (j + 1) k' c' (by simpa using h1) (by simpa using h2)⟩
theorem open_fk {fuel : Nat} {t : TypeId} {cs : List Value} {x : DataW H × List MemPlace} (k : FK) (hk : k.is P t = true) (h : DataW.trod enc P W 0 spare held fuel t cs = some x) : ∃ c : Sc, cs = [c.val] ∧ k.ok c := by
  cases k with
  | int k =>
    simp only [FK.is] at hk
    split at hk
    · rename_i j hu
      simp only [decide_eq_true_eq] at hk
      subst hk
      obtain ⟨n, rfl, _, hw⟩ := DataW.trod_int hu h
      exact ⟨.int _ n, rfl, rfl, hw⟩
    · cases hk
  | str =>
    simp only [FK.is] at hk
    split at hk
    · rename_i hu
      obtain ⟨n, rfl, _, hw⟩ := DataW.trod_string hu h
      exact ⟨.str n, rfl, hw⟩
    · cases hk
  | bool =>
    simp only [FK.is] at hk
    split at hk
    · rename_i hu
      obtain ⟨n, rfl, _⟩ := DataW.trod_bool hu h
      exact ⟨.bool n, rfl, trivial⟩
    · cases hk
def fieldsAre (P : Program) (fs : Array Field) (ks : List FK) : Bool := fs.size == ks.length && (fs.toList.zip ks).all fun p => p.2.is P p.1.type
theorem open_fields {e : TypeId} {fs : Array Field} {fuel : Nat} {cs : List Value} {x : DataW H × List MemPlace} (he : P.underlying e = some (.struct fs)) (hone : oneCellFields P fs = true) (hC : P.cellsOf e = fs.size) (ks : List FK) (hks : fieldsAre P fs ks = true)
    (h : DataW.trod enc P W 0 spare held fuel e cs = some x) : ∃ l : List Sc, cs = l.map Sc.val ∧ okFields ks l := by
  obtain ⟨ys, n', hn', hy, hlen, hyl, hf⟩ := DataW.trod_struct he h
  simp only [fieldsAre, Bool.and_eq_true, beq_iff_eq] at hks
  obtain ⟨hsz, hall⟩ := hks
  have hcl : cs.length = fs.size := by rw [hlen]; exact hC
  have each : ∀ j, j < fs.size → ∃ c : Sc, cs[j]? = some c.val ∧ ∀ k, ks[j]? = some k → k.ok c := fun j hj => by
    have hfj : fs[j]? = some fs[j] := Array.getElem?_eq_getElem hj
    obtain ⟨ho, hk⟩ := hone_of hone j fs[j] hfj
    have h1 := hf j fs[j] hfj
    rw [ho, hk] at h1
    have hone' : (cs.drop j).take 1 = [cs[j]'(by omega)] := by
      rw [List.drop_eq_getElem_cons (by omega)]
      rfl
    rw [hone'] at h1
    have hys : ys[j]? = some (ys[j]'(by omega)) := List.getElem?_eq_getElem (by omega)
    have hkj : ks[j]? = some (ks[j]'(by omega)) := List.getElem?_eq_getElem (by omega)
    have hmem : (fs[j], ks[j]'(by omega)) ∈ fs.toList.zip ks := by
      refine List.mem_of_getElem? (i := j) ?_
      rw [List.getElem?_zip_eq_some]
      exact ⟨by simp, hkj⟩
    obtain ⟨c, hc, hok⟩ := open_fk _ (List.all_eq_true.1 hall _ hmem) (h1.trans hys)
    simp only [List.cons.injEq, and_true] at hc
    refine ⟨c, by rw [List.getElem?_eq_getElem (by omega), hc], fun k hk' => ?_⟩
    rw [hkj] at hk'
    simp only [Option.some.injEq] at hk'
    rw [← hk']
    exact hok
  obtain ⟨l, hl, hall'⟩ := list_of (p := fun j c => cs[j]? = some (Sc.val c) ∧ ∀ k, ks[j]? = some k → k.ok c) fs.size each
  refine ⟨l, ?_, okFields_of (by omega) fun j k c h1 h2 => (hall' j c h2).2 k h1⟩
  refine List.ext_getElem? fun j => ?_
  by_cases hj : j < l.length
  · have := (hall' j _ (List.getElem?_eq_getElem hj)).1
    rw [this, List.getElem?_map, List.getElem?_eq_getElem hj]
    rfl
  · rw [List.getElem?_eq_none (by omega), List.getElem?_eq_none (by rw [List.length_map]; omega)]
/-- An array of integers, by value. -/
theorem open_arr {n : Nat} {k : IntKind} {t e : TypeId} {v : Value} {d : DataW H} {ps : List MemPlace} {r : Reach} {b0 : Nat} (ht : P.underlying t = some (.array n e)) (he : P.underlying e = some (.int k)) (hc : P.cellsOf e = 1) (hT : P.cellsOf t = n)
    (hval : Value.okWide P W r b0 t v) (h : DataW.Trod enc P W 0 spare held t v d ps) :
    ∃ zs : List Int, zs.length = n ∧ v = .agg (zs.map (Value.int k)).toArray ∧ ∀ z ∈ zs, (Lit.int k z).wf = true := by
  obtain ⟨cs, rfl, hsz⟩ : ∃ cs, v = .agg cs ∧ cs.size = P.cellsOf t := by
    simp only [Value.okWide, ht] at hval
    cases v <;> simp_all
  obtain ⟨fuel, hf⟩ := h
  obtain ⟨xs, m, _, _, _, hxl, hg⟩ := DataW.trod_array ht hf
  obtain ⟨l⟩ := cs
  simp only [List.size_toArray] at hsz
  rw [hT] at hsz
  obtain ⟨zs, hl, hz⟩ := list_of (p := fun i z => l[i]? = some (Value.int k z) ∧ (Lit.int k z).wf = true) n fun i hi => by
    have h1 := hg i hi
    rw [hc, Nat.mul_one] at h1
    have hli : i < l.length := by omega
    have h2 : ((Value.agg l.toArray).cells.toList.drop i).take 1 = [l[i]] := by
      simp only [Value.cells]
      rw [List.drop_eq_getElem_cons hli]
      rfl
    rw [h2, List.getElem?_eq_getElem (by omega : i < xs.length)] at h1
    obtain ⟨z, hz1, _, hz2⟩ := DataW.trod_int he h1
    simp only [List.cons.injEq, and_true] at hz1
    exact ⟨z, by rw [List.getElem?_eq_getElem hli, hz1], hz2⟩
  refine ⟨zs, hl, ?_, fun z hm => ?_⟩
  · congr 2
    refine List.ext_getElem? fun j => ?_
    by_cases hj : j < zs.length
    · rw [(hz j _ (List.getElem?_eq_getElem hj)).1, List.getElem?_map, List.getElem?_eq_getElem hj]
      rfl
    · rw [List.getElem?_eq_none (by omega), List.getElem?_eq_none (by rw [List.length_map]; omega)]
  · obtain ⟨j, hj⟩ := List.getElem?_of_mem hm
    exact (hz j z hj).2
/-- A struct of plain fields, by value. -/
theorem open_struct {fs : Array Field} {t : TypeId} {v : Value} {d : DataW H} {ps : List MemPlace} {r : Reach} {b0 : Nat} (ht : P.underlying t = some (.struct fs)) (hone : oneCellFields P fs = true) (hC : P.cellsOf t = fs.size) (ks : List FK) (hks : fieldsAre P fs ks = true)
    (hval : Value.okWide P W r b0 t v) (h : DataW.Trod enc P W 0 spare held t v d ps) : ∃ l : List Sc, v = .agg (l.map Sc.val).toArray ∧ okFields ks l := by
  obtain ⟨cs, rfl, hsz⟩ : ∃ cs, v = .agg cs ∧ cs.size = P.cellsOf t := by
    simp only [Value.okWide, ht] at hval
    cases v <;> simp_all
  obtain ⟨fuel, hf⟩ := h
  obtain ⟨l, hl, hok⟩ := open_fields ht hone hC ks hks hf
  refine ⟨l, ?_, hok⟩
  obtain ⟨cs⟩ := cs
  simp only [Value.cells] at hl
  rw [hl]
theorem vrl_scs {C : Cx} {n : Nat} {ρ : Nat → RV} : ∀ l : List Sc, VRL C n ρ (l.map Sc.sv) (l.map Sc.val)
  | [] => .nil
  | .int k x :: l => .cons _ _ _ _ (.int k x) (vrl_scs l)
  | .bool b :: l => .cons _ _ _ _ (.bool b) (vrl_scs l)
  | .str s :: l => .cons _ _ _ _ (.str s) (vrl_scs l)
/-- How long a string in a struct among the arguments is, as the form's own reach counts it. -/
theorem struct_string {fs : Array Field} {t : TypeId} {cs : List Value} {d : DataW H} {ps : List MemPlace} (ht : P.underlying t = some (.struct fs)) (hone : oneCellFields P fs = true)
    (h : DataW.Trod enc P W 0 spare held t (.agg cs.toArray) d ps) {j : Nat} {f : Field} {s : ByteArray} (hf : fs[j]? = some f) (hu : P.underlying f.type = some .string) (hs : cs[j]? = some (.string s)) : s.size ∈ d.weights P t := by
  obtain ⟨fuel, hx⟩ := h
  obtain ⟨xs, n', hn', hy, hlen, hyl, hfs⟩ := DataW.trod_struct ht hx
  simp only [Prod.mk.injEq] at hy
  obtain ⟨rfl, _⟩ := hy
  obtain ⟨ho, hk⟩ := hone_of hone j f hf
  have h1 := hfs j f hf
  have hj : j < cs.length := by
    rcases Nat.lt_or_ge j cs.length with h | h
    · exact h
    · rw [List.getElem?_eq_none h] at hs; cases hs
  have hone' : ((Value.agg cs.toArray).cells.toList.drop j).take 1 = [.string s] := by
    simp only [Value.cells]
    rw [List.drop_eq_getElem_cons hj]
    rw [List.getElem?_eq_getElem hj] at hs
    simp only [Option.some.injEq] at hs
    rw [hs]
    rfl
  rw [ho, hk, hone'] at h1
  have hjx : j < xs.length := by
    rw [hyl]
    rcases Nat.lt_or_ge j fs.size with h | h
    · exact h
    · rw [Array.getElem?_eq_none h] at hf; cases hf
  rw [List.getElem?_eq_getElem hjx] at h1
  obtain ⟨s', e1, e2, _⟩ := DataW.trod_string hu h1
  simp only [List.cons.injEq, Value.string.injEq, and_true] at e1
  subst e1
  simp only [DataW.weights, ht]
  refine DataW.weights_mem_each (t := f.type) (d := .lit (.string s.data.toList)) (j := j) ?_ ?_ _ ?_
  · rw [List.getElem?_map, Array.getElem?_toList, hf]; rfl
  · rw [List.getElem?_map, List.getElem?_eq_getElem hjx, e2]; rfl
  · simp only [DataW.weights, List.mem_singleton]
    exact (Array.length_toList).symm
theorem vrl_ints {C : Cx} {n : Nat} {ρ : Nat → RV} (k : IntKind) : ∀ zs : List Int, VRL C n ρ (zs.map (SV.int k)) (zs.map (Value.int k))
  | [] => .nil
  | z :: zs => .cons _ _ _ _ (.int k z) (vrl_ints k zs)
end
end Go.X
set_option maxRecDepth 100000
set_option linter.unusedSimpArgs false
namespace Go.X.Try
open Go.IntWalk
theorem isB_of {l : List Int} (h : ∀ z ∈ l, (Lit.int .u8 z).wf = true) : isB l := fun z hz => by
  have := h z hz
  simp [Lit.wf, IntKind.min, IntKind.max, IntKind.signed, IntKind.bits] at this
  omega
theorem holds13 {bs : List Int} (h : Holds bs 4 13) : bs = [13] := by
  obtain ⟨hB, hl, hv, _⟩ := h
  match bs, hl with
  | [b], _ =>
    have := hB b (by simp)
    simp only [leB] at hv
    have : b = 13 := by omega
    rw [this]
abbrev rts6 (bs L : List Int) : List SV := [.ro 0 (.ints .u8 bs), .ro 1 (.ints .i64 L)]
def canon6 (bs L A : List Int) (i : Int) (k : Nat) : St :=
  ⟨[(5, .one (.view 0 0 k)), (6, .one (.bool true)), (7, .one (.ptr 1 0)), (45, .one (.ro 1 (.ints .i64 L))), (46, .one (.int .i64 L.length)), (47, .one (.int .i64 i))], rts6 bs L, [.rows (.ints .i64 A), .cells none [.row 2, .int .i64 k], .rows (.ints .u8 bs)]⟩
def canon6z (bs L : List Int) (i : Int) : St :=
  ⟨[(5, .one (.row 0)), (6, .one (.bool false)), (7, .one .nilp), (45, .one (.ro 1 (.ints .i64 L))), (46, .one (.int .i64 L.length)), (47, .one (.int .i64 i))], rts6 bs L, [.rows (.ints .i64 [])]⟩
end Go.X.Try
set_option maxRecDepth 100000
set_option linter.unusedSimpArgs false
namespace Go.X.Try
open Go.IntWalk
/-- Of pieces one behind the other: how many bits, and their number. -/
def pBits : List (List Sc) → Nat
  | [] => 0
  | [.int _ _, .int _ n] :: L => (if 0 ≤ n ∧ n ≤ 32 then n.toNat else 0) + pBits L
  | _ :: L => pBits L
def pVal : List (List Sc) → Nat
  | [] => 0
  | [.int _ v, .int _ n] :: L => if 0 ≤ n ∧ n ≤ 32 then v.toNat % 2 ^ n.toNat + 2 ^ n.toNat * pVal L else pVal L
  | _ :: L => pVal L
theorem piece_of {z : List Sc} (h : okFields [.int .u32, .int .i64] z) : ∃ v n, z = [.int .u32 v, .int .i64 n] ∧ 0 ≤ v ∧ v < 4294967296 := by
  match z, h with
  | [a, b], ⟨ha, hb, _⟩ =>
    cases a <;> simp only [FK.ok] at ha
    cases b <;> simp only [FK.ok] at hb
    obtain ⟨rfl, hw⟩ := ha
    obtain ⟨rfl, _⟩ := hb
    refine ⟨_, _, rfl, ?_⟩
    simp [Lit.wf, IntKind.min, IntKind.max, IntKind.signed, IntKind.bits] at hw
    omega
section
variable {L : List (List Sc)} (hw : ∀ z ∈ L, okFields [.int .u32, .int .i64] z)
include hw
theorem pBits_append (M : List (List Sc)) : pBits (L ++ M) = pBits L + pBits M := by
  induction L with
  | nil => simp [pBits]
  | cons z L ih =>
    obtain ⟨v, n, rfl, _⟩ := piece_of (hw z (by simp))
    simp only [List.cons_append, pBits, ih (fun x hx => hw x (List.mem_cons_of_mem _ hx))]
    omega
theorem pVal_append (M : List (List Sc)) : pVal (L ++ M) = pVal L + 2 ^ pBits L * pVal M := by
  induction L with
  | nil => simp [pVal, pBits]
  | cons z L ih =>
    obtain ⟨v, n, rfl, _⟩ := piece_of (hw z (by simp))
    simp only [List.cons_append, pVal, pBits, ih (fun x hx => hw x (List.mem_cons_of_mem _ hx))]
    split
    · rw [Nat.pow_add, Nat.mul_add, Nat.mul_assoc, Nat.add_assoc]
    · rw [Nat.zero_add]
theorem pVal_lt : pVal L < 2 ^ pBits L := by
  induction L with
  | nil => simp [pVal, pBits]
  | cons z L ih =>
    obtain ⟨v, n, rfl, _⟩ := piece_of (hw z (by simp))
    have h := ih (fun x hx => hw x (List.mem_cons_of_mem _ hx))
    simp only [pVal, pBits]
    split
    · rw [Nat.pow_add]
      have h1 : v.toNat % 2 ^ n.toNat < 2 ^ n.toNat := Nat.mod_lt _ (Nat.two_pow_pos _)
      have h2 : 2 ^ n.toNat * (pVal L + 1) ≤ 2 ^ n.toNat * 2 ^ pBits L := Nat.mul_le_mul_left _ h
      rw [Nat.mul_add, Nat.mul_one] at h2
      omega
    · rw [Nat.zero_add]; exact h
theorem pBits_le : pBits L ≤ 32 * L.length := by
  induction L with
  | nil => simp [pBits]
  | cons z L ih =>
    obtain ⟨v, n, rfl, _⟩ := piece_of (hw z (by simp))
    have h := ih (fun x hx => hw x (List.mem_cons_of_mem _ hx))
    simp only [pBits, List.length_cons]
    split <;> omega
end
/-- A piece that may be. -/
def okPiece (z : List Sc) : Prop := ∃ (u n : Nat), z = [.int .u32 u, .int .i64 n] ∧ u < 2 ^ 32 ∧ n ≤ 32
theorem okPiece.fields {z : List Sc} (h : okPiece z) : okFields [.int .u32, .int .i64] z := by
  obtain ⟨u, n, rfl, hu, hn⟩ := h
  refine ⟨⟨rfl, ?_⟩, ⟨rfl, ?_⟩, trivial⟩
  · simp [Lit.wf, IntKind.min, IntKind.max, IntKind.signed, IntKind.bits]; omega
  · simp [Lit.wf, IntKind.min, IntKind.max, IntKind.signed, IntKind.bits]; omega
theorem take_snoc {α : Type} {L : List α} {i : Nat} (h : i < L.length) : L.take (i + 1) = L.take i ++ [L[i]] := (List.take_append_getElem h).symm
def canon5a (L : List (List Sc)) (i : Int) (ws : List Int) (c : Int) (all : List Int) (kept : List (List Sc)) : St :=
  ⟨[(3, .one (.ptr 0 0)), (4, .one (.row 2)), (5, .one (.row 3)), (21, .one (.ro 0 (.recs 2 L))), (22, .one (.int .i64 L.length)), (23, .one (.int .i64 i))], [.ro 0 (.recs 2 L)], [.cells none [.row 1, .int .i64 c], .rows (.ints .u8 ws), .rows (.ints .i64 all), .rows (.recs 2 kept)]⟩
def canon5c (L kept : List (List Sc)) (out : List Int) (i m : Int) : St :=
  ⟨[(5, .one (.row 0)), (9, .one (.ptr 1 0)), (11, .one (.int .i64 i))], [.ro 0 (.recs 2 L)], [.rows (.recs 2 kept), .cells none [.row 2, .int .i64 m], .rows (.ints .u8 out)]⟩
/-- Sealed bytes have a last one that is not 0. -/
theorem sealed_last {out : List Int} {c N : Nat} (h : Holds out (c + 1) (N + 2 ^ c)) (hN : N < 2 ^ c) : ∃ b, out.getLast? = some b ∧ b ≠ 0 ∧ bl (leB out) = c + 1 := by
  obtain ⟨hB, hlen, hval, hlt⟩ := h
  have hp : 0 < out.length := by omega
  have h0 : out ≠ [] := List.length_pos_iff.1 hp
  refine ⟨out.getLast h0, List.getLast?_eq_some_getLast h0, fun hb => ?_, ?_⟩
  · have hl := List.getLast?_eq_some_getLast h0
    rw [hb, List.getLast?_eq_getElem?] at hl
    have hat := leB_at hB hl
    have hq : leB out / 2 ^ (8 * (out.length - 1)) < 256 := by
      rw [Nat.div_lt_iff_lt_mul (Nat.two_pow_pos _)]
      have e1 : 2 ^ (8 * out.length) = 256 * 2 ^ (8 * (out.length - 1)) := by
        rw [show 8 * out.length = 8 + 8 * (out.length - 1) by omega, Nat.pow_add]
      have := leB_lt hB
      omega
    rw [Nat.mod_eq_of_lt hq] at hat
    have hz : leB out / 2 ^ (8 * (out.length - 1)) = 0 := hat
    have hz2 := (Nat.div_eq_zero_iff_lt (Nat.two_pow_pos _)).1 hz
    have hle : 2 ^ (8 * (out.length - 1)) ≤ 2 ^ c := Nat.pow_le_pow_right (by omega) (by omega)
    omega
  · exact bl_unique (by omega) (by rw [hval]; exact hlt)
end Go.X.Try
set_option maxRecDepth 100000
set_option linter.unusedSimpArgs false
namespace Go.X.Try
open Go.IntWalk
theorem xor_and {x y n : Nat} (hx : x < 2 ^ 64) (hy : y < 2 ^ 64) (hn : n ≤ 40) : ∃ w : Nat, bitsI .and .u64 (bitsI .xor .u64 (x : Int) (y : Int)) ((2 ^ n - 1 : Nat) : Int) = w ∧ (w = 0 ↔ x % 2 ^ n = y % 2 ^ n) := by
  have hlt : x ^^^ y < 2 ^ 64 := Nat.xor_lt_two_pow hx hy
  have e : bitsI .xor .u64 (x : Int) (y : Int) = ((x ^^^ y : Nat) : Int) := by
    have e1 : ((BitVec.ofInt 64 (x : Int) ^^^ BitVec.ofInt 64 (y : Int)).toNat : Int) = ((x ^^^ y : Nat) : Int) := by
      rw [BitVec.toNat_xor, BitVec.ofInt_natCast, BitVec.ofInt_natCast, BitVec.toNat_ofNat, BitVec.toNat_ofNat, Nat.mod_eq_of_lt hx, Nat.mod_eq_of_lt hy]
    show IntKind.u64.wrap _ = _
    have e2 : ((BitVec.ofInt IntKind.u64.bits (x : Int) ^^^ BitVec.ofInt IntKind.u64.bits (y : Int)).toNat : Int) = ((x ^^^ y : Nat) : Int) := e1
    rw [e2]
    exact u64_in _ (by omega)
  refine ⟨(x ^^^ y) % 2 ^ n, ?_, ?_⟩
  · rw [e]
    exact mask_and rfl (by simp only [IntKind.bits]; exact hlt) (by simp only [IntKind.bits]; omega)
  · rw [Nat.xor_mod_two_pow]
    constructor
    · intro h
      have e2 : x % 2 ^ n ^^^ (x % 2 ^ n ^^^ y % 2 ^ n) = y % 2 ^ n := by rw [← Nat.xor_assoc, Nat.xor_self, Nat.zero_xor]
      rw [h, Nat.xor_zero] at e2
      exact e2
    · intro h; rw [h, Nat.xor_self]
end Go.X.Try
set_option maxRecDepth 100000
set_option linter.unusedSimpArgs false
set_option linter.unusedVariables false
namespace Go.X.Try
open Go.IntWalk
/-! ### the walk: from the last symbol to the first one -/
theorem e54 (v n : Int) (c c' : Int) (bs bs' : List Int) (wv : IntKind.u32.wrap v = v) (b : Bool) (e : F55 [.one (.ptr 0 0), .one (.int .u32 v), .one (.int .i64 n)] (bufHp (some 0) bs c) = some (.one (.bool b), bufHp (some 0) bs' c')) :
    F54 [.one (.int .i64 v), .one (.int .i64 n), .one (.ptr 0 0)] (bufHp (some 0) bs c) = some (.tup [], bufHp (some 0) bs' c') := by
  simp only [bufHp] at e
  simp -implicitDefEqProofs [F54, c54, upd, bufHp, wv, e]
theorem e70 (v n c c' : Int) (w : IntKind.i64.wrap (c + n) = c') :
    F70 [.one (.int .i64 v), .one (.int .i64 n), .one (.ptr 0 0)] [.cells (some 0) [.int .i64 c]] = some (.tup [], [.cells (some 0) [.int .i64 c']]) := by
  simp -implicitDefEqProofs [F70, c70, upd, w]
theorem e89 (t : Nat) (xs : List Int) : F89 [.one (.ro t (.ints .u8 xs))] [] = some (.one (.fn 102 [.ptr 0 0]), [.cells none [.ro t (.ints .u8 xs)]]) := by
  simp -implicitDefEqProofs [F89, c89, upd]
abbrev G53 : Callee := evB T53 0 bd53 ([3, 5, 6, 7, 8] ++ [10])
abbrev Z53 : Callee := evZ T53 0 z53 [3, 6, 7, 8] [(6, some none), (7, some none)]
abbrev E53 : Option (Bool × St) → Res := endR Z53 [3, 6, 7, 8] [(6, some none), (7, some none)]

def hp53w (L : Int) (cs : List (List Sc)) (l fi al bs : List Int) (c : Int) : List Ob := tabHp (some 0) L cs l fi al ++ [.cells (some 5) [.row 6, .int .i64 c], .rows (.ints .u8 bs)]
def can53w (t : Nat) (L : Int) (cs : List (List Sc)) (l fi al bs xs : List Int) (c st : Int) : St :=
  ⟨[(3, .one (.ptr 7 0)), (5, .one (.ptr 8 0)), (6, .one (.ptr 9 0)), (7, .one (.ptr 10 0)), (8, .one (.ptr 11 0)), (16, .one (.fn 102 [.ptr 12 0]))],
   [.ptr 0 0, .ro t (.ints .u8 xs), .fn 54 [.ptr 5 0]],
   tabHp (some 0) L cs l fi al ++ [.cells (some 5) [.row 6, .int .i64 c], .rows (.ints .u8 bs), .cells none [.ptr 0 0], .cells none [.fn 54 [.ptr 5 0]], .cells none [.int .i64 0], .cells none [.bool false], .cells none [.int .i64 st], .cells none [.ro t (.ints .u8 xs)]]⟩
def At53w (t : Nat) (L : Int) (cs : List (List Sc)) (l fi al bs xs : List Int) (c st : Int) (s : St) : Prop :=
  s.head [3, 5, 6, 7, 8, 16] = can53w t L cs l fi al bs xs c st ∧ E53 (some (true, s)) = some (.tup [.one (.int .i64 st), .one (.bool true)], hp53w L cs l fi al bs c)
theorem step53w (t : Nat) (L : Int) (cs : List (List Sc)) (l fi al bs bs' xs : List Int) (c c' st x v n st' : Int) (f : St → Option (Bool × St))
    (e90 : F90 [.one (.ptr 0 0), .one (.int .i64 st), .one (.int .u8 x)] (tabHp (some 0) L cs l fi al) = some (.tup [.one (.int .i64 st'), .one (.int .i64 v), .one (.int .i64 n), .one (.bool true)], tabHp (some 0) L cs l fi al))
    (e54 : F54 [.one (.int .i64 v), .one (.int .i64 n), .one (.ptr 0 0)] [.cells (some 0) [.row 1, .int .i64 c], .rows (.ints .u8 bs)] = some (.tup [], [.cells (some 0) [.row 1, .int .i64 c'], .rows (.ints .u8 bs')])) :
    ∃ st1, stepR G53 102 16 xs [3, 5, 6, 7, 8] x f (can53w t L cs l fi al bs xs c st) = f st1 ∧ At53w t L cs l fi al bs' xs c' st' st1 := by
  simp only [bufHp, tabHp] at e90 e54
  refine ⟨?w, ?a, ?b⟩
  case a =>
    simp -implicitDefEqProofs [stepR, itemsR, boxR, getA, nextR, call1, evB, resB, envOf, can53w, tabHp, bd53, upd, e90, e54]
    rfl
  case b =>
    refine ⟨?_, ?_⟩
    · simp -implicitDefEqProofs [hp53w, can53w, tabHp, upd]
    · simp -implicitDefEqProofs [getA, call1, envOf, hp53w, tabHp, upd, endR, doneR, evZ, z53]
theorem miss53w (t : Nat) (L : Int) (cs : List (List Sc)) (l fi al bs xs : List Int) (c st x : Int) (f : St → Option (Bool × St))
    (e90 : F90 [.one (.ptr 0 0), .one (.int .i64 st), .one (.int .u8 x)] (tabHp (some 0) L cs l fi al) = some (.tup [.one (.int .i64 0), .one (.int .i64 0), .one (.int .i64 0), .one (.bool false)], tabHp (some 0) L cs l fi al)) :
    E53 (stepR G53 102 16 xs [3, 5, 6, 7, 8] x f (can53w t L cs l fi al bs xs c st)) = some (.tup [.one (.int .i64 0), .one (.bool false)], hp53w L cs l fi al bs c) := by
  simp only [bufHp, tabHp] at e90
  simp -implicitDefEqProofs [stepR, itemsR, boxR, getA, nextR, call1, evB, resB, envOf, hp53w, can53w, tabHp, bd53, upd, e90, endR]
theorem pre53w (t : Nat) (L : Int) (cs : List (List Sc)) (l fi al bs xs : List Int) (c : Int) (hx : xs.length ≤ 1000000) (e89 : ∀ t, F89 [.one (.ro t (.ints .u8 xs))] [] = some (.one (.fn 102 [.ptr 0 0]), [.cells none [.ro t (.ints .u8 xs)]])) :
    ∃ st1, F53 [.one (.ptr 0 0), .one (.ro t (.ints .u8 xs)), .one (.fn 54 [.ptr 5 0])] (hp53w L cs l fi al bs c) = E53 (roundsR G53 102 16 xs [3, 5, 6, 7, 8, 16] [3, 5, 6, 7, 8] xs.reverse st1) ∧ At53w t L cs l fi al bs xs c 0 st1 := by
  refine ⟨?w, ?a, ?b⟩
  case a =>
    simp -implicitDefEqProofs [F53, evR, preR, itmR, pA53, pB53, pC53, upd, e89, itemsR, boxR, hp53w, tabHp, hx]
    rfl
  case b =>
    refine ⟨?_, ?_⟩
    · simp -implicitDefEqProofs [hp53w, can53w, tabHp, upd]
    · simp -implicitDefEqProofs [getA, call1, envOf, hp53w, tabHp, upd, endR, doneR, evZ, z53]

def hp53b (L : Int) (cs : List (List Sc)) (l fi al : List Int) (c : Int) : List Ob := tabHp (some 0) L cs l fi al ++ [.cells (some 5) [.int .i64 c]]
def can53b (t : Nat) (L : Int) (cs : List (List Sc)) (l fi al xs : List Int) (c st : Int) : St :=
  ⟨[(3, .one (.ptr 6 0)), (5, .one (.ptr 7 0)), (6, .one (.ptr 8 0)), (7, .one (.ptr 9 0)), (8, .one (.ptr 10 0)), (16, .one (.fn 102 [.ptr 11 0]))],
   [.ptr 0 0, .ro t (.ints .u8 xs), .fn 70 [.ptr 5 0]],
   tabHp (some 0) L cs l fi al ++ [.cells (some 5) [.int .i64 c], .cells none [.ptr 0 0], .cells none [.fn 70 [.ptr 5 0]], .cells none [.int .i64 0], .cells none [.bool false], .cells none [.int .i64 st], .cells none [.ro t (.ints .u8 xs)]]⟩
def At53b (t : Nat) (L : Int) (cs : List (List Sc)) (l fi al xs : List Int) (c st : Int) (s : St) : Prop :=
  s.head [3, 5, 6, 7, 8, 16] = can53b t L cs l fi al xs c st ∧ E53 (some (true, s)) = some (.tup [.one (.int .i64 st), .one (.bool true)], hp53b L cs l fi al c)
theorem step53b (t : Nat) (L : Int) (cs : List (List Sc)) (l fi al xs : List Int) (c c' st x v n st' : Int) (f : St → Option (Bool × St))
    (e90 : F90 [.one (.ptr 0 0), .one (.int .i64 st), .one (.int .u8 x)] (tabHp (some 0) L cs l fi al) = some (.tup [.one (.int .i64 st'), .one (.int .i64 v), .one (.int .i64 n), .one (.bool true)], tabHp (some 0) L cs l fi al))
    (e54 : F70 [.one (.int .i64 v), .one (.int .i64 n), .one (.ptr 0 0)] [.cells (some 0) [.int .i64 c]] = some (.tup [], [.cells (some 0) [.int .i64 c']])) :
    ∃ st1, stepR G53 102 16 xs [3, 5, 6, 7, 8] x f (can53b t L cs l fi al xs c st) = f st1 ∧ At53b t L cs l fi al xs c' st' st1 := by
  simp only [bufHp, tabHp] at e90 e54
  refine ⟨?w, ?a, ?b⟩
  case a =>
    simp -implicitDefEqProofs [stepR, itemsR, boxR, getA, nextR, call1, evB, resB, envOf, can53b, tabHp, bd53, upd, e90, e54]
    rfl
  case b =>
    refine ⟨?_, ?_⟩
    · simp -implicitDefEqProofs [hp53b, can53b, tabHp, upd]
    · simp -implicitDefEqProofs [getA, call1, envOf, hp53b, tabHp, upd, endR, doneR, evZ, z53]
theorem miss53b (t : Nat) (L : Int) (cs : List (List Sc)) (l fi al xs : List Int) (c st x : Int) (f : St → Option (Bool × St))
    (e90 : F90 [.one (.ptr 0 0), .one (.int .i64 st), .one (.int .u8 x)] (tabHp (some 0) L cs l fi al) = some (.tup [.one (.int .i64 0), .one (.int .i64 0), .one (.int .i64 0), .one (.bool false)], tabHp (some 0) L cs l fi al)) :
    E53 (stepR G53 102 16 xs [3, 5, 6, 7, 8] x f (can53b t L cs l fi al xs c st)) = some (.tup [.one (.int .i64 0), .one (.bool false)], hp53b L cs l fi al c) := by
  simp only [bufHp, tabHp] at e90
  simp -implicitDefEqProofs [stepR, itemsR, boxR, getA, nextR, call1, evB, resB, envOf, hp53b, can53b, tabHp, bd53, upd, e90, endR]
theorem pre53b (t : Nat) (L : Int) (cs : List (List Sc)) (l fi al xs : List Int) (c : Int) (hx : xs.length ≤ 1000000) (e89 : ∀ t, F89 [.one (.ro t (.ints .u8 xs))] [] = some (.one (.fn 102 [.ptr 0 0]), [.cells none [.ro t (.ints .u8 xs)]])) :
    ∃ st1, F53 [.one (.ptr 0 0), .one (.ro t (.ints .u8 xs)), .one (.fn 70 [.ptr 5 0])] (hp53b L cs l fi al c) = E53 (roundsR G53 102 16 xs [3, 5, 6, 7, 8, 16] [3, 5, 6, 7, 8] xs.reverse st1) ∧ At53b t L cs l fi al xs c 0 st1 := by
  refine ⟨?w, ?a, ?b⟩
  case a =>
    simp -implicitDefEqProofs [F53, evR, preR, itmR, pA53, pB53, pC53, upd, e89, itemsR, boxR, hp53b, tabHp, hx]
    rfl
  case b =>
    refine ⟨?_, ?_⟩
    · simp -implicitDefEqProofs [hp53b, can53b, tabHp, upd]
    · simp -implicitDefEqProofs [getA, call1, envOf, hp53b, tabHp, upd, endR, doneR, evZ, z53]
end Go.X.Try
set_option maxRecDepth 100000
set_option linter.unusedSimpArgs false
set_option linter.unusedVariables false
namespace Go.X.Try
open Go.IntWalk
/-! ### what the walk comes to -/
def wk (L : Nat) (sh : List Nat) : List Int → Nat → Nat → Nat → Option (Nat × Nat × Nat)
  | [], st, c, N => some (st, c, N)
  | y :: ys, st, c, N => match bk L sh st y.toNat with
    | none => none
    | some i => wk L sh ys i (c + bOf L sh i) (N + (st - baseOf L sh i) * 2 ^ c)
def wkR : Option (Nat × Nat × Nat) → AV
  | some (st, _, _) => .tup [.one (.int .i64 st), .one (.bool true)]
  | none => .tup [.one (.int .i64 0), .one (.bool false)]
theorem roundsR_cons (F : Callee) (G t : Nat) (xs : List Int) (live ts : List Nat) (x : Int) (l : List Int) (st : St) : roundsR F G t xs live ts (x :: l) st = stepR F G t xs ts x (roundsR F G t xs live ts l) (st.head live) := rfl
theorem bOf_le {l : List Int} {sh : List Nat} {L : Nat} (S : Shr l L sh) {i : Nat} (hi : i < 2 ^ L) : bOf L sh i ≤ L := by
  obtain ⟨s, m, h1, h2, h3, h4, h5, h6, h7, h8, h9, h10⟩ := cellSc_ok S hi
  exact h8
theorem mod_small {v k : Nat} (h : v < 2 ^ k) : v % 2 ^ k = v := Nat.mod_eq_of_lt h
theorem rounds53w (t : Nat) {l : List Int} {sh : List Nat} {L : Nat} (S : Shr l L sh) {al : List Int} (hok : AllOk sh (2 ^ L) al) (xs : List Int) : ∀ (ys : List Int) (st c N : Nat) (bs : List Int) (s : St), isB ys → st < 2 ^ L → Holds bs c N → c + 9 * ys.length ≤ 700000 →
    At53w t L (cellsTo L sh (2 ^ L)) l (fiTo sh sh.length) al bs xs c st s →
    ∃ (bs' : List Int) (c' : Nat), E53 (roundsR G53 102 16 xs [3, 5, 6, 7, 8, 16] [3, 5, 6, 7, 8] ys s) = some (wkR (wk L sh ys st c N), hp53w L (cellsTo L sh (2 ^ L)) l (fiTo sh sh.length) al bs' c') ∧
      ∀ st1 c1 N1, wk L sh ys st c N = some (st1, c1, N1) → c' = c1 ∧ Holds bs' c1 N1 ∧ st1 < 2 ^ L ∧ c1 ≤ c + 9 * ys.length
  | [], st, c, N, bs, s, _, hst, hH, hc, hat => by
    refine ⟨bs, c, hat.2, ?_⟩
    rintro st1 c1 N1 h
    simp only [wk, Option.some.injEq, Prod.mk.injEq] at h
    obtain ⟨rfl, rfl, rfl⟩ := h
    exact ⟨rfl, hH, hst, by simp⟩
  | y :: ys, st, c, N, bs, s, hB, hst, hH, hc, hat => by
    obtain ⟨sb, rfl, hsb⟩ : ∃ sb : Nat, y = sb ∧ sb < 256 := by
      have := hB y (by simp)
      exact ⟨y.toNat, by omega, by omega⟩
    have e90 := bk90 S hok hst hsb
    simp only [tabOf] at e90
    rw [roundsR_cons, hat.1]
    simp only [List.length_cons] at hc
    simp only [wk, Int.toNat_natCast]
    cases e : bk L sh st sb with
    | none =>
      rw [e] at e90
      exact ⟨bs, c, miss53w t L _ l _ al bs xs c st sb _ e90, fun _ _ _ h => by simp at h⟩
    | some i =>
      rw [e] at e90
      obtain ⟨h1, h2, h3, h4⟩ := bk_some S e
      have hb := bOf_le S h1
      have h9 := S.hi
      have hpw : 2 ^ bOf L sh i ≤ 2 ^ 9 := Nat.pow_le_pow_right (by omega) (by omega)
      obtain ⟨bs1, e55, hH1⟩ := f55 (st - baseOf L sh i) (bOf L sh i) c N bs hH (by omega) (by omega) (by omega)
      rw [mod_small (by omega)] at hH1
      have e54 := e54 _ _ _ _ _ _ (u32_in _ (by omega)) _ e55
      obtain ⟨s1, e1, hat1⟩ := step53w t L (cellsTo L sh (2 ^ L)) l (fiTo sh sh.length) al bs bs1 xs c (c + bOf L sh i : Nat) st sb _ _ i (roundsR G53 102 16 xs [3, 5, 6, 7, 8, 16] [3, 5, 6, 7, 8] ys) e90 e54
      obtain ⟨bs2, c2, e2, h2⟩ := rounds53w t S hok xs ys i (c + bOf L sh i) _ bs1 s1 (fun b hb => hB b (by simp [hb])) h1 hH1 (by omega) hat1
      refine ⟨bs2, c2, by rw [e1]; exact e2, fun st1 c1 N1 h => ?_⟩
      obtain ⟨q1, q2, q3, q4⟩ := h2 st1 c1 N1 h
      exact ⟨q1, q2, q3, by simp only [List.length_cons]; omega⟩
theorem rounds53b (t : Nat) {l : List Int} {sh : List Nat} {L : Nat} (S : Shr l L sh) {al : List Int} (hok : AllOk sh (2 ^ L) al) (xs : List Int) (a : Nat) : ∀ (ys : List Int) (st c N : Nat) (s : St), isB ys → st < 2 ^ L → c + a + 9 * ys.length ≤ 700000 →
    At53b t L (cellsTo L sh (2 ^ L)) l (fiTo sh sh.length) al xs (a + c : Nat) st s →
    ∃ (c' : Nat), E53 (roundsR G53 102 16 xs [3, 5, 6, 7, 8, 16] [3, 5, 6, 7, 8] ys s) = some (wkR (wk L sh ys st c N), hp53b L (cellsTo L sh (2 ^ L)) l (fiTo sh sh.length) al c') ∧
      ∀ st1 c1 N1, wk L sh ys st c N = some (st1, c1, N1) → c' = a + c1
  | [], st, c, N, s, _, hst, hc, hat => by
    refine ⟨a + c, hat.2, ?_⟩
    rintro st1 c1 N1 h
    simp only [wk, Option.some.injEq, Prod.mk.injEq] at h
    obtain ⟨rfl, rfl, rfl⟩ := h
    rfl
  | y :: ys, st, c, N, s, hB, hst, hc, hat => by
    obtain ⟨sb, rfl, hsb⟩ : ∃ sb : Nat, y = sb ∧ sb < 256 := by
      have := hB y (by simp)
      exact ⟨y.toNat, by omega, by omega⟩
    have e90 := bk90 S hok hst hsb
    simp only [tabOf] at e90
    rw [roundsR_cons, hat.1]
    simp only [List.length_cons] at hc
    simp only [wk, Int.toNat_natCast]
    cases e : bk L sh st sb with
    | none =>
      rw [e] at e90
      exact ⟨a + c, miss53b t L _ l _ al xs _ st sb _ e90, fun _ _ _ h => by simp at h⟩
    | some i =>
      rw [e] at e90
      obtain ⟨h1, h2, h3, h4⟩ := bk_some S e
      have hb := bOf_le S h1
      have h9 := S.hi
      have e70 := e70 ((st - baseOf L sh i : Nat) : Int) ((bOf L sh i : Nat) : Int) ((a + c : Nat) : Int) ((a + (c + bOf L sh i) : Nat) : Int) (by rw [i64_in _ (by omega)]; omega)
      obtain ⟨s1, e1, hat1⟩ := step53b t L (cellsTo L sh (2 ^ L)) l (fiTo sh sh.length) al xs _ _ st sb _ _ i (roundsR G53 102 16 xs [3, 5, 6, 7, 8, 16] [3, 5, 6, 7, 8] ys) e90 e70
      obtain ⟨c2, e2, h2⟩ := rounds53b t S hok xs a ys i (c + bOf L sh i) (N + (st - baseOf L sh i) * 2 ^ c) s1 (fun b hb => hB b (by simp [hb])) h1 (by omega) hat1
      exact ⟨c2, by rw [e1]; exact e2, h2⟩
theorem isB_rev {xs : List Int} (h : isB xs) : isB xs.reverse := fun b hb => h b (by simpa using hb)
theorem f53w (t : Nat) {l : List Int} {sh : List Nat} {L : Nat} (S : Shr l L sh) {al : List Int} (hok : AllOk sh (2 ^ L) al) (xs : List Int) (hB : isB xs) (hl : xs.length ≤ 1000) :
    ∃ (bs' : List Int) (c' : Nat), F53 [.one (.ptr 0 0), .one (.ro t (.ints .u8 xs)), .one (.fn 54 [.ptr 5 0])] (hp53w L (cellsTo L sh (2 ^ L)) l (fiTo sh sh.length) al [] 0) = some (wkR (wk L sh xs.reverse 0 0 0), hp53w L (cellsTo L sh (2 ^ L)) l (fiTo sh sh.length) al bs' c') ∧
      ∀ st1 c1 N1, wk L sh xs.reverse 0 0 0 = some (st1, c1, N1) → c' = c1 ∧ Holds bs' c1 N1 ∧ st1 < 2 ^ L ∧ c1 ≤ 9 * xs.length := by
  obtain ⟨s, e, hat⟩ := pre53w t L (cellsTo L sh (2 ^ L)) l (fiTo sh sh.length) al [] xs 0 (by omega) (fun t => e89 t xs)
  obtain ⟨bs', c', h1, h2⟩ := rounds53w t S hok xs xs.reverse 0 0 0 [] s (isB_rev hB) (Nat.two_pow_pos L) holds0 (by simp; omega) hat
  refine ⟨bs', c', by rw [e]; exact h1, fun st1 c1 N1 h => ?_⟩
  obtain ⟨q1, q2, q3, q4⟩ := h2 st1 c1 N1 h
  exact ⟨q1, q2, q3, by simpa using q4⟩
theorem f53b (t : Nat) {l : List Int} {sh : List Nat} {L : Nat} (S : Shr l L sh) {al : List Int} (hok : AllOk sh (2 ^ L) al) (xs : List Int) (hB : isB xs) (hl : xs.length ≤ 1000) (a : Nat) (ha : a ≤ 100) :
    ∃ (c' : Nat), F53 [.one (.ptr 0 0), .one (.ro t (.ints .u8 xs)), .one (.fn 70 [.ptr 5 0])] (hp53b L (cellsTo L sh (2 ^ L)) l (fiTo sh sh.length) al a) = some (wkR (wk L sh xs.reverse 0 0 0), hp53b L (cellsTo L sh (2 ^ L)) l (fiTo sh sh.length) al c') ∧
      ∀ st1 c1 N1, wk L sh xs.reverse 0 0 0 = some (st1, c1, N1) → c' = a + c1 := by
  obtain ⟨s, e, hat⟩ := pre53b t L (cellsTo L sh (2 ^ L)) l (fiTo sh sh.length) al xs a (by omega) (fun t => e89 t xs)
  obtain ⟨c', h1, h2⟩ := rounds53b t S hok xs a xs.reverse 0 0 0 s (isB_rev hB) (Nat.two_pow_pos L) (by simp; omega) hat
  exact ⟨c', by rw [e]; exact h1, h2⟩
/-! ### Encode, Bits -/
theorem run21 (t : Nat) (L : Int) (cs : List (List Sc)) (l fi al bs bs' out xs : List Int) (c c' st : Int) (b : Bool)
    (e53 : F53 [.one (.ptr 0 0), .one (.ro 1 (.ints .u8 xs)), .one (.fn 54 [.ptr 5 0])] (hp53w L cs l fi al [] 0) = some (.tup [.one (.int .i64 st), .one (.bool true)], hp53w L cs l fi al bs c))
    (ws : IntKind.u32.wrap st = st) (e55 : F55 [.one (.ptr 0 0), .one (.int .u32 st), .one (.int .i64 L)] (bufHp (some 0) bs c) = some (.one (.bool b), bufHp (some 0) bs' c'))
    (e56 : F56 [.one (.ptr 0 0)] (bufHp (some 0) bs' c') = some (.one (.row 2), bufHp (some 0) bs' c' ++ [.rows (.ints .u8 out)])) :
    F21 [.one (.ptr 0 0), .one (.ro t (.ints .u8 xs))] (tabHp (some 0) L cs l fi al) = some (.tup [.one (.row 5), .one (.bool true)], tabHp (some 0) L cs l fi al ++ [.rows (.ints .u8 out)]) := by
  have e46 := f46 L cs l fi al
  simp only [hp53w, tabHp, bufHp, List.cons_append, List.nil_append] at e53 e55 e56 e46
  simp -implicitDefEqProofs [F21, c21, tabHp, upd, e53, ws, e55, e56, e46]
theorem run21n (t : Nat) (L : Int) (cs : List (List Sc)) (l fi al bs xs : List Int) (c : Int)
    (e53 : F53 [.one (.ptr 0 0), .one (.ro 1 (.ints .u8 xs)), .one (.fn 54 [.ptr 5 0])] (hp53w L cs l fi al [] 0) = some (.tup [.one (.int .i64 0), .one (.bool false)], hp53w L cs l fi al bs c)) :
    F21 [.one (.ptr 0 0), .one (.ro t (.ints .u8 xs))] (tabHp (some 0) L cs l fi al) = some (.tup [.one (.row 5), .one (.bool false)], tabHp (some 0) L cs l fi al ++ [.rows (.ints .u8 [])]) := by
  simp only [hp53w, tabHp, bufHp, List.cons_append, List.nil_append] at e53
  simp -implicitDefEqProofs [F21, c21, tabHp, upd, e53]
theorem f21 (t : Nat) {l : List Int} {sh : List Nat} {L : Nat} (S : Shr l L sh) {al : List Int} (hok : AllOk sh (2 ^ L) al) (xs : List Int) (hB : isB xs) (hl : xs.length ≤ 1000) {st c N : Nat} (h : wk L sh xs.reverse 0 0 0 = some (st, c, N)) :
    ∃ out, F21 [.one (.ptr 0 0), .one (.ro t (.ints .u8 xs))] (tabOf (some 0) L sh l al) = some (.tup [.one (.row 5), .one (.bool true)], tabOf (some 0) L sh l al ++ [.rows (.ints .u8 out)]) ∧ Holds out (c + L + 1) (N + st * 2 ^ c + 2 ^ (c + L)) ∧ st < 2 ^ L ∧ c ≤ 9 * xs.length := by
  have hsz := S.size
  have h9 := S.hi
  obtain ⟨bs, c', e, hx⟩ := f53w 1 S hok xs hB hl
  rw [h] at e hx
  obtain ⟨rfl, hH, hst, hc⟩ := hx _ _ _ rfl
  obtain ⟨bs', e55, hH1⟩ := f55 st L c' N bs hH (by omega) (by omega) (by omega)
  rw [mod_small hst] at hH1
  obtain ⟨out, e56, hH2⟩ := f56 bs' (c' + L) _ hH1 (by omega)
  exact ⟨out, run21 t L _ l _ al bs bs' out xs c' _ st true e (u32_in _ (by omega)) e55 e56, hH2, hst, hc⟩
theorem f21n (t : Nat) {l : List Int} {sh : List Nat} {L : Nat} (S : Shr l L sh) {al : List Int} (hok : AllOk sh (2 ^ L) al) (xs : List Int) (hB : isB xs) (hl : xs.length ≤ 1000) (h : wk L sh xs.reverse 0 0 0 = none) :
    F21 [.one (.ptr 0 0), .one (.ro t (.ints .u8 xs))] (tabOf (some 0) L sh l al) = some (.tup [.one (.row 5), .one (.bool false)], tabOf (some 0) L sh l al ++ [.rows (.ints .u8 [])]) := by
  obtain ⟨bs, c', e, _⟩ := f53w 1 S hok xs hB hl
  rw [h] at e
  exact run21n t L _ l _ al bs xs c' e
theorem run29 (t : Nat) (L : Int) (cs : List (List Sc)) (l fi al xs : List Int) (c st : Int) (b : Bool)
    (e53 : F53 [.one (.ptr 0 0), .one (.ro 1 (.ints .u8 xs)), .one (.fn 70 [.ptr 5 0])] (hp53b L cs l fi al L) = some (.tup [.one (.int .i64 st), .one (.bool b)], hp53b L cs l fi al c)) :
    F29 [.one (.ptr 0 0), .one (.ro t (.ints .u8 xs))] (tabHp (some 0) L cs l fi al) = some (.tup [.one (.int .i64 (if b then c else 0)), .one (.bool b)], tabHp (some 0) L cs l fi al) := by
  have e46 := f46 L cs l fi al
  simp only [hp53b, tabHp, bufHp, List.cons_append, List.nil_append] at e53 e46
  cases b <;> simp -implicitDefEqProofs [F29, c29, tabHp, upd, e53, e46]
theorem f29 (t : Nat) {l : List Int} {sh : List Nat} {L : Nat} (S : Shr l L sh) {al : List Int} (hok : AllOk sh (2 ^ L) al) (xs : List Int) (hB : isB xs) (hl : xs.length ≤ 1000) {st c N : Nat} (h : wk L sh xs.reverse 0 0 0 = some (st, c, N)) :
    F29 [.one (.ptr 0 0), .one (.ro t (.ints .u8 xs))] (tabOf (some 0) L sh l al) = some (.tup [.one (.int .i64 (L + c : Nat)), .one (.bool true)], tabOf (some 0) L sh l al) := by
  have h9 := S.hi
  obtain ⟨c', e, hx⟩ := f53b 1 S hok xs hB hl L (by omega)
  rw [h] at e hx
  rw [hx _ _ _ rfl] at e
  exact run29 t L _ l _ al xs _ _ true e
theorem f29n (t : Nat) {l : List Int} {sh : List Nat} {L : Nat} (S : Shr l L sh) {al : List Int} (hok : AllOk sh (2 ^ L) al) (xs : List Int) (hB : isB xs) (hl : xs.length ≤ 1000) (h : wk L sh xs.reverse 0 0 0 = none) :
    F29 [.one (.ptr 0 0), .one (.ro t (.ints .u8 xs))] (tabOf (some 0) L sh l al) = some (.tup [.one (.int .i64 0), .one (.bool false)], tabOf (some 0) L sh l al) := by
  have h9 := S.hi
  obtain ⟨c', e, _⟩ := f53b 1 S hok xs hB hl L (by omega)
  rw [h] at e
  exact run29 t L _ l _ al xs _ _ false e
end Go.X.Try
set_option maxRecDepth 100000
set_option linter.unusedSimpArgs false
set_option linter.unusedVariables false
namespace Go.X.Try
open Go.IntWalk
/-! ### Decode -/
def canon18 (t : Nat) (L : Int) (cs : List (List Sc)) (l fi al : List Int) (b0 : List Int) (bs out : List Int) (m st n i : Int) : St :=
  ⟨[(0, .one (.ptr 0 0)), (8, .one (.ptr 5 0)), (11, .one (.int .i64 st)), (12, .one (.row 7)), (47, .one (.int .i64 n)), (48, .one (.int .i64 i))], [.ptr 0 0, .ro t (.ints .u8 b0), .int .i64 n],
   tabHp (some 0) L cs l fi al ++ [.cells none [.row 6, .int .i64 m], .rows (.ints .u8 bs), .rows (.ints .u8 out)]⟩
theorem body18 (t : Nat) (L : Int) (cs : List (List Sc)) (l fi al : List Int) (b0 : List Int) (bs out : List Int) (m m' st st' n i i' s k base v : Int) (hi : i < n) (ho : out.length ≤ 140737488355327)
    (e47 : F47 [.one (.ptr 0 0), .one (.int .i64 st)] (tabHp (some 0) L cs l fi al) = some (cel [.int .u8 s, .int .i64 k, .int .i64 base] true, tabHp (some 0) L cs l fi al))
    (e45 : F45 [.one (.ptr 0 0), .one (.int .i64 k)] (bufHp (some 0) bs m) = some (tup2 v true, bufHp (some 0) bs m')) (wv : IntKind.i64.wrap v = v)
    (e48 : F48 [.one (.ptr 0 0), .one (.int .i64 st), .one (.int .i64 v)] (tabHp (some 0) L cs l fi al) = some (.tup [.one (.int .i64 st'), .one (.bool true)], tabHp (some 0) L cs l fi al)) (wi : IntKind.i64.wrap (i + 1) = i') :
    ∃ st1, evC T18 KK b18x0 (canon18 t L cs l fi al b0 bs out m st n i) = some (.norm, st1) ∧ St.head [0, 8, 11, 12, 47, 48] st1 = canon18 t L cs l fi al b0 bs (out ++ [s]) m' st' n i' := by
  simp only [tabHp, bufHp, cel, tup2, List.map_cons, List.map_nil, Sc.sv] at e47 e45 e48
  simp -implicitDefEqProofs [b18x0, canon18, tabHp, upd, hi, ho, e47, e45, e48, wv, wi, RC.len, RC.size, RC.app, RC.ofElems]
theorem bad18 (t : Nat) (L : Int) (cs : List (List Sc)) (l fi al : List Int) (b0 : List Int) (bs out : List Int) (m m' st n i s k base v : Int) (hi : i < n)
    (e47 : F47 [.one (.ptr 0 0), .one (.int .i64 st)] (tabHp (some 0) L cs l fi al) = some (cel [.int .u8 s, .int .i64 k, .int .i64 base] true, tabHp (some 0) L cs l fi al))
    (e45 : F45 [.one (.ptr 0 0), .one (.int .i64 k)] (bufHp (some 0) bs m) = some (tup2 v false, bufHp (some 0) bs m')) :
    ∃ st1, evC T18 KK b18x0 (canon18 t L cs l fi al b0 bs out m st n i) = some (.ret, st1) ∧ resC [(6, none), (7, none)] (some (.ret, st1)) = some (.tup [.one (.row 5), .one (.bool false)], tabHp (some 0) L cs l fi al ++ [.rows (.ints .u8 [])]) := by
  simp only [tabHp, bufHp, cel, tup2, List.map_cons, List.map_nil, Sc.sv] at e47 e45
  refine ⟨?w, ?a, ?b⟩
  case a =>
    simp -implicitDefEqProofs [b18x0, canon18, tabHp, upd, hi, e47, e45, RC.len, RC.size, RC.app, RC.ofElems]
    rfl
  case b => simp -implicitDefEqProofs [tabHp]
theorem end18 (t : Nat) (L : Int) (cs : List (List Sc)) (l fi al : List Int) (b0 : List Int) (bs out : List Int) (m st n i : Int) (hi : ¬ i < n) :
    ∃ env, evC T18 KK b18x0 (canon18 t L cs l fi al b0 bs out m st n i) = some (.exit 0, ⟨env, [.ptr 0 0, .ro t (.ints .u8 b0), .int .i64 n], tabHp (some 0) L cs l fi al ++ [.cells none [.row 6, .int .i64 m], .rows (.ints .u8 bs), .rows (.ints .u8 out)]⟩) ∧ getT 8 env = .one (.ptr 5 0) ∧ getT 11 env = .one (.int .i64 st) ∧ getT 12 env = .one (.row 7) := by
  simp -implicitDefEqProofs [b18x0, canon18, tabHp, upd, hi]

def dk (L : Nat) (sh : List Nat) (M : Nat) : Nat → Nat → Nat → Option (List Int × Nat × Nat)
  | 0, st, m => some ([], st, m)
  | n + 1, st, m => if m < bOf L sh st then none else (dk L sh M n (baseOf L sh st + M / 2 ^ (m - bOf L sh st) % 2 ^ bOf L sh st) (m - bOf L sh st)).map fun r => ((((symOf sh).getD st 0 : Nat) : Int) :: r.1, r.2)
theorem cell_all {l : List Int} {sh : List Nat} {L : Nat} (S : Shr l L sh) {i : Nat} (hi : i < 2 ^ L) : (cellsTo L sh (2 ^ L))[i]? = some [.int .u8 (((symOf sh).getD i 0 : Nat) : Int), .int .i64 (bOf L sh i : Nat), .int .i64 (baseOf L sh i : Nat)] ∧ bOf L sh i ≤ L ∧ baseOf L sh i + 2 ^ bOf L sh i ≤ 2 ^ L := by
  obtain ⟨s, m, h1, h2, h3, h4, h5, h6, h7, h8, h9, h10⟩ := cellSc_ok S hi
  refine ⟨by rw [cellsTo_get hi]; rfl, h8, ?_⟩
  rw [Nat.add_mul, Nat.one_mul, Nat.pow_succ] at h10
  omega
/-- The loop of Decode: out of symbols, or bits. -/
theorem loop18 (t : Nat) {l : List Int} {sh : List Nat} {L : Nat} (S : Shr l L sh) {al : List Int} (b0 bs : List Int) (hB : isB bs) (hl : bs.length ≤ 100000) (n : Nat) (hn : n ≤ 1000) : ∀ (j i st m : Nat) (out : List Int) (K : Nat), i + j = n → st < 2 ^ L → m ≤ 8 * bs.length → out.length ≤ i → j < K →
    ∃ r, loopH (evC T18 KK b18x0) [0, 8, 11, 12, 47, 48] K (canon18 t L (cellsTo L sh (2 ^ L)) l (fiTo sh sh.length) al b0 bs out m st n i) = some r ∧
      (match dk L sh (leB bs) j st m with
      | none => ∃ st1, r = (.ret, st1) ∧ resC [(6, none), (7, none)] (some (.ret, st1)) = some (.tup [.one (.row 5), .one (.bool false)], tabOf (some 0) L sh l al ++ [.rows (.ints .u8 [])])
      | some (o, st', m') => m' ≤ m ∧ ∃ env, r = (.exit 0, ⟨env, [.ptr 0 0, .ro t (.ints .u8 b0), .int .i64 n], tabOf (some 0) L sh l al ++ [.cells none [.row 6, .int .i64 m'], .rows (.ints .u8 bs), .rows (.ints .u8 (out ++ o))]⟩) ∧ getT 8 env = .one (.ptr 5 0) ∧ getT 11 env = .one (.int .i64 st') ∧ getT 12 env = .one (.row 7))
  | 0, i, st, m, out, K, hj, hst, hm, ho, hK => by
    obtain ⟨env, e, g1, g2, g3⟩ := end18 t L (cellsTo L sh (2 ^ L)) l (fiTo sh sh.length) al b0 bs out m st n i (by omega)
    refine ⟨_, loopH_exit e, ?_⟩
    simp only [dk]
    exact ⟨Nat.le_refl _, env, by rw [List.append_nil]; rfl, g1, g2, g3⟩
  | j + 1, i, st, m, out, K, hj, hst, hm, ho, hK => by
    obtain ⟨hc, hb, hbb⟩ := cell_all S hst
    have h9 := S.hi
    have hpw : 2 ^ L ≤ 2 ^ 9 := Nat.pow_le_pow_right (by omega) (by omega)
    have hpb : 2 ^ bOf L sh st ≤ 2 ^ 9 := Nat.pow_le_pow_right (by omega) (by omega)
    have e47 := f47 L _ _ _ st (cellsTo L sh (2 ^ L)) l (fiTo sh sh.length) al hc
    simp only [dk]
    by_cases hmb : m < bOf L sh st
    · rw [if_pos hmb]
      have e45 := f45a bs m (bOf L sh st : Nat) (.inr (.inr (by omega)))
      obtain ⟨st1, e, hr⟩ := bad18 t L (cellsTo L sh (2 ^ L)) l (fiTo sh sh.length) al b0 bs out m m st n i _ _ _ _ (by omega) e47 e45
      exact ⟨_, loopH_ret e, st1, rfl, hr⟩
    · rw [if_neg hmb]
      have e45 := f45 bs m (bOf L sh st) hB hl hm (by omega) (by omega)
      generalize hv : leB bs / 2 ^ (m - bOf L sh st) % 2 ^ bOf L sh st = v at *
      have hvl : v < 2 ^ bOf L sh st := by rw [← hv]; exact Nat.mod_lt _ (Nat.two_pow_pos _)
      have e48 := f48 L v _ (bOf L sh st : Nat) (baseOf L sh st : Nat) ((2 ^ bOf L sh st : Nat) : Int) ((baseOf L sh st + v : Nat) : Int) st (cellsTo L sh (2 ^ L)) l (fiTo sh sh.length) al hc (by omega) (shl1 (by omega)) (fun _ _ => by rw [i64_in _ (by omega)]; omega)
      rw [if_pos ⟨by omega, by omega⟩] at e48
      obtain ⟨st1, e1, e2⟩ := body18 t L (cellsTo L sh (2 ^ L)) l (fiTo sh sh.length) al b0 bs out m _ st _ n i ((i + 1 : Nat) : Int) _ _ _ _ (by omega) (by omega) e47 e45 (i64_in _ (by omega)) e48 (by rw [i64_in _ (by omega)]; omega)
      obtain ⟨r, h1, h2⟩ := loop18 t S b0 bs hB hl n hn j (i + 1) (baseOf L sh st + v) (m - bOf L sh st) (out ++ [(((symOf sh).getD st 0 : Nat) : Int)]) (K - 1) (by omega) (by omega) (by omega) (by simp; omega) (by omega)
      refine ⟨r, by rw [loopH_norm e1 (by omega), e2]; exact h1, ?_⟩
      cases hd : dk L sh (leB bs) j (baseOf L sh st + v) (m - bOf L sh st) with
      | none => rw [hd] at h2; exact h2
      | some p =>
        obtain ⟨o, st', m'⟩ := p
        rw [hd] at h2
        simp only [Option.map_some]
        obtain ⟨q, env, q1, q2⟩ := h2
        rw [List.append_assoc] at q1
        exact ⟨by omega, env, q1, q2⟩
end Go.X.Try
set_option maxRecDepth 100000
set_option linter.unusedSimpArgs false
set_option linter.unusedVariables false
namespace Go.X.Try
open Go.IntWalk
/-! ### Decode, whole -/
def decO (L : Nat) (sh : List Nat) (bs : List Int) (n : Int) : Option (List Int) :=
  if bs = [] ∨ bs.getLast? = some 0 ∨ n < 0 ∨ 1048576 < n ∨ bl (leB bs) - 1 < L then none
  else match dk L sh (leB bs) n.toNat (leB bs / 2 ^ (bl (leB bs) - 1 - L) % 2 ^ L) (bl (leB bs) - 1 - L) with
    | some (o, st, m) => if st = 0 ∧ m = 0 then some o else none
    | none => none
def decR : Option (List Int) → AV
  | some _ => .tup [.one (.row 5), .one (.bool true)]
  | none => .tup [.one (.row 5), .one (.bool false)]
def decB : Option (List Int) → List Int
  | some o => o
  | none => []
section
variable (t : Nat) (L : Int) (cs : List (List Sc)) (l fi al : List Int) (bs : List Int) (n : Int)
theorem run18a (e44 : ∀ t, F44 [.one (.ro t (.ints .u8 bs))] [] = some (.tup [.one .nilp, .one (.bool false)], [])) :
    F18 [.one (.ptr 0 0), .one (.ro t (.ints .u8 bs)), .one (.int .i64 n)] (tabHp (some 0) L cs l fi al) = some (.tup [.one (.row 5), .one (.bool false)], tabHp (some 0) L cs l fi al ++ [.rows (.ints .u8 [])]) := by
  simp -implicitDefEqProofs [F18, c18, upd, tabHp, e44]
theorem run18b (m : Int) (e44 : ∀ t, F44 [.one (.ro t (.ints .u8 bs))] [] = some (.tup [.one (.ptr 0 0), .one (.bool true)], bufHp none bs m)) (hn : n < 0 ∨ 1048576 < n) :
    F18 [.one (.ptr 0 0), .one (.ro t (.ints .u8 bs)), .one (.int .i64 n)] (tabHp (some 0) L cs l fi al) = some (.tup [.one (.row 5), .one (.bool false)], tabHp (some 0) L cs l fi al ++ [.rows (.ints .u8 [])]) := by
  simp only [bufHp] at e44
  by_cases h : n < 0
  · simp -implicitDefEqProofs [F18, c18, upd, tabHp, e44, h]
  · have h2 : 1048576 < n := by omega
    simp -implicitDefEqProofs [F18, c18, upd, tabHp, e44, h, h2]
theorem run18c (m m' v : Int) (e44 : ∀ t, F44 [.one (.ro t (.ints .u8 bs))] [] = some (.tup [.one (.ptr 0 0), .one (.bool true)], bufHp none bs m)) (h1 : ¬ n < 0) (h2 : ¬ 1048576 < n)
    (e45 : F45 [.one (.ptr 0 0), .one (.int .i64 L)] (bufHp (some 0) bs m) = some (tup2 v false, bufHp (some 0) bs m')) :
    F18 [.one (.ptr 0 0), .one (.ro t (.ints .u8 bs)), .one (.int .i64 n)] (tabHp (some 0) L cs l fi al) = some (.tup [.one (.row 5), .one (.bool false)], tabHp (some 0) L cs l fi al ++ [.rows (.ints .u8 [])]) := by
  have e46 := f46 L cs l fi al
  simp only [bufHp, tabHp, tup2] at e44 e45 e46
  simp -implicitDefEqProofs [F18, c18, upd, tabHp, e44, e45, e46, h1, h2]
theorem run18d (m m' v : Int) (st1 : St) (e44 : ∀ t, F44 [.one (.ro t (.ints .u8 bs))] [] = some (.tup [.one (.ptr 0 0), .one (.bool true)], bufHp none bs m)) (h1 : ¬ n < 0) (h2 : ¬ 1048576 < n)
    (e45 : F45 [.one (.ptr 0 0), .one (.int .i64 L)] (bufHp (some 0) bs m) = some (tup2 v true, bufHp (some 0) bs m')) (wv : IntKind.i64.wrap v = v)
    (el : loopH (evC T18 KK b18x0) [0, 8, 11, 12, 47, 48] KK (canon18 t L cs l fi al bs bs [] m' v n 0) = some (.ret, st1)) (er : resC [(6, none), (7, none)] (some (.ret, st1)) = some (.tup [.one (.row 5), .one (.bool false)], tabHp (some 0) L cs l fi al ++ [.rows (.ints .u8 [])])) :
    F18 [.one (.ptr 0 0), .one (.ro t (.ints .u8 bs)), .one (.int .i64 n)] (tabHp (some 0) L cs l fi al) = some (.tup [.one (.row 5), .one (.bool false)], tabHp (some 0) L cs l fi al ++ [.rows (.ints .u8 [])]) := by
  have e46 := f46 L cs l fi al
  simp only [bufHp, tabHp, tup2, canon18, List.cons_append, List.nil_append] at e44 e45 e46 el
  rw [← er]
  simp -implicitDefEqProofs [F18, c18, upd, tabHp, e44, e45, e46, wv, h1, h2, el]
theorem run18e (m m' v st : Int) (o : List Int) (mm : Nat) (env : Env) (e44 : ∀ t, F44 [.one (.ro t (.ints .u8 bs))] [] = some (.tup [.one (.ptr 0 0), .one (.bool true)], bufHp none bs m)) (h1 : ¬ n < 0) (h2 : ¬ 1048576 < n)
    (e45 : F45 [.one (.ptr 0 0), .one (.int .i64 L)] (bufHp (some 0) bs m) = some (tup2 v true, bufHp (some 0) bs m')) (wv : IntKind.i64.wrap v = v)
    (el : loopH (evC T18 KK b18x0) [0, 8, 11, 12, 47, 48] KK (canon18 t L cs l fi al bs bs [] m' v n 0) = some (.exit 0, ⟨env, [.ptr 0 0, .ro t (.ints .u8 bs), .int .i64 n], tabHp (some 0) L cs l fi al ++ [.cells none [.row 6, .int .i64 mm], .rows (.ints .u8 bs), .rows (.ints .u8 o)]⟩))
    (g8 : getT 8 env = .one (.ptr 5 0)) (g11 : getT 11 env = .one (.int .i64 st)) (g12 : getT 12 env = .one (.row 7)) :
    F18 [.one (.ptr 0 0), .one (.ro t (.ints .u8 bs)), .one (.int .i64 n)] (tabHp (some 0) L cs l fi al) = some (.tup [.one (.row 5), .one (.bool (decide (st = 0 ∧ mm = 0)))], tabHp (some 0) L cs l fi al ++ [.rows (.ints .u8 (if st = 0 ∧ mm = 0 then o else []))]) := by
  have e46 := f46 L cs l fi al
  have e49 := f49 bs (mm : Int)
  simp only [bufHp, tabHp, tup2, canon18, List.cons_append, List.nil_append] at e44 e45 e46 el e49
  by_cases hs : st = 0
  · subst hs
    by_cases hm : mm = 0
    · subst hm
      have z : ((0 : Nat) : Int) = 0 := rfl
      rw [z] at el e49
      simp -implicitDefEqProofs [F18, c18, upd, tabHp, e44, e45, e46, e49, wv, h1, h2, el, g8, g11, g12]
    · have hm2 : 0 < mm := by omega
      have hm3 : (0 : Int) < mm := by omega
      simp -implicitDefEqProofs [F18, c18, upd, tabHp, e44, e45, e46, e49, wv, h1, h2, el, g8, g11, g12, hm, hm2, hm3]
  · simp -implicitDefEqProofs [F18, c18, upd, tabHp, e44, e45, e46, e49, wv, h1, h2, el, g8, g11, g12, hs]
end
theorem f18 (t : Nat) {l : List Int} {sh : List Nat} {L : Nat} (S : Shr l L sh) {al : List Int} (bs : List Int) (hB : isB bs) (hl : bs.length ≤ 10000) (n : Int) (hn : n ≤ 1000 ∨ 1048576 < n) :
    F18 [.one (.ptr 0 0), .one (.ro t (.ints .u8 bs)), .one (.int .i64 n)] (tabOf (some 0) L sh l al) = some (decR (decO L sh bs n), tabOf (some 0) L sh l al ++ [.rows (.ints .u8 (decB (decO L sh bs n)))]) := by
  have h9 := S.hi
  have hpw : 2 ^ L ≤ 2 ^ 9 := Nat.pow_le_pow_right (by omega) (by omega)
  unfold tabOf
  by_cases h0 : bs = [] ∨ bs.getLast? = some 0
  · have e44 := fun t => f44z t bs h0 (by omega)
    have : decO L sh bs n = none := by unfold decO; rw [if_pos (by rcases h0 with h | h <;> simp [h])]
    rw [this]
    exact run18a t L _ l _ al bs n e44
  · obtain ⟨h1, h2⟩ := not_or.1 h0
    obtain ⟨b, hb⟩ : ∃ b, bs.getLast? = some b := by
      cases e : bs.getLast? with
      | none => rw [List.getLast?_eq_none_iff] at e; exact absurd e h1
      | some b => exact ⟨b, rfl⟩
    have hb0 : b ≠ 0 := by rintro rfl; exact h2 hb
    have hbB := hB b (List.mem_of_getLast? hb)
    have hbl := bl_leB hB hb hb0
    have hb1 := (bl_pos (n := b.toNat) (by omega)).2.2
    have hb8 : bl b.toNat ≤ 8 := bl_le (by omega)
    have hlen : 0 < bs.length := List.length_pos_iff.2 h1
    have e44 := fun t => f44 t bs b hB hb hb0 (by omega)
    have hm : 8 * (bs.length - 1) + (bl b.toNat - 1) = bl (leB bs) - 1 := by omega
    rw [hm] at e44
    unfold decO
    by_cases h3 : n < 0 ∨ 1048576 < n
    · rw [if_pos (.inr (.inr (by omega)))]
      exact run18b t L _ l _ al bs n _ e44 h3
    obtain ⟨h4, h5⟩ := not_or.1 h3
    by_cases h6 : bl (leB bs) - 1 < L
    · rw [if_pos (.inr (.inr (.inr (.inr h6))))]
      exact run18c t L _ l _ al bs n _ _ _ e44 h4 h5 (f45a bs _ L (.inr (.inr (by omega))))
    rw [if_neg (by simp only [not_or]; exact ⟨h1, h2, h4, h5, h6⟩)]
    have e45 := f45 bs (bl (leB bs) - 1) L hB (by omega) (by omega) (by omega) (by omega)
    have hv : leB bs / 2 ^ (bl (leB bs) - 1 - L) % 2 ^ L < 2 ^ L := Nat.mod_lt _ (Nat.two_pow_pos _)
    obtain ⟨N, rfl⟩ : ∃ N : Nat, n = N := ⟨n.toNat, by omega⟩
    generalize leB bs / 2 ^ (bl (leB bs) - 1 - L) % 2 ^ L = v at *
    have hlp := fun t => loop18 t S (al := al) bs bs hB (by omega) N (by omega) N 0 v (bl (leB bs) - 1 - L) [] KK (by omega) hv (by omega) (by simp) (by rw [KK_eq]; omega)
    rw [Int.toNat_natCast]
    have z : ((0 : Nat) : Int) = 0 := rfl
    cases hd : dk L sh (leB bs) N v (bl (leB bs) - 1 - L) with
    | none =>
      rw [hd] at hlp
      obtain ⟨r, e1, st1, rfl, hr⟩ := hlp t
      rw [z] at e1
      exact run18d t L _ l _ al bs N _ _ v st1 e44 h4 h5 e45 (i64_in _ (by omega)) e1 hr
    | some p =>
      obtain ⟨o, st', m'⟩ := p
      rw [hd] at hlp
      obtain ⟨r, e1, hle, env, rfl, g8, g11, g12⟩ := hlp t
      rw [z] at e1
      have := run18e t L _ l _ al bs N _ _ v st' o m' env e44 h4 h5 e45 (i64_in _ (by omega)) e1 g8 g11 g12
      rw [this]
      by_cases hz : st' = 0 ∧ m' = 0
      · obtain ⟨rfl, rfl⟩ := hz
        simp [decR, decB]
      · have hz2 : ¬ ((st' : Int) = 0 ∧ m' = 0) := by omega
        simp only [if_neg hz, if_neg hz2, decide_eq_false hz2, decR, decB]
end Go.X.Try
set_option maxRecDepth 100000
set_option linter.unusedSimpArgs false
set_option linter.unusedVariables false
namespace Go.X.Try
open Go.IntWalk
/-! ### the document's Encode -/
def canon28 (t t2 : Nat) (L : Int) (cs : List (List Sc)) (xs out : List Int) (st i : Int) : St :=
  ⟨[(0, .one (.ro t (.recs 3 cs))), (1, .one (.int .i64 L)), (2, .one (.ro t2 (.ints .u8 xs))), (8, .one (.row 0)), (9, .one (.int .i64 st)), (10, .one (.int .i64 i))], [.ro t (.recs 3 cs), .int .i64 L, .ro t2 (.ints .u8 xs)], [.rows (.ints .i64 out)]⟩
theorem body28 (t t2 : Nat) (L : Int) (cs : List (List Sc)) (xs out bits : List Int) (st v k x s base i' : Int) (i a : Nat) (hx : xs[i]? = some x)
    (e68 : ∀ t, F68 [.one (.ro t (.recs 3 cs)), .one (.int .i64 st), .one (.int .u8 x)] [] = some (.tup [.one (.int .i64 a), .one (.int .i64 v), .one (.bool true)], []))
    (wv : IntKind.u32.wrap v = v) (hc : cs[a]? = some [.int .u8 s, .int .i64 k, .int .i64 base]) (e69 : F69 [.one (.int .u32 v), .one (.int .i64 k)] [] = some (.one (.row 0), [.rows (.ints .i64 bits)]))
    (ho : (out.length : Int) * 8 + bits.length * 8 ≤ 140737488355328) (ho2 : (out.length + bits.length) * 8 ≤ 140737488355328) (wi : IntKind.i64.wrap ((i : Int) - 1) = i') :
    ∃ st1, evC T28 KK b28x0 (canon28 t t2 L cs xs out st i) = some (.norm, st1) ∧ St.head [0, 1, 2, 8, 9, 10] st1 = canon28 t t2 L cs xs (out ++ bits) a i' := by
  have l1 := (List.getElem?_eq_some_iff.1 hx).1
  have l1i : (i : Int) < xs.length := by omega
  have l2 := (List.getElem?_eq_some_iff.1 hc).1
  have l2i : (a : Int) < cs.length := by omega
  have hx' : ∀ hh, xs[i]'hh = x := fun hh => by rw [List.getElem?_eq_getElem hh] at hx; simpa using hx
  have hc' : ∀ hh, cs[a]'hh = [Sc.int .u8 s, .int .i64 k, .int .i64 base] := fun hh => by rw [List.getElem?_eq_getElem hh] at hc; simpa using hc
  simp -implicitDefEqProofs [b28x0, canon28, upd, l1, l1i, l2, l2i, hx, hx', hc, hc', e68, wv, e69, ho, ho2, wi, takeE, RC.len, RC.size, RC.get, RC.elem, RC.app, RC.ofElems]
theorem bad28 (t t2 : Nat) (L : Int) (cs : List (List Sc)) (xs out : List Int) (st x : Int) (i : Nat) (hx : xs[i]? = some x)
    (e68 : ∀ t, F68 [.one (.ro t (.recs 3 cs)), .one (.int .i64 st), .one (.int .u8 x)] [] = some (.tup [.one (.int .i64 0), .one (.int .i64 0), .one (.bool false)], [])) :
    ∃ st1, evC T28 KK b28x0 (canon28 t t2 L cs xs out st i) = some (.ret, st1) ∧ resC [(6, none), (7, none)] (some (.ret, st1)) = some (.tup [.one (.row 0), .one (.bool false)], [.rows (.ints .i64 [])]) := by
  have l1 := (List.getElem?_eq_some_iff.1 hx).1
  have l1i : (i : Int) < xs.length := by omega
  have hx' : ∀ hh, xs[i]'hh = x := fun hh => by rw [List.getElem?_eq_getElem hh] at hx; simpa using hx
  refine ⟨?w, ?a, ?b⟩
  case a =>
    simp -implicitDefEqProofs [b28x0, canon28, upd, l1, l1i, hx, hx', e68, RC.len, RC.size, RC.get, RC.elem, RC.app, RC.ofElems]
    rfl
  case b => simp -implicitDefEqProofs []
theorem end28 (t t2 : Nat) (L : Int) (cs : List (List Sc)) (xs out : List Int) (st i : Int) (h : ¬ 0 ≤ i) :
    ∃ env, evC T28 KK b28x0 (canon28 t t2 L cs xs out st i) = some (.exit 0, ⟨env, [.ro t (.recs 3 cs), .int .i64 L, .ro t2 (.ints .u8 xs)], [.rows (.ints .i64 out)]⟩) ∧ getT 1 env = .one (.int .i64 L) ∧ getT 8 env = .one (.row 0) ∧ getT 9 env = .one (.int .i64 st) := by
  simp -implicitDefEqProofs [b28x0, canon28, upd, h]
theorem isN_app {a b : List Int} (ha : isN a) (hb : isN b) : isN (a ++ b) := fun x hx => by
  rcases List.mem_append.1 hx with h | h
  · exact ha x h
  · exact hb x h
theorem take_rev {xs : List Int} {j : Nat} {x : Int} (h : xs[j]? = some x) : (xs.take (j + 1)).reverse = x :: (xs.take j).reverse := by
  rw [List.take_add_one, h]; simp
theorem loop28 (t t2 : Nat) {l : List Int} {sh : List Nat} {L : Nat} (S : Shr l L sh) (xs : List Int) (hB : isB xs) (hl : xs.length ≤ 1000) : ∀ (j st c N : Nat) (out : List Int) (K : Nat), j ≤ xs.length → st < 2 ^ L → isN out → out.length = c → leN out = N → c + 9 * j ≤ 100000 → j < K →
    ∃ r, loopH (evC T28 KK b28x0) [0, 1, 2, 8, 9, 10] K (canon28 t t2 L (cellsTo L sh (2 ^ L)) xs out st ((j : Int) - 1)) = some r ∧
      (match wk L sh (xs.take j).reverse st c N with
      | none => ∃ st1, r = (.ret, st1) ∧ resC [(6, none), (7, none)] (some (.ret, st1)) = some (.tup [.one (.row 0), .one (.bool false)], [.rows (.ints .i64 [])])
      | some (st', c', N') => ∃ env o, r = (.exit 0, ⟨env, [.ro t (.recs 3 (cellsTo L sh (2 ^ L))), .int .i64 L, .ro t2 (.ints .u8 xs)], [.rows (.ints .i64 o)]⟩) ∧ getT 1 env = .one (.int .i64 L) ∧ getT 8 env = .one (.row 0) ∧ getT 9 env = .one (.int .i64 st') ∧ isN o ∧ o.length = c' ∧ leN o = N' ∧ st' < 2 ^ L ∧ c' ≤ c + 9 * j)
  | 0, st, c, N, out, K, hj, hst, hN, hc, hv, hcl, hK => by
    obtain ⟨env, e, g1, g2, g3⟩ := end28 t t2 L (cellsTo L sh (2 ^ L)) xs out st (((0 : Nat) : Int) - 1) (by omega)
    refine ⟨_, loopH_exit e, ?_⟩
    simp only [List.take_zero, List.reverse_nil, wk]
    exact ⟨env, out, rfl, g1, g2, g3, hN, hc, hv, hst, by omega⟩
  | j + 1, st, c, N, out, K, hj, hst, hN, hc, hv, hcl, hK => by
    obtain ⟨x, hx⟩ : ∃ x, xs[j]? = some x := ⟨_, List.getElem?_eq_getElem (by omega)⟩
    have hxB := hB x (List.mem_of_getElem? hx)
    obtain ⟨sb, rfl⟩ : ∃ sb : Nat, x = sb := ⟨x.toNat, by omega⟩
    have e68 := fun t => bk68 t S hst (sb := sb)
    rw [take_rev hx]
    simp only [wk, Int.toNat_natCast]
    have hj1 : ((j + 1 : Nat) : Int) - 1 = (j : Int) := by omega
    rw [hj1]
    cases e : bk L sh st sb with
    | none =>
      rw [e] at e68
      obtain ⟨st1, e1, hr⟩ := bad28 t t2 L (cellsTo L sh (2 ^ L)) xs out st sb j hx e68
      exact ⟨_, loopH_ret e1, st1, rfl, hr⟩
    | some i =>
      rw [e] at e68
      obtain ⟨h1, h2, h3, h4⟩ := bk_some S e
      obtain ⟨hci, hb, hbb⟩ := cell_all S h1
      have h9 := S.hi
      have hpw : 2 ^ bOf L sh i ≤ 2 ^ 9 := Nat.pow_le_pow_right (by omega) (by omega)
      have e69 := f69 (st - baseOf L sh i) (bOf L sh i) (by omega) (by omega)
      have hol := ofN_length (bOf L sh i) (st - baseOf L sh i)
      obtain ⟨st1, e1, e2⟩ := body28 t t2 L (cellsTo L sh (2 ^ L)) xs out _ st _ _ sb _ _ ((j : Int) - 1) j i hx e68 (u32_in _ (by omega)) hci e69 (by omega) (by omega) (i64_in _ (by omega))
      obtain ⟨r, q1, q2⟩ := loop28 t t2 S xs hB hl j i (c + bOf L sh i) (N + (st - baseOf L sh i) * 2 ^ c) (out ++ ofN (st - baseOf L sh i) (bOf L sh i)) (K - 1) (by omega) h1 (isN_app hN (ofN_isN _ _)) (by rw [List.length_append, hol, hc]) (by rw [leN_append, leN_ofN, hv, hc, mod_small (by omega), Nat.mul_comm]) (by omega) (by omega)
      refine ⟨r, by rw [loopH_norm e1 (by omega), e2]; exact q1, ?_⟩
      dsimp only
      cases hd : wk L sh (xs.take j).reverse i (c + bOf L sh i) (N + (st - baseOf L sh i) * 2 ^ c) with
      | none => rw [hd] at q2; exact q2
      | some p =>
        obtain ⟨st', c', N'⟩ := p
        rw [hd] at q2
        obtain ⟨env, o, p1, p2, p3, p4, p5, p6, p7, p8, p9⟩ := q2
        exact ⟨env, o, p1, p2, p3, p4, p5, p6, p7, p8, by omega⟩
theorem run28a (t t2 : Nat) (L : Int) (cs : List (List Sc)) (xs : List Int) (st1 : St) (i : Int) (wi : IntKind.i64.wrap ((xs.length : Int) - 1) = i)
    (el : loopH (evC T28 KK b28x0) [0, 1, 2, 8, 9, 10] KK (canon28 t t2 L cs xs [] 0 i) = some (.ret, st1)) (er : resC [(6, none), (7, none)] (some (.ret, st1)) = some (.tup [.one (.row 0), .one (.bool false)], [.rows (.ints .i64 [])])) :
    F28 [.one (.ro t (.recs 3 cs)), .one (.int .i64 L), .one (.ro t2 (.ints .u8 xs))] [] = some (.tup [.one (.row 0), .one (.bool false)], [.rows (.ints .i64 [])]) := by
  simp only [canon28] at el
  rw [← er]
  simp -implicitDefEqProofs [F28, c28, upd, wi, el, RC.len, RC.size]
theorem run28b (t t2 : Nat) (L : Int) (cs : List (List Sc)) (xs o bits : List Int) (env : Env) (st i : Int) (wi : IntKind.i64.wrap ((xs.length : Int) - 1) = i)
    (el : loopH (evC T28 KK b28x0) [0, 1, 2, 8, 9, 10] KK (canon28 t t2 L cs xs [] 0 i) = some (.exit 0, ⟨env, [.ro t (.recs 3 cs), .int .i64 L, .ro t2 (.ints .u8 xs)], [.rows (.ints .i64 o)]⟩)) (g1 : getT 1 env = .one (.int .i64 L)) (g8 : getT 8 env = .one (.row 0)) (g9 : getT 9 env = .one (.int .i64 st))
    (ws : IntKind.u32.wrap st = st) (e69 : F69 [.one (.int .u32 st), .one (.int .i64 L)] [] = some (.one (.row 0), [.rows (.ints .i64 bits)])) 
    (ho : (o.length : Int) * 8 + bits.length * 8 ≤ 140737488355328) (ho2 : (o.length + bits.length) * 8 ≤ 140737488355328) :
    F28 [.one (.ro t (.recs 3 cs)), .one (.int .i64 L), .one (.ro t2 (.ints .u8 xs))] [] = some (.tup [.one (.row 0), .one (.bool true)], [.rows (.ints .i64 (o ++ bits))]) := by
  simp only [canon28] at el
  simp -implicitDefEqProofs [F28, c28, upd, wi, el, g1, g8, g9, ws, e69, ho, ho2, RC.len, RC.size, RC.app]
theorem f28n (t t2 : Nat) {l : List Int} {sh : List Nat} {L : Nat} (S : Shr l L sh) (xs : List Int) (hB : isB xs) (hl : xs.length ≤ 1000) (h : wk L sh xs.reverse 0 0 0 = none) :
    F28 [.one (.ro t (.recs 3 (cellsTo L sh (2 ^ L)))), .one (.int .i64 L), .one (.ro t2 (.ints .u8 xs))] [] = some (.tup [.one (.row 0), .one (.bool false)], [.rows (.ints .i64 [])]) := by
  obtain ⟨r, e, hr⟩ := loop28 t t2 S xs hB hl xs.length 0 0 0 [] KK (Nat.le_refl _) (Nat.two_pow_pos L) (by simp [isN]) rfl rfl (by omega) (by rw [KK_eq]; omega)
  rw [List.take_length, h] at hr
  obtain ⟨st1, rfl, er⟩ := hr
  exact run28a t t2 L _ xs st1 _ (i64_in _ (by omega)) e er
theorem f28 (t t2 : Nat) {l : List Int} {sh : List Nat} {L : Nat} (S : Shr l L sh) (xs : List Int) (hB : isB xs) (hl : xs.length ≤ 1000) {st c N : Nat} (h : wk L sh xs.reverse 0 0 0 = some (st, c, N)) :
    ∃ o, F28 [.one (.ro t (.recs 3 (cellsTo L sh (2 ^ L)))), .one (.int .i64 L), .one (.ro t2 (.ints .u8 xs))] [] = some (.tup [.one (.row 0), .one (.bool true)], [.rows (.ints .i64 o)]) ∧ isN o ∧ o.length = c + L ∧ leN o = N + st * 2 ^ c := by
  have h9 := S.hi
  have hpw : 2 ^ L ≤ 2 ^ 9 := Nat.pow_le_pow_right (by omega) (by omega)
  obtain ⟨r, e, hr⟩ := loop28 t t2 S xs hB hl xs.length 0 0 0 [] KK (Nat.le_refl _) (Nat.two_pow_pos L) (by simp [isN]) rfl rfl (by omega) (by rw [KK_eq]; omega)
  rw [List.take_length, h] at hr
  obtain ⟨env, o, rfl, g1, g8, g9, p4, p5, p6, p7, p8⟩ := hr
  have hol := ofN_length L st
  exact ⟨o ++ ofN st L, run28b t t2 L _ xs o _ env st _ (i64_in _ (by omega)) e g1 g8 g9 (u32_in _ (by omega)) (f69 st L (by omega) (by omega)) (by omega) (by omega), isN_app p4 (ofN_isN _ _), by rw [List.length_append, hol, p5], by rw [leN_append, leN_ofN, p5, p6, mod_small p7, Nat.mul_comm]⟩
/-! ### the document's Decode -/
def canon19 (t t2 : Nat) (L : Int) (cs : List (List Sc)) (bs A out : List Int) (m : Nat) (st n i : Int) : St :=
  ⟨[(0, .one (.ro t (.recs 3 cs))), (3, .one (.int .i64 n)), (10, .one (.view 0 0 m)), (12, .one (.int .i64 st)), (13, .one (.row 1)), (14, .one (.int .i64 i))], [.ro t (.recs 3 cs), .int .i64 L, .ro t2 (.ints .u8 bs), .int .i64 n], [.rows (.ints .i64 A), .rows (.ints .u8 out)]⟩
theorem body19 (t t2 : Nat) (L : Int) (cs : List (List Sc)) (bs A out : List Int) (m k st : Nat) (st' n i i' s base v : Int) (hi : i < n) (hm : m ≤ A.length) (hk : k ≤ m) (hc : cs[st]? = some [.int .u8 s, .int .i64 k, .int .i64 base]) (ho : out.length ≤ 140737488355327)
    (wk : IntKind.i64.wrap ((m : Int) - k) = ((m - k : Nat) : Int))
    (e51 : ∀ t, F51 [.one (.ro t (.ints .i64 ((A.drop (m - k)).take k)))] [] = some (.one (.int .u32 v), [])) (wv : IntKind.i64.wrap v = v) (ws : IntKind.i64.wrap (base + v) = st') (wi : IntKind.i64.wrap (i + 1) = i') :
    ∃ st1, evC T19 KK b19x0 (canon19 t t2 L cs bs A out m st n i) = some (.norm, st1) ∧ St.head [0, 3, 10, 12, 13, 14] st1 = canon19 t t2 L cs bs A (out ++ [s]) (m - k) st' n i' := by
  have l2 := (List.getElem?_eq_some_iff.1 hc).1
  have l2i : (st : Int) < cs.length := by omega
  have hc' : ∀ hh, cs[st]'hh = [Sc.int .u8 s, .int .i64 k, .int .i64 base] := fun hh => by rw [List.getElem?_eq_getElem hh] at hc; simpa using hc
  have hk1 : ¬ (m : Int) < k := by omega
  have hk2 : ¬ m < k := by omega
  have h3 : m - k ≤ m := by omega
  have h3i : ((m - k : Nat) : Int) ≤ m := by omega
  have h4 : m - k ≤ A.length := by omega
  have h5 : m - (m - k) = k := by omega
  simp -implicitDefEqProofs [b19x0, canon19, upd, hi, hm, l2, l2i, hc, hc', hk1, hk2, ho, wk, e51, wv, ws, wi, h3, h3i, h4, h5, takeE, RC.len, RC.size, RC.get, RC.elem, RC.app, RC.ofElems]
end Go.X.Try
set_option maxRecDepth 100000
set_option linter.unusedSimpArgs false
set_option linter.unusedVariables false
namespace Go.X.Try
open Go.IntWalk
theorem bad19 (t t2 : Nat) (L : Int) (cs : List (List Sc)) (bs A out : List Int) (m k st : Nat) (n i s base : Int) (hi : i < n) (hm : m ≤ A.length) (hk : m < k) (hc : cs[st]? = some [.int .u8 s, .int .i64 k, .int .i64 base]) :
    ∃ st1, evC T19 KK b19x0 (canon19 t t2 L cs bs A out m st n i) = some (.ret, st1) ∧ resC [(8, none), (9, none)] (some (.ret, st1)) = some (.tup [.one (.row 0), .one (.bool false)], [.rows (.ints .u8 [])]) := by
  have l2 := (List.getElem?_eq_some_iff.1 hc).1
  have l2i : (st : Int) < cs.length := by omega
  have hc' : ∀ hh, cs[st]'hh = [Sc.int .u8 s, .int .i64 k, .int .i64 base] := fun hh => by rw [List.getElem?_eq_getElem hh] at hc; simpa using hc
  have hk1 : (m : Int) < k := by omega
  refine ⟨?w, ?a, ?b⟩
  case a =>
    simp -implicitDefEqProofs [b19x0, canon19, upd, hi, hm, l2, l2i, hc, hc', hk, hk1, takeE, RC.len, RC.size, RC.get, RC.elem, RC.app, RC.ofElems]
    rfl
  case b => simp -implicitDefEqProofs []
theorem end19 (t t2 : Nat) (L : Int) (cs : List (List Sc)) (bs A out : List Int) (m : Nat) (st n i : Int) (hi : ¬ i < n) :
    ∃ env, evC T19 KK b19x0 (canon19 t t2 L cs bs A out m st n i) = some (.exit 0, ⟨env, [.ro t (.recs 3 cs), .int .i64 L, .ro t2 (.ints .u8 bs), .int .i64 n], [.rows (.ints .i64 A), .rows (.ints .u8 out)]⟩) ∧ getT 10 env = .one (.view 0 0 m) ∧ getT 12 env = .one (.int .i64 st) ∧ getT 13 env = .one (.row 1) := by
  simp -implicitDefEqProofs [b19x0, canon19, upd, hi]
theorem isN_cut {A : List Int} (h : isN A) (a b : Nat) : isN ((A.drop a).take b) := fun x hx => h x (List.mem_of_mem_drop (List.mem_of_mem_take hx))
theorem leN_cut {A : List Int} (h : isN A) (a b : Nat) : leN ((A.drop a).take b) = leN A / 2 ^ a % 2 ^ b := by
  rw [leN_take b (fun x hx => h x (List.mem_of_mem_drop hx)), leN_drop a h]
theorem loop19 (t t2 : Nat) {l : List Int} {sh : List Nat} {L : Nat} (S : Shr l L sh) (bs A : List Int) (hN : isN A) (n : Nat) (hn : n ≤ 1000) (hA : A.length ≤ 100000) : ∀ (j i st m : Nat) (out : List Int) (K : Nat), i + j = n → st < 2 ^ L → m ≤ A.length → out.length ≤ i → j < K →
    ∃ r, loopH (evC T19 KK b19x0) [0, 3, 10, 12, 13, 14] K (canon19 t t2 L (cellsTo L sh (2 ^ L)) bs A out m st n i) = some r ∧
      (match dk L sh (leN A) j st m with
      | none => ∃ st1, r = (.ret, st1) ∧ resC [(8, none), (9, none)] (some (.ret, st1)) = some (.tup [.one (.row 0), .one (.bool false)], [.rows (.ints .u8 [])])
      | some (o, st', m') => ∃ env, r = (.exit 0, ⟨env, [.ro t (.recs 3 (cellsTo L sh (2 ^ L))), .int .i64 L, .ro t2 (.ints .u8 bs), .int .i64 n], [.rows (.ints .i64 A), .rows (.ints .u8 (out ++ o))]⟩) ∧ m' ≤ A.length ∧ getT 10 env = .one (.view 0 0 m') ∧ getT 12 env = .one (.int .i64 st') ∧ getT 13 env = .one (.row 1))
  | 0, i, st, m, out, K, hj, hst, hm, ho, hK => by
    obtain ⟨env, e, g1, g2, g3⟩ := end19 t t2 L (cellsTo L sh (2 ^ L)) bs A out m st n i (by omega)
    refine ⟨_, loopH_exit e, ?_⟩
    simp only [dk]
    exact ⟨env, by rw [List.append_nil], hm, g1, g2, g3⟩
  | j + 1, i, st, m, out, K, hj, hst, hm, ho, hK => by
    obtain ⟨hc, hb, hbb⟩ := cell_all S hst
    have h9 := S.hi
    have hpw : 2 ^ L ≤ 2 ^ 9 := Nat.pow_le_pow_right (by omega) (by omega)
    have hpb : 2 ^ bOf L sh st ≤ 2 ^ 9 := Nat.pow_le_pow_right (by omega) (by omega)
    simp only [dk]
    by_cases hmb : m < bOf L sh st
    · rw [if_pos hmb]
      obtain ⟨st1, e, hr⟩ := bad19 t t2 L (cellsTo L sh (2 ^ L)) bs A out m _ st n i _ _ (by omega) hm hmb hc
      exact ⟨_, loopH_ret e, st1, rfl, hr⟩
    · rw [if_neg hmb]
      have e51 := fun t => f51 t ((A.drop (m - bOf L sh st)).take (bOf L sh st)) (isN_cut hN _ _) (by rw [List.length_take]; omega)
      rw [leN_cut hN] at e51
      generalize hv : leN A / 2 ^ (m - bOf L sh st) % 2 ^ bOf L sh st = v at *
      have hvl : v < 2 ^ bOf L sh st := by rw [← hv]; exact Nat.mod_lt _ (Nat.two_pow_pos _)
      obtain ⟨st1, e1, e2⟩ := body19 t t2 L (cellsTo L sh (2 ^ L)) bs A out m _ st ((baseOf L sh st + v : Nat) : Int) n i ((i + 1 : Nat) : Int) _ _ v (by omega) hm (by omega) hc (by omega) (by rw [i64_in _ (by omega)]; omega) e51 (i64_in _ (by omega)) (by rw [i64_in _ (by omega)]; omega) (by rw [i64_in _ (by omega)]; omega)
      obtain ⟨r, h1, h2⟩ := loop19 t t2 S bs A hN n hn hA j (i + 1) (baseOf L sh st + v) (m - bOf L sh st) (out ++ [(((symOf sh).getD st 0 : Nat) : Int)]) (K - 1) (by omega) (by omega) (by omega) (by simp; omega) (by omega)
      refine ⟨r, by rw [loopH_norm e1 (by omega), e2]; exact h1, ?_⟩
      cases hd : dk L sh (leN A) j (baseOf L sh st + v) (m - bOf L sh st) with
      | none => rw [hd] at h2; exact h2
      | some p =>
        obtain ⟨o, st', m'⟩ := p
        rw [hd] at h2
        simp only [Option.map_some]
        obtain ⟨env, q1, q2⟩ := h2
        rw [List.append_assoc] at q1
        exact ⟨env, q1, q2⟩
section
variable (t t2 : Nat) (L : Int) (cs : List (List Sc)) (bs A : List Int) (n : Int)
theorem run19a (e50 : ∀ t, F50 [.one (.ro t (.ints .u8 bs))] [] = some (.tup [.one (.row 0), .one (.bool false)], [.rows (.ints .i64 [])])) :
    F19 [.one (.ro t (.recs 3 cs)), .one (.int .i64 L), .one (.ro t2 (.ints .u8 bs)), .one (.int .i64 n)] [] = some (.tup [.one (.row 0), .one (.bool false)], [.rows (.ints .u8 [])]) := by
  simp -implicitDefEqProofs [F19, c19, upd, e50]
theorem run19b (m : Nat) (hm : m ≤ A.length) (e50 : ∀ t, F50 [.one (.ro t (.ints .u8 bs))] [] = some (.tup [.one (.view 0 0 m), .one (.bool true)], [.rows (.ints .i64 A)])) (hn : n < 0 ∨ 1048576 < n ∨ (m : Int) < L) :
    F19 [.one (.ro t (.recs 3 cs)), .one (.int .i64 L), .one (.ro t2 (.ints .u8 bs)), .one (.int .i64 n)] [] = some (.tup [.one (.row 0), .one (.bool false)], [.rows (.ints .u8 [])]) := by
  by_cases h : n < 0
  · simp -implicitDefEqProofs [F19, c19, upd, e50, h]
  · by_cases h2 : 1048576 < n
    · simp -implicitDefEqProofs [F19, c19, upd, e50, h, h2]
    · have h3 : (m : Int) < L := by omega
      simp -implicitDefEqProofs [F19, c19, upd, e50, h, h2, h3, hm, RC.len, RC.size]
theorem run19d (m k : Nat) (v : Int) (st1 : St) (hm : m ≤ A.length) (hL : L = k) (hk : k ≤ m) (e50 : ∀ t, F50 [.one (.ro t (.ints .u8 bs))] [] = some (.tup [.one (.view 0 0 m), .one (.bool true)], [.rows (.ints .i64 A)])) (h1 : ¬ n < 0) (h2 : ¬ 1048576 < n)
    (wk : IntKind.i64.wrap ((m : Int) - k) = ((m - k : Nat) : Int)) (e51 : ∀ t, F51 [.one (.ro t (.ints .i64 ((A.drop (m - k)).take k)))] [] = some (.one (.int .u32 v), [])) (wv : IntKind.i64.wrap v = v)
    (el : loopH (evC T19 KK b19x0) [0, 3, 10, 12, 13, 14] KK (canon19 t t2 L cs bs A [] (m - k) v n 0) = some (.ret, st1)) (er : resC [(8, none), (9, none)] (some (.ret, st1)) = some (.tup [.one (.row 0), .one (.bool false)], [.rows (.ints .u8 [])])) :
    F19 [.one (.ro t (.recs 3 cs)), .one (.int .i64 L), .one (.ro t2 (.ints .u8 bs)), .one (.int .i64 n)] [] = some (.tup [.one (.row 0), .one (.bool false)], [.rows (.ints .u8 [])]) := by
  subst hL
  have hk1 : ¬ (m : Int) < k := by omega
  have hk2 : ¬ m < k := by omega
  have h3 : m - k ≤ m := by omega
  have h3i : ((m - k : Nat) : Int) ≤ m := by omega
  have h4 : m - k ≤ A.length := by omega
  have h5 : m - (m - k) = k := by omega
  simp only [canon19] at el
  rw [← er]
  simp -implicitDefEqProofs [F19, c19, upd, e50, h1, h2, hm, hk1, hk2, h3, h3i, h4, h5, wk, e51, wv, el, takeE, RC.len, RC.size]
theorem run19e (m k : Nat) (v st : Int) (o : List Int) (mm : Nat) (env : Env) (hm : m ≤ A.length) (hmm : mm ≤ A.length) (hL : L = k) (hk : k ≤ m) (e50 : ∀ t, F50 [.one (.ro t (.ints .u8 bs))] [] = some (.tup [.one (.view 0 0 m), .one (.bool true)], [.rows (.ints .i64 A)])) (h1 : ¬ n < 0) (h2 : ¬ 1048576 < n)
    (wk : IntKind.i64.wrap ((m : Int) - k) = ((m - k : Nat) : Int)) (e51 : ∀ t, F51 [.one (.ro t (.ints .i64 ((A.drop (m - k)).take k)))] [] = some (.one (.int .u32 v), [])) (wv : IntKind.i64.wrap v = v)
    (el : loopH (evC T19 KK b19x0) [0, 3, 10, 12, 13, 14] KK (canon19 t t2 L cs bs A [] (m - k) v n 0) = some (.exit 0, ⟨env, [.ro t (.recs 3 cs), .int .i64 L, .ro t2 (.ints .u8 bs), .int .i64 n], [.rows (.ints .i64 A), .rows (.ints .u8 o)]⟩))
    (g10 : getT 10 env = .one (.view 0 0 mm)) (g12 : getT 12 env = .one (.int .i64 st)) (g13 : getT 13 env = .one (.row 1)) :
    F19 [.one (.ro t (.recs 3 cs)), .one (.int .i64 L), .one (.ro t2 (.ints .u8 bs)), .one (.int .i64 n)] [] = some (.tup [.one (.row 0), .one (.bool (decide (st = 0 ∧ mm = 0)))], [.rows (.ints .u8 (if st = 0 ∧ mm = 0 then o else []))]) := by
  subst hL
  have hk1 : ¬ (m : Int) < k := by omega
  have hk2 : ¬ m < k := by omega
  have h3 : m - k ≤ m := by omega
  have h3i : ((m - k : Nat) : Int) ≤ m := by omega
  have h4 : m - k ≤ A.length := by omega
  have h5 : m - (m - k) = k := by omega
  simp only [canon19] at el
  by_cases hs : st = 0
  · subst hs
    by_cases hm0 : mm = 0
    · subst hm0
      simp -implicitDefEqProofs [F19, c19, upd, e50, h1, h2, hm, hmm, hk1, hk2, h3, h3i, h4, h5, wk, e51, wv, el, g10, g12, g13, takeE, RC.len, RC.size]
    · have hm2 : 0 < mm := by omega
      have hm3 : (0 : Int) < mm := by omega
      simp -implicitDefEqProofs [F19, c19, upd, e50, h1, h2, hm, hmm, hk1, hk2, h3, h3i, h4, h5, wk, e51, wv, el, g10, g12, g13, hm0, hm2, hm3, takeE, RC.len, RC.size]
  · simp -implicitDefEqProofs [F19, c19, upd, e50, h1, h2, hm, hmm, hk1, hk2, h3, h3i, h4, h5, wk, e51, wv, el, g10, g12, g13, hs, takeE, RC.len, RC.size]
end
def decS : Option (List Int) → AV
  | some _ => .tup [.one (.row 0), .one (.bool true)]
  | none => .tup [.one (.row 0), .one (.bool false)]
theorem f19 (t t2 : Nat) {l : List Int} {sh : List Nat} {L : Nat} (S : Shr l L sh) (bs : List Int) (hB : isB bs) (hl : bs.length ≤ 10000) (n : Int) (hn : n ≤ 1000 ∨ 1048576 < n) :
    F19 [.one (.ro t (.recs 3 (cellsTo L sh (2 ^ L)))), .one (.int .i64 L), .one (.ro t2 (.ints .u8 bs)), .one (.int .i64 n)] [] = some (decS (decO L sh bs n), [.rows (.ints .u8 (decB (decO L sh bs n)))]) := by
  have h9 := S.hi
  have hpw : 2 ^ L ≤ 2 ^ 9 := Nat.pow_le_pow_right (by omega) (by omega)
  by_cases h0 : bs = [] ∨ bs.getLast? = some 0
  · have e50 := fun t => f50z t bs h0 (by omega)
    have : decO L sh bs n = none := by unfold decO; rw [if_pos (by rcases h0 with h | h <;> simp [h])]
    rw [this]
    exact run19a t t2 L _ bs n e50
  · obtain ⟨h1, h2⟩ := not_or.1 h0
    obtain ⟨b, hb⟩ : ∃ b, bs.getLast? = some b := by
      cases e : bs.getLast? with
      | none => rw [List.getLast?_eq_none_iff] at e; exact absurd e h1
      | some b => exact ⟨b, rfl⟩
    have hb0 : b ≠ 0 := by rintro rfl; exact h2 hb
    have e50' := fun t => f50 t bs b hB hb hb0 (by omega)
    obtain ⟨A, e50, hN, hA, hml, hAl⟩ := e50' 0
    have e50 : ∀ t, F50 [.one (.ro t (.ints .u8 bs))] [] = some (.tup [.one (.view 0 0 (bl (leB bs) - 1)), .one (.bool true)], [.rows (.ints .i64 A)]) := fun t => by
      obtain ⟨A', e, hN', hA', _, hAl'⟩ := e50' t
      rw [leN_inj hN hN' (by omega) (by omega)]
      exact e
    unfold decO
    by_cases h3 : n < 0 ∨ 1048576 < n ∨ bl (leB bs) - 1 < L
    · rw [if_pos (.inr (.inr h3))]
      exact run19b t t2 L _ bs A n _ (by omega) e50 (by omega)
    rw [if_neg (by simp only [not_or] at h3 ⊢; exact ⟨h1, h2, h3⟩)]
    simp only [not_or] at h3
    obtain ⟨h4, h5, h6⟩ := h3
    have e51 := fun t => f51 t ((A.drop (bl (leB bs) - 1 - L)).take L) (isN_cut hN _ _) (by rw [List.length_take]; omega)
    rw [leN_cut hN, hA] at e51
    have hv : leB bs / 2 ^ (bl (leB bs) - 1 - L) % 2 ^ L < 2 ^ L := Nat.mod_lt _ (Nat.two_pow_pos _)
    obtain ⟨N, rfl⟩ : ∃ N : Nat, n = N := ⟨n.toNat, by omega⟩
    generalize leB bs / 2 ^ (bl (leB bs) - 1 - L) % 2 ^ L = v at *
    obtain ⟨r, e1, hlp⟩ := loop19 t t2 S bs A hN N (by omega) (by omega) N 0 v (bl (leB bs) - 1 - L) [] KK (by omega) hv (by omega) (by simp) (by rw [KK_eq]; omega)
    rw [Int.toNat_natCast]
    have z : ((0 : Nat) : Int) = 0 := rfl
    rw [z] at e1
    rw [hA] at hlp
    have wk : IntKind.i64.wrap (((bl (leB bs) - 1 : Nat) : Int) - (L : Int)) = ((bl (leB bs) - 1 - L : Nat) : Int) := by rw [i64_in _ (by omega)]; omega
    cases hd : dk L sh (leB bs) N v (bl (leB bs) - 1 - L) with
    | none =>
      rw [hd] at hlp
      obtain ⟨st1, rfl, hr⟩ := hlp
      exact run19d t t2 L _ bs A N _ L v st1 (by omega) rfl (by omega) e50 h4 h5 wk e51 (i64_in _ (by omega)) e1 hr
    | some p =>
      obtain ⟨o, st', m'⟩ := p
      rw [hd] at hlp
      obtain ⟨env, rfl, hmm, g10, g12, g13⟩ := hlp
      have := run19e t t2 L _ bs A N _ L v st' o m' env (by omega) hmm rfl (by omega) e50 h4 h5 wk e51 (i64_in _ (by omega)) e1 g10 g12 g13
      rw [this]
      by_cases hz : st' = 0 ∧ m' = 0
      · obtain ⟨rfl, rfl⟩ := hz
        simp [decS, decB]
      · have hz2 : ¬ ((st' : Int) = 0 ∧ m' = 0) := by omega
        simp only [if_neg hz, if_neg hz2, decide_eq_false hz2, decS, decB]
end Go.X.Try
set_option maxRecDepth 100000
set_option linter.unusedSimpArgs false
set_option linter.unusedVariables false
namespace Go.X.Try
open Go.IntWalk
/-! ### there and back -/
theorem mod_lo {M N c0 c : Nat} (h : c0 ≤ c) (e : M % 2 ^ c = N) : M % 2 ^ c0 = N % 2 ^ c0 := by
  rw [← e, Nat.mod_mod_of_dvd _ (Nat.pow_dvd_pow 2 h)]
theorem wk_dk {l : List Int} {sh : List Nat} {L : Nat} (S : Shr l L sh) : ∀ (ys : List Int) (st0 c0 N0 st c N : Nat), isB ys → st0 < 2 ^ L → N0 < 2 ^ c0 → wk L sh ys st0 c0 N0 = some (st, c, N) →
    N < 2 ^ c ∧ c0 ≤ c ∧ c ≤ c0 + L * ys.length ∧ N % 2 ^ c0 = N0 ∧ st < 2 ^ L ∧ ∀ M n, M % 2 ^ c = N → dk L sh M (n + ys.length) st c = (dk L sh M n st0 c0).map fun r => (ys.reverse ++ r.1, r.2)
  | [], st0, c0, N0, st, c, N, _, hst, hN, h => by
    simp only [wk, Option.some.injEq, Prod.mk.injEq] at h
    obtain ⟨rfl, rfl, rfl⟩ := h
    refine ⟨hN, Nat.le_refl _, by simp, Nat.mod_eq_of_lt hN, hst, fun M n _ => ?_⟩
    cases h : dk L sh M n st0 c0 <;> simp [h]
  | y :: ys, st0, c0, N0, st, c, N, hB, hst, hN, h => by
    have hy := hB y (by simp)
    simp only [wk] at h
    cases e : bk L sh st0 y.toNat with
    | none => rw [e] at h; simp at h
    | some i =>
      rw [e] at h
      obtain ⟨h1, h2, h3, h4⟩ := bk_some S e
      have hv : st0 - baseOf L sh i < 2 ^ bOf L sh i := by omega
      have hb := bOf_le S h1
      have hN1 : N0 + (st0 - baseOf L sh i) * 2 ^ c0 < 2 ^ (c0 + bOf L sh i) := by
        rw [Nat.pow_add, Nat.mul_comm (2 ^ c0)]
        have := Nat.mul_le_mul_right (2 ^ c0) (Nat.succ_le_of_lt hv)
        rw [Nat.succ_mul] at this
        omega
      obtain ⟨q1, q2, q5, q3, q4, q⟩ := wk_dk S ys i (c0 + bOf L sh i) _ st c N (fun b hb => hB b (by simp [hb])) h1 hN1 h
      have hlow : N % 2 ^ c0 = N0 := by
        have := mod_lo (M := N) (Nat.le_add_right c0 (bOf L sh i)) q3
        rw [this, Nat.add_mul_mod_self_right, Nat.mod_eq_of_lt hN]
      refine ⟨q1, by omega, by rw [List.length_cons, Nat.mul_add]; omega, hlow, q4, fun M n hM => ?_⟩
      have hM1 : M % 2 ^ (c0 + bOf L sh i) = N0 + (st0 - baseOf L sh i) * 2 ^ c0 := by rw [mod_lo q2 hM, q3]
      have hM0 : M % 2 ^ c0 = N0 := by rw [mod_lo (by omega) hM, hlow]
      have hvM : M / 2 ^ c0 % 2 ^ bOf L sh i = st0 - baseOf L sh i := by
        rw [mod_more, hM0] at hM1
        exact Nat.eq_of_mul_eq_mul_right (Nat.two_pow_pos c0) (by omega)
      have hsy : (((symOf sh).getD i 0 : Nat) : Int) = y := by rw [getD_some h2]; omega
      rw [List.length_cons, show n + (ys.length + 1) = (n + 1) + ys.length by omega, q M (n + 1) hM]
      simp only [dk]
      rw [if_neg (by omega), show c0 + bOf L sh i - bOf L sh i = c0 by omega, hvM, show baseOf L sh i + (st0 - baseOf L sh i) = st0 by omega, hsy]
      cases dk L sh M n st0 c0 <;> simp
theorem dk_wk {l : List Int} {sh : List Nat} {L : Nat} (S : Shr l L sh) (M : Nat) : ∀ (n st m : Nat) (out : List Int) (st' m' : Nat), st < 2 ^ L → dk L sh M n st m = some (out, st', m') →
    out.length = n ∧ isB out ∧ ∀ ys, wk L sh (out.reverse ++ ys) st' m' (M % 2 ^ m') = wk L sh ys st m (M % 2 ^ m)
  | 0, st, m, out, st', m', hst, h => by
    simp only [dk, Option.some.injEq, Prod.mk.injEq] at h
    obtain ⟨rfl, rfl, rfl⟩ := h
    exact ⟨rfl, by simp [isB], fun ys => rfl⟩
  | n + 1, st, m, out, st', m', hst, h => by
    obtain ⟨s, k, h1, h2, h3, h4, h5, h6, h7, h8, h9, h10⟩ := cellSc_ok S hst
    obtain ⟨_, hb, hbb⟩ := cell_all S hst
    simp only [dk] at h
    split at h
    · simp at h
    · rename_i hm
      have hv : M / 2 ^ (m - bOf L sh st) % 2 ^ bOf L sh st < 2 ^ bOf L sh st := Nat.mod_lt _ (Nat.two_pow_pos _)
      have hmm := mod_more M (m - bOf L sh st) (bOf L sh st)
      rw [show m - bOf L sh st + bOf L sh st = m by omega] at hmm
      generalize M / 2 ^ (m - bOf L sh st) % 2 ^ bOf L sh st = v at h hv hmm
      cases hd : dk L sh M n (baseOf L sh st + v) (m - bOf L sh st) with
      | none => rw [hd] at h; simp at h
      | some p =>
        obtain ⟨o, st1, m1⟩ := p
        rw [hd] at h
        simp only [Option.map_some, Option.some.injEq, Prod.mk.injEq] at h
        obtain ⟨rfl, rfl, rfl⟩ := h
        obtain ⟨q1, q2, q3⟩ := dk_wk S M n _ _ o st1 m1 (by omega) hd
        have hs : (symOf sh).getD st 0 = s := getD_some h1
        have hs256 : s < 256 := h6
        refine ⟨by simp [q1], ?_, fun ys => ?_⟩
        · intro b hb
          rcases List.mem_cons.1 hb with rfl | hb
          · rw [hs]; omega
          · exact q2 b hb
        · rw [List.reverse_cons, List.append_assoc, q3]
          simp only [List.singleton_append, wk, Int.toNat_natCast, hs]
          rw [bk_of S (i := st) (by omega) hst h1 (by omega) (by omega)]
          simp only
          rw [show m - bOf L sh st + bOf L sh st = m by omega, show baseOf L sh st + v - baseOf L sh st = v by omega, ← hmm]
/-- What was coded is decoded. -/
theorem dec_enc {l : List Int} {sh : List Nat} {L : Nat} (S : Shr l L sh) {xs out : List Int} (hB : isB xs) (hl : xs.length ≤ 1000) {st c N : Nat} (h : wk L sh xs.reverse 0 0 0 = some (st, c, N)) (hO : Holds out (c + L + 1) (N + st * 2 ^ c + 2 ^ (c + L))) : decO L sh out xs.length = some xs := by
  obtain ⟨q1, q2, _, q3, q4, q⟩ := wk_dk S xs.reverse 0 0 0 st c N (isB_rev hB) (Nat.two_pow_pos L) (by omega) h
  have hlt : N + st * 2 ^ c < 2 ^ (c + L) := by
    rw [Nat.pow_add, Nat.mul_comm (2 ^ c)]
    have := Nat.mul_le_mul_right (2 ^ c) (Nat.succ_le_of_lt q4)
    rw [Nat.succ_mul] at this
    omega
  obtain ⟨b, hb, hb0, hbl⟩ := sealed_last hO hlt
  have h0 : out ≠ [] := by rintro rfl; simp at hb
  unfold decO
  rw [if_neg (by
    rintro (h | h | h | h | h)
    · exact h0 h
    · rw [hb] at h; simp at h; exact hb0 h
    · omega
    · omega
    · omega), hbl, hO.val, Int.toNat_natCast, show c + L + 1 - 1 - L = c by omega]
  have hp : 2 ^ (c + L) = 2 ^ L * 2 ^ c := by rw [Nat.pow_add, Nat.mul_comm]
  have hd : (N + st * 2 ^ c + 2 ^ (c + L)) / 2 ^ c = st + 2 ^ L := by
    rw [hp, Nat.add_assoc, ← Nat.add_mul, Nat.add_mul_div_right _ _ (Nat.two_pow_pos c), Nat.div_eq_of_lt q1, Nat.zero_add]
  have hm : (N + st * 2 ^ c + 2 ^ (c + L)) % 2 ^ c = N := by
    rw [hp, Nat.add_assoc, ← Nat.add_mul, Nat.add_mul_mod_self_right, Nat.mod_eq_of_lt q1]
  rw [hd, Nat.add_mod_right, Nat.mod_eq_of_lt q4]
  have := q _ 0 hm
  rw [Nat.zero_add, List.length_reverse] at this
  rw [this]
  simp [dk]
/-- What is decoded has just these bytes. -/
theorem enc_dec {l : List Int} {sh : List Nat} {L : Nat} (S : Shr l L sh) {bs o : List Int} (hB : isB bs) {n : Int} (h : decO L sh bs n = some o) :
    (o.length : Int) = n ∧ isB o ∧ ∃ st c N, wk L sh o.reverse 0 0 0 = some (st, c, N) ∧ ∀ out, Holds out (c + L + 1) (N + st * 2 ^ c + 2 ^ (c + L)) → out = bs := by
  unfold decO at h
  split at h
  · simp at h
  · rename_i h0
    simp only [not_or] at h0
    obtain ⟨h1, h2, h3, h4, h5⟩ := h0
    obtain ⟨b, hb⟩ : ∃ b, bs.getLast? = some b := by
      cases e : bs.getLast? with
      | none => rw [List.getLast?_eq_none_iff] at e; exact absurd e h1
      | some b => exact ⟨b, rfl⟩
    have hb0 : b ≠ 0 := by rintro rfl; exact h2 hb
    have hbB := hB b (List.mem_of_getLast? hb)
    obtain ⟨hbl, hpos⟩ := bl_leB hB hb hb0
    have hb1 := (bl_pos (n := b.toNat) (by omega)).2.2
    have hb8 : bl b.toNat ≤ 8 := bl_le (by omega)
    have hlen : 0 < bs.length := List.length_pos_iff.2 h1
    have hv : leB bs / 2 ^ (bl (leB bs) - 1 - L) % 2 ^ L < 2 ^ L := Nat.mod_lt _ (Nat.two_pow_pos _)
    split at h
    · rename_i o' st m hd
      split at h
      · rename_i hz
        obtain ⟨rfl, rfl⟩ := hz
        simp only [Option.some.injEq] at h
        subst h
        obtain ⟨q1, q2, q3⟩ := dk_wk S _ _ _ _ _ _ _ hv hd
        have q := q3 []
        rw [List.append_nil, Nat.pow_zero, Nat.mod_one] at q
        simp only [wk] at q
        refine ⟨by omega, q2, _, _, _, q, fun out hO => ?_⟩
        have hp := bl_pos hpos
        generalize hc : bl (leB bs) - 1 - L = c at *
        have hcL : bl (leB bs) - 1 = c + L := by omega
        rw [hcL] at hp
        have hbl2 : bl (leB bs) = c + L + 1 := by omega
        rw [hbl2] at hp
        have htot : leB bs % 2 ^ c + leB bs / 2 ^ c % 2 ^ L * 2 ^ c + 2 ^ (c + L) = leB bs := by
          rw [← mod_more]
          have h7 : leB bs / 2 ^ (c + L) = 1 := by
            apply Nat.div_eq_of_lt_le
            · omega
            · rw [Nat.pow_succ] at hp; omega
          have h8 := Nat.div_add_mod (leB bs) (2 ^ (c + L))
          rw [h7] at h8
          omega
        rw [htot] at hO
        refine leB_inj hO.isB hB ?_ hO.val
        rw [hO.len]
        omega
      · simp at h
    · simp at h
theorem wk_some {l : List Int} {sh : List Nat} {L : Nat} (S : Shr l L sh) : ∀ (ys : List Int) (st c N : Nat), st < 2 ^ L → (∀ y ∈ ys, ∃ n, sh[y.toNat]? = some n ∧ 0 < n) → ∃ r, wk L sh ys st c N = some r
  | [], st, c, N, _, _ => ⟨_, rfl⟩
  | y :: ys, st, c, N, hst, h => by
    simp only [wk]
    cases e : bk L sh st y.toNat with
    | none => exact absurd (h y (by simp)) ((bk_none S hst).1 e)
    | some i => exact wk_some S ys _ _ _ (bk_some S e).1 (fun z hz => h z (by simp [hz]))
/-! ### awake -/
theorem awk_f : fairB [24, 8] 5 = true := by decide
theorem awk_s : Shr [24, 8] 5 [24, 8] := ⟨by decide, by decide, by decide, rfl, by decide⟩
theorem h15 : F15 [] [] = some (.one (.bool true), []) := by
  obtain ⟨al, e17, _, hok⟩ := f17 0 [24, 8] [24, 8] awk_s awk_f
  obtain ⟨r, hw⟩ := wk_some awk_s [0, 1, 0] 0 0 0 (by decide) (by simp)
  obtain ⟨st, c, N⟩ := r
  obtain ⟨out, e21, hO, _⟩ := f21 1 awk_s hok [0, 1, 0] (by simp [isB]) (by decide) (st := st) (c := c) (N := N) hw
  have e18 := f18 1 awk_s (al := al) out hO.isB (by rw [hO.len]; have := (wk_dk awk_s _ 0 0 0 _ _ _ (by simp [isB]) (by decide) (by decide) hw).2.2.1; simp at this; omega) 3 (.inl (by decide))
  have hd := dec_enc awk_s (xs := [0, 1, 0]) (by simp [isB]) (by decide) hw hO
  have h3 : (([0, 1, 0] : List Int).length : Int) = 3 := rfl
  rw [h3] at hd
  rw [hd] at e18
  have hn : natsOf [24, 8] = [24, 8] := rfl
  have hL : ((5 : Nat) : Int) = 5 := rfl
  simp only [decR, decB, tabOf, tabHp, hL] at e17 e18 e21
  generalize cellsTo 5 [24, 8] (2 ^ 5) = cs at *
  generalize fiTo [24, 8] ([24, 8] : List Nat).length = fi at *
  simp -implicitDefEqProofs [F15, c15, upd, e17, e21, e18, RC.ofElems, RC.len, RC.size]
  decide +kernel
end Go.X.Try
set_option maxRecDepth 100000
set_option linter.unusedSimpArgs false
set_option linter.unusedVariables false
namespace Go.X.Try
open Go.IntWalk
theorem run6n (a0 a2 : List Int) (L : Int) (cs : List (List Sc)) (fi al : List Int) (h3 : ¬ 300 < a0.length) (h3i : ¬ (300 : Int) < a0.length) (h2 : ¬ 100 < a2.length) (h2i : ¬ (100 : Int) < a2.length)
    (e16 : F16 [.one (.ro 0 (.ints .i64 a0)), .one (.int .i64 L)] [] = some (.one (.bool true), []))
    (e17 : F17 [.one (.ro 0 (.ints .i64 a0)), .one (.int .i64 L)] [] = some (.tup [.one (.ptr 0 0), .one (.bool true)], tabHp none L cs a0 fi al))
    (e20 : F20 [.one (.ro 0 (.ints .i64 a0)), .one (.int .i64 L)] [] = some (.one (.row 0), [.rows (.recs 3 cs)]))
    (e28 : F28 [.one (.ro 0 (.recs 3 cs)), .one (.int .i64 L), .one (.ro 2 (.ints .u8 a2))] [] = some (.tup [.one (.row 0), .one (.bool false)], [.rows (.ints .i64 [])]))
    (e21 : F21 [.one (.ptr 0 0), .one (.ro 1 (.ints .u8 a2))] (tabHp (some 0) L cs a0 fi al) = some (.tup [.one (.row 5), .one (.bool false)], tabHp (some 0) L cs a0 fi al ++ [.rows (.ints .u8 [])]))
    (e29 : F29 [.one (.ptr 0 0), .one (.ro 1 (.ints .u8 a2))] (tabHp (some 0) L cs a0 fi al) = some (.tup [.one (.int .i64 0), .one (.bool false)], tabHp (some 0) L cs a0 fi al)) :
    F6 [.one (.ro 0 (.ints .i64 a0)), .one (.int .i64 L), .one (.ro 2 (.ints .u8 a2))] [] = some (.one (.bool true), []) := by
  simp only [tabHp, List.cons_append, List.nil_append] at e17 e21 e29
  simp -implicitDefEqProofs [F6, c6, upd, h15, RC.len, RC.size, h3, h3i, h2, h2i, e16, e17, e20, e28, e21, e29]
theorem run6 (a0 a2 o out : List Int) (L n : Int) (cs : List (List Sc)) (fi al : List Int) (h3 : ¬ 300 < a0.length) (h3i : ¬ (300 : Int) < a0.length) (h2 : ¬ 100 < a2.length) (h2i : ¬ (100 : Int) < a2.length)
    (e16 : F16 [.one (.ro 0 (.ints .i64 a0)), .one (.int .i64 L)] [] = some (.one (.bool true), []))
    (e17 : F17 [.one (.ro 0 (.ints .i64 a0)), .one (.int .i64 L)] [] = some (.tup [.one (.ptr 0 0), .one (.bool true)], tabHp none L cs a0 fi al))
    (e20 : F20 [.one (.ro 0 (.ints .i64 a0)), .one (.int .i64 L)] [] = some (.one (.row 0), [.rows (.recs 3 cs)]))
    (e28 : F28 [.one (.ro 0 (.recs 3 cs)), .one (.int .i64 L), .one (.ro 2 (.ints .u8 a2))] [] = some (.tup [.one (.row 0), .one (.bool true)], [.rows (.ints .i64 o)]))
    (e21 : F21 [.one (.ptr 0 0), .one (.ro 1 (.ints .u8 a2))] (tabHp (some 0) L cs a0 fi al) = some (.tup [.one (.row 5), .one (.bool true)], tabHp (some 0) L cs a0 fi al ++ [.rows (.ints .u8 out)]))
    (e29 : F29 [.one (.ptr 0 0), .one (.ro 1 (.ints .u8 a2))] (tabHp (some 0) L cs a0 fi al) = some (.tup [.one (.int .i64 n), .one (.bool true)], tabHp (some 0) L cs a0 fi al))
    (e18 : F18 [.one (.ptr 0 0), .one (.ro 1 (.ints .u8 out)), .one (.int .i64 a2.length)] (tabHp (some 0) L cs a0 fi al) = some (.tup [.one (.row 5), .one (.bool true)], tabHp (some 0) L cs a0 fi al ++ [.rows (.ints .u8 a2)]))
    (e30 : F30 [.one (.ro 0 (.ints .i64 o))] [] = some (.one (.row 0), [.rows (.ints .u8 out)])) (hn : n = o.length) :
    F6 [.one (.ro 0 (.ints .i64 a0)), .one (.int .i64 L), .one (.ro 2 (.ints .u8 a2))] [] = some (.one (.bool true), []) := by
  subst hn
  simp only [tabHp, List.cons_append, List.nil_append] at e17 e21 e29 e18
  simp -implicitDefEqProofs [F6, c6, upd, h15, RC.len, RC.size, h3, h3i, h2, h2i, e16, e17, e20, e28, e21, e29, e18, e30]
theorem law6 (a0 : List Int) (a1 : Int) (a2 : List Int) (_ : a0.length ≤ maxLen) (w0 : ∀ z ∈ a0, (Lit.int .i64 z).wf = true) (_ : (Lit.int .i64 a1).wf = true) (_ : a2.length ≤ maxLen) (w2 : ∀ z ∈ a2, (Lit.int .u8 z).wf = true) :
    F6 [.one (.ro 0 (.ints .i64 a0)), .one (.int .i64 a1), .one (.ro 2 (.ints .u8 a2))] [] = some (.one (.bool true), []) := by
  by_cases h3 : 300 < a0.length
  · have h3i : (300 : Int) < a0.length := by omega
    simp -implicitDefEqProofs [F6, c6, upd, h15, RC.len, RC.size, h3, h3i]
  have h3i : ¬ (300 : Int) < a0.length := by omega
  by_cases h2 : 100 < a2.length
  · have h2i : (100 : Int) < a2.length := by omega
    simp -implicitDefEqProofs [F6, c6, upd, h15, RC.len, RC.size, h3, h3i, h2, h2i]
  have h2i : ¬ (100 : Int) < a2.length := by omega
  have e16 := f16 0 a0 a1 (by omega)
  cases hf : fairB a0 a1 with
  | false =>
    rw [hf] at e16
    simp -implicitDefEqProofs [F6, c6, upd, h15, RC.len, RC.size, h3, h3i, h2, h2i, e16]
  | true =>
    rw [hf] at e16
    obtain ⟨L, rfl, S⟩ := shr_of hf
    have hB := isB_of w2
    obtain ⟨al, e17, hal, hok⟩ := f17 0 a0 (natsOf a0) S hf
    have e20 := f20 0 a0 (natsOf a0) S
    have h9 := S.hi
    cases hw : wk L (natsOf a0) a2.reverse 0 0 0 with
    | none => exact run6n a0 a2 L _ _ al h3 h3i h2 h2i e16 e17 e20 (f28n 0 2 S a2 hB (by omega) hw) (f21n 1 S hok a2 hB (by omega) hw) (f29n 1 S hok a2 hB (by omega) hw)
    | some p =>
      obtain ⟨st, c, N⟩ := p
      obtain ⟨o, e28, hN, hol, hov⟩ := f28 0 2 S a2 hB (by omega) hw
      obtain ⟨out, e21, hO, hst, hc⟩ := f21 1 S hok a2 hB (by omega) hw
      have e29 := f29 1 S hok a2 hB (by omega) hw
      obtain ⟨out', e30, hO'⟩ := f30 0 o hN (by omega)
      have hoo : out' = out := leB_inj hO'.isB hO.isB (by rw [hO'.len, hO.len, hol]) (by rw [hO'.val, hO.val, hov, hol])
      subst hoo
      have hd := dec_enc S hB (by omega) hw hO
      have e18 := f18 1 S (al := al) out' hO.isB (by rw [hO.len]; omega) a2.length (.inl (by omega))
      rw [hd] at e18
      exact run6 a0 a2 o out' L _ _ _ al h3 h3i h2 h2i e16 e17 e20 e28 e21 e29 e18 e30 (by omega)
theorem run4a (a0 a1 : List Int) (L n : Int) (cs : List (List Sc)) (fi al : List Int) (h3 : ¬ 300 < a0.length) (h3i : ¬ (300 : Int) < a0.length) (h2 : ¬ 60 < a1.length) (h2i : ¬ (60 : Int) < a1.length) (hn : ¬ (500 < n ∧ n ≤ 1048576))
    (e16 : F16 [.one (.ro 0 (.ints .i64 a0)), .one (.int .i64 L)] [] = some (.one (.bool true), []))
    (e17 : F17 [.one (.ro 0 (.ints .i64 a0)), .one (.int .i64 L)] [] = some (.tup [.one (.ptr 0 0), .one (.bool true)], tabHp none L cs a0 fi al))
    (e20 : F20 [.one (.ro 0 (.ints .i64 a0)), .one (.int .i64 L)] [] = some (.one (.row 0), [.rows (.recs 3 cs)]))
    (e18 : F18 [.one (.ptr 0 0), .one (.ro 1 (.ints .u8 a1)), .one (.int .i64 n)] (tabHp (some 0) L cs a0 fi al) = some (.tup [.one (.row 5), .one (.bool false)], tabHp (some 0) L cs a0 fi al ++ [.rows (.ints .u8 [])]))
    (e19 : F19 [.one (.ro 0 (.recs 3 cs)), .one (.int .i64 L), .one (.ro 2 (.ints .u8 a1)), .one (.int .i64 n)] [] = some (.tup [.one (.row 0), .one (.bool false)], [.rows (.ints .u8 [])])) :
    F4 [.one (.ro 0 (.ints .i64 a0)), .one (.ro 1 (.ints .u8 a1)), .agg [.int .i64 L, .int .i64 n]] [] = some (.one (.bool true), []) := by
  simp only [tabHp, List.cons_append, List.nil_append] at e17 e18
  by_cases m1 : 500 < n
  · have m2 : ¬ n ≤ 1048576 := fun h => hn ⟨m1, h⟩
    simp -implicitDefEqProofs [F4, c4, upd, h15, RC.len, RC.size, h3, h3i, h2, h2i, m1, m2, e16, e17, e20, e18, e19]
  · simp -implicitDefEqProofs [F4, c4, upd, h15, RC.len, RC.size, h3, h3i, h2, h2i, m1, e16, e17, e20, e18, e19]
theorem run4b (a0 a1 o : List Int) (L n : Int) (cs : List (List Sc)) (fi al : List Int) (h3 : ¬ 300 < a0.length) (h3i : ¬ (300 : Int) < a0.length) (h2 : ¬ 60 < a1.length) (h2i : ¬ (60 : Int) < a1.length) (hn : ¬ (500 < n ∧ n ≤ 1048576))
    (e16 : F16 [.one (.ro 0 (.ints .i64 a0)), .one (.int .i64 L)] [] = some (.one (.bool true), []))
    (e17 : F17 [.one (.ro 0 (.ints .i64 a0)), .one (.int .i64 L)] [] = some (.tup [.one (.ptr 0 0), .one (.bool true)], tabHp none L cs a0 fi al))
    (e20 : F20 [.one (.ro 0 (.ints .i64 a0)), .one (.int .i64 L)] [] = some (.one (.row 0), [.rows (.recs 3 cs)]))
    (e18 : F18 [.one (.ptr 0 0), .one (.ro 1 (.ints .u8 a1)), .one (.int .i64 n)] (tabHp (some 0) L cs a0 fi al) = some (.tup [.one (.row 5), .one (.bool true)], tabHp (some 0) L cs a0 fi al ++ [.rows (.ints .u8 o)]))
    (e19 : F19 [.one (.ro 0 (.recs 3 cs)), .one (.int .i64 L), .one (.ro 2 (.ints .u8 a1)), .one (.int .i64 n)] [] = some (.tup [.one (.row 0), .one (.bool true)], [.rows (.ints .u8 o)]))
    (e21 : F21 [.one (.ptr 0 0), .one (.ro 1 (.ints .u8 o))] (tabHp (some 0) L cs a0 fi al) = some (.tup [.one (.row 5), .one (.bool true)], tabHp (some 0) L cs a0 fi al ++ [.rows (.ints .u8 a1)])) :
    F4 [.one (.ro 0 (.ints .i64 a0)), .one (.ro 1 (.ints .u8 a1)), .agg [.int .i64 L, .int .i64 n]] [] = some (.one (.bool true), []) := by
  simp only [tabHp, List.cons_append, List.nil_append] at e17 e18 e21
  by_cases m1 : 500 < n
  · have m2 : ¬ n ≤ 1048576 := fun h => hn ⟨m1, h⟩
    simp -implicitDefEqProofs [F4, c4, upd, h15, RC.len, RC.size, h3, h3i, h2, h2i, m1, m2, e16, e17, e20, e18, e19, e21]
  · simp -implicitDefEqProofs [F4, c4, upd, h15, RC.len, RC.size, h3, h3i, h2, h2i, m1, e16, e17, e20, e18, e19, e21]
theorem law4 (a0 a1 : List Int) (a2 : List Int) (_ : a0.length ≤ maxLen) (w0 : ∀ z ∈ a0, (Lit.int .i64 z).wf = true) (_ : a1.length ≤ maxLen) (w1 : ∀ z ∈ a1, (Lit.int .u8 z).wf = true) (hl2 : a2.length = 2) (w2 : ∀ z ∈ a2, (Lit.int .i64 z).wf = true) :
    F4 [.one (.ro 0 (.ints .i64 a0)), .one (.ro 1 (.ints .u8 a1)), .agg (a2.map (SV.int .i64))] [] = some (.one (.bool true), []) := by
  obtain ⟨L, n, rfl⟩ : ∃ n0 n1, a2 = [n0, n1] := by
    match a2, hl2 with
    | [x, y], _ => exact ⟨x, y, rfl⟩
  simp only [List.map_cons, List.map_nil]
  by_cases h3 : 300 < a0.length
  · have h3i : (300 : Int) < a0.length := by omega
    simp -implicitDefEqProofs [F4, c4, upd, h15, RC.len, RC.size, h3, h3i]
  have h3i : ¬ (300 : Int) < a0.length := by omega
  by_cases h2 : 60 < a1.length
  · have h2i : (60 : Int) < a1.length := by omega
    simp -implicitDefEqProofs [F4, c4, upd, h15, RC.len, RC.size, h3, h3i, h2, h2i]
  have h2i : ¬ (60 : Int) < a1.length := by omega
  by_cases hn : 500 < n ∧ n ≤ 1048576
  · obtain ⟨m1, m2⟩ := hn
    simp -implicitDefEqProofs [F4, c4, upd, h15, RC.len, RC.size, h3, h3i, h2, h2i, m1, m2]
  have e16 := f16 0 a0 L (by omega)
  cases hf : fairB a0 L with
  | false =>
    rw [hf] at e16
    by_cases m1 : 500 < n
    · have m2 : ¬ n ≤ 1048576 := fun h => hn ⟨m1, h⟩
      simp -implicitDefEqProofs [F4, c4, upd, h15, RC.len, RC.size, h3, h3i, h2, h2i, e16, m1, m2]
    · simp -implicitDefEqProofs [F4, c4, upd, h15, RC.len, RC.size, h3, h3i, h2, h2i, e16, m1]
  | true =>
    rw [hf] at e16
    obtain ⟨L, rfl, S⟩ := shr_of hf
    have hB := isB_of w1
    obtain ⟨al, e17, hal, hok⟩ := f17 0 a0 (natsOf a0) S hf
    have e20 := f20 0 a0 (natsOf a0) S
    have h9 := S.hi
    have e18 := f18 1 S (al := al) a1 hB (by omega) n (by omega)
    have e19 := f19 0 2 S a1 hB (by omega) n (by omega)
    cases hd : decO L (natsOf a0) a1 n with
    | none =>
      rw [hd] at e18 e19
      exact run4a a0 a1 L n _ _ al h3 h3i h2 h2i hn e16 e17 e20 e18 e19
    | some o =>
      rw [hd] at e18 e19
      obtain ⟨q1, q2, st, c, N, hw, hq⟩ := enc_dec S hB hd
      have hol : o.length ≤ 1000 := by
        have : ¬ 1048576 < n := by
          intro h
          unfold decO at hd
          rw [if_pos (.inr (.inr (.inr (.inl h))))] at hd
          simp at hd
        omega
      obtain ⟨out, e21, hO, hst, hc⟩ := f21 1 S hok o q2 hol hw
      have := hq out hO
      subst this
      exact run4b a0 out o L n _ _ al h3 h3i h2 h2i hn e16 e17 e20 e18 e19 e21
end Go.X.Try
set_option maxRecDepth 100000
set_option linter.unusedSimpArgs false
set_option linter.unusedVariables false
namespace Go.X.Try
open Go.IntWalk
/-! ### a share of what was counted -/
inductive ShR : List Int → List Int → Prop
  | nil : ShR [] []
  | cons (c x : Int) (l X : List Int) : (0 < c → 1 ≤ x) → (¬ 0 < c → x = 0) → ShR l X → ShR (c :: l) (x :: X)
theorem shR_map (S T : Int) : ∀ l : List Int, ShR l (l.map (ptK S T))
  | [] => .nil
  | c :: l => .cons _ _ _ _ (fun h => by unfold ptK; rw [if_pos h]; split <;> omega) (fun h => by unfold ptK; rw [if_neg h]) (shR_map S T l)
theorem ShR.len {l X : List Int} (h : ShR l X) : X.length = l.length := by
  induction h with
  | nil => rfl
  | cons _ _ _ _ _ _ _ ih => simp [ih]
theorem ShR.nonneg {l X : List Int} (h : ShR l X) : ∀ z ∈ X, 0 ≤ z := by
  induction h with
  | nil => simp
  | cons c x l X h1 h2 _ ih =>
    intro z hz
    rcases List.mem_cons.1 hz with rfl | hz
    · by_cases h : 0 < c
      · have := h1 h; omega
      · have := h2 h; omega
    · exact ih z hz
theorem ShR.sum_le {l X : List Int} (h : ShR l X) (h1 : ∀ z ∈ X, z ≤ 1) : sumK X ≤ symK l := by
  induction h with
  | nil => simp [sumK, symK]
  | cons c x l X a b _ ih =>
    have := ih fun z hz => h1 z (by simp [hz])
    have hx := h1 x (by simp)
    simp only [sumK, symK]
    by_cases hc : 0 < c
    · rw [if_pos hc]; omega
    · rw [if_neg hc]; have := b hc; omega
theorem ShR.set {l X : List Int} (h : ShR l X) : ∀ {g : Nat} {c v : Int}, l[g]? = some c → 0 < c → 1 ≤ v → ShR l (X.set g v) := by
  induction h with
  | nil => intro g c v h; simp at h
  | cons c x l X a b h ih =>
    intro g c' v hg hc hv
    cases g with
    | zero =>
      simp only [List.getElem?_cons_zero, Option.some.injEq] at hg
      subst hg
      exact .cons _ _ _ _ (fun _ => hv) (fun h => absurd hc h) h
    | succ g => exact .cons _ _ _ _ a b (ih (by simpa using hg) hc hv)
theorem ShR.pos {l X : List Int} (h : ShR l X) : ∀ {g : Nat} {c : Int}, l[g]? = some c → ∃ x, X[g]? = some x ∧ (0 < c → 1 ≤ x) ∧ (¬ 0 < c → x = 0) := by
  induction h with
  | nil => intro g c h; simp at h
  | cons c x l X a b h ih =>
    intro g c' hg
    cases g with
    | zero =>
      simp only [List.getElem?_cons_zero, Option.some.injEq] at hg
      subst hg
      exact ⟨x, rfl, a, b⟩
    | succ g =>
      obtain ⟨y, h1, h2⟩ := ih (by simpa using hg)
      exact ⟨y, by simpa using h1, h2⟩
theorem sumK_set : ∀ {X : List Int} {g : Nat} {x v : Int}, X[g]? = some x → sumK (X.set g v) = sumK X - x + v
  | [], g, x, v, h => by simp at h
  | y :: X, 0, x, v, h => by
    simp only [List.getElem?_cons_zero, Option.some.injEq] at h
    subst h
    simp only [List.set_cons_zero, sumK]; omega
  | y :: X, g + 1, x, v, h => by
    have := sumK_set (X := X) (g := g) (x := x) (v := v) (by simpa using h)
    simp only [List.set_cons_succ, sumK, this]; omega
theorem mem_le_sum : ∀ {X : List Int}, (∀ z ∈ X, 0 ≤ z) → 0 ≤ sumK X ∧ ∀ z ∈ X, z ≤ sumK X
  | [], _ => by simp [sumK]
  | x :: X, h => by
    obtain ⟨a, b⟩ := mem_le_sum (X := X) fun z hz => h z (by simp [hz])
    have := h x (by simp)
    refine ⟨by simp only [sumK]; omega, fun z hz => ?_⟩
    rcases List.mem_cons.1 hz with rfl | hz
    · simp only [sumK]; omega
    · have := b z hz; simp only [sumK]; omega
theorem sum_nonpos : ∀ {X : List Int}, (∀ z ∈ X, z ≤ 0) → sumK X ≤ 0
  | [], _ => by simp [sumK]
  | x :: X, h => by
    have := sum_nonpos (X := X) fun z hz => h z (by simp [hz])
    have := h x (by simp)
    simp only [sumK]; omega
theorem loop35s (t : Nat) (l : List Int) (log S : Int) (hS : 0 ≤ S ∧ S ≤ 512) (hs : symK l ≤ S) (hl : l.length ≤ 256) : ∀ (j : Nat) (left : Int) (X : List Int) (K : Nat), left + j = 0 → -1000 ≤ left → ShR l X → sumK X = S - left → 0 < X.length → j < K →
    ∃ env Y, loopH (evC T35 KK b35x0) [7, 8] K (canon35 t l X log left) = some (.exit 0, ⟨env, [.ro t (.ints .i64 l), .int .i64 log], [.rows (.ints .i64 Y)]⟩) ∧ getT 7 env = .one (.row 0) ∧ ShR l Y ∧ sumK Y = S
  | 0, left, X, K, h, hb, hX, hsum, h0, hK => by
    obtain ⟨env, e, g⟩ := end35 t l X log left (by omega)
    exact ⟨env, X, loopH_exit e, g, hX, by omega⟩
  | j + 1, left, X, K, h, hb, hX, hsum, h0, hK => by
    have hlen := hX.len
    obtain ⟨g, hg, e77, hmax⟩ := f77 0 X (by omega) h0
    obtain ⟨hn0, hle⟩ := mem_le_sum hX.nonneg
    have hxg : X[g]? = some X[g] := List.getElem?_eq_getElem hg
    have hx1 := hle X[g] (List.getElem_mem hg)
    have hx0 := hX.nonneg X[g] (List.getElem_mem hg)
    have hx2 : 2 ≤ X[g] := by
      rcases Int.lt_or_le X[g] 2 with h2 | h2
      · have := hX.sum_le fun z hz => by have := hmax z hz; omega
        omega
      · exact h2
    obtain ⟨st1, e1, e2⟩ := body35 t l X log left (left + 1) g hg e77 (by omega) (i64_in _ (by omega))
    rw [i64_in _ (by omega)] at e2
    have hc : l[g]? = some l[g] := List.getElem?_eq_getElem (by omega)
    have hcp : 0 < l[g] := by
      obtain ⟨x, q1, _, q2⟩ := hX.pos hc
      rw [hxg] at q1
      simp at q1
      rcases Int.lt_or_le 0 l[g] with h | h
      · exact h
      · have := q2 (by omega); omega
    obtain ⟨env, Y, e, q, q2⟩ := loop35s t l log S hS hs hl j (left + 1) (X.set g (X[g] - 1)) (K - 1) (by omega) (by omega) (hX.set hc hcp (by omega)) (by rw [sumK_set hxg]; omega) (by simpa using h0) (by omega)
    exact ⟨env, Y, by rw [loopH_norm e1 (by omega), e2]; exact e, q, q2⟩
theorem f35s (t : Nat) (l : List Int) (log : Int) (hl : 0 < l.length) (hl2 : l.length ≤ 256) (hT : 0 < sumK l ∧ sumK l ≤ 400) (hB : ∀ z ∈ l, 0 ≤ z ∧ z ≤ sumK l) (h5 : 5 ≤ log ∧ log ≤ 9) (hs : symK l ≤ ((2 ^ log.toNat : Nat) : Int)) :
    ∃ Y, F35 [.one (.ro t (.ints .i64 l)), .one (.int .i64 log)] [] = some (.tup [.one (.row 0), .one (.bool true)], [.rows (.ints .i64 Y)]) ∧ ShR l Y ∧ sumK Y = ((2 ^ log.toNat : Nat) : Int) := by
  have e72 := fun t => f72 t l hl2 fun z hz => by have := hB z hz; omega
  rw [decide_eq_true hT.1] at e72
  have e75 := e75 log
  rw [decide_eq_true h5] at e75
  have e73 := fun t => f73 t l (by omega)
  obtain ⟨es, p1, p2⟩ := shl_pow (log := log) h5
  generalize ((2 ^ log.toNat : Nat) : Int) = S at *
  have e76 := fun t => f76 t l S hl2 ⟨p1, p2⟩ hT hB
  obtain ⟨q1, q2⟩ := sum_parts_le (S := S) l ⟨p1, p2⟩ hT hB
  have e74 := fun t => f74 t (l.map (ptK S (sumK l))) (by simp; omega) (fun z hz => by
    simp only [List.mem_map] at hz
    obtain ⟨c, hc, rfl⟩ := hz
    obtain ⟨a1, a2, _⟩ := pt_bound (c := c) ⟨p1, p2⟩ hT (hB c hc)
    omega)
  have hSh := shR_map S (sumK l) l
  have hXl : (l.map (ptK S (sumK l))).length = l.length := by simp
  generalize hX : l.map (ptK S (sumK l)) = X at *
  have hn := hSh.nonneg
  obtain ⟨hn0, hle⟩ := mem_le_sum hn
  generalize hσ : sumK X = σ at *
  have wl : IntKind.i64.wrap (S - σ) = S - σ := i64_in _ (by omega)
  have n1 : ¬ S < symK l := by omega
  have hlog : ¬ log < 0 := by omega
  by_cases hpos : 0 < S - σ
  · obtain ⟨g, hg, e77, hmax⟩ := f77 0 l (by omega) hl
    have hgX : g < X.length := by omega
    have hg2 : (g : Int) < X.length := by omega
    have h0 : (0 : Int) ≤ g := by omega
    have hc : l[g]? = some l[g] := List.getElem?_eq_getElem hg
    have hxg : X[g]? = some X[g] := List.getElem?_eq_getElem hgX
    have hx0 := hn X[g] (List.getElem_mem hgX)
    have hx1 := hle X[g] (List.getElem_mem hgX)
    have hcp : 0 < l[g] := by
      rcases Int.lt_or_le 0 l[g] with h | h
      · exact h
      · have := sum_nonpos (X := l) fun z hz => by have := hmax z hz; omega
        omega
    have hw : IntKind.i64.wrap (X[g] + (S - σ)) = X[g] + (S - σ) := i64_in _ (by omega)
    obtain ⟨env, e, q⟩ := end35 t l (X.set g (X[g] + (S - σ))) log (S - σ) (by omega)
    have e := loopH_exit (live := [7, 8]) (k := KK) e
    have hS2 := hSh.set (v := X[g] + (S - σ)) hc hcp (by omega)
    have hs2 : sumK (X.set g (X[g] + (S - σ))) = S := by rw [sumK_set hxg]; omega
    simp only [canon35] at e
    generalize hd : S - σ = d at *
    refine ⟨X.set g (X[g] + d), ?_, hS2, hs2⟩
    simp -implicitDefEqProofs [F35, c35, upd, e72, e75, e73, es, n1, hlog, e76, e74, hd, wl, hpos, e77, hgX, hg2, h0, hw, e, q, RC.len, RC.size, RC.get, RC.set]
  · obtain ⟨env, Y, e, q, hS2, hs2⟩ := loop35s t l log S ⟨by omega, by omega⟩ hs hl2 (σ - S).toNat (S - σ) X KK (by omega) (by omega) hSh (by omega) (by omega) (by rw [KK_eq]; omega)
    simp only [canon35] at e
    generalize hd : S - σ = d at *
    refine ⟨Y, ?_, hS2, hs2⟩
    simp -implicitDefEqProofs [F35, c35, upd, e72, e75, e73, es, n1, hlog, e76, e74, hd, wl, hpos, e, q, RC.len, RC.size, RC.get, RC.set]
theorem sumL_sumK : ∀ l : List Int, sumL l = sumK l
  | [] => rfl
  | x :: l => by simp only [sumL, sumK, sumL_sumK l]
theorem okN_of : ∀ {l : List Int}, (∀ z ∈ l, 0 ≤ z ∧ z ≤ 1000) → okN l = true
  | [], _ => rfl
  | x :: l, h => by
    simp only [okN, Bool.and_eq_true, decide_eq_true_eq]
    exact ⟨h x (by simp), okN_of fun z hz => h z (by simp [hz])⟩
theorem fair_of {Y l : List Int} {log : Int} (h5 : 5 ≤ log ∧ log ≤ 9) (hl : l.length ≤ 256) (hY : ShR l Y) (hs : sumK Y = ((2 ^ log.toNat : Nat) : Int)) : fairB Y log = true := by
  obtain ⟨p1, p2⟩ := pow9 h5
  obtain ⟨_, hle⟩ := mem_le_sum hY.nonneg
  have hlen := hY.len
  simp only [fairB, Bool.and_eq_true, decide_eq_true_eq]
  exact ⟨⟨h5.1, h5.2, by omega⟩, okN_of fun z hz => ⟨hY.nonneg z hz, by have := hle z hz; omega⟩, by rw [sumL_sumK, hs]⟩
theorem cnt_pos (l : List Int) (s : Nat) : ∀ n i : Nat, i < n → (l.getD i 0).toNat = s → 0 < cntK l n s ∧ s < mxK l n
  | 0, i, h, _ => by omega
  | n + 1, i, h, e => by
    have h0 := (cntK_bound l s n).1
    simp only [cntK, mxK]
    by_cases hi : i = n
    · subst hi
      rw [if_pos e]
      exact ⟨by omega, by rw [e]; omega⟩
    · obtain ⟨a, b⟩ := cnt_pos l s n i (by omega) e
      refine ⟨?_, by omega⟩
      split <;> omega
theorem ofK_pos {l : List Int} {c : Int} (h : c ∈ l) : ∃ n, (ofK l)[c.toNat]? = some n ∧ 0 < n := by
  obtain ⟨i, hi, rfl⟩ := List.getElem_of_mem h
  obtain ⟨a, b⟩ := cnt_pos l (l[i]).toNat l.length i hi (by rw [getD_at hi])
  exact ⟨_, by simp [ofK, List.getElem?_range b], a⟩
end Go.X.Try
set_option maxRecDepth 100000
set_option linter.unusedSimpArgs false
set_option linter.unusedVariables false
namespace Go.X.Try
open Go.IntWalk
/-! ### nobody's table -/
theorem f53z : F53 [.one .nilp, .one (.nils (.ints .u8 [])), .one (.fn 54 [.ptr 0 0])] [.cells (some 0) [.row 1, .int .i64 0], .rows (.ints .u8 [])] = some (.tup [.one (.int .i64 0), .one (.bool false)], [.cells (some 0) [.row 1, .int .i64 0], .rows (.ints .u8 [])]) := by
  have e89 : F89 [.one (.nils (.ints .u8 []))] [] = some (.one (.fn 102 [.ptr 0 0]), [.cells none [.nils (.ints .u8 [])]]) := by
    simp -implicitDefEqProofs [F89, c89, upd]
  simp -implicitDefEqProofs [F53, evR, preR, itmR, pA53, pB53, pC53, upd, e89, itemsR, boxR, roundsR, endR, doneR, evZ, z53, getA, call1, envOf]
theorem f21z : F21 [.one .nilp, .one (.nils (.ints .u8 []))] [] = some (.tup [.one (.row 0), .one (.bool false)], [.rows (.ints .u8 [])]) := by
  simp -implicitDefEqProofs [F21, c21, upd, f53z]
theorem f18z (t : Nat) (bs : List Int) (n m : Int) (e44 : ∀ t, F44 [.one (.ro t (.ints .u8 bs))] [] = some (.tup [.one (.ptr 0 0), .one (.bool true)], bufHp none bs m)) : F18 [.one .nilp, .one (.ro t (.ints .u8 bs)), .one (.int .i64 n)] [] = some (.tup [.one (.row 0), .one (.bool false)], [.rows (.ints .u8 [])]) := by
  simp only [bufHp] at e44
  simp -implicitDefEqProofs [F18, c18, upd, e44]
theorem run8 (a0 C Y out : List Int) (L n q : Int) (cs : List (List Sc)) (fi al : List Int) (h3 : ¬ 150 < a0.length) (h3i : ¬ (150 : Int) < a0.length) (h0 : ¬ a0.length = 0) (h0i : ¬ (a0.length : Int) = 0)
    (e33 : F33 [.one (.ro 0 (.ints .u8 a0))] [] = some (.one (.row 0), [.rows (.ints .i64 C)]))
    (e34 : F34 [.one (.ro 0 (.ints .i64 C))] [] = some (.one (.int .i64 L), []))
    (e35 : F35 [.one (.ro 0 (.ints .i64 C)), .one (.int .i64 L)] [] = some (.tup [.one (.row 0), .one (.bool true)], [.rows (.ints .i64 Y)]))
    (e17 : F17 [.one (.ro 0 (.ints .i64 Y)), .one (.int .i64 L)] [] = some (.tup [.one (.ptr 0 0), .one (.bool true)], tabHp none L cs Y fi al))
    (e29 : F29 [.one (.ptr 0 0), .one (.ro 1 (.ints .u8 a0))] (tabHp (some 0) L cs Y fi al) = some (.tup [.one (.int .i64 n), .one (.bool true)], tabHp (some 0) L cs Y fi al))
    (e21 : F21 [.one (.ptr 0 0), .one (.ro 1 (.ints .u8 a0))] (tabHp (some 0) L cs Y fi al) = some (.tup [.one (.row 5), .one (.bool true)], tabHp (some 0) L cs Y fi al ++ [.rows (.ints .u8 out)]))
    (e18 : F18 [.one (.ptr 0 0), .one (.ro 1 (.ints .u8 out)), .one (.int .i64 a0.length)] (tabHp (some 0) L cs Y fi al) = some (.tup [.one (.row 5), .one (.bool true)], tabHp (some 0) L cs Y fi al ++ [.rows (.ints .u8 a0)]))
    (e18z : F18 [.one .nilp, .one (.ro 1 (.ints .u8 out)), .one (.int .i64 0)] [] = some (.tup [.one (.row 0), .one (.bool false)], [.rows (.ints .u8 [])]))
    (w1 : IntKind.i64.wrap ((a0.length : Int) + 1) = (a0.length : Int) + 1) (w2 : IntKind.i64.wrap (L * ((a0.length : Int) + 1)) = q) (hq : n ≤ q) (w3 : IntKind.i64.wrap (n.tdiv 8) = n.tdiv 8) (w4 : IntKind.i64.wrap (n.tdiv 8 + 1) = out.length) :
    F8 [.one (.ro 0 (.ints .u8 a0))] [] = some (.one (.bool true), []) := by
  simp only [tabHp, List.cons_append, List.nil_append] at e17 e21 e29 e18
  simp -implicitDefEqProofs [F8, c8, upd, h15, RC.len, RC.size, h3, h3i, h0, h0i, e33, e34, e35, e17, e29, e21, e18, e18z, f21z, w1, w2, w3, w4, hq]
theorem law8 (a0 : List Int) (_ : a0.length ≤ maxLen) (w0 : ∀ z ∈ a0, (Lit.int .u8 z).wf = true) :
    F8 [.one (.ro 0 (.ints .u8 a0))] [] = some (.one (.bool true), []) := by
  by_cases h3 : 150 < a0.length
  · have h3i : (150 : Int) < a0.length := by omega
    simp -implicitDefEqProofs [F8, c8, upd, h15, RC.len, RC.size, h3, h3i]
  have h3i : ¬ (150 : Int) < a0.length := by omega
  by_cases h0 : a0.length = 0
  · have h0i : (a0.length : Int) = 0 := by omega
    simp -implicitDefEqProofs [F8, c8, upd, h15, RC.len, RC.size, h3, h3i, h0, h0i]
  have h0i : ¬ (a0.length : Int) = 0 := by omega
  have hB := isB_of w0
  have hB5 : ∀ z ∈ a0, 0 ≤ z ∧ z ≤ 255 := fun z hz => by have := hB z hz; omega
  have e33 := f33 0 a0 (by omega) hB5
  have hs := sum_ofK a0
  have hlen : (ofK a0).length ≤ 256 := by rw [ofK_len]; exact mxK_le a0 hB5 _ (Nat.le_refl _)
  have hm := ofK_mem a0
  have hpos := fun c (hc : c ∈ a0) => ofK_pos hc
  generalize ofK a0 = C at *
  have hC : 0 < C.length := by
    cases C with
    | nil => simp [sumK] at hs; omega
    | cons x C => simp
  obtain ⟨log, e34, h5, h9, h2⟩ := f34 0 C hlen (fun z hz => by have := hm z hz; omega) (by omega)
  obtain ⟨Y, e35, hY, hYs⟩ := f35s 0 C log hC hlen ⟨by omega, by omega⟩ (fun z hz => by have := hm z hz; omega) ⟨h5, h9⟩ h2
  have hf := fair_of ⟨h5, h9⟩ hlen hY hYs
  obtain ⟨L, rfl, S⟩ := shr_of hf
  obtain ⟨al, e17, hal, hok⟩ := f17 0 Y (natsOf Y) S hf
  have hL := S.hi
  obtain ⟨⟨st, c, N⟩, hw⟩ := wk_some S a0.reverse 0 0 0 (Nat.two_pow_pos L) (fun y hy => by
    have hy : y ∈ a0 := by simpa using hy
    obtain ⟨n, q1, q2⟩ := hpos y hy
    obtain ⟨x, q3, q4, _⟩ := hY.pos q1
    have := q4 q2
    exact ⟨x.toNat, by rw [natsOf_get, q3]; rfl, by omega⟩)
  have hcb := (wk_dk S a0.reverse 0 0 0 st c N (isB_rev hB) (Nat.two_pow_pos L) (by omega) hw).2.2.1
  rw [List.length_reverse, Nat.zero_add] at hcb
  obtain ⟨out, e21, hO, hst, hc⟩ := f21 1 S hok a0 hB (by omega) hw
  have e29 := f29 1 S hok a0 hB (by omega) hw
  have hd := dec_enc S hB (by omega) hw hO
  have hol := hO.len
  have e18 := f18 1 S (al := al) out hO.isB (by omega) a0.length (.inl (by omega))
  rw [hd] at e18
  have hlt : N + st * 2 ^ c < 2 ^ (c + L) := by
    have q1 := (wk_dk S a0.reverse 0 0 0 st c N (isB_rev hB) (Nat.two_pow_pos L) (by omega) hw).1
    rw [Nat.pow_add, Nat.mul_comm (2 ^ c)]
    have := Nat.mul_le_mul_right (2 ^ c) (Nat.succ_le_of_lt hst)
    rw [Nat.succ_mul] at this
    omega
  obtain ⟨b, hb, hb0, hbl⟩ := sealed_last hO hlt
  have e18z := f18z 1 out 0 _ (fun t => f44 t out b hO.isB hb hb0 (by omega))
  have htd : ((L + c : Nat) : Int).tdiv 8 = (((L + c) / 8 : Nat) : Int) := rfl
  have hmul : L * (a0.length + 1) ≤ 9 * (a0.length + 1) := Nat.mul_le_mul_right _ hL
  have hmul2 : L * (a0.length + 1) = L * a0.length + L := by rw [Nat.mul_add, Nat.mul_one]
  have hcast : (L : Int) * ((a0.length : Int) + 1) = ((L * (a0.length + 1) : Nat) : Int) := by
    rw [Int.natCast_mul]; rfl
  exact run8 a0 C Y out L (L + c : Nat) (L * (a0.length + 1) : Nat) _ _ al h3 h3i h0 h0i e33 e34 e35 e17 e29 e21 e18 e18z (i64_in _ (by omega)) (by rw [hcast]; exact i64_in _ (by omega)) (by omega) (by rw [htd]; exact i64_in _ (by omega)) (by rw [htd, i64_in _ (by omega)]; omega)
end Go.X.Try
