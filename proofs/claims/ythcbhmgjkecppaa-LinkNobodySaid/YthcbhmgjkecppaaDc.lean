import Derived.Test.YthcbhmgjkecppaaDb
set_option maxRecDepth 100000
set_option linter.unusedSimpArgs false
namespace Go.X.Try
open Go.IntWalk
def p0 : Int × Int := (7640891576956012808, 0)
def rb (F : List (List Sc)) (k : Int) : List Sc := if k < 0 then recI (k + 256) else F[k.toNat]?.getD []
structure Rel (most : Int) (A B : List (List Sc)) (p : Int × Int) (D : List Int) (at_ : Nat) (C : List Int) : Prop where
  hA : A = (sendR p0 D).drop at_
  hp : p = D.foldl sbyte p0
  hB : B = C.map (rb (sendR p0 D))
  hC : ∀ k ∈ C, -256 ≤ k ∧ k < (at_ : Int)
  hat : at_ ≤ D.length
  room : (A.length : Int) + B.length ≤ most
theorem sendR_append : ∀ (l m : List Int) (p : Int × Int), sendR p (l ++ m) = sendR p l ++ sendR (l.foldl sbyte p) m
  | [], m, p => rfl
  | b :: l, m, p => by simp [sendR, sendR_append l m]
theorem sendR_at : ∀ (l : List Int) (p : Int × Int) (k : Nat) (b : Int), l[k]? = some b → (sendR p l)[k]? = some (recS ((l.take k).foldl sbyte p) b)
  | [], _, k, b, h => by simp at h
  | c :: l, p, 0, b, h => by
    simp only [List.getElem?_cons_zero, Option.some.injEq] at h
    subst h
    rfl
  | c :: l, p, k + 1, b, h => by
    simp only [List.getElem?_cons_succ] at h
    simpa [sendR] using sendR_at l (sbyte p c) k b h
theorem fold_fst : ∀ (l : List Int) (p : Int × Int), (l.foldl sbyte p).1 = l.foldl sstep p.1
  | [], _ => rfl
  | b :: l, p => by simp [fold_fst l, sbyte]
theorem fold_snd : ∀ (l : List Int) (h : Int) (n : Nat), n + l.length < 100000 → (l.foldl sbyte (h, (n : Int))).2 = (n + l.length : Nat)
  | [], _, _, _ => rfl
  | b :: l, h, n, hl => by
    have w : IntKind.u64.wrap ((n : Int) + 1) = ((n + 1 : Nat) : Int) := by rw [u64_in _ (by omega)]; omega
    simp only [List.foldl_cons, List.length_cons, sbyte, w] at hl ⊢
    rw [fold_snd l _ (n + 1) (by omega)]
    congr 1; omega
section
variable {most : Int} {A B : List (List Sc)} {p : Int × Int} {D C : List Int} {at_ : Nat}
theorem Rel.lenA (h : Rel most A B p D at_ C) : A.length = D.length - at_ := by rw [h.hA, List.length_drop, sendR_length]
theorem Rel.lenB (h : Rel most A B p D at_ C) : B.length = C.length := by rw [h.hB, List.length_map]
theorem rb_app {F G : List (List Sc)} {k : Int} (hk : k < F.length) : rb (F ++ G) k = rb F k := by
  unfold rb
  split
  · rfl
  · rw [List.getElem?_append_left (by omega)]
theorem Rel.send (h : Rel most A B p D at_ C) (l : List Int) (hf : (l.length : Int) ≤ most - A.length - B.length) : Rel most (A ++ sendR p l) B (l.foldl sbyte p) (D ++ l) at_ C where
  hA := by rw [sendR_append, List.drop_append_of_le_length (by rw [sendR_length]; exact h.hat), ← h.hA, ← h.hp]
  hp := by rw [List.foldl_append, ← h.hp]
  hB := by
    rw [h.hB, sendR_append]
    refine List.map_congr_left fun k hk => (rb_app ?_).symm
    have := h.hC k hk
    have := h.hat
    rw [sendR_length]; omega
  hC := h.hC
  hat := by have := h.hat; rw [List.length_append]; omega
  room := by rw [List.length_append, sendR_length]; omega
theorem map_rb (F : List (List Sc)) : ∀ (j a : Nat), a + j ≤ F.length → ((List.range' a j).map (fun i : Nat => (i : Int))).map (rb F) = (F.drop a).take j
  | 0, a, _ => by simp
  | j + 1, a, h => by
    have ha : a < F.length := by omega
    have hr : rb F (a : Int) = F[a] := by
      unfold rb
      rw [if_neg (by omega), Int.toNat_natCast, List.getElem?_eq_getElem ha]
      rfl
    rw [List.range'_succ, List.map_cons, List.map_cons, map_rb F j (a + 1) (by omega), hr, List.drop_eq_getElem_cons ha, List.take_succ_cons]
theorem Rel.deliver (h : Rel most A B p D at_ C) (j : Nat) (hj : j ≤ A.length) : Rel most (A.drop j) (B ++ A.take j) p D (at_ + j) (C ++ (List.range' at_ j).map (fun i : Nat => (i : Int))) where
  hA := by rw [h.hA, List.drop_drop]
  hp := h.hp
  hB := by
    have := h.lenA
    have := h.hat
    rw [List.map_append, ← h.hB, map_rb _ _ _ (by rw [sendR_length]; omega), ← h.hA]
  hC := by
    intro k hk
    rcases List.mem_append.1 hk with hk | hk
    · have := h.hC k hk; omega
    · obtain ⟨i, hi, rfl⟩ := List.mem_map.1 hk
      have := List.mem_range'_1.1 hi
      omega
  hat := by have := h.lenA; have := h.hat; omega
  room := by have := h.room; simp only [List.length_drop, List.length_append, List.length_take]; omega
theorem Rel.inject (h : Rel most A B p D at_ C) (l : List Int) (hb : ∀ b ∈ l, 0 ≤ b ∧ b < 256) (hf : (l.length : Int) ≤ most - A.length - B.length) : Rel most A (B ++ l.map recI) p D at_ (C ++ l.map (fun b => b - 256)) where
  hA := h.hA
  hp := h.hp
  hB := by
    rw [List.map_append, ← h.hB, List.map_map]
    congr 1
    refine List.map_congr_left fun b hb' => ?_
    have := hb b hb'
    show recI b = rb _ (b - 256)
    unfold rb
    rw [if_pos (by omega)]
    congr 1; omega
  hC := by
    intro k hk
    rcases List.mem_append.1 hk with hk | hk
    · exact h.hC k hk
    · obtain ⟨b, hb', rfl⟩ := List.mem_map.1 hk
      have := hb b hb'
      omega
  hat := h.hat
  room := by rw [List.length_append, List.length_map]; omega
theorem Rel.tail {k : Int} {C' : List Int} (h : Rel most A B p D at_ (k :: C')) : B = rb (sendR p0 D) k :: C'.map (rb (sendR p0 D)) ∧ Rel most A (C'.map (rb (sendR p0 D))) p D at_ C' := by
  have hB := h.hB
  rw [List.map_cons] at hB
  refine ⟨hB, h.hA, h.hp, rfl, fun x hx => h.hC x (List.mem_cons_of_mem _ hx), h.hat, ?_⟩
  have := h.room
  rw [hB, List.length_cons] at this
  omega
theorem Rel.take_s {k : Nat} {C' : List Int} (h : Rel most A B p D at_ ((k : Int) :: C')) (hD : D.length < 10000) :
    ∃ b, D[k]? = some b ∧ rb (sendR p0 D) (k : Int) = [.int .u8 b, .int .u64 (sfin ((D.take (k + 1)).foldl sstep 7640891576956012808) ((k : Int) + 1)), .bool true] := by
  have hk := h.hC k (by simp)
  have hat := h.hat
  have hlt : k < D.length := by omega
  refine ⟨D[k], List.getElem?_eq_getElem hlt, ?_⟩
  unfold rb
  rw [if_neg (by omega), Int.toNat_natCast, sendR_at D p0 k _ (List.getElem?_eq_getElem hlt)]
  have e1 : ((D.take k).foldl sbyte p0).1 = (D.take k).foldl sstep 7640891576956012808 := fold_fst _ _
  have e2 : ((D.take k).foldl sbyte p0).2 = (k : Int) := by
    have := fold_snd (D.take k) 7640891576956012808 0 (by rw [List.length_take]; omega)
    rw [List.length_take, Nat.min_eq_left (by omega), Nat.zero_add] at this
    exact this
  have e3 : (D.take (k + 1)).foldl sstep 7640891576956012808 = sstep ((D.take k).foldl sstep 7640891576956012808) D[k] := by
    rw [← List.take_append_getElem hlt, List.foldl_append]; rfl
  have w : IntKind.u64.wrap ((k : Int) + 1) = (k : Int) + 1 := u64_in _ (by omega)
  show recS _ _ = _
  unfold recS
  rw [e1, e2, e3, w]
theorem Rel.clear (hm : 0 ≤ most) : Rel most [] [] p0 [] 0 [] where
  hA := rfl
  hp := rfl
  hB := rfl
  hC := fun k hk => by cases hk
  hat := Nat.le_refl _
  room := by simpa using hm
end
end Go.X.Try
