import Derived.Test.YthcbhmgjkecppaaAw
set_option maxRecDepth 100000
set_option linter.unusedVariables false
namespace Go.X
open Go.IntWalk
/-! ### strings as lists of bytes -/
theorem size_toBytes (s : ByteArray) : (toBytes s).length = s.size := by
  unfold toBytes; rw [List.length_map, Array.length_toList]; rfl
theorem isB_toBytes (s : ByteArray) : isB (toBytes s) := fun b hb => by
  simp only [toBytes, List.mem_map] at hb
  obtain ⟨x, _, rfl⟩ := hb
  have := x.toNat_lt
  omega
theorem size_ofBytes (l : List Int) : (ofBytes l).size = l.length := by
  simp [ofBytes, ByteArray.size]
theorem ofBytes_nil : ofBytes [] = ⟨#[]⟩ := rfl
theorem toBytes_ofBytes {l : List Int} (h : isB l) : toBytes (ofBytes l) = l := by
  simp only [toBytes, ofBytes, List.map_map]
  induction l with
  | nil => rfl
  | cons b l ih =>
    have hb := h b (by simp)
    simp only [List.map_cons, Function.comp]
    rw [ih h.tail]
    congr 1
    simp only [UInt8.toNat_ofNat']
    omega
theorem ofBytes_toBytes (s : ByteArray) : ofBytes (toBytes s) = s := by
  obtain ⟨⟨l⟩⟩ := s
  simp only [toBytes, ofBytes, List.map_map]
  congr 2
  induction l with
  | nil => rfl
  | cons x l ih =>
    simp only [List.map_cons, Function.comp, ih]
    congr 1
    simp
theorem ofBytes_append (l m : List Int) : ofBytes l ++ ofBytes m = ofBytes (l ++ m) := by
  apply ByteArray.ext
  simp [ofBytes]
theorem ofBytes_extract (l : List Int) (a b : Nat) : (ofBytes l).extract a b = ofBytes ((l.drop a).take (b - a)) := by
  apply ByteArray.ext
  simp [ofBytes, ByteArray.data_extract, List.extract_eq_take_drop]
theorem ofBytes_inj {l m : List Int} (hl : isB l) (hm : isB m) : ofBytes l = ofBytes m ↔ l = m :=
  ⟨fun h => by rw [← toBytes_ofBytes hl, h, toBytes_ofBytes hm], fun h => by rw [h]⟩
theorem beqS (a b : ByteArray) : (a.toList == b.toList) = decide (a = b) := by
  rw [Bool.eq_iff_iff]
  simp only [beq_iff_eq, decide_eq_true_eq, ByteArray.toList_eq]
  constructor
  · intro h
    apply ByteArray.ext
    exact Array.toList_inj.1 h
  · intro h; rw [h]
theorem eqS {l m : List Int} (hl : isB l) (hm : isB m) : ((ofBytes l).toList == (ofBytes m).toList) = decide (l = m) := by
  rw [beqS]
  exact decide_eq_decide.2 (ofBytes_inj hl hm)
theorem eqS0 (l : List Int) : ((ofBytes l).toList == ({ data := #[] } : ByteArray).toList) = decide (l = []) := by
  rw [beqS]
  refine decide_eq_decide.2 ⟨fun h => ?_, fun h => by rw [h]; rfl⟩
  have := congrArg ByteArray.size h
  rw [size_ofBytes] at this
  exact List.eq_nil_of_length_eq_zero this
theorem emptyS (l : List Int) : (ofBytes l).toList.isEmpty = decide (l = []) := by
  rw [ByteArray.toList_eq]
  cases l <;> simp [ofBytes]
theorem empty_ofBytes : ByteArray.empty = ofBytes [] := rfl
theorem isB_append {l m : List Int} (hl : isB l) (hm : isB m) : isB (l ++ m) := fun b hb => by
  rcases List.mem_append.1 hb with h | h
  · exact hl b h
  · exact hm b h
theorem isB_take {l : List Int} (n : Nat) (hl : isB l) : isB (l.take n) := fun b hb => hl b (List.mem_of_mem_take hb)
theorem isB_drop {l : List Int} (n : Nat) (hl : isB l) : isB (l.drop n) := fun b hb => hl b (List.mem_of_mem_drop hb)
theorem isB_one {b : Int} (h : 0 ≤ b ∧ b < 256) : isB [b] := fun x hx => by
  simp only [List.mem_cons, List.not_mem_nil, or_false] at hx
  omega
end Go.X
