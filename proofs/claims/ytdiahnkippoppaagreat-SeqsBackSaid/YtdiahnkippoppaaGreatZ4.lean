import Derived.Deep.Slices
import Derived.Deep.Fields
import Derived.ChangeSame
import Derived.SizedLaws
import Derived.Test.YtdiahnkippoppaaGreatZ3
set_option linter.unusedVariables false
set_option linter.unusedSimpArgs false
set_option linter.unusedSectionVars false
set_option maxRecDepth 100000
namespace Go.X
open Go.IntWalk
theorem bitsI_and {k : IntKind} {x y : Nat} (h : k.signed = false) (hx : x < 2 ^ k.bits) (hy : y < 2 ^ k.bits) : bitsI .and k (x : Int) (y : Int) = ((x &&& y : Nat) : Int) := by
  have e : ((BitVec.ofInt k.bits (x : Int) &&& BitVec.ofInt k.bits (y : Int)).toNat : Int) = ((x &&& y : Nat) : Int) := by
    rw [BitVec.toNat_and, BitVec.ofInt_natCast, BitVec.ofInt_natCast, BitVec.toNat_ofNat, BitVec.toNat_ofNat, Nat.mod_eq_of_lt hx, Nat.mod_eq_of_lt hy]
  have hlt : x &&& y < 2 ^ k.bits := Nat.lt_of_le_of_lt Nat.and_le_left hx
  show k.wrap _ = _
  rw [e]
  cases k <;> first | (exact absurd h (by decide)) | (simp only [IntKind.bits] at hlt; first | exact u8_in _ (by omega) | exact u16_in _ (by omega) | exact u32_in _ (by omega) | exact u64_in _ (by omega))
theorem bitsI_or {k : IntKind} {x y : Nat} (h : k.signed = false) (hx : x < 2 ^ k.bits) (hy : y < 2 ^ k.bits) : bitsI .or k (x : Int) (y : Int) = ((x ||| y : Nat) : Int) := by
  have e : ((BitVec.ofInt k.bits (x : Int) ||| BitVec.ofInt k.bits (y : Int)).toNat : Int) = ((x ||| y : Nat) : Int) := by
    rw [BitVec.toNat_or, BitVec.ofInt_natCast, BitVec.ofInt_natCast, BitVec.toNat_ofNat, BitVec.toNat_ofNat, Nat.mod_eq_of_lt hx, Nat.mod_eq_of_lt hy]
  have hlt : x ||| y < 2 ^ k.bits := Nat.or_lt_two_pow hx hy
  show k.wrap _ = _
  rw [e]
  cases k <;> first | (exact absurd h (by decide)) | (simp only [IntKind.bits] at hlt; first | exact u8_in _ (by omega) | exact u16_in _ (by omega) | exact u32_in _ (by omega) | exact u64_in _ (by omega))
theorem bitsI_and_i64 {x y : Nat} (hx : x < 2 ^ 63) (hy : y < 2 ^ 63) : bitsI .and .i64 (x : Int) (y : Int) = ((x &&& y : Nat) : Int) := by
  have e : ((BitVec.ofInt 64 (x : Int) &&& BitVec.ofInt 64 (y : Int)).toNat : Int) = ((x &&& y : Nat) : Int) := by
    rw [BitVec.toNat_and, BitVec.ofInt_natCast, BitVec.ofInt_natCast, BitVec.toNat_ofNat, BitVec.toNat_ofNat, Nat.mod_eq_of_lt (by omega), Nat.mod_eq_of_lt (by omega)]
  have hlt : x &&& y < 2 ^ 63 := Nat.lt_of_le_of_lt Nat.and_le_left hx
  show IntKind.i64.wrap _ = _
  have e2 : ((BitVec.ofInt IntKind.i64.bits (x : Int) &&& BitVec.ofInt IntKind.i64.bits (y : Int)).toNat : Int) = ((x &&& y : Nat) : Int) := e
  rw [e2]
  exact i64_in _ (by omega)
theorem and7_i64 {x : Nat} (hx : x < 2 ^ 63) : bitsI .and .i64 (x : Int) 7 = ((x % 8 : Nat) : Int) := by
  have := bitsI_and_i64 (y := 7) hx (by omega)
  rw [show ((7 : Nat) : Int) = 7 from rfl] at this
  rw [this, show (7 : Nat) = 2 ^ 3 - 1 from rfl, Nat.and_two_pow_sub_one_eq_mod]
theorem mask_and {k : IntKind} {x n : Nat} (h : k.signed = false) (hx : x < 2 ^ k.bits) (hn : n ≤ k.bits) : bitsI .and k (x : Int) (((2 ^ n - 1 : Nat)) : Int) = ((x % 2 ^ n : Nat) : Int) := by
  have hp := Nat.pow_le_pow_right (n := 2) (by omega) hn
  have := Nat.two_pow_pos n
  rw [bitsI_and h hx (by omega), Nat.and_two_pow_sub_one_eq_mod]
theorem or_add {k : IntKind} {x y n : Nat} (h : k.signed = false) (hx : x < 2 ^ n) (hn : x + y * 2 ^ n < 2 ^ k.bits) : bitsI .or k (x : Int) ((y * 2 ^ n : Nat) : Int) = ((x + y * 2 ^ n : Nat) : Int) := by
  rw [bitsI_or h (by omega) (by omega)]
  have := Nat.shiftLeft_add_eq_or_of_lt hx y
  rw [Nat.shiftLeft_eq] at this
  rw [Nat.or_comm, ← this, Nat.add_comm]
theorem shl_in {k : IntKind} {x n : Nat} (h : k.signed = false) (hn : n ≤ k.bits) (hlt : x * 2 ^ n < 2 ^ k.bits) : shlI k (x : Int) (n : Int) = ((x * 2 ^ n : Nat) : Int) := by
  have e : (x : Int) * 2 ^ Nat.min (n : Int).toNat k.bits = ((x * 2 ^ n : Nat) : Int) := by
    rw [Int.toNat_natCast, show Nat.min n k.bits = n from Nat.min_eq_left hn]
    simp
  show k.wrap _ = _
  rw [e]
  cases k <;> first | (exact absurd h (by decide)) | (simp only [IntKind.bits] at hlt; first | exact u8_in _ (by omega) | exact u16_in _ (by omega) | exact u32_in _ (by omega) | exact u64_in _ (by omega))
theorem shr_in {k : IntKind} {x n : Nat} (hn : n ≤ k.bits) : shrI k (x : Int) (n : Int) = ((x / 2 ^ n : Nat) : Int) := by
  rw [shrI_eq, Int.toNat_natCast, show Nat.min n k.bits = n from Nat.min_eq_left hn]
  simp
def leB : List Int → Nat
  | [] => 0
  | b :: l => b.toNat + 256 * leB l
def isB (l : List Int) : Prop := ∀ b ∈ l, 0 ≤ b ∧ b < 256
theorem isB.tail {b : Int} {l : List Int} (h : isB (b :: l)) : isB l := fun x hx => h x (List.mem_cons_of_mem _ hx)
theorem leB_lt : ∀ {l : List Int}, isB l → leB l < 2 ^ (8 * l.length)
  | [], _ => by simp [leB]
  | b :: l, h => by
    have h1 := leB_lt h.tail
    have h2 := h b (by simp)
    have e : 2 ^ (8 * (l.length + 1)) = 256 * 2 ^ (8 * l.length) := by rw [Nat.mul_add, Nat.pow_add]; omega
    simp only [leB, List.length_cons]
    rw [e]
    omega
theorem leB_at : ∀ {l : List Int} {i : Nat} {b : Int}, isB l → l[i]? = some b → leB l / 2 ^ (8 * i) % 256 = b.toNat
  | [], i, b, _, h => by simp at h
  | c :: l, 0, b, hB, h => by
    simp only [List.getElem?_cons_zero, Option.some.injEq] at h
    subst h
    have := hB c (by simp)
    simp only [leB, Nat.mul_zero, Nat.pow_zero, Nat.div_one]
    omega
  | c :: l, i + 1, b, hB, h => by
    simp only [List.getElem?_cons_succ] at h
    have := hB c (by simp)
    rw [← leB_at hB.tail h, show 8 * (i + 1) = 8 + 8 * i by omega, Nat.pow_add, ← Nat.div_div_eq_div_mul]
    congr 2
    simp only [leB]
    omega
theorem leB_append : ∀ (l m : List Int), leB (l ++ m) = leB l + 2 ^ (8 * l.length) * leB m
  | [], m => by simp [leB]
  | b :: l, m => by
    have e : 2 ^ (8 * (l.length + 1)) = 256 * 2 ^ (8 * l.length) := by rw [Nat.mul_add, Nat.pow_add]; omega
    simp only [List.cons_append, leB, List.length_cons, leB_append l m]
    rw [e, Nat.mul_assoc]
    generalize 2 ^ (8 * l.length) * leB m = Q
    omega
theorem leB_set : ∀ {l : List Int} {i : Nat} {b : Int} {d : Nat}, isB l → l[i]? = some b → leB (l.set i (b + d)) = leB l + d * 2 ^ (8 * i)
  | [], i, b, d, _, h => by simp at h
  | c :: l, 0, b, d, hB, h => by
    simp only [List.getElem?_cons_zero, Option.some.injEq] at h
    subst h
    have := hB c (by simp)
    simp only [List.set_cons_zero, leB, Nat.mul_zero, Nat.pow_zero]
    omega
  | c :: l, i + 1, b, d, hB, h => by
    simp only [List.getElem?_cons_succ] at h
    have e : 2 ^ (8 * (i + 1)) = 256 * 2 ^ (8 * i) := by rw [Nat.mul_add, Nat.pow_add]; omega
    simp only [List.set_cons_succ, leB, leB_set hB.tail h]
    rw [e, Nat.mul_left_comm]
    generalize d * 2 ^ (8 * i) = Q
    omega
theorem leB_inj : ∀ {l m : List Int}, isB l → isB m → l.length = m.length → leB l = leB m → l = m
  | [], [], _, _, _, _ => rfl
  | [], _ :: _, _, _, h, _ => by simp at h
  | _ :: _, [], _, _, h, _ => by simp at h
  | b :: l, c :: m, hl, hm, h, e => by
    have h1 := hl b (by simp)
    have h2 := hm c (by simp)
    simp only [leB] at e
    have e1 : b = c := by omega
    subst e1
    rw [leB_inj hl.tail hm.tail (by simpa using h) (by omega)]
theorem byte_bits {N i a k : Nat} (h : a + k ≤ 8) : N / 2 ^ (8 * i) % 256 / 2 ^ a % 2 ^ k = N / 2 ^ (8 * i + a) % 2 ^ k := by
  rw [Nat.pow_add, ← Nat.div_div_eq_div_mul]
  generalize N / 2 ^ (8 * i) = M
  have e : (256 : Nat) = 2 ^ a * 2 ^ (8 - a) := by rw [← Nat.pow_add, show a + (8 - a) = 8 by omega]
  rw [e, Nat.mod_mul_right_div_self, Nat.mod_mod_of_dvd _ (Nat.pow_dvd_pow 2 (by omega))]
theorem mod_more (N g k : Nat) : N % 2 ^ (g + k) = N % 2 ^ g + N / 2 ^ g % 2 ^ k * 2 ^ g := by
  rw [Nat.pow_add, Nat.mod_mul, Nat.mul_comm (2 ^ g)]
def leN : List Int → Nat
  | [] => 0
  | b :: l => b.toNat + 2 * leN l
def isN (l : List Int) : Prop := ∀ b ∈ l, b = 0 ∨ b = 1
theorem isN.tail {b : Int} {l : List Int} (h : isN (b :: l)) : isN l := fun x hx => h x (List.mem_cons_of_mem _ hx)
theorem leN_lt : ∀ {l : List Int}, isN l → leN l < 2 ^ l.length
  | [], _ => by simp [leN]
  | b :: l, h => by
    have h1 := leN_lt h.tail
    have h2 := h b (by simp)
    simp only [leN, List.length_cons, Nat.pow_succ]
    omega
theorem leN_append : ∀ (l m : List Int), leN (l ++ m) = leN l + 2 ^ l.length * leN m
  | [], m => by simp [leN]
  | b :: l, m => by
    simp only [List.cons_append, leN, List.length_cons, leN_append l m, Nat.pow_succ]
    rw [Nat.mul_comm (2 ^ l.length) 2, Nat.mul_assoc]
    generalize 2 ^ l.length * leN m = Q
    omega
theorem leN_take : ∀ {l : List Int} (n : Nat), isN l → leN (l.take n) = leN l % 2 ^ n
  | [], n, _ => by simp [leN]
  | b :: l, 0, _ => by simp [leN, Nat.mod_one]
  | b :: l, n + 1, h => by
    have h2 := h b (by simp)
    have e : (b.toNat + 2 * leN l) / 2 = leN l := by omega
    simp only [List.take_succ_cons, leN, leN_take n h.tail, Nat.pow_succ]
    rw [Nat.mul_comm (2 ^ n) 2, Nat.mod_mul, e]
    generalize leN l % 2 ^ n = Q
    omega
theorem leN_drop : ∀ {l : List Int} (n : Nat), isN l → leN (l.drop n) = leN l / 2 ^ n
  | [], n, _ => by simp [leN]
  | b :: l, 0, _ => by simp
  | b :: l, n + 1, h => by
    have h2 := h b (by simp)
    simp only [List.drop_succ_cons, leN, leN_drop n h.tail, Nat.pow_succ]
    rw [Nat.mul_comm (2 ^ n) 2, ← Nat.div_div_eq_div_mul]
    congr 1
    omega
theorem leN_at {l : List Int} {i : Nat} {b : Int} (hN : isN l) (h : l[i]? = some b) : leN l / 2 ^ i % 2 = b.toNat := by
  obtain ⟨hlt, e⟩ := List.getElem?_eq_some_iff.1 h
  have hb := hN b (List.mem_of_getElem? h)
  rw [← leN_drop i hN, List.drop_eq_getElem_cons hlt, e]
  simp only [leN]
  omega
theorem leN_inj : ∀ {l m : List Int}, isN l → isN m → l.length = m.length → leN l = leN m → l = m
  | [], [], _, _, _, _ => rfl
  | [], _ :: _, _, _, h, _ => by simp at h
  | _ :: _, [], _, _, h, _ => by simp at h
  | b :: l, c :: m, hl, hm, h, e => by
    have h1 := hl b (by simp)
    have h2 := hm c (by simp)
    simp only [leN] at e
    have e1 : b = c := by omega
    subst e1
    rw [leN_inj hl.tail hm.tail (by simpa using h) (by omega)]
def ofN (v : Nat) : Nat → List Int
  | 0 => []
  | n + 1 => ((v % 2 : Nat) : Int) :: ofN (v / 2) n
theorem ofN_length : ∀ (n v : Nat), (ofN v n).length = n
  | 0, _ => rfl
  | n + 1, v => by simp [ofN, ofN_length n]
theorem ofN_isN : ∀ (n v : Nat), isN (ofN v n)
  | 0, _ => by simp [ofN, isN]
  | n + 1, v => fun b hb => by
    rcases List.mem_cons.1 hb with rfl | hb
    · omega
    · exact ofN_isN n _ b hb
theorem leN_ofN : ∀ (n v : Nat), leN (ofN v n) = v % 2 ^ n
  | 0, v => by simp [ofN, leN, Nat.mod_one]
  | n + 1, v => by
    simp only [ofN, leN, leN_ofN n, Nat.pow_succ]
    rw [Nat.mul_comm (2 ^ n) 2, Nat.mod_mul]
    omega
theorem ofN_snoc : ∀ (n v : Nat), ofN v (n + 1) = ofN v n ++ [((v / 2 ^ n % 2 : Nat) : Int)]
  | 0, v => by simp [ofN]
  | n + 1, v => by
    rw [ofN, ofN_snoc n (v / 2), ofN, List.cons_append, Nat.div_div_eq_div_mul, Nat.pow_succ, Nat.mul_comm 2]
theorem size_toBytes (s : ByteArray) : (toBytes s).length = s.size := by
  unfold toBytes; rw [List.length_map, Array.length_toList]; rfl
theorem isB_toBytes (s : ByteArray) : isB (toBytes s) := fun b hb => by
  simp only [toBytes, List.mem_map] at hb
  obtain ⟨x, _, rfl⟩ := hb
  have := x.toNat_lt
  omega
theorem size_ofBytes (l : List Int) : (ofBytes l).size = l.length := by
  simp [ofBytes, ByteArray.size]
theorem ofBytes_nil : ofBytes [] = ⟨#[]⟩ := rfl
theorem toBytes_ofBytes {l : List Int} (h : isB l) : toBytes (ofBytes l) = l := by
  simp only [toBytes, ofBytes, List.map_map]
  induction l with
  | nil => rfl
  | cons b l ih =>
    have hb := h b (by simp)
    simp only [List.map_cons, Function.comp]
    rw [ih h.tail]
    congr 1
    simp only [UInt8.toNat_ofNat']
    omega
theorem ofBytes_toBytes (s : ByteArray) : ofBytes (toBytes s) = s := by
  obtain ⟨⟨l⟩⟩ := s
  simp only [toBytes, ofBytes, List.map_map]
  congr 2
  induction l with
  | nil => rfl
  | cons x l ih =>
    simp only [List.map_cons, Function.comp, ih]
    congr 1
    simp
theorem ofBytes_append (l m : List Int) : ofBytes l ++ ofBytes m = ofBytes (l ++ m) := by
  apply ByteArray.ext
  simp [ofBytes]
theorem ofBytes_extract (l : List Int) (a b : Nat) : (ofBytes l).extract a b = ofBytes ((l.drop a).take (b - a)) := by
  apply ByteArray.ext
  simp [ofBytes, ByteArray.data_extract, List.extract_eq_take_drop]
theorem ofBytes_inj {l m : List Int} (hl : isB l) (hm : isB m) : ofBytes l = ofBytes m ↔ l = m :=
  ⟨fun h => by rw [← toBytes_ofBytes hl, h, toBytes_ofBytes hm], fun h => by rw [h]⟩
theorem beqS (a b : ByteArray) : (a.toList == b.toList) = decide (a = b) := by
  rw [Bool.eq_iff_iff]
  simp only [beq_iff_eq, decide_eq_true_eq, ByteArray.toList_eq]
  constructor
  · intro h
    apply ByteArray.ext
    exact Array.toList_inj.1 h
  · intro h; rw [h]
theorem eqS {l m : List Int} (hl : isB l) (hm : isB m) : ((ofBytes l).toList == (ofBytes m).toList) = decide (l = m) := by
  rw [beqS]
  exact decide_eq_decide.2 (ofBytes_inj hl hm)
theorem eqS0 (l : List Int) : ((ofBytes l).toList == ({ data := #[] } : ByteArray).toList) = decide (l = []) := by
  rw [beqS]
  refine decide_eq_decide.2 ⟨fun h => ?_, fun h => by rw [h]; rfl⟩
  have := congrArg ByteArray.size h
  rw [size_ofBytes] at this
  exact List.eq_nil_of_length_eq_zero this
theorem emptyS (l : List Int) : (ofBytes l).toList.isEmpty = decide (l = []) := by
  rw [ByteArray.toList_eq]
  cases l <;> simp [ofBytes]
theorem empty_ofBytes : ByteArray.empty = ofBytes [] := rfl
theorem isB_append {l m : List Int} (hl : isB l) (hm : isB m) : isB (l ++ m) := fun b hb => by
  rcases List.mem_append.1 hb with h | h
  · exact hl b h
  · exact hm b h
theorem isB_take {l : List Int} (n : Nat) (hl : isB l) : isB (l.take n) := fun b hb => hl b (List.mem_of_mem_take hb)
theorem isB_drop {l : List Int} (n : Nat) (hl : isB l) : isB (l.drop n) := fun b hb => hl b (List.mem_of_mem_drop hb)
theorem isB_one {b : Int} (h : 0 ≤ b ∧ b < 256) : isB [b] := fun x hx => by
  simp only [List.mem_cons, List.not_mem_nil, or_false] at hx
  omega
end Go.X
namespace Go.X.Tryz
open Go.IntWalk
def sumK : List Int → Int
  | [] => 0
  | x :: l => x + sumK l
def symK : List Int → Int
  | [] => 0
  | x :: l => (if 0 < x then 1 else 0) + symK l
theorem symK_bound : ∀ (l : List Int), 0 ≤ symK l ∧ symK l ≤ l.length
  | [] => by simp [symK]
  | x :: l => by
    have := symK_bound l
    simp only [symK, List.length_cons]
    split <;> omega
def canonR (a b : Nat) (t : Nat) (l : List Int) (s i : Int) : St := ⟨[(3, .one (.int .i64 s)), (6, .one (.ro t (.ints .i64 l))), (7, .one (.int .i64 l.length)), (8, .one (.int .i64 i))], [.ro t (.ints .i64 l)], []⟩
theorem body87 (t : Nat) (l : List Int) (s n s' i' : Int) (i : Nat) (hi : i < l.length) (hn' : l[i] = n) (el : IntKind.i64.wrap (s + n) = s') (ei : IntKind.i64.wrap ((i : Int) + 1) = i') :
    ∃ st1, evC T87 KK b87x0 (canonR 0 0 t l s i) = some (.norm, st1) ∧ St.head [3, 6, 7, 8] st1 = canonR 0 0 t l s' i' := by
  have hi2 : (i : Int) < l.length := by omega
  have h0 : (0 : Int) ≤ i := by omega
  simp -implicitDefEqProofs [b87x0, canonR, upd, hi, hi2, h0, hn', el, ei, RC.len, RC.size, RC.get]
theorem end87 (t : Nat) (l : List Int) (s i : Int) (hi : ¬ i < l.length) :
    ∃ env, evC T87 KK b87x0 (canonR 0 0 t l s i) = some (.exit 0, ⟨env, [.ro t (.ints .i64 l)], []⟩) ∧ getT 3 env = .one (.int .i64 s) := by
  simp -implicitDefEqProofs [b87x0, canonR, upd, hi]
theorem loop87 (t : Nat) (l : List Int) (hl : l.length ≤ 300) (hB : ∀ z ∈ l, -2000000 ≤ z ∧ z ≤ 2000000) : ∀ (j i : Nat) (s : Int) (K : Nat), i + j = l.length → -(2000000 * i) ≤ s → s ≤ 2000000 * i → j < K →
    ∃ env, loopH (evC T87 KK b87x0) [3, 6, 7, 8] K (canonR 0 0 t l s i) = some (.exit 0, ⟨env, [.ro t (.ints .i64 l)], []⟩) ∧ getT 3 env = .one (.int .i64 (s + sumK (l.drop i)))
  | 0, i, s, K, hi, h0, h1, hK => by
    obtain ⟨env, e, g⟩ := end87 t l s i (by omega)
    exact ⟨env, loopH_exit e, by rw [List.drop_eq_nil_of_le (by omega), g]; simp [sumK]⟩
  | j + 1, i, s, K, hi, h0, h1, hK => by
    have hlt : i < l.length := by omega
    have hz := hB l[i] (List.getElem_mem hlt)
    obtain ⟨st1, e1, e2⟩ := body87 t l s l[i] (s + l[i]) (i + 1 : Nat) i hlt rfl (i64_in _ (by omega)) (by rw [i64_in _ (by omega)]; omega)
    obtain ⟨env, e, g⟩ := loop87 t l hl hB j (i + 1) (s + l[i]) (K - 1) (by omega) (by omega) (by omega) (by omega)
    refine ⟨env, by rw [loopH_norm e1 (by omega), e2]; exact e, ?_⟩
    rw [g, List.drop_eq_getElem_cons hlt]
    simp only [sumK]
    rw [Int.add_assoc]
theorem f87 (t : Nat) (l : List Int) (hl : l.length ≤ 300) (hB : ∀ z ∈ l, -2000000 ≤ z ∧ z ≤ 2000000) : F87 [.one (.ro t (.ints .i64 l))] [] = some (.one (.int .i64 (sumK l)), []) := by
  obtain ⟨env, e, g⟩ := loop87 t l hl hB l.length 0 0 KK (by omega) (by omega) (by omega) (by rw [KK_eq]; omega)
  have z : ((0 : Nat) : Int) = 0 := rfl
  rw [List.drop_zero, Int.zero_add] at g
  simp only [canonR, z] at e
  simp -implicitDefEqProofs [F87, c87, upd, e, g, RC.len]
theorem body86 (t : Nat) (l : List Int) (s n s' i' : Int) (i : Nat) (hi : i < l.length) (hn' : l[i] = n) (el : (if 0 < n then IntKind.i64.wrap (s + 1) else s) = s') (ei : IntKind.i64.wrap ((i : Int) + 1) = i') :
    ∃ st1, evC T86 KK b86x0 (canonR 0 0 t l s i) = some (.norm, st1) ∧ St.head [3, 6, 7, 8] st1 = canonR 0 0 t l s' i' := by
  have hi2 : (i : Int) < l.length := by omega
  have h0 : (0 : Int) ≤ i := by omega
  by_cases hp : 0 < n
  · rw [if_pos hp] at el
    simp -implicitDefEqProofs [b86x0, canonR, upd, hi, hi2, h0, hn', el, ei, hp, RC.len, RC.size, RC.get]
  · rw [if_neg hp] at el; subst el
    simp -implicitDefEqProofs [b86x0, canonR, upd, hi, hi2, h0, hn', ei, hp, RC.len, RC.size, RC.get]
theorem end86 (t : Nat) (l : List Int) (s i : Int) (hi : ¬ i < l.length) :
    ∃ env, evC T86 KK b86x0 (canonR 0 0 t l s i) = some (.exit 0, ⟨env, [.ro t (.ints .i64 l)], []⟩) ∧ getT 3 env = .one (.int .i64 s) := by
  simp -implicitDefEqProofs [b86x0, canonR, upd, hi]
theorem loop86 (t : Nat) (l : List Int) (hl : l.length ≤ 300) : ∀ (j i : Nat) (s : Int) (K : Nat), i + j = l.length → 0 ≤ s → s ≤ i → j < K →
    ∃ env, loopH (evC T86 KK b86x0) [3, 6, 7, 8] K (canonR 0 0 t l s i) = some (.exit 0, ⟨env, [.ro t (.ints .i64 l)], []⟩) ∧ getT 3 env = .one (.int .i64 (s + symK (l.drop i)))
  | 0, i, s, K, hi, h0, h1, hK => by
    obtain ⟨env, e, g⟩ := end86 t l s i (by omega)
    exact ⟨env, loopH_exit e, by rw [List.drop_eq_nil_of_le (by omega), g]; simp [symK]⟩
  | j + 1, i, s, K, hi, h0, h1, hK => by
    have hlt : i < l.length := by omega
    have w : IntKind.i64.wrap (s + 1) = s + 1 := i64_in _ (by omega)
    obtain ⟨st1, e1, e2⟩ := body86 t l s l[i] (s + (if 0 < l[i] then 1 else 0)) (i + 1 : Nat) i hlt rfl (by rw [w]; split <;> omega) (by rw [i64_in _ (by omega)]; omega)
    obtain ⟨env, e, g⟩ := loop86 t l hl j (i + 1) (s + (if 0 < l[i] then 1 else 0)) (K - 1) (by omega) (by split <;> omega) (by split <;> omega) (by omega)
    refine ⟨env, by rw [loopH_norm e1 (by omega), e2]; exact e, ?_⟩
    rw [g, List.drop_eq_getElem_cons hlt]
    simp only [symK]
    rw [Int.add_assoc]
theorem f86 (t : Nat) (l : List Int) (hl : l.length ≤ 300) : F86 [.one (.ro t (.ints .i64 l))] [] = some (.one (.int .i64 (symK l)), []) := by
  obtain ⟨env, e, g⟩ := loop86 t l hl l.length 0 0 KK (by omega) (by omega) (by omega) (by rw [KK_eq]; omega)
  have z : ((0 : Nat) : Int) = 0 := rfl
  rw [List.drop_zero, Int.zero_add] at g
  simp only [canonR, z] at e
  simp -implicitDefEqProofs [F86, c86, upd, e, g, RC.len]
def canon28K (t : Nat) (l : List Int) (s i : Int) : St := ⟨[(0, .one (.ro t (.ints .i64 l))), (3, .one (.int .i64 s)), (4, .one (.int .i64 i))], [.ro t (.ints .i64 l)], []⟩
def canon85 (t : Nat) (l : List Int) (i : Int) : St := ⟨[(0, .one (.ro t (.ints .i64 l))), (8, .one (.ro t (.ints .i64 l))), (9, .one (.int .i64 l.length)), (10, .one (.int .i64 i))], [.ro t (.ints .i64 l)], []⟩
theorem body85 (t : Nat) (l : List Int) (n i' : Int) (i : Nat) (hi : i < l.length) (hn' : l[i] = n) (h1 : ¬ n < 0) (h2 : ¬ 1048576 < n) (ei : IntKind.i64.wrap ((i : Int) + 1) = i') :
    ∃ st1, evC T85 KK b85x0 (canon85 t l i) = some (.norm, st1) ∧ St.head [0, 8, 9, 10] st1 = canon85 t l i' := by
  have hi2 : (i : Int) < l.length := by omega
  have h0 : (0 : Int) ≤ i := by omega
  simp -implicitDefEqProofs [b85x0, canon85, upd, hi, hi2, h0, hn', h1, h2, ei, RC.len, RC.size, RC.get]
theorem end85 (t : Nat) (l : List Int) (i : Int) (hi : ¬ i < l.length) :
    ∃ env, evC T85 KK b85x0 (canon85 t l i) = some (.exit 0, ⟨env, [.ro t (.ints .i64 l)], []⟩) ∧ getT 0 env = .one (.ro t (.ints .i64 l)) := by
  simp -implicitDefEqProofs [b85x0, canon85, upd, hi]
theorem loop85 (t : Nat) (l : List Int) (hl : l.length ≤ 300) (hB : ∀ z ∈ l, 0 ≤ z ∧ z ≤ 1048576) : ∀ (j i : Nat) (K : Nat), i + j = l.length → j < K →
    ∃ env, loopH (evC T85 KK b85x0) [0, 8, 9, 10] K (canon85 t l i) = some (.exit 0, ⟨env, [.ro t (.ints .i64 l)], []⟩) ∧ getT 0 env = .one (.ro t (.ints .i64 l))
  | 0, i, K, hi, hK => by
    obtain ⟨env, e, g⟩ := end85 t l i (by omega)
    exact ⟨env, loopH_exit e, g⟩
  | j + 1, i, K, hi, hK => by
    have hlt : i < l.length := by omega
    have hz := hB l[i] (List.getElem_mem hlt)
    obtain ⟨st1, e1, e2⟩ := body85 t l l[i] (i + 1 : Nat) i hlt rfl (by omega) (by omega) (by rw [i64_in _ (by omega)]; omega)
    obtain ⟨env, e, g⟩ := loop85 t l hl hB j (i + 1) (K - 1) (by omega) (by omega)
    exact ⟨env, by rw [loopH_norm e1 (by omega), e2]; exact e, g⟩
theorem f85 (t : Nat) (l : List Int) (hl : l.length ≤ 256) (hB : ∀ z ∈ l, 0 ≤ z ∧ z ≤ 1048576) : F85 [.one (.ro t (.ints .i64 l))] [] = some (.one (.bool (decide (0 < sumK l))), []) := by
  obtain ⟨env, e, g⟩ := loop85 t l (by omega) hB l.length 0 KK (by omega) (by rw [KK_eq]; omega)
  have z : ((0 : Nat) : Int) = 0 := rfl
  have e87 := fun t => f87 t l (by omega) fun z hz => by have := hB z hz; omega
  have n1 : ¬ (256 : Int) < l.length := by omega
  have n2 : ¬ 256 < l.length := by omega
  simp only [canon85, z] at e
  simp -implicitDefEqProofs [F85, c85, upd, e, g, e87, n1, n2, hl, RC.len]
def canon64 (t : Nat) (l : List Int) (x i : Int) : St := ⟨[(0, .one (.ro t (.ints .i64 l))), (1, .one (.int .i64 x)), (7, .one (.int .i64 l.length)), (8, .one (.int .i64 i))], [.ro t (.ints .i64 l), .int .i64 x], []⟩
theorem body64 (t : Nat) (l : List Int) (x n i' : Int) (i : Nat) (hi : i < l.length) (hn' : l[i] = n) (h1 : ¬ x = n) (ei : IntKind.i64.wrap ((i : Int) + 1) = i') :
    ∃ st1, evC T64 KK b64x0 (canon64 t l x i) = some (.norm, st1) ∧ St.head [0, 1, 7, 8] st1 = canon64 t l x i' := by
  have hi2 : (i : Int) < l.length := by omega
  have h0 : (0 : Int) ≤ i := by omega
  simp -implicitDefEqProofs [b64x0, canon64, upd, hi, hi2, h0, hn', h1, ei, RC.len, RC.size, RC.get]
theorem hit105 (t : Nat) (l : List Int) (x : Int) (i : Nat) (hi : i < l.length) (hn' : l[i] = x) :
    ∃ env, evC T64 KK b64x0 (canon64 t l x i) = some (.ret, ⟨env, [.ro t (.ints .i64 l), .int .i64 x], []⟩) ∧ getT 4 env = .one (.int .i64 i) := by
  have hi2 : (i : Int) < l.length := by omega
  have h0 : (0 : Int) ≤ i := by omega
  simp -implicitDefEqProofs [b64x0, canon64, upd, hi, hi2, h0, hn', RC.len, RC.size, RC.get]
theorem loop64 (t : Nat) (l : List Int) (x : Int) (hl : l.length ≤ 300) : ∀ (j i : Nat) (K : Nat), i + j = l.length → (∃ k, ∃ h : k < l.length, i ≤ k ∧ l[k] = x) → j < K →
    ∃ env g, ∃ hg : g < l.length, loopH (evC T64 KK b64x0) [0, 1, 7, 8] K (canon64 t l x i) = some (.ret, ⟨env, [.ro t (.ints .i64 l), .int .i64 x], []⟩) ∧ getT 4 env = .one (.int .i64 (g : Nat)) ∧ l[g] = x
  | 0, i, K, hi, ⟨k, hk, h1, _⟩, hK => by omega
  | j + 1, i, K, hi, ⟨k, hk, h1, h2⟩, hK => by
    have hlt : i < l.length := by omega
    by_cases he : l[i] = x
    · obtain ⟨env, e, g⟩ := hit105 t l x i hlt he
      exact ⟨env, i, hlt, loopH_ret e, g, he⟩
    · obtain ⟨st1, e1, e2⟩ := body64 t l x l[i] (i + 1 : Nat) i hlt rfl (fun e => he e.symm) (by rw [i64_in _ (by omega)]; omega)
      have hne : i ≠ k := fun e => by subst e; exact he h2
      obtain ⟨env, g, hg, e, q, r⟩ := loop64 t l x hl j (i + 1) (K - 1) (by omega) ⟨k, hk, by omega, h2⟩ (by omega)
      exact ⟨env, g, hg, by rw [loopH_norm e1 (by omega), e2]; exact e, q, r⟩
theorem f64 (t : Nat) (l : List Int) (x : Int) (hl : l.length ≤ 300) (hx : x ∈ l) : ∃ g, ∃ hg : g < l.length, F64 [.one (.ro t (.ints .i64 l)), .one (.int .i64 x)] [] = some (.one (.int .i64 (g : Nat)), []) ∧ l[g] = x := by
  obtain ⟨k, hk, e⟩ := List.getElem_of_mem hx
  obtain ⟨env, g, hg, e, q, r⟩ := loop64 t l x hl l.length 0 KK (by omega) ⟨k, hk, by omega, e⟩ (by rw [KK_eq]; omega)
  have z : ((0 : Nat) : Int) = 0 := rfl
  simp only [canon64, z] at e
  refine ⟨g, hg, ?_, r⟩
  simp -implicitDefEqProofs [F64, c64, upd, e, q, RC.len]
def canon108 (t : Nat) (l : List Int) (m i : Int) : St := ⟨[(0, .one (.ro t (.ints .i64 l))), (3, .one (.int .i64 m)), (4, .one (.int .i64 i))], [.ro t (.ints .i64 l)], []⟩
theorem body108 (t : Nat) (l : List Int) (m n m' i' : Int) (i : Nat) (hi : i < l.length) (hn' : l[i] = n) (hm : (if m < n then n else m) = m') (ei : IntKind.i64.wrap ((i : Int) + 1) = i') :
    ∃ st1, evC T108 KK b108x0 (canon108 t l m i) = some (.norm, st1) ∧ St.head [0, 3, 4] st1 = canon108 t l m' i' := by
  have hi2 : (i : Int) < l.length := by omega
  have h0 : (0 : Int) ≤ i := by omega
  by_cases hp : m < n
  · rw [if_pos hp] at hm; subst hm
    simp -implicitDefEqProofs [b108x0, canon108, upd, hi, hi2, h0, hn', hp, ei, RC.len, RC.size, RC.get]
  · rw [if_neg hp] at hm; subst hm
    simp -implicitDefEqProofs [b108x0, canon108, upd, hi, hi2, h0, hn', hp, ei, RC.len, RC.size, RC.get]
theorem end108 (t : Nat) (l : List Int) (m i : Int) (hi : ¬ i < l.length) :
    ∃ env, evC T108 KK b108x0 (canon108 t l m i) = some (.exit 0, ⟨env, [.ro t (.ints .i64 l)], []⟩) ∧ getT 3 env = .one (.int .i64 m) := by
  simp -implicitDefEqProofs [b108x0, canon108, upd, hi, RC.len]
theorem loop108 (t : Nat) (l : List Int) (hl : l.length ≤ 300) : ∀ (j i : Nat) (m : Int) (K : Nat), i + j = l.length → m ∈ l → (∀ k (h : k < l.length), k < i → l[k] ≤ m) → j < K →
    ∃ env M, loopH (evC T108 KK b108x0) [0, 3, 4] K (canon108 t l m i) = some (.exit 0, ⟨env, [.ro t (.ints .i64 l)], []⟩) ∧ getT 3 env = .one (.int .i64 M) ∧ M ∈ l ∧ ∀ z ∈ l, z ≤ M
  | 0, i, m, K, hi, hm, hle, hK => by
    obtain ⟨env, e, g⟩ := end108 t l m i (by omega)
    refine ⟨env, m, loopH_exit e, g, hm, fun z hz => ?_⟩
    obtain ⟨k, hk, e⟩ := List.getElem_of_mem hz
    rw [← e]; exact hle k hk (by omega)
  | j + 1, i, m, K, hi, hm, hle, hK => by
    have hlt : i < l.length := by omega
    obtain ⟨st1, e1, e2⟩ := body108 t l m l[i] (if m < l[i] then l[i] else m) (i + 1 : Nat) i hlt rfl rfl (by rw [i64_in _ (by omega)]; omega)
    obtain ⟨env, M, e, q, r, s⟩ := loop108 t l hl j (i + 1) (if m < l[i] then l[i] else m) (K - 1) (by omega) (by split; exact List.getElem_mem hlt; exact hm) (fun k h hk => by
      by_cases hki : k = i
      · subst hki; split <;> omega
      · have := hle k h (by omega)
        split <;> omega) (by omega)
    exact ⟨env, M, by rw [loopH_norm e1 (by omega), e2]; exact e, q, r, s⟩
theorem f108 (t : Nat) (l : List Int) (hl : l.length ≤ 300) (h0 : 0 < l.length) : ∃ M, F108 [.one (.ro t (.ints .i64 l))] [] = some (.one (.int .i64 M), []) ∧ M ∈ l ∧ ∀ z ∈ l, z ≤ M := by
  obtain ⟨env, M, e, q, r, s⟩ := loop108 t l hl (l.length - 1) 1 l[0] KK (by omega) (List.getElem_mem h0) (fun k h hk => by
    have : k = 0 := by omega
    subst this; omega) (by rw [KK_eq]; omega)
  have z : ((1 : Nat) : Int) = 1 := rfl
  simp only [canon108, z] at e
  refine ⟨M, ?_, r, s⟩
  have n1 : ¬ (l.length : Int) < 1 := by omega
  have n2 : (0 : Int) < l.length := by omega
  generalize hx : l[0] = x at e
  simp -implicitDefEqProofs [F108, c108, upd, e, q, n1, n2, h0, hx, RC.len, RC.size, RC.get]
theorem f90 (t : Nat) (l : List Int) (hl : l.length ≤ 300) (h0 : 0 < l.length) : ∃ g, ∃ hg : g < l.length, F90 [.one (.ro t (.ints .i64 l))] [] = some (.one (.int .i64 (g : Nat)), []) ∧ ∀ z ∈ l, z ≤ l[g] := by
  obtain ⟨M, e1, e2, e3⟩ := f108 0 l hl h0
  obtain ⟨g, hg, e4, e5⟩ := f64 0 l M hl e2
  refine ⟨g, hg, ?_, by rw [e5]; exact e3⟩
  simp -implicitDefEqProofs [F90, c90, upd, e1, e4]
def ptK (S T c : Int) : Int := if 0 < c then (if (c * S).tdiv T < 1 then 1 else (c * S).tdiv T) else 0
def canon89 (t : Nat) (l : List Int) (S T i : Int) (X : List Int) : St := ⟨[(1, .one (.int .i64 S)), (5, .one (.int .i64 T)), (6, .one (.row 0)), (14, .one (.ro t (.ints .i64 l))), (15, .one (.int .i64 l.length)), (16, .one (.int .i64 i))], [.ro t (.ints .i64 l), .int .i64 S], [.rows none (.ints .i64 X)]⟩
theorem body89 (t : Nat) (l X X' : List Int) (S T n i' : Int) (i : Nat) (hi : i < l.length) (hX : X.length = l.length) (hn' : l[i] = n) (hT : ¬ T = 0) (wm : IntKind.i64.wrap (n * S) = n * S) (wq : IntKind.i64.wrap ((n * S).tdiv T) = (n * S).tdiv T)
    (he : (if 0 < n then X.set i (ptK S T n) else X) = X') (ei : IntKind.i64.wrap ((i : Int) + 1) = i') :
    ∃ st1, evC T89 KK b89x0 (canon89 t l S T i X) = some (.norm, st1) ∧ St.head [1, 5, 6, 14, 15, 16] st1 = canon89 t l S T i' X' := by
  have hi2 : (i : Int) < l.length := by omega
  have h0 : (0 : Int) ≤ i := by omega
  have hi3 : i < X.length := by omega
  have hi4 : (i : Int) < X.length := by omega
  by_cases hp : 0 < n
  · rw [if_pos hp] at he
    simp only [ptK, if_pos hp] at he
    by_cases hq : (n * S).tdiv T < 1
    · rw [if_pos hq] at he; subst he
      simp -implicitDefEqProofs [b89x0, canon89, upd, hi, hi2, hi3, hi4, h0, hn', hp, hT, wm, wq, hq, ei, RC.len, RC.size, RC.get, RC.set]
    · rw [if_neg hq] at he; subst he
      simp -implicitDefEqProofs [b89x0, canon89, upd, hi, hi2, hi3, hi4, h0, hn', hp, hT, wm, wq, hq, ei, RC.len, RC.size, RC.get, RC.set]
  · rw [if_neg hp] at he; subst he
    simp -implicitDefEqProofs [b89x0, canon89, upd, hi, hi2, h0, hn', hp, ei, RC.len, RC.size, RC.get]
theorem end89 (t : Nat) (l X : List Int) (S T i : Int) (hi : ¬ i < l.length) :
    ∃ env, evC T89 KK b89x0 (canon89 t l S T i X) = some (.exit 0, ⟨env, [.ro t (.ints .i64 l), .int .i64 S], [.rows none (.ints .i64 X)]⟩) ∧ getT 6 env = .one (.row 0) := by
  simp -implicitDefEqProofs [b89x0, canon89, upd, hi]
theorem pt_bound {S T c : Int} (hS : 32 ≤ S ∧ S ≤ 512) (hT : 0 < T ∧ T ≤ 400) (hc : 0 ≤ c ∧ c ≤ T) : 0 ≤ ptK S T c ∧ ptK S T c ≤ S ∧ IntKind.i64.wrap (c * S) = c * S ∧ IntKind.i64.wrap ((c * S).tdiv T) = (c * S).tdiv T ∧ T * ptK S T c ≤ c * S + T := by
  have h1 : 0 ≤ c * S := Int.mul_nonneg hc.1 (by omega)
  have h2 : c * S ≤ T * S := Int.mul_le_mul_of_nonneg_right hc.2 (by omega)
  have h3 : T * S ≤ 400 * S := Int.mul_le_mul_of_nonneg_right hT.2 (by omega)
  have e : (c * S).tdiv T = c * S / T := Int.tdiv_eq_ediv_of_nonneg h1
  have q0 : 0 ≤ c * S / T := Int.ediv_nonneg h1 (by omega)
  have q1 : c * S / T ≤ S := by
    have : c * S / T ≤ T * S / T := Int.ediv_le_ediv hT.1 h2
    rw [Int.mul_ediv_cancel_left S (by omega)] at this
    exact this
  have q2 : T * (c * S / T) ≤ c * S := Int.mul_ediv_self_le (by omega)
  refine ⟨?_, ?_, i64_in _ (by omega), by rw [e]; exact i64_in _ (by omega), ?_⟩
  · unfold ptK; rw [e]; (repeat' split) <;> omega
  · unfold ptK; rw [e]; (repeat' split) <;> omega
  · unfold ptK; rw [e]
    by_cases hc0 : 0 < c
    · rw [if_pos hc0]
      by_cases hq : c * S / T < 1
      · rw [if_pos hq]; omega
      · rw [if_neg hq]; omega
    · rw [if_neg hc0]; omega
theorem loop89 (t : Nat) (l : List Int) (S T : Int) (hl : l.length ≤ 256) (hS : 32 ≤ S ∧ S ≤ 512) (hT : 0 < T ∧ T ≤ 400) (hc : ∀ z ∈ l, 0 ≤ z ∧ z ≤ T) : ∀ (j i : Nat) (X : List Int) (K : Nat), i + j = l.length → (hX : X.length = l.length) →
    (∀ k (h : k < l.length), X[k] = if k < i then ptK S T l[k] else 0) → j < K →
    ∃ env, loopH (evC T89 KK b89x0) [1, 5, 6, 14, 15, 16] K (canon89 t l S T i X) = some (.exit 0, ⟨env, [.ro t (.ints .i64 l), .int .i64 S], [.rows none (.ints .i64 (l.map (ptK S T)))]⟩) ∧ getT 6 env = .one (.row 0)
  | 0, i, X, K, hi, hX, hk, hK => by
    obtain ⟨env, e, g⟩ := end89 t l X S T i (by omega)
    have : X = l.map (ptK S T) := by
      apply List.ext_getElem (by simp [hX])
      intro k h1 h2
      rw [hk k (by omega), if_pos (by omega)]; simp
    subst this
    exact ⟨env, loopH_exit e, g⟩
  | j + 1, i, X, K, hi, hX, hk, hK => by
    have hlt : i < l.length := by omega
    obtain ⟨p1, p2, p3, p4, _⟩ := pt_bound hS hT (hc l[i] (List.getElem_mem hlt))
    obtain ⟨st1, e1, e2⟩ := body89 t l X _ S T l[i] (i + 1 : Nat) i hlt hX rfl (by omega) p3 p4 rfl (by rw [i64_in _ (by omega)]; omega)
    obtain ⟨env, e, g⟩ := loop89 t l S T hl hS hT hc j (i + 1) (if 0 < l[i] then X.set i (ptK S T l[i]) else X) (K - 1) (by omega) (by split <;> simp [hX]) (fun k h => by
      by_cases hki : k = i
      · subst hki
        by_cases hp : 0 < l[k]
        · simp [hp]
        · have := hk k h
          simp [hp, ptK, this]
      · have := hk k h
        have hik : ¬ i = k := fun e => hki e.symm
        by_cases hp : 0 < l[i]
        · simp [hp, hik, List.getElem_set, this]
          by_cases hlt' : k < i
          · rw [if_pos hlt', if_pos (by omega)]
          · rw [if_neg hlt', if_neg (by omega)]
        · simp [hp, this]
          by_cases hlt' : k < i
          · rw [if_pos hlt', if_pos (by omega)]
          · rw [if_neg hlt', if_neg (by omega)]) (by omega)
    exact ⟨env, by rw [loopH_norm e1 (by omega), e2]; exact e, g⟩
theorem mapM_repK {α β : Type} {f : α → Option β} {a : α} {b : β} (h : f a = some b) : ∀ n : Nat, List.mapM f (List.replicate n a) = some (List.replicate n b)
  | 0 => rfl
  | n + 1 => by rw [List.replicate_succ, List.mapM_cons, h, mapM_repK h n]; rfl
theorem mks_intsK (n : Nat) : RC.ofElems (.ints .i64 []) (List.replicate n [Sc.int .i64 0]) = some (.ints .i64 (List.replicate n 0)) := by
  simp only [RC.ofElems]
  rw [mapM_repK (b := (0 : Int))]
  · rfl
  · rfl
theorem f89 (t : Nat) (l : List Int) (S : Int) (hl : l.length ≤ 256) (hS : 32 ≤ S ∧ S ≤ 512) (hT : 0 < sumK l ∧ sumK l ≤ 400) (hc : ∀ z ∈ l, 0 ≤ z ∧ z ≤ sumK l) :
    F89 [.one (.ro t (.ints .i64 l)), .one (.int .i64 S)] [] = some (.one (.row 0), [.rows none (.ints .i64 (l.map (ptK S (sumK l))))]) := by
  have e87 := fun t => f87 t l (by omega) fun z hz => by have := hc z hz; omega
  obtain ⟨env, e, g⟩ := loop89 t l S (sumK l) hl hS hT hc l.length 0 (List.replicate l.length 0) KK (by omega) (by simp) (fun k h => by simp) (by rw [KK_eq]; omega)
  have z : ((0 : Nat) : Int) = 0 := rfl
  have n1 : (l.length : Int) * 8 ≤ 140737488355328 := by omega
  have n2 : l.length * 8 ≤ 140737488355328 := by omega
  simp only [canon89, z] at e
  simp -implicitDefEqProofs [F89, c89, upd, e, g, e87, n1, n2, mks_intsK, RC.len]
theorem sum_parts {S T : Int} (hS : 32 ≤ S ∧ S ≤ 512) (hT : 0 < T ∧ T ≤ 400) : ∀ (l : List Int), (∀ z ∈ l, 0 ≤ z ∧ z ≤ T) → 0 ≤ sumK (l.map (ptK S T)) ∧ T * sumK (l.map (ptK S T)) ≤ S * sumK l + T * l.length
  | [], _ => by simp [sumK]
  | x :: l, h => by
    obtain ⟨h0, h1⟩ := sum_parts hS hT l fun z hz => h z (by simp [hz])
    obtain ⟨p1, p2, _, _, p5⟩ := pt_bound hS hT (h x (by simp))
    simp only [List.map_cons, sumK, List.length_cons]
    refine ⟨by omega, ?_⟩
    have e1 : T * (ptK S T x + sumK (l.map (ptK S T))) = T * ptK S T x + T * sumK (l.map (ptK S T)) := Int.mul_add _ _ _
    have e2 : S * (x + sumK l) = x * S + S * sumK l := by rw [Int.mul_add, Int.mul_comm S x]
    have e3 : T * ((l.length + 1 : Nat) : Int) = T * (l.length : Int) + T := by rw [Int.natCast_add, Int.mul_add]; simp
    rw [e1, e2, e3]
    omega
theorem sum_parts_le {S : Int} (l : List Int) (hS : 32 ≤ S ∧ S ≤ 512) (hT : 0 < sumK l ∧ sumK l ≤ 400) (hc : ∀ z ∈ l, 0 ≤ z ∧ z ≤ sumK l) : 0 ≤ sumK (l.map (ptK S (sumK l))) ∧ sumK (l.map (ptK S (sumK l))) ≤ S + l.length := by
  obtain ⟨h0, h1⟩ := sum_parts hS hT l hc
  refine ⟨h0, ?_⟩
  have e : S * sumK l + sumK l * (l.length : Int) = sumK l * (S + l.length) := by rw [Int.mul_add, Int.mul_comm S]
  rw [e] at h1
  exact Int.le_of_mul_le_mul_left h1 hT.1
def cntK (l : List Int) : Nat → Nat → Int
  | 0, _ => 0
  | i + 1, s => cntK l i s + (if (l.getD i 0).toNat = s then 1 else 0)
def mxK (l : List Int) : Nat → Nat
  | 0 => 0
  | i + 1 => max (mxK l i) ((l.getD i 0).toNat + 1)
def ofK (l : List Int) : List Int := (List.range (mxK l l.length)).map (cntK l l.length)
theorem cntK_bound (l : List Int) (s : Nat) : ∀ i : Nat, 0 ≤ cntK l i s ∧ cntK l i s ≤ i
  | 0 => by simp [cntK]
  | i + 1 => by
    have := cntK_bound l s i
    simp only [cntK]
    split <;> omega
theorem cntK_zero (l : List Int) (s : Nat) : ∀ i : Nat, mxK l i ≤ s → cntK l i s = 0
  | 0, _ => rfl
  | i + 1, h => by
    simp only [mxK] at h
    simp only [cntK]
    rw [cntK_zero l s i (by omega), if_neg (by omega)]; rfl
theorem mxK_le (l : List Int) (hB : ∀ z ∈ l, 0 ≤ z ∧ z ≤ 255) : ∀ i : Nat, i ≤ l.length → mxK l i ≤ 256
  | 0, _ => by simp [mxK]
  | i + 1, h => by
    have h1 := mxK_le l hB i (by omega)
    have h2 := hB (l.getD i 0) (by rw [List.getD_eq_getElem?_getD, List.getElem?_eq_getElem (by omega)]; exact List.getElem_mem _)
    simp only [mxK]; omega
theorem sumK_append : ∀ (a b : List Int), sumK (a ++ b) = sumK a + sumK b
  | [], b => by simp [sumK]
  | x :: a, b => by simp only [List.cons_append, sumK, sumK_append a b]; omega
theorem sum_cnt_succ (l : List Int) (i : Nat) : ∀ m : Nat, sumK ((List.range m).map (cntK l (i + 1))) = sumK ((List.range m).map (cntK l i)) + (if (l.getD i 0).toNat < m then 1 else 0)
  | 0 => by simp [sumK]
  | m + 1 => by
    rw [List.range_succ, List.map_append, List.map_append, sumK_append, sumK_append, sum_cnt_succ l i m]
    simp only [List.map_cons, List.map_nil, sumK, cntK]
    by_cases h : (l.getD i 0).toNat = m
    · rw [if_neg (by omega), if_pos h, if_pos (by omega)]; omega
    · rw [if_neg h]
      by_cases h2 : (l.getD i 0).toNat < m
      · rw [if_pos h2, if_pos (by omega)]; omega
      · rw [if_neg h2, if_neg (by omega)]; omega
theorem sum_cnt (l : List Int) (m : Nat) : ∀ i : Nat, mxK l i ≤ m → sumK ((List.range m).map (cntK l i)) = i
  | 0, _ => by
    have : ∀ m : Nat, sumK ((List.range m).map (cntK l 0)) = 0 := by
      intro m
      induction m with
      | zero => rfl
      | succ m ih => rw [List.range_succ, List.map_append, sumK_append, ih]; simp [sumK, cntK]
    rw [this]; rfl
  | i + 1, h => by
    simp only [mxK] at h
    rw [sum_cnt_succ, sum_cnt l m i (by omega), if_pos (by omega)]; omega
theorem sum_ofK (l : List Int) : sumK (ofK l) = l.length := sum_cnt l _ _ (Nat.le_refl _)
theorem ofK_len (l : List Int) : (ofK l).length = mxK l l.length := by simp [ofK]
theorem ofK_mem (l : List Int) : ∀ z ∈ ofK l, 0 ≤ z ∧ z ≤ l.length := by
  intro z hz
  simp only [ofK, List.mem_map] at hz
  obtain ⟨s, _, rfl⟩ := hz
  exact cntK_bound l s _
def canon25 (t u : Nat) (l m : List Int) (i : Int) : St := ⟨[(0, .one (.ro t (.ints .i64 l))), (1, .one (.ro u (.ints .i64 m))), (12, .one (.int .i64 l.length)), (13, .one (.int .i64 i))], [.ro t (.ints .i64 l), .ro u (.ints .i64 m)], []⟩
def canon26a (t : Nat) (l : List Int) (m i : Int) : St := ⟨[(0, .one (.ro t (.ints .u8 l))), (3, .one (.int .i64 m)), (4, .one (.int .i64 i))], [.ro t (.ints .u8 l)], []⟩
theorem getD_at {l : List Int} {i : Nat} (h : i < l.length) : l.getD i 0 = l[i] := by
  rw [List.getD_eq_getElem?_getD, List.getElem?_eq_getElem h]; rfl
def canon26b (t : Nat) (l X : List Int) (i : Int) : St := ⟨[(0, .one (.ro t (.ints .u8 l))), (5, .one (.row 0)), (6, .one (.int .i64 i))], [.ro t (.ints .u8 l)], [.rows none (.ints .i64 X)]⟩
theorem cnt_set (l : List Int) (i m : Nat) (c : Int) (hlt : i < l.length) (hc : l[i] = c) : ((List.range m).map (cntK l i)).set c.toNat (cntK l i c.toNat + 1) = (List.range m).map (cntK l (i + 1)) := by
  apply List.ext_getElem (by simp)
  intro k h1 h2
  rw [List.getElem_set]
  simp only [List.getElem_map, List.getElem_range, cntK, getD_at hlt, hc]
  by_cases h : c.toNat = k
  · rw [if_pos h, if_pos h, h]
  · rw [if_neg h, if_neg h]; omega
def canon68i (t : Nat) (l X : List Int) (c i : Int) : St := ⟨[(3, .one (.row 0)), (5, .one (.int .u8 c)), (6, .one (.ro t (.ints .u8 l))), (7, .one (.int .i64 l.length)), (8, .one (.int .i64 i))], [.ro t (.ints .u8 l)], [.rows none (.ints .i64 X)]⟩
def has24 (t : Nat) (l : List Int) (c i : Int) (env : Env) : Prop := getT 3 env = .one (.row 0) ∧ getT 5 env = .one (.int .u8 c) ∧ getT 6 env = .one (.ro t (.ints .u8 l)) ∧ getT 7 env = .one (.int .i64 l.length) ∧ getT 8 env = .one (.int .i64 i)
theorem body68i (t : Nat) (l X : List Int) (c i : Int) (wc : IntKind.i64.wrap c = c) (h : (X.length : Int) ≤ c) (hm : (X.length + 1) * 8 ≤ 140737488355328) :
    ∃ st1, evC T68 KK b68x0 (canon68i t l X c i) = some (.norm, st1) ∧ St.head [3, 5, 6, 7, 8] st1 = canon68i t l (X ++ [0]) c i := by
  simp -implicitDefEqProofs [b68x0, canon68i, upd, wc, h, hm, RC.ofElems, RC.app, RC.len, RC.size]
theorem end68i (t : Nat) (l X : List Int) (c i : Int) (wc : IntKind.i64.wrap c = c) (h : ¬ (X.length : Int) ≤ c) :
    ∃ env, evC T68 KK b68x0 (canon68i t l X c i) = some (.exit 2, ⟨env, [.ro t (.ints .u8 l)], [.rows none (.ints .i64 X)]⟩) ∧ has24 t l c i env := by
  have h' : c < (X.length : Int) := by omega
  simp -implicitDefEqProofs [b68x0, canon68i, upd, wc, h, h', has24, RC.len]
theorem loop68i (t : Nat) (l : List Int) (c i : Int) (hc : 0 ≤ c ∧ c ≤ 255) : ∀ (j K : Nat) (X : List Int), (X.length + j = max X.length (c.toNat + 1)) → X.length ≤ 300 → j < K →
    ∃ env, loopH (evC T68 KK b68x0) [3, 5, 6, 7, 8] K (canon68i t l X c i) = some (.exit 2, ⟨env, [.ro t (.ints .u8 l)], [.rows none (.ints .i64 (X ++ List.replicate j 0))]⟩) ∧ has24 t l c i env
  | 0, K, X, hj, hX, hK => by
    have wc : IntKind.i64.wrap c = c := i64_in _ (by omega)
    obtain ⟨env, e, g⟩ := end68i t l X c i wc (by omega)
    exact ⟨env, by rw [List.replicate_zero, List.append_nil]; exact loopH_exit e, g⟩
  | j + 1, K, X, hj, hX, hK => by
    have wc : IntKind.i64.wrap c = c := i64_in _ (by omega)
    obtain ⟨st1, e1, e2⟩ := body68i t l X c i wc (by omega) (by omega)
    obtain ⟨env, e, g⟩ := loop68i t l c i hc j (K - 1) (X ++ [0]) (by simp; omega) (by simp; omega) (by omega)
    refine ⟨env, ?_, g⟩
    rw [loopH_norm e1 (by omega), e2, e, List.append_assoc]
    rfl
def canon68 (t : Nat) (l X : List Int) (i : Int) : St := ⟨[(3, .one (.row 0)), (6, .one (.ro t (.ints .u8 l))), (7, .one (.int .i64 l.length)), (8, .one (.int .i64 i))], [.ro t (.ints .u8 l)], [.rows none (.ints .i64 X)]⟩
theorem body68 (t : Nat) (l X Y : List Int) (c v v' i' : Int) (i : Nat) (env : Env) (hi : i < l.length) (hn' : l[i] = c)
    (he : loopH (evC T68 KK b68x0) [3, 5, 6, 7, 8] KK (canon68i t l X c i) = some (.exit 2, ⟨env, [.ro t (.ints .u8 l)], [.rows none (.ints .i64 Y)]⟩)) (hg : has24 t l c i env)
    (hc0 : 0 ≤ c) (hc1 : c < Y.length) (hc2 : c.toNat < Y.length) (hv : Y[c.toNat] = v) (wv : IntKind.i64.wrap (v + 1) = v') (ei : IntKind.i64.wrap ((i : Int) + 1) = i') :
    ∃ st1, evC T68 KK b68x1 (canon68 t l X i) = some (.norm, st1) ∧ St.head [3, 6, 7, 8] st1 = canon68 t l (Y.set c.toNat v') i' := by
  have hi2 : (i : Int) < l.length := by omega
  have h0 : (0 : Int) ≤ i := by omega
  obtain ⟨g3, g5, g6, g7, g8⟩ := hg
  simp only [canon68i] at he
  simp -implicitDefEqProofs [b68x1, canon68, upd, hi, hi2, h0, hn', he, g3, g5, g6, g7, g8, hc0, hc1, hc2, hv, wv, ei, RC.len, RC.size, RC.get, RC.set]
theorem end68 (t : Nat) (l X : List Int) (i : Int) (hi : ¬ i < l.length) :
    ∃ env, evC T68 KK b68x1 (canon68 t l X i) = some (.exit 0, ⟨env, [.ro t (.ints .u8 l)], [.rows none (.ints .i64 X)]⟩) ∧ getT 3 env = .one (.row 0) := by
  simp -implicitDefEqProofs [b68x1, canon68, upd, hi]
theorem cnt_grow (l : List Int) (i j : Nat) : (List.range (mxK l i)).map (cntK l i) ++ List.replicate j 0 = (List.range (mxK l i + j)).map (cntK l i) := by
  apply List.ext_getElem (by simp)
  intro k h1 h2
  rw [List.getElem_append]
  split
  · simp
  · rename_i h
    simp at h
    simp [cntK_zero l k i h]
theorem loop68 (t : Nat) (l : List Int) (hl : l.length ≤ 400) (hB : ∀ z ∈ l, 0 ≤ z ∧ z ≤ 255) : ∀ (j i : Nat) (K : Nat), i + j = l.length → j < K →
    ∃ env, loopH (evC T68 KK b68x1) [3, 6, 7, 8] K (canon68 t l ((List.range (mxK l i)).map (cntK l i)) i) = some (.exit 0, ⟨env, [.ro t (.ints .u8 l)], [.rows none (.ints .i64 (ofK l))]⟩) ∧ getT 3 env = .one (.row 0)
  | 0, i, K, hi, hK => by
    obtain ⟨env, e, g⟩ := end68 t l ((List.range (mxK l i)).map (cntK l i)) i (by omega)
    have : i = l.length := by omega
    subst this
    exact ⟨env, loopH_exit e, g⟩
  | j + 1, i, K, hi, hK => by
    have hlt : i < l.length := by omega
    have hz := hB l[i] (List.getElem_mem hlt)
    have hm := mxK_le l hB i (by omega)
    have hs : mxK l (i + 1) = max (mxK l i) (l[i].toNat + 1) := by simp only [mxK, getD_at hlt]
    have hb := cntK_bound l l[i].toNat i
    obtain ⟨env0, he, hg⟩ := loop68i t l l[i] i hz (mxK l (i + 1) - mxK l i) KK ((List.range (mxK l i)).map (cntK l i)) (by simp; omega) (by simp; omega) (by rw [KK_eq]; omega)
    rw [cnt_grow, show mxK l i + (mxK l (i + 1) - mxK l i) = mxK l (i + 1) by omega] at he
    obtain ⟨st1, e1, e2⟩ := body68 t l _ ((List.range (mxK l (i + 1))).map (cntK l i)) l[i] (cntK l i l[i].toNat) (cntK l i l[i].toNat + 1) (i + 1 : Nat) i env0 hlt rfl he hg hz.1 (by simp; omega) (by simp; omega) (by simp) (i64_in _ (by omega)) (by rw [i64_in _ (by omega)]; omega)
    rw [cnt_set l i _ l[i] hlt rfl] at e2
    obtain ⟨env, e, g⟩ := loop68 t l hl hB j (i + 1) (K - 1) (by omega) (by omega)
    exact ⟨env, by rw [loopH_norm e1 (by omega), e2]; exact e, g⟩
theorem f68 (t : Nat) (l : List Int) (hl : l.length ≤ 400) (hB : ∀ z ∈ l, 0 ≤ z ∧ z ≤ 255) : F68 [.one (.ro t (.ints .u8 l))] [] = some (.one (.row 0), [.rows none (.ints .i64 (ofK l))]) := by
  obtain ⟨env, e, g⟩ := loop68 t l hl hB l.length 0 KK (by omega) (by rw [KK_eq]; omega)
  have z : ((0 : Nat) : Int) = 0 := rfl
  have zx : (List.range (mxK l 0)).map (cntK l 0) = [] := rfl
  simp only [canon68, z, zx] at e
  simp -implicitDefEqProofs [F68, c68, upd, e, g, RC.len]
def canon69 (t : Nat) (l : List Int) (log : Int) : St := ⟨[(0, .one (.ro t (.ints .i64 l))), (3, .one (.int .i64 log))], [.ro t (.ints .i64 l)], []⟩
theorem go30 (t : Nat) (l : List Int) (log p s T log' : Int) (e86 : ∀ t, F86 [.one (.ro t (.ints .i64 l))] [] = some (.one (.int .i64 s), [])) (e87 : ∀ t, F87 [.one (.ro t (.ints .i64 l))] [] = some (.one (.int .i64 T), []))
    (h9 : log < 9) (hlog : ¬ log < 0) (es : shlI .i64 1 log = p) (w4 : IntKind.i64.wrap (4 * s) = 4 * s) (ei : IntKind.i64.wrap (log + 1) = log') (h : p < 4 * s ∨ p < IntKind.i64.wrap (T.tdiv 8)) :
    ∃ st1, evC T69 KK b69x0 (canon69 t l log) = some (.norm, st1) ∧ St.head [0, 3] st1 = canon69 t l log' := by
  by_cases h1 : p < 4 * s
  · simp -implicitDefEqProofs [b69x0, canon69, upd, e86, e87, h9, hlog, es, w4, ei, h1]
  · have h2 : p < IntKind.i64.wrap (T.tdiv 8) := h.resolve_left h1
    simp -implicitDefEqProofs [b69x0, canon69, upd, e86, e87, h9, hlog, es, w4, ei, h1, h2]
theorem out30 (t : Nat) (l : List Int) (log p s T : Int) (e86 : ∀ t, F86 [.one (.ro t (.ints .i64 l))] [] = some (.one (.int .i64 s), [])) (e87 : ∀ t, F87 [.one (.ro t (.ints .i64 l))] [] = some (.one (.int .i64 T), []))
    (h9 : log < 9) (hlog : ¬ log < 0) (es : shlI .i64 1 log = p) (w4 : IntKind.i64.wrap (4 * s) = 4 * s) (h1 : ¬ p < 4 * s) (h2 : ¬ p < IntKind.i64.wrap (T.tdiv 8)) :
    ∃ env, evC T69 KK b69x0 (canon69 t l log) = some (.exit 0, ⟨env, [.ro t (.ints .i64 l)], []⟩) ∧ getT 3 env = .one (.int .i64 log) := by
  simp -implicitDefEqProofs [b69x0, canon69, upd, e86, e87, h9, hlog, es, w4, h1, h2]
theorem top30 (t : Nat) (l : List Int) (log : Int) (h9 : ¬ log < 9) :
    ∃ env, evC T69 KK b69x0 (canon69 t l log) = some (.exit 0, ⟨env, [.ro t (.ints .i64 l)], []⟩) ∧ getT 3 env = .one (.int .i64 log) := by
  simp -implicitDefEqProofs [b69x0, canon69, upd, h9]
theorem shl_pow {log : Int} (h : 5 ≤ log ∧ log ≤ 9) : shlI .i64 1 log = ((2 ^ log.toNat : Nat) : Int) ∧ 32 ≤ ((2 ^ log.toNat : Nat) : Int) ∧ ((2 ^ log.toNat : Nat) : Int) ≤ 512 := by
  have : log = 5 ∨ log = 6 ∨ log = 7 ∨ log = 8 ∨ log = 9 := by omega
  rcases this with rfl | rfl | rfl | rfl | rfl <;> decide
theorem loop69 (t : Nat) (l : List Int) (hl : l.length ≤ 256) (hB : ∀ z ∈ l, 0 ≤ z ∧ z ≤ 400) : ∀ (j : Nat) (log : Int) (K : Nat), 5 ≤ log → log + j = 9 → j < K →
    ∃ env log', loopH (evC T69 KK b69x0) [0, 3] K (canon69 t l log) = some (.exit 0, ⟨env, [.ro t (.ints .i64 l)], []⟩) ∧ getT 3 env = .one (.int .i64 log') ∧ 5 ≤ log' ∧ log' ≤ 9 ∧ symK l ≤ ((2 ^ log'.toNat : Nat) : Int)
  | 0, log, K, h5, h9, hK => by
    obtain ⟨env, e, g⟩ := top30 t l log (by omega)
    have := symK_bound l
    obtain rfl : log = 9 := by omega
    have e9 : (((2 ^ (9 : Int).toNat : Nat)) : Int) = 512 := rfl
    exact ⟨env, 9, loopH_exit e, g, by omega, by omega, by rw [e9]; omega⟩
  | j + 1, log, K, h5, h9, hK => by
    have e86 := fun t => f86 t l (by omega)
    have e87 := fun t => f87 t l (by omega) fun z hz => by have := hB z hz; omega
    obtain ⟨es, p1, p2⟩ := shl_pow (log := log) (by omega)
    have hs := symK_bound l
    have w4 : IntKind.i64.wrap (4 * symK l) = 4 * symK l := i64_in _ (by omega)
    by_cases h : ((2 ^ log.toNat : Nat) : Int) < 4 * symK l ∨ ((2 ^ log.toNat : Nat) : Int) < IntKind.i64.wrap ((sumK l).tdiv 8)
    · obtain ⟨st1, e1, e2⟩ := go30 t l log _ _ _ (log + 1) e86 e87 (by omega) (by omega) es w4 (i64_in _ (by omega)) h
      obtain ⟨env, log', e, g⟩ := loop69 t l hl hB j (log + 1) (K - 1) (by omega) (by omega) (by omega)
      exact ⟨env, log', by rw [loopH_norm e1 (by omega), e2]; exact e, g⟩
    · obtain ⟨env, e, g⟩ := out30 t l log _ _ _ e86 e87 (by omega) (by omega) es w4 (fun h1 => h (.inl h1)) (fun h1 => h (.inr h1))
      exact ⟨env, log, loopH_exit e, g, h5, by omega, by omega⟩
theorem f69 (t : Nat) (l : List Int) (hl : l.length ≤ 256) (hB : ∀ z ∈ l, 0 ≤ z ∧ z ≤ 400) (hp : 0 < sumK l) : ∃ log, F69 [.one (.ro t (.ints .i64 l))] [] = some (.one (.int .i64 log), []) ∧ 5 ≤ log ∧ log ≤ 9 ∧ symK l ≤ ((2 ^ log.toNat : Nat) : Int) := by
  have e85 := fun t => f85 t l hl fun z hz => by have := hB z hz; omega
  rw [decide_eq_true hp] at e85
  obtain ⟨env, log, e, g, h1, h2, h3⟩ := loop69 t l hl hB 4 5 KK (by omega) (by omega) (by rw [KK_eq]; omega)
  simp only [canon69] at e
  refine ⟨log, ?_, h1, h2, h3⟩
  simp -implicitDefEqProofs [F69, c69, upd, e85, e, g]
theorem e88 (n : Int) : F88 [.one (.int .i64 n)] [] = some (.one (.bool (decide (5 ≤ n ∧ n ≤ 9))), []) := by
  by_cases h : 5 ≤ n
  · by_cases h2 : n ≤ 9
    · simp -implicitDefEqProofs [F88, c88, upd, h, h2]
    · simp -implicitDefEqProofs [F88, c88, upd, h, h2]
  · simp -implicitDefEqProofs [F88, c88, upd, h]
def canon70 (t : Nat) (l X : List Int) (log left : Int) : St := ⟨[(7, .one (.row 0)), (8, .one (.int .i64 left))], [.ro t (.ints .i64 l), .int .i64 log], [.rows none (.ints .i64 X)]⟩
theorem body70 (t : Nat) (l X : List Int) (log left left' : Int) (g : Nat) (hg : g < X.length) (e90 : F90 [.one (.ro 0 (.ints .i64 X))] [] = some (.one (.int .i64 (g : Nat)), [])) (h : left < 0) (el : IntKind.i64.wrap (left + 1) = left') :
    ∃ st1, evC T70 KK b70x0 (canon70 t l X log left) = some (.norm, st1) ∧ St.head [7, 8] st1 = canon70 t l (X.set g (IntKind.i64.wrap (X[g] - 1))) log left' := by
  have hg2 : (g : Int) < X.length := by omega
  have h0 : (0 : Int) ≤ g := by omega
  simp -implicitDefEqProofs [b70x0, canon70, upd, e90, h, el, hg, hg2, h0, RC.len, RC.size, RC.get, RC.set]
theorem end70 (t : Nat) (l X : List Int) (log left : Int) (h : ¬ left < 0) :
    ∃ env, evC T70 KK b70x0 (canon70 t l X log left) = some (.exit 0, ⟨env, [.ro t (.ints .i64 l), .int .i64 log], [.rows none (.ints .i64 X)]⟩) ∧ getT 7 env = .one (.row 0) := by
  simp -implicitDefEqProofs [b70x0, canon70, upd, h]
theorem l28 (w : Int) (hw : w ≤ 20) : ∀ (k : Nat) (j : Nat) (env : Env), getT 0 env = .one (.int .i64 w) → getT 3 env = .one (.int .i64 ((2 ^ j : Nat) : Int)) → getT 4 env = .one (.int .i64 j) → (j : Int) ≤ w → w - j < k →
    ∃ env', loopN (evC T28 KK b28x0) [0, 3, 4] k ⟨env, [.int .i64 w], []⟩ = some (.exit 0, ⟨env', [.int .i64 w], []⟩) ∧ getT 3 env' = .one (.int .i64 ((2 ^ w.toNat : Nat) : Int))
  | 0, j, env, _, _, _, _, h => by omega
  | k + 1, j, env, e0, e3, e4, hj, hk => by
    have hp : 2 ^ j ≤ 2 ^ 20 := Nat.pow_le_pow_right (by omega) (by omega)
    have hs : (2 ^ (j + 1) : Nat) = 2 ^ j * 2 := Nat.pow_succ 2 j
    by_cases hv : (j : Int) < w
    · obtain ⟨env', p, q⟩ := l28 w hw k (j + 1) [(4, .one (.int .i64 ((j + 1 : Nat) : Int))), (9, .one (.int .i64 ((j + 1 : Nat) : Int))), (8, .one (.int .i64 j)), (3, .one (.int .i64 ((2 ^ (j + 1) : Nat) : Int))), (11, .one (.int .i64 ((2 ^ (j + 1) : Nat) : Int))), (10, .one (.int .i64 ((2 ^ j : Nat) : Int))), (7, .one (.bool true)), (6, .one (.int .i64 w)), (5, .one (.int .i64 j)), (0, .one (.int .i64 w)), (3, .one (.int .i64 ((2 ^ j : Nat) : Int))), (4, .one (.int .i64 j))] rfl rfl rfl (by omega) (by omega)
      refine ⟨env', ?_, q⟩
      rw [← p, hs]
      generalize 2 ^ j = m at hp e3 ⊢
      simp [loopN, b28x0, e0, e3, e4, hv]
      rw [i64_in (m * 2) (by omega), i64_in (j + 1) (by omega)]
    · refine ⟨_, by simp [loopN, b28x0, e0, e3, e4, hv]; rfl, ?_⟩
      have : w.toNat = j := by omega
      rw [this]; simp
theorem e28 (w : Int) (h0 : 0 ≤ w) (h : w ≤ 20) : F28 [.one (.int .i64 w)] [] = some (.one (.int .i64 ((2 ^ w.toNat : Nat) : Int)), []) := by
  obtain ⟨env', p, q⟩ := l28 w h KK 0 [(4, .one (.int .i64 0)), (3, .one (.int .i64 1)), (2, .one (.int .i64 0)), (0, .one (.int .i64 w))] rfl rfl rfl h0 (by rw [KK_eq]; omega)
  simp [-loop_KK, F28, c28, p, q]
def chk15 : Int → List Int → Bool
  | left, [] => decide (left = 0)
  | left, n :: l => if n < 0 ∨ left < n then false else chk15 (left - n) l
def sumL : List Int → Int
  | [] => 0
  | x :: l => x + sumL l
def okN : List Int → Bool
  | [] => true
  | x :: l => decide (0 ≤ x ∧ x ≤ 1000) && okN l
theorem sumL_nonneg : ∀ {l : List Int}, okN l = true → 0 ≤ sumL l
  | [], _ => Int.le_refl _
  | x :: l, h => by
    simp only [okN, Bool.and_eq_true, decide_eq_true_eq] at h
    have := sumL_nonneg h.2
    simp only [sumL]; omega
theorem chk15_eq : ∀ (l : List Int) (left : Int), 0 ≤ left → left ≤ 1000 → chk15 left l = (okN l && decide (sumL l = left))
  | [], left, _, _ => by
    simp only [chk15, okN, sumL, Bool.true_and]
    exact decide_eq_decide.2 ⟨fun h => h.symm, fun h => h.symm⟩
  | n :: l, left, h0, h1 => by
    show (if n < 0 ∨ left < n then false else chk15 (left - n) l) = (decide (0 ≤ n ∧ n ≤ 1000) && okN l && decide (n + sumL l = left))
    by_cases h : n < 0 ∨ left < n
    · rw [if_pos h]
      rcases h with h | h
      · rw [decide_eq_false (by omega : ¬ (0 ≤ n ∧ n ≤ 1000))]; rfl
      · cases ho : okN l with
        | false => simp
        | true =>
          have := sumL_nonneg ho
          rw [decide_eq_false (by omega : ¬ (n + sumL l = left))]; simp
    · rw [if_neg h, chk15_eq l (left - n) (by omega) (by omega), decide_eq_true (by omega : 0 ≤ n ∧ n ≤ 1000), Bool.true_and]
      congr 1
      exact decide_eq_decide.2 (by omega)
def canon91 (t : Nat) (l : List Int) (log left i : Int) : St := ⟨[(5, .one (.int .i64 left)), (18, .one (.ro t (.ints .i64 l))), (19, .one (.int .i64 l.length)), (20, .one (.int .i64 i))], [.ro t (.ints .i64 l), .int .i64 log], []⟩
theorem body91 (t : Nat) (l : List Int) (log left n left' i' : Int) (i : Nat) (hi : i < l.length) (hn : l[i]?.getD 0 = n) (h1 : ¬ n < 0) (h2 : ¬ left < n) (el : IntKind.i64.wrap (left - n) = left') (ei : IntKind.i64.wrap ((i : Int) + 1) = i') :
    ∃ st1, evC T91 KK b91x0 (canon91 t l log left i) = some (.norm, st1) ∧ St.head [5, 18, 19, 20] st1 = canon91 t l log left' i' := by
  have hn' : l[i] = n := by rw [List.getElem?_eq_getElem hi] at hn; exact hn
  have hi2 : (i : Int) < l.length := by omega
  simp -implicitDefEqProofs [b91x0, canon91, upd, hi, hi2, hn, hn', h1, h2, el, ei, RC.len, RC.size, RC.get]
theorem bad15 (t : Nat) (l : List Int) (log left n : Int) (i : Nat) (hi : i < l.length) (hn : l[i]?.getD 0 = n) (h : n < 0 ∨ left < n) :
    ∃ env, evC T91 KK b91x0 (canon91 t l log left i) = some (.ret, ⟨env, [.ro t (.ints .i64 l), .int .i64 log], []⟩) ∧ getT 4 env = .one (.bool false) := by
  have hn' : l[i] = n := by rw [List.getElem?_eq_getElem hi] at hn; exact hn
  have hi2 : (i : Int) < l.length := by omega
  by_cases h1 : n < 0
  · simp -implicitDefEqProofs [b91x0, canon91, upd, hi, hi2, hn, hn', h1, RC.len, RC.size, RC.get]
  · have h2 : left < n := by omega
    simp -implicitDefEqProofs [b91x0, canon91, upd, hi, hi2, hn, hn', h1, h2, RC.len, RC.size, RC.get]
theorem end91 (t : Nat) (l : List Int) (log left i : Int) (hi : ¬ i < l.length) :
    ∃ env, evC T91 KK b91x0 (canon91 t l log left i) = some (.exit 0, ⟨env, [.ro t (.ints .i64 l), .int .i64 log], []⟩) ∧ getT 5 env = .one (.int .i64 left) := by
  simp -implicitDefEqProofs [b91x0, canon91, upd, hi]
theorem loop91 (t : Nat) (l : List Int) (log : Int) (hl : l.length ≤ 300) : ∀ (j i : Nat) (left : Int) (K : Nat), i + j = l.length → 0 ≤ left → left ≤ 1000 → j < K →
    (∃ env left', loopH (evC T91 KK b91x0) [5, 18, 19, 20] K (canon91 t l log left i) = some (.exit 0, ⟨env, [.ro t (.ints .i64 l), .int .i64 log], []⟩) ∧ getT 5 env = .one (.int .i64 left') ∧ chk15 left (l.drop i) = decide (left' = 0)) ∨
    (∃ env, loopH (evC T91 KK b91x0) [5, 18, 19, 20] K (canon91 t l log left i) = some (.ret, ⟨env, [.ro t (.ints .i64 l), .int .i64 log], []⟩) ∧ getT 4 env = .one (.bool false) ∧ chk15 left (l.drop i) = false)
  | 0, i, left, K, hi, h0, h1, hK => by
    obtain ⟨env, e, g⟩ := end91 t l log left i (by omega)
    exact .inl ⟨env, left, loopH_exit e, g, by rw [List.drop_eq_nil_of_le (by omega)]; rfl⟩
  | j + 1, i, left, K, hi, h0, h1, hK => by
    have hlt : i < l.length := by omega
    have hg : l[i]?.getD 0 = l[i] := by rw [List.getElem?_eq_getElem hlt]; rfl
    rw [List.drop_eq_getElem_cons hlt]
    generalize l[i] = n at hg
    simp only [chk15]
    by_cases h : n < 0 ∨ left < n
    · obtain ⟨env, e, g⟩ := bad15 t l log left n i hlt hg h
      exact .inr ⟨env, loopH_ret e, g, by rw [if_pos h]⟩
    · obtain ⟨st1, e1, e2⟩ := body91 t l log left n (left - n) (i + 1 : Nat) i hlt hg (by omega) (by omega) (i64_in _ (by omega)) (by rw [i64_in _ (by omega)]; omega)
      rw [if_neg h]
      rcases loop91 t l log hl j (i + 1) (left - n) (K - 1) (by omega) (by omega) (by omega) (by omega) with ⟨env, l', e, g, q⟩ | ⟨env, e, g, q⟩
      · exact .inl ⟨env, l', by rw [loopH_norm e1 (by omega), e2]; exact e, g, q⟩
      · exact .inr ⟨env, by rw [loopH_norm e1 (by omega), e2]; exact e, g, q⟩
def fairB (l : List Int) (log : Int) : Bool := decide (5 ≤ log ∧ log ≤ 9 ∧ l.length ≤ 256) && (okN l && decide (sumL l = ((2 ^ log.toNat : Nat) : Int)))
theorem pow9 {log : Int} (h : 5 ≤ log ∧ log ≤ 9) : 32 ≤ 2 ^ log.toNat ∧ 2 ^ log.toNat ≤ 512 :=
  ⟨(Nat.pow_le_pow_right (n := 2) (by omega) (by omega : 5 ≤ log.toNat) : 2 ^ 5 ≤ _), (Nat.pow_le_pow_right (n := 2) (by omega) (by omega : log.toNat ≤ 9) : _ ≤ 2 ^ 9)⟩
theorem f91 (t : Nat) (l : List Int) (log : Int) (hl : l.length ≤ 300) : F91 [.one (.ro t (.ints .i64 l)), .one (.int .i64 log)] [] = some (.one (.bool (fairB l log)), []) := by
  have e88 := e88 log
  unfold fairB
  by_cases h5 : 5 ≤ log ∧ log ≤ 9
  · rw [decide_eq_true h5] at e88
    by_cases h256 : l.length ≤ 256
    · have hp := pow9 h5
      have n1 : ¬ (256 : Int) < l.length := by omega
      have n2 : ¬ 256 < l.length := by omega
      have es : shlI .i64 1 log = ((2 ^ log.toNat : Nat) : Int) := by
        have e1 : (1 : Int) * 2 ^ Nat.min log.toNat 64 = ((2 ^ log.toNat : Nat) : Int) := by
          rw [show Nat.min log.toNat 64 = log.toNat from Nat.min_eq_left (by omega)]; simp
        show IntKind.i64.wrap _ = _
        have e2 : (1 : Int) * 2 ^ Nat.min log.toNat IntKind.i64.bits = ((2 ^ log.toNat : Nat) : Int) := e1
        rw [e2]
        exact i64_in _ (by omega)
      have hlog : ¬ log < 0 := by omega
      have hpI : (32 : Int) ≤ ((2 ^ log.toNat : Nat) : Int) ∧ ((2 ^ log.toNat : Nat) : Int) ≤ 512 := by omega
      rw [decide_eq_true (by omega : 5 ≤ log ∧ log ≤ 9 ∧ l.length ≤ 256), Bool.true_and, ← chk15_eq l _ (by omega) (by omega)]
      generalize ((2 ^ log.toNat : Nat) : Int) = S at *
      have z : ((0 : Nat) : Int) = 0 := rfl
      rcases loop91 t l log hl l.length 0 S KK (by omega) (by omega) (by omega) (by rw [KK_eq]; omega) with ⟨env, l', e, g, q⟩ | ⟨env, e, g, q⟩
      · rw [List.drop_zero] at q
        simp only [canon91, z] at e
        rw [q]
        by_cases hl0 : l' = 0
        · simp -implicitDefEqProofs [F91, c91, upd, e88, n1, n2, h256, es, hlog, e, g, hl0, RC.len]
        · simp -implicitDefEqProofs [F91, c91, upd, e88, n1, n2, h256, es, hlog, e, g, hl0, RC.len]
      · rw [List.drop_zero] at q
        simp only [canon91, z] at e
        rw [q]
        simp -implicitDefEqProofs [F91, c91, upd, e88, n1, n2, h256, es, hlog, e, g, RC.len]
    · have n1 : (256 : Int) < l.length := by omega
      have n2 : 256 < l.length := by omega
      rw [decide_eq_false (by omega : ¬ (5 ≤ log ∧ log ≤ 9 ∧ l.length ≤ 256)), Bool.false_and]
      simp -implicitDefEqProofs [F91, c91, upd, e88, n1, n2, RC.len]
  · rw [decide_eq_false h5] at e88
    rw [decide_eq_false (by omega : ¬ (5 ≤ log ∧ log ≤ 9 ∧ l.length ≤ 256)), Bool.false_and]
    simp -implicitDefEqProofs [F91, c91, upd, e88]
def canon75 (t : Nat) (l : List Int) (log s i : Int) : St := ⟨[(0, .one (.ro t (.ints .i64 l))), (1, .one (.int .i64 log)), (5, .one (.int .i64 s)), (6, .one (.int .i64 i))], [.ro t (.ints .i64 l), .int .i64 log], []⟩
theorem body75 (t : Nat) (l : List Int) (log s n s' i' : Int) (i : Nat) (hi : i < l.length) (hn : l[i]?.getD 0 = n) (h1 : ¬ n < 0) (h2 : ¬ 1000 < n) (el : IntKind.i64.wrap (s + n) = s') (ei : IntKind.i64.wrap ((i : Int) + 1) = i') :
    ∃ st1, evC T75 KK b75x0 (canon75 t l log s i) = some (.norm, st1) ∧ St.head [0, 1, 5, 6] st1 = canon75 t l log s' i' := by
  have hn' : l[i] = n := by rw [List.getElem?_eq_getElem hi] at hn; exact hn
  have hi2 : (i : Int) < l.length := by omega
  simp -implicitDefEqProofs [b75x0, canon75, upd, hi, hi2, hn, hn', h1, h2, el, ei, RC.len, RC.size, RC.get]
theorem bad16 (t : Nat) (l : List Int) (log s n : Int) (i : Nat) (hi : i < l.length) (hn : l[i]?.getD 0 = n) (h : n < 0 ∨ 1000 < n) :
    ∃ env, evC T75 KK b75x0 (canon75 t l log s i) = some (.ret, ⟨env, [.ro t (.ints .i64 l), .int .i64 log], []⟩) ∧ getT 4 env = .one (.bool false) := by
  have hn' : l[i] = n := by rw [List.getElem?_eq_getElem hi] at hn; exact hn
  have hi2 : (i : Int) < l.length := by omega
  by_cases h1 : n < 0
  · simp -implicitDefEqProofs [b75x0, canon75, upd, hi, hi2, hn, hn', h1, RC.len, RC.size, RC.get]
  · have h2 : 1000 < n := by omega
    simp -implicitDefEqProofs [b75x0, canon75, upd, hi, hi2, hn, hn', h1, h2, RC.len, RC.size, RC.get]
theorem end75 (t : Nat) (l : List Int) (log s i : Int) (hi : ¬ i < l.length) :
    ∃ env, evC T75 KK b75x0 (canon75 t l log s i) = some (.exit 0, ⟨env, [.ro t (.ints .i64 l), .int .i64 log], []⟩) ∧ getT 1 env = .one (.int .i64 log) ∧ getT 5 env = .one (.int .i64 s) := by
  simp -implicitDefEqProofs [b75x0, canon75, upd, hi, RC.len]
theorem loop75 (t : Nat) (l : List Int) (log : Int) (hl : l.length ≤ 300) : ∀ (j i : Nat) (s : Int) (K : Nat), i + j = l.length → 0 ≤ s → s ≤ 1000 * i → j < K →
    (∃ env, loopH (evC T75 KK b75x0) [0, 1, 5, 6] K (canon75 t l log s i) = some (.exit 0, ⟨env, [.ro t (.ints .i64 l), .int .i64 log], []⟩) ∧ getT 1 env = .one (.int .i64 log) ∧ getT 5 env = .one (.int .i64 (s + sumL (l.drop i))) ∧ okN (l.drop i) = true) ∨
    (∃ env, loopH (evC T75 KK b75x0) [0, 1, 5, 6] K (canon75 t l log s i) = some (.ret, ⟨env, [.ro t (.ints .i64 l), .int .i64 log], []⟩) ∧ getT 4 env = .one (.bool false) ∧ okN (l.drop i) = false)
  | 0, i, s, K, hi, h0, h1, hK => by
    obtain ⟨env, e, g1, g⟩ := end75 t l log s i (by omega)
    exact .inl ⟨env, loopH_exit e, g1, by rw [List.drop_eq_nil_of_le (by omega), g]; simp [sumL], by rw [List.drop_eq_nil_of_le (by omega)]; rfl⟩
  | j + 1, i, s, K, hi, h0, h1, hK => by
    have hlt : i < l.length := by omega
    have hg : l[i]?.getD 0 = l[i] := by rw [List.getElem?_eq_getElem hlt]; rfl
    rw [List.drop_eq_getElem_cons hlt]
    generalize l[i] = n at hg
    simp only [okN, sumL]
    by_cases h : n < 0 ∨ 1000 < n
    · obtain ⟨env, e, g⟩ := bad16 t l log s n i hlt hg h
      exact .inr ⟨env, loopH_ret e, g, by rw [decide_eq_false (by omega)]; rfl⟩
    · obtain ⟨st1, e1, e2⟩ := body75 t l log s n (s + n) (i + 1 : Nat) i hlt hg (by omega) (by omega) (i64_in _ (by omega)) (by rw [i64_in _ (by omega)]; omega)
      rw [decide_eq_true (by omega), Bool.true_and]
      rcases loop75 t l log hl j (i + 1) (s + n) (K - 1) (by omega) (by omega) (by omega) (by omega) with ⟨env, e, g1, g, q⟩ | ⟨env, e, g, q⟩
      · exact .inl ⟨env, by rw [loopH_norm e1 (by omega), e2]; exact e, g1, by rw [g, Int.add_assoc], q⟩
      · exact .inr ⟨env, by rw [loopH_norm e1 (by omega), e2]; exact e, g, q⟩
theorem f75 (t : Nat) (l : List Int) (log : Int) (hl : l.length ≤ 300) : F75 [.one (.ro t (.ints .i64 l)), .one (.int .i64 log)] [] = some (.one (.bool (fairB l log)), []) := by
  unfold fairB
  by_cases h5 : log < 5
  · rw [decide_eq_false (by omega : ¬ (5 ≤ log ∧ log ≤ 9 ∧ l.length ≤ 256)), Bool.false_and]
    simp -implicitDefEqProofs [F75, c75, upd, h5]
  · by_cases h9 : 9 < log
    · rw [decide_eq_false (by omega : ¬ (5 ≤ log ∧ log ≤ 9 ∧ l.length ≤ 256)), Bool.false_and]
      simp -implicitDefEqProofs [F75, c75, upd, h5, h9]
    · by_cases h256 : l.length ≤ 256
      · have n1 : ¬ (256 : Int) < l.length := by omega
        have n2 : ¬ 256 < l.length := by omega
        have e28 := e28 log (by omega) (by omega)
        rw [decide_eq_true (by omega : 5 ≤ log ∧ log ≤ 9 ∧ l.length ≤ 256), Bool.true_and]
        generalize ((2 ^ log.toNat : Nat) : Int) = S at *
        have z : ((0 : Nat) : Int) = 0 := rfl
        rcases loop75 t l log hl l.length 0 0 KK (by omega) (by omega) (by omega) (by rw [KK_eq]; omega) with ⟨env, e, g1, g, q⟩ | ⟨env, e, g, q⟩
        · rw [List.drop_zero] at q g
          rw [Int.zero_add] at g
          simp only [canon75, z] at e
          rw [q, Bool.true_and]
          by_cases hs : sumL l = S
          · simp -implicitDefEqProofs [F75, c75, upd, h5, h9, n1, n2, h256, e, g1, g, e28, hs, RC.len]
          · simp -implicitDefEqProofs [F75, c75, upd, h5, h9, n1, n2, h256, e, g1, g, e28, hs, RC.len]
        · rw [List.drop_zero] at q
          simp only [canon75, z] at e
          rw [q, Bool.false_and]
          simp -implicitDefEqProofs [F75, c75, upd, h5, h9, n1, n2, h256, e, g, RC.len]
      · have n1 : (256 : Int) < l.length := by omega
        have n2 : 256 < l.length := by omega
        rw [decide_eq_false (by omega : ¬ (5 ≤ log ∧ log ≤ 9 ∧ l.length ≤ 256)), Bool.false_and]
        simp -implicitDefEqProofs [F75, c75, upd, h5, h9, n1, n2, RC.len]
end Go.X.Tryz
namespace Go.X
def runs : Nat → List Nat → List Nat
  | _, [] => []
  | s, n :: l => List.replicate n s ++ runs (s + 1) l
theorem runs_length : ∀ (l : List Nat) (s : Nat), (runs s l).length = l.sum
  | [], _ => rfl
  | n :: l, s => by simp [runs, runs_length l]
theorem runs_count : ∀ (l : List Nat) (s x : Nat), (runs s l).count x = if s ≤ x then (l[x - s]?).getD 0 else 0
  | [], s, x => by simp [runs]
  | n :: l, s, x => by
    simp only [runs, List.count_append, List.count_replicate, runs_count l (s + 1) x]
    by_cases h : s = x
    · subst h; simp; omega
    · have hb : (s == x) = false := by simpa using h
      rw [hb]
      by_cases h2 : s ≤ x
      · rw [if_pos (by omega : s + 1 ≤ x), if_pos h2]
        obtain ⟨d, hd⟩ : ∃ d, x - s = d + 1 := ⟨x - s - 1, by omega⟩
        rw [hd, show x - (s + 1) = d by omega]
        simp
      · simp only [Bool.false_eq_true, if_false]
        rw [if_neg (by omega), if_neg h2]
theorem runs_lt : ∀ (l : List Nat) (s : Nat), ∀ x ∈ runs s l, s ≤ x ∧ x < s + l.length
  | [], _, x, h => by simp [runs] at h
  | n :: l, s, x, h => by
    simp only [runs, List.mem_append, List.mem_replicate] at h
    simp only [List.length_cons]
    rcases h with ⟨_, rfl⟩ | h
    · omega
    · have := runs_lt l (s + 1) x h; omega
def place (size step : Nat) : List Nat → Nat → List Nat → List Nat × Nat
  | out, a, [] => (out, a)
  | out, a, s :: l => place size step (out.set a s) ((a + step) % size) l
theorem place_append (size step : Nat) : ∀ (l m : List Nat) (out : List Nat) (a : Nat), place size step out a (l ++ m) = place size step (place size step out a l).1 (place size step out a l).2 m
  | [], m, out, a => rfl
  | s :: l, m, out, a => by simp only [List.cons_append, place]; exact place_append size step l m _ _
theorem place_length (size step : Nat) : ∀ (l : List Nat) (out : List Nat) (a : Nat), (place size step out a l).1.length = out.length
  | [], out, a => rfl
  | s :: l, out, a => by simp only [place]; rw [place_length]; simp
theorem place_at {size step : Nat} (h0 : 0 < size) : ∀ (l : List Nat) (out : List Nat) (a : Nat), a < size → (place size step out a l).2 = (a + l.length * step) % size ∧ (place size step out a l).2 < size
  | [], out, a, h => by simp [place, Nat.mod_eq_of_lt h, h]
  | s :: l, out, a, h => by
    simp only [place]
    obtain ⟨h1, h2⟩ := place_at h0 l (out.set a s) ((a + step) % size) (Nat.mod_lt _ h0)
    refine ⟨?_, h2⟩
    rw [h1, Nat.mod_add_mod, List.length_cons, Nat.succ_mul]
    congr 1; omega
theorem place_keep (size step : Nat) : ∀ (l : List Nat) (out : List Nat) (a j : Nat), (∀ k, k < l.length → (a + k * step) % size ≠ j) → a < size → (place size step out a l).1[j]? = out[j]?
  | [], out, a, j, _, _ => rfl
  | s :: l, out, a, j, h, ha => by
    simp only [place]
    rw [place_keep size step l _ _ _ (fun k hk => ?_) (Nat.mod_lt _ (by omega))]
    · have h0 := h 0 (by simp)
      rw [Nat.zero_mul, Nat.add_zero, Nat.mod_eq_of_lt ha] at h0
      rw [List.getElem?_set_ne h0]
    · have := h (k + 1) (by simpa using hk)
      rw [Nat.mod_add_mod, Nat.add_assoc, Nat.add_comm step, ← Nat.succ_mul]; exact this
theorem place_get {size step : Nat} : ∀ (l : List Nat) (out : List Nat) (a : Nat), a < size → out.length = size → (∀ k k', k < k' → k' < l.length → (a + k * step) % size ≠ (a + k' * step) % size) →
    ∀ k, k < l.length → (place size step out a l).1[(a + k * step) % size]? = l[k]?
  | [], out, a, _, _, _, k, hk => by simp at hk
  | s :: l, out, a, ha, hl, hd, k, hk => by
    simp only [place]
    have hsh : ∀ k, ((a + step) % size + k * step) % size = (a + (k + 1) * step) % size := fun k => by
      rw [Nat.mod_add_mod, Nat.add_assoc, Nat.add_comm step, ← Nat.succ_mul]
    cases k with
    | zero =>
      rw [Nat.zero_mul, Nat.add_zero, Nat.mod_eq_of_lt ha]
      rw [place_keep size step l _ _ _ (fun k hk => ?_) (Nat.mod_lt _ (by omega))]
      · rw [List.getElem?_set_self (by omega)]; rfl
      · rw [hsh]
        have := hd 0 (k + 1) (by omega) (by simpa using hk)
        rw [Nat.zero_mul, Nat.add_zero, Nat.mod_eq_of_lt ha] at this
        exact this.symm
    | succ k =>
      rw [← hsh, place_get l _ _ (Nat.mod_lt _ (by omega)) (by simpa using hl) (fun k k' h1 h2 => ?_) k (by simpa using hk)]
      · simp
      · rw [hsh, hsh]
        exact hd (k + 1) (k' + 1) (by omega) (by simpa using h2)
theorem step_inj {L step : Nat} (ho : step % 2 = 1) {k k' : Nat} (h : k < k') (hs : k' < k + 2 ^ L) : (k * step) % 2 ^ L ≠ (k' * step) % 2 ^ L := by
  intro e
  have h1 : (k' * step - k * step) % 2 ^ L = 0 := Nat.sub_mod_eq_zero_of_mod_eq e.symm
  rw [← Nat.sub_mul] at h1
  have h2 : 2 ^ L ∣ (k' - k) * step := Nat.dvd_of_mod_eq_zero h1
  have hc : Nat.Coprime (2 ^ L) step := by
    apply Nat.Coprime.pow_left
    rw [Nat.coprime_iff_gcd_eq_one, Nat.gcd_rec, ho]; rfl
  have h3 := hc.dvd_of_dvd_mul_right h2
  have := Nat.le_of_dvd (by omega) h3
  omega
theorem nodup_le : ∀ (m : Nat) (l : List Nat), l.Nodup → (∀ x ∈ l, x < m) → l.length ≤ m
  | 0, l, _, h => by
    cases l with
    | nil => simp
    | cons x l => have := h x (by simp); omega
  | m + 1, l, hn, h => by
    have := nodup_le m (l.erase m) (hn.erase m) (fun x hx => by
      have h1 := h x (List.mem_of_mem_erase hx)
      have h2 : x ≠ m := by rintro rfl; exact (List.Nodup.not_mem_erase hn) hx
      omega)
    have h3 := List.length_erase (a := m) (l := l)
    split at h3 <;> omega
theorem perm_range {l : List Nat} {n : Nat} (hn : l.Nodup) (hl : l.length = n) (h : ∀ x ∈ l, x < n) : l.Perm (List.range n) := by
  rw [List.perm_iff_count]
  intro a
  rw [hn.count, List.nodup_range.count]
  by_cases ha : a ∈ l
  · rw [if_pos ha, if_pos (List.mem_range.2 (h a ha))]
  · rw [if_neg ha]
    split
    · rename_i h2
      exfalso
      have := nodup_le n (a :: l) (List.nodup_cons.2 ⟨ha, hn⟩) (fun x hx => by
        rcases List.mem_cons.1 hx with rfl | hx
        · exact List.mem_range.1 h2
        · exact h x hx)
      simp at this; omega
    · rfl
def symOf (sh : List Nat) : List Nat := (place sh.sum (sh.sum / 2 + sh.sum / 8 + 3) (List.replicate sh.sum 0) 0 (runs 0 sh)).1
section
variable {sh : List Nat} {L : Nat}
theorem step_odd (hL : 5 ≤ L) : (2 ^ L / 2 + 2 ^ L / 8 + 3) % 2 = 1 := by
  obtain ⟨m, rfl⟩ : ∃ m, L = m + 5 := ⟨L - 5, by omega⟩
  rw [Nat.pow_add]; omega
theorem symOf_length : (symOf sh).length = sh.sum := by unfold symOf; rw [place_length]; simp
theorem symOf_perm (hs : sh.sum = 2 ^ L) (hL : 5 ≤ L) : (symOf sh).Perm (runs 0 sh) := by
  have hpos := Nat.two_pow_pos L
  have ho := step_odd hL
  unfold symOf
  rw [hs]
  generalize 2 ^ L / 2 + 2 ^ L / 8 + 3 = st at *
  have hrl : (runs 0 sh).length = 2 ^ L := by rw [runs_length, hs]
  have hne : ∀ k k', k < k' → k' < (runs 0 sh).length → (0 + k * st) % 2 ^ L ≠ (0 + k' * st) % 2 ^ L := fun k k' h1 h2 => by
    rw [Nat.zero_add, Nat.zero_add]; exact step_inj ho h1 (by omega)
  have hget := place_get (runs 0 sh) (List.replicate (2 ^ L) 0) 0 hpos (by simp) hne
  generalize hS : (place (2 ^ L) st (List.replicate (2 ^ L) 0) 0 (runs 0 sh)).1 = S at *
  have hSl : S.length = 2 ^ L := by rw [← hS, place_length]; simp
  have hp : ((List.range (2 ^ L)).map fun k => (0 + k * st) % 2 ^ L).Perm (List.range (2 ^ L)) := by
    refine perm_range ?_ (by simp) (fun x hx => ?_)
    · refine List.pairwise_iff_getElem.2 fun i j hi hj hij => ?_
      simp only [List.getElem_map, List.getElem_range]
      exact hne i j hij (by simp at hj; omega)
    · obtain ⟨k, _, rfl⟩ := List.mem_map.1 hx
      exact Nat.mod_lt _ hpos
  have h2 := hp.map fun i => S.getD i 0
  have e1 : (List.range (2 ^ L)).map (fun i => S.getD i 0) = S := by
    apply List.ext_getElem (by simp [hSl])
    intro i h1 h2
    simp [List.getD, List.getElem?_eq_getElem h2]
  have e2 : ((List.range (2 ^ L)).map fun k => (0 + k * st) % 2 ^ L).map (fun i => S.getD i 0) = runs 0 sh := by
    apply List.ext_getElem (by simp [hrl])
    intro i h1 h2
    have := hget i h2
    simp only [List.getElem_map, List.getElem_range, List.getD, this, List.getElem?_eq_getElem h2, Option.getD_some]
  rw [e1, e2] at h2
  exact h2.symm
theorem sym_count (hs : sh.sum = 2 ^ L) (hL : 5 ≤ L) (x : Nat) : (symOf sh).count x = (sh[x]?).getD 0 := by
  rw [(symOf_perm hs hL).count_eq, runs_count]; simp
theorem sym_lt (hs : sh.sum = 2 ^ L) (hL : 5 ≤ L) {i x : Nat} (h : (symOf sh)[i]? = some x) : x < sh.length := by
  have := runs_lt sh 0 x ((symOf_perm hs hL).mem_iff.1 (List.mem_of_getElem? h))
  omega
def rkS (S : List Nat) (i : Nat) : Nat := (S.take i).count (S.getD i 0)
theorem count_take_le (S : List Nat) (i x : Nat) : (S.take i).count x ≤ S.count x := (List.take_sublist i S).count_le x
theorem count_take_succ {S : List Nat} {i x : Nat} (h : i < S.length) : (S.take (i + 1)).count x = (S.take i).count x + if S[i] = x then 1 else 0 := by
  rw [List.take_add_one, List.count_append, List.getElem?_eq_getElem h]
  simp [List.count_singleton]
theorem rk_lt {S : List Nat} {i x : Nat} (h : S[i]? = some x) : (S.take i).count x < S.count x := by
  have hi := (List.getElem?_eq_some_iff.1 h).1
  have hx := (List.getElem?_eq_some_iff.1 h).2
  have := count_take_succ (x := x) hi
  rw [hx, if_pos rfl] at this
  have := count_take_le S (i + 1) x
  omega
theorem count_mono (S : List Nat) (x : Nat) {i j : Nat} (h : i ≤ j) : (S.take i).count x ≤ (S.take j).count x := by
  have e : S.take i = (S.take j).take i := by rw [List.take_take, Nat.min_eq_left h]
  rw [e]; exact count_take_le _ _ _
theorem rk_strict {S : List Nat} {i j x : Nat} (hi : S[i]? = some x) (h : i < j) : (S.take i).count x < (S.take j).count x := by
  have hil := (List.getElem?_eq_some_iff.1 hi).1
  have hx := (List.getElem?_eq_some_iff.1 hi).2
  have := count_take_succ (x := x) hil
  rw [hx, if_pos rfl] at this
  have := count_mono S x (show i + 1 ≤ j by omega)
  omega
theorem rk_find : ∀ (S : List Nat) (x j : Nat), j < S.count x → ∃ i, S[i]? = some x ∧ (S.take i).count x = j
  | [], x, j, h => by simp at h
  | y :: S, x, j, h => by
    by_cases e : y = x
    · subst e
      cases j with
      | zero => exact ⟨0, rfl, by simp⟩
      | succ j =>
        obtain ⟨i, h1, h2⟩ := rk_find S y j (by simpa using h)
        exact ⟨i + 1, by simpa using h1, by simp [h2]⟩
    · have hb : (y == x) = false := by simpa using e
      obtain ⟨i, h1, h2⟩ := rk_find S x j (by simpa [List.count_cons, hb] using h)
      exact ⟨i + 1, by simpa using h1, by simp [List.count_cons, hb, h2]⟩
theorem rk_inj {S : List Nat} {i j x : Nat} (hi : S[i]? = some x) (hj : S[j]? = some x) (h : (S.take i).count x = (S.take j).count x) : i = j := by
  rcases Nat.lt_trichotomy i j with h1 | h1 | h1
  · have := rk_strict hi h1; omega
  · exact h1
  · have := rk_strict hj h1; omega
end
def fstS (sh : List Nat) (s : Nat) : Nat := (sh.take s).sum
theorem fstS_succ {sh : List Nat} {s : Nat} (h : s < sh.length) : fstS sh (s + 1) = fstS sh s + sh[s] := by
  unfold fstS
  rw [List.take_add_one, List.getElem?_eq_getElem h, List.sum_append]; simp
theorem fstS_mono (sh : List Nat) {s t : Nat} (h : s ≤ t) : fstS sh s ≤ fstS sh t := by
  induction h with
  | refl => exact Nat.le_refl _
  | @step m _ ih =>
    rcases Nat.lt_or_ge m sh.length with hm | hm
    · rw [fstS_succ hm]; omega
    · unfold fstS at ih ⊢
      rw [List.take_of_length_le (by omega : sh.length ≤ m + 1)]
      rw [List.take_of_length_le hm] at ih; exact ih
theorem fstS_le (sh : List Nat) (s : Nat) : fstS sh s ≤ sh.sum := by
  have := fstS_mono sh (Nat.le_max_left s sh.length)
  have e : fstS sh (max s sh.length) = sh.sum := by unfold fstS; rw [List.take_of_length_le (by omega)]
  omega
theorem slot_lt {sh : List Nat} {s j n : Nat} (h : sh[s]? = some n) (hj : j < n) : fstS sh s + j < sh.sum := by
  obtain ⟨h1, h2⟩ := List.getElem?_eq_some_iff.1 h
  have := fstS_succ h1
  have := fstS_le sh (s + 1)
  omega
theorem slot_inj {sh : List Nat} {s t j k n m : Nat} (hs : sh[s]? = some n) (ht : sh[t]? = some m) (hj : j < n) (hk : k < m) (e : fstS sh s + j = fstS sh t + k) : s = t ∧ j = k := by
  obtain ⟨a1, a2⟩ := List.getElem?_eq_some_iff.1 hs
  obtain ⟨b1, b2⟩ := List.getElem?_eq_some_iff.1 ht
  have c1 := fstS_succ a1
  have c2 := fstS_succ b1
  rcases Nat.lt_trichotomy s t with h | h | h
  · have := fstS_mono sh (show s + 1 ≤ t by omega); omega
  · subst h; exact ⟨rfl, by omega⟩
  · have := fstS_mono sh (show t + 1 ≤ s by omega); omega
theorem cell_bd {L y : Nat} (h1 : 1 ≤ y) (h2 : y < 2 ^ (L + 1)) : 1 ≤ bl y ∧ bl y ≤ L + 1 ∧ 2 ^ L ≤ y * 2 ^ (L + 1 - bl y) ∧ (y + 1) * 2 ^ (L + 1 - bl y) ≤ 2 ^ (L + 1) := by
  obtain ⟨b1, b2, b3⟩ := bl_pos h1
  have b4 := bl_le h2
  generalize bl y = w at *
  refine ⟨b3, b4, ?_, ?_⟩
  · have : 2 ^ L = 2 ^ (w - 1) * 2 ^ (L + 1 - w) := by rw [← Nat.pow_add]; congr 1; omega
    rw [this]; exact Nat.mul_le_mul_right _ b1
  · have : 2 ^ (L + 1) = 2 ^ w * 2 ^ (L + 1 - w) := by rw [← Nat.pow_add]; congr 1; omega
    rw [this]; exact Nat.mul_le_mul_right _ b2
theorem bits_div {L x k : Nat} (h1 : 2 ^ L ≤ x) (h2 : x < 2 ^ (L + 1)) (hk : 2 ^ k ≤ x) : L + 1 - bl (x / 2 ^ k) = k := by
  have := bl_div k hk
  rw [bl_unique h1 h2] at this
  omega
theorem back_iff {L n x k y : Nat} (hn : 1 ≤ n) (hx1 : 2 ^ L ≤ x) (hx2 : x < 2 ^ (L + 1)) (hk : x / 2 ^ k < 2 * n) (hk2 : n ≤ x / 2 ^ k) (y1 : n ≤ y) (y2 : y < 2 * n) :
    (y * 2 ^ (L + 1 - bl y) ≤ x ∧ x < (y + 1) * 2 ^ (L + 1 - bl y)) ↔ y = x / 2 ^ k := by
  have hp : ∀ j, 0 < 2 ^ j := fun j => Nat.two_pow_pos j
  have hkx : 2 ^ k ≤ x := by
    rcases Nat.lt_or_ge x (2 ^ k) with h | h
    · rw [Nat.div_eq_of_lt h] at hk2; omega
    · exact h
  have half : ∀ a d : Nat, 0 < d → a / 2 ^ d ≤ a / 2 := fun a d hd => by
    apply Nat.div_le_div_left
    · have : 2 ^ 1 ≤ 2 ^ d := Nat.pow_le_pow_right (by omega) hd
      omega
    · omega
  constructor
  · rintro ⟨h1, h2⟩
    generalize L + 1 - bl y = b at *
    have hy : y = x / 2 ^ b := by
      apply Nat.le_antisymm
      · exact (Nat.le_div_iff_mul_le (hp b)).2 h1
      · have := (Nat.div_lt_iff_lt_mul (hp b)).2 h2; omega
    rcases Nat.lt_trichotomy b k with h | h | h
    · obtain ⟨d, rfl⟩ : ∃ d, k = b + d := ⟨k - b, by omega⟩
      rw [Nat.pow_add, ← Nat.div_div_eq_div_mul, ← hy] at hk2
      have := half y d (by omega); omega
    · rw [hy, h]
    · obtain ⟨d, rfl⟩ : ∃ d, b = k + d := ⟨b - k, by omega⟩
      rw [Nat.pow_add, ← Nat.div_div_eq_div_mul] at hy
      have := half (x / 2 ^ k) d (by omega); omega
  · rintro rfl
    rw [bits_div hx1 hx2 hkx]
    refine ⟨Nat.div_mul_le_self _ _, ?_⟩
    rw [Nat.mul_comm]; exact Nat.lt_mul_div_succ x (hp k)
def gsum (L n : Nat) : Nat → Nat
  | 0 => 0
  | m + 1 => gsum L n m + 2 ^ (L + 1 - bl (n + m))
def natsOf (l : List Int) : List Nat := l.map Int.toNat
theorem natsOf_length (l : List Int) : (natsOf l).length = l.length := by simp [natsOf]
theorem natsOf_get (l : List Int) (i : Nat) : (natsOf l)[i]? = (l[i]?).map Int.toNat := by simp [natsOf]
def yOf (sh : List Nat) (i : Nat) : Nat := sh.getD ((symOf sh).getD i 0) 0 + rkS (symOf sh) i
def bOf (L : Nat) (sh : List Nat) (i : Nat) : Nat := L + 1 - bl (yOf sh i)
def baseOf (L : Nat) (sh : List Nat) (i : Nat) : Nat := yOf sh i * 2 ^ bOf L sh i - 2 ^ L
theorem y_bd {sh : List Nat} {L i s : Nat} (hs : sh.sum = 2 ^ L) (hL : 5 ≤ L) (h : (symOf sh)[i]? = some s) : ∃ n, sh[s]? = some n ∧ yOf sh i = n + ((symOf sh).take i).count s ∧ ((symOf sh).take i).count s < n ∧ n ≤ 2 ^ L := by
  have h1 := sym_lt hs hL h
  have h2 := rk_lt h
  rw [sym_count hs hL, List.getElem?_eq_getElem h1] at h2
  refine ⟨sh[s], List.getElem?_eq_getElem h1, ?_, by simpa using h2, ?_⟩
  · unfold yOf rkS
    simp [List.getD, h, List.getElem?_eq_getElem h1]
  · have := fstS_succ h1
    have := fstS_le sh (s + 1)
    omega
end Go.X
namespace Go.X.Tryz
open Go.IntWalk
theorem sumL_ge {x : Int} {l : List Int} (h : okN (x :: l) = true) : 0 ≤ x ∧ x ≤ sumL (x :: l) ∧ okN l = true := by
  simp only [okN, Bool.and_eq_true, decide_eq_true_eq] at h
  have := sumL_nonneg h.2
  exact ⟨h.1.1, by simp only [sumL]; omega, h.2⟩
theorem shl9 {log : Int} (h : 5 ≤ log ∧ log ≤ 9) : shlI .i64 1 log = ((2 ^ log.toNat : Nat) : Int) := by
  have hp2 := pow9 h
  have hmin : Nat.min log.toNat 64 = log.toNat := Nat.min_eq_left (by omega)
  have : shlI .i64 1 log = IntKind.i64.wrap (1 * 2 ^ Nat.min log.toNat 64) := rfl
  rw [this, hmin, Int.one_mul]
  have e2 : (2 : Int) ^ log.toNat = ((2 ^ log.toNat : Nat) : Int) := by push_cast; rfl
  rw [e2]
  exact i64_in _ (by omega)
theorem fair_parts {l : List Int} {log : Int} (h : fairB l log = true) : (5 ≤ log ∧ log ≤ 9) ∧ l.length ≤ 256 ∧ okN l = true ∧ sumL l = ((2 ^ log.toNat : Nat) : Int) := by
  unfold fairB at h
  simp only [Bool.and_eq_true, decide_eq_true_eq] at h
  exact ⟨⟨h.1.1, h.1.2.1⟩, h.1.2.2, h.2.1, h.2.2⟩
theorem nats_sum : ∀ {l : List Int}, okN l = true → ((natsOf l).sum : Int) = sumL l
  | [], _ => rfl
  | x :: l, h => by
    obtain ⟨p1, p2, p3⟩ := sumL_ge h
    have := nats_sum p3
    simp only [natsOf, List.map_cons, List.sum_cons, sumL] at this ⊢
    omega
theorem nats_back : ∀ {l : List Int}, okN l = true → (natsOf l).map (fun (n : Nat) => (n : Int)) = l
  | [], _ => rfl
  | x :: l, h => by
    obtain ⟨p1, p2, p3⟩ := sumL_ge h
    simp only [natsOf, List.map_cons] at *
    rw [show ((x.toNat : Nat) : Int) = x by omega]
    have := nats_back p3
    simp only [natsOf] at this
    rw [this]
structure Shr (l : List Int) (L : Nat) (sh : List Nat) : Prop where
  lo : 5 ≤ L
  hi : L ≤ 9
  len : sh.length ≤ 256
  eq : l = sh.map fun (n : Nat) => (n : Int)
  sum : sh.sum = 2 ^ L
theorem shr_of {l : List Int} {log : Int} (h : fairB l log = true) : ∃ L : Nat, log = L ∧ Shr l L (natsOf l) := by
  obtain ⟨h1, h2, h3, h4⟩ := fair_parts h
  refine ⟨log.toNat, by omega, by omega, by omega, by rw [natsOf_length]; omega, (nats_back h3).symm, ?_⟩
  have := nats_sum h3
  rw [h4] at this
  exact_mod_cast this
theorem Shr.size {l : List Int} {L : Nat} {sh : List Nat} (S : Shr l L sh) : 32 ≤ 2 ^ L ∧ 2 ^ L ≤ 512 :=
  ⟨(Nat.pow_le_pow_right (n := 2) (by omega) S.lo : 2 ^ 5 ≤ _), (Nat.pow_le_pow_right (n := 2) (by omega) S.hi : _ ≤ 2 ^ 9)⟩
def ci (o : List Nat) : List Int := o.map fun (n : Nat) => (n : Int)
theorem ci_length (o : List Nat) : (ci o).length = o.length := by simp [ci]
theorem ci_set (o : List Nat) (a s : Nat) : (ci o).set a (s : Int) = ci (o.set a s) := by simp [ci, List.map_set]
theorem ci_get {o : List Nat} {i n : Nat} (h : o[i]? = some n) : (ci o)[i]? = some (n : Int) := by simp [ci, h]
theorem and_mask {x L : Nat} (hx : x < 2 ^ 60) (hL : L ≤ 9) : bitsI .and .i64 (x : Int) ((2 ^ L - 1 : Nat) : Int) = ((x % 2 ^ L : Nat) : Int) := by
  have : 2 ^ L ≤ 2 ^ 9 := Nat.pow_le_pow_right (by omega) hL
  rw [bitsI_and_i64 (by omega) (by omega), Nat.and_two_pow_sub_one_eq_mod]
theorem mapM_rep {α β : Type} {f : α → Option β} {a : α} {b : β} (h : f a = some b) : ∀ n : Nat, List.mapM f (List.replicate n a) = some (List.replicate n b)
  | 0 => rfl
  | n + 1 => by rw [List.replicate_succ, List.mapM_cons, h, mapM_rep h n]; rfl
theorem mks_ints (k : IntKind) (n : Nat) : RC.ofElems (.ints k []) (List.replicate n [Sc.int k 0]) = some (.ints k (List.replicate n 0)) := by
  simp only [RC.ofElems]
  rw [mapM_rep (b := (0 : Int))]
  · rfl
  · simp
theorem mks_recs (n m : Nat) (z : List Sc) (h : z.length = m) : RC.ofElems (.recs m []) (List.replicate n z) = some (.recs m (List.replicate n z)) := by
  simp only [RC.ofElems]
  rw [if_pos]
  simp [h]
def canon94i (t : Nat) (l : List Int) (size step s n at_ k : Int) (out : List Int) : St :=
  ⟨[(1, .one (.int .i64 size)), (5, .one (.row 0)), (6, .one (.int .i64 step)), (7, .one (.int .i64 at_)), (8, .one (.int .i64 s)), (18, .one (.ro t (.ints .i64 l))), (19, .one (.int .i64 l.length)), (20, .one (.int .i64 s)), (25, .one (.int .i64 n)), (26, .one (.int .i64 k))],
    [.ro t (.ints .i64 l), .int .i64 size], [.rows none (.ints .u8 out)]⟩
theorem body94i (t : Nat) (l : List Int) (size step s n k k' v m at' : Int) (at_ : Nat) (out : List Int) (hk : k < n) (ha : at_ < out.length) (ws : IntKind.u8.wrap s = s) (wv : IntKind.i64.wrap ((at_ : Int) + step) = v) (wm : IntKind.i64.wrap (size - 1) = m) (hb : bitsI .and .i64 v m = at') (wk : IntKind.i64.wrap (k + 1) = k') :
    ∃ st1, evC T94 KK b94x0 (canon94i t l size step s n at_ k out) = some (.norm, st1) ∧ St.head [1, 5, 6, 7, 8, 18, 19, 20, 25, 26] st1 = canon94i t l size step s n at' k' (out.set at_ s) := by
  have ha' : (at_ : Int) < out.length := by omega
  simp -implicitDefEqProofs [b94x0, canon94i, upd, hk, ha, ha', ws, wv, wm, hb, wk, RC.len, RC.size, RC.set]
theorem end94i (t : Nat) (l : List Int) (size step s n at_ k : Int) (out : List Int) (hk : ¬ k < n) :
    evC T94 KK b94x0 (canon94i t l size step s n at_ k out) = some (.exit 2, ⟨(27, .one (.bool false)) :: (canon94i t l size step s n at_ k out).env, (canon94i t l size step s n at_ k out).rts, (canon94i t l size step s n at_ k out).hp⟩) := by
  simp -implicitDefEqProofs [b94x0, canon94i, upd, hk]
theorem loop94i (t : Nat) (l : List Int) {L : Nat} (hL : L ≤ 9) (step s n : Nat) (hs : s < 256) (hst : step ≤ 2000) : ∀ (j k at_ : Nat) (out : List Nat) (K : Nat), k + j = n → n ≤ 512 → at_ < 2 ^ L → out.length = 2 ^ L → j < K →
    loopH (evC T94 KK b94x0) [1, 5, 6, 7, 8, 18, 19, 20, 25, 26] K (canon94i t l (2 ^ L : Nat) step s n at_ k (ci out)) =
      some (.exit 2, ⟨(27, .one (.bool false)) :: (canon94i t l (2 ^ L : Nat) step s n (place (2 ^ L) step out at_ (List.replicate j s)).2 n (ci (place (2 ^ L) step out at_ (List.replicate j s)).1)).env, (canon94i t l (2 ^ L : Nat) step s n 0 0 []).rts, [.rows none (.ints .u8 (ci (place (2 ^ L) step out at_ (List.replicate j s)).1))]⟩)
  | 0, k, at_, out, K, hj, hn, ha, ho, hK => by
    obtain rfl : k = n := by omega
    rw [loopH_exit (end94i t l _ _ _ _ _ _ _ (by omega))]
    simp only [List.replicate_zero, place]
    rfl
  | j + 1, k, at_, out, K, hj, hn, ha, ho, hK => by
    have hp : 2 ^ L ≤ 2 ^ 9 := Nat.pow_le_pow_right (by omega) hL
    have hp0 := Nat.two_pow_pos L
    have wm : IntKind.i64.wrap (((2 ^ L : Nat) : Int) - 1) = ((2 ^ L - 1 : Nat) : Int) := by rw [i64_in _ (by omega)]; omega
    have hb := and_mask (x := at_ + step) (L := L) (by omega) hL
    obtain ⟨st1, e1, e2⟩ := body94i t l (2 ^ L : Nat) step s n k ((k + 1 : Nat) : Int) ((at_ + step : Nat) : Int) _ _ at_ (ci out) (by omega) (by rw [ci_length]; omega) (u8_in _ (by omega)) (by rw [i64_in _ (by omega)]; omega) wm hb (by rw [i64_in _ (by omega)]; omega)
    rw [loopH_norm e1 (by omega), e2, ci_set]
    rw [loop94i t l hL step s n hs hst j (k + 1) ((at_ + step) % 2 ^ L) (out.set at_ s) (K - 1) (by omega) hn (Nat.mod_lt _ hp0) (by simpa using ho) (by omega)]
    simp only [List.replicate_succ, place]
def canon94 (t : Nat) (l : List Int) (size step at_ i : Int) (out : List Int) : St :=
  ⟨[(1, .one (.int .i64 size)), (5, .one (.row 0)), (6, .one (.int .i64 step)), (7, .one (.int .i64 at_)), (18, .one (.ro t (.ints .i64 l))), (19, .one (.int .i64 l.length)), (20, .one (.int .i64 i))],
    [.ro t (.ints .i64 l), .int .i64 size], [.rows none (.ints .u8 out)]⟩
theorem body94 (t : Nat) (l : List Int) (size step n at_ at' i' : Int) (i : Nat) (out out' : List Int) (hi : i < l.length) (hn : l[i]? = some n) (wi : IntKind.i64.wrap ((i : Int) + 1) = i')
    (e : loopH (evC T94 KK b94x0) [1, 5, 6, 7, 8, 18, 19, 20, 25, 26] KK (canon94i t l size step i n at_ 0 out) = some (.exit 2, ⟨(27, .one (.bool false)) :: (canon94i t l size step i n at' n out').env, (canon94i t l size step i n 0 0 []).rts, [.rows none (.ints .u8 out')]⟩)) :
    ∃ st1, evC T94 KK b94x1 (canon94 t l size step at_ i out) = some (.norm, st1) ∧ St.head [1, 5, 6, 7, 18, 19, 20] st1 = canon94 t l size step at' i' out' := by
  have hii : (i : Int) < l.length := by omega
  have hn' : ∀ hh, l[i]'hh = n := fun hh => by rw [List.getElem?_eq_getElem hh] at hn; simpa using hn
  simp only [canon94i] at e
  simp -implicitDefEqProofs [b94x1, canon94, upd, hi, hii, hn, hn', wi, e, RC.len, RC.size, RC.get]
theorem end94 (t : Nat) (l : List Int) (size step at_ i : Int) (out : List Int) (hi : ¬ i < l.length) :
    ∃ env, evC T94 KK b94x1 (canon94 t l size step at_ i out) = some (.exit 0, ⟨env, (canon94 t l size step at_ i out).rts, [.rows none (.ints .u8 out)]⟩) ∧ getT 5 env = .one (.row 0) := by
  simp -implicitDefEqProofs [b94x1, canon94, upd, hi]
theorem loop94 (t : Nat) (l : List Int) (sh : List Nat) {L : Nat} (S : Shr l L sh) (step : Nat) (hst : step ≤ 2000) : ∀ (j i at_ : Nat) (out : List Nat) (K : Nat), i + j = sh.length → at_ < 2 ^ L → out.length = 2 ^ L → j < K →
    ∃ env, loopH (evC T94 KK b94x1) [1, 5, 6, 7, 18, 19, 20] K (canon94 t l (2 ^ L : Nat) step at_ i (ci out)) = some (.exit 0, ⟨env, [.ro t (.ints .i64 l), .int .i64 (2 ^ L : Nat)], [.rows none (.ints .u8 (ci (place (2 ^ L) step out at_ (runs i (sh.drop i))).1))]⟩) ∧ getT 5 env = .one (.row 0)
  | 0, i, at_, out, K, hj, ha, ho, hK => by
    have hl : l.length = sh.length := by rw [S.eq]; simp
    obtain ⟨env, e, g⟩ := end94 t l (2 ^ L : Nat) step at_ i (ci out) (by omega)
    rw [List.drop_eq_nil_of_le (by omega)]
    simp only [runs, place]
    exact ⟨env, loopH_exit e, g⟩
  | j + 1, i, at_, out, K, hj, ha, ho, hK => by
    have hl : l.length = sh.length := by rw [S.eq]; simp
    have hlen := S.len
    have hi : i < sh.length := by omega
    have hg : l[i]? = some ((sh[i] : Nat) : Int) := by rw [S.eq]; simp [hi]
    have hle : sh[i] ≤ 512 := by
      have h1 := fstS_succ hi
      have h2 := fstS_le sh (i + 1)
      have := S.sum
      have := S.size
      omega
    have hpos := Nat.two_pow_pos L
    have ein := loop94i t l S.hi step i sh[i] (by omega) hst sh[i] 0 at_ out KK (by omega) hle ha ho (by rw [KK_eq]; omega)
    obtain ⟨st1, e1, e2⟩ := body94 t l (2 ^ L : Nat) step _ at_ _ ((i + 1 : Nat) : Int) i (ci out) _ (by omega) hg (by rw [i64_in _ (by omega)]; omega) ein
    have ha' := place_at (step := step) hpos (List.replicate sh[i] i) out at_ ha
    obtain ⟨env, q1, q2⟩ := loop94 t l sh S step hst j (i + 1) (place (2 ^ L) step out at_ (List.replicate sh[i] i)).2 (place (2 ^ L) step out at_ (List.replicate sh[i] i)).1 (K - 1) (by omega) ha'.2 (by rw [place_length]; exact ho) (by omega)
    refine ⟨env, ?_, q2⟩
    rw [loopH_norm e1 (by omega), e2, q1, List.drop_eq_getElem_cons hi]
    simp only [runs, place_append]
theorem f94 (t : Nat) (l : List Int) (sh : List Nat) {L : Nat} (S : Shr l L sh) : F94 [.one (.ro t (.ints .i64 l)), .one (.int .i64 (2 ^ L : Nat))] [] = some (.one (.row 0), [.rows none (.ints .u8 (ci (symOf sh)))]) := by
  have hp := S.size
  obtain ⟨env, e, g⟩ := loop94 t l sh S (2 ^ L / 2 + 2 ^ L / 8 + 3) (by omega) sh.length 0 0 (List.replicate (2 ^ L) 0) KK (by omega) (by omega) (by simp) (by rw [KK_eq]; have := S.len; omega)
  have hsym : (place (2 ^ L) (2 ^ L / 2 + 2 ^ L / 8 + 3) (List.replicate (2 ^ L) 0) 0 (runs 0 (sh.drop 0))).1 = symOf sh := by
    unfold symOf; rw [S.sum]; rfl
  rw [hsym] at e
  have e1 : shrI .i64 ((2 ^ L : Nat) : Int) 1 = ((2 ^ L / 2 : Nat) : Int) := shr_in (k := .i64) (x := 2 ^ L) (n := 1) (by decide)
  have e3 : shrI .i64 ((2 ^ L : Nat) : Int) 3 = ((2 ^ L / 8 : Nat) : Int) := shr_in (k := .i64) (x := 2 ^ L) (n := 3) (by decide)
  have cz : ci (List.replicate (2 ^ L) 0) = List.replicate (2 ^ L) 0 := by simp [ci]
  rw [cz] at e
  generalize hsz : 2 ^ L = sz at *
  have w1 : IntKind.i64.wrap (((sz / 2 : Nat) : Int) + ((sz / 8 : Nat) : Int)) = ((sz / 2 + sz / 8 : Nat) : Int) := by rw [i64_in _ (by omega)]; omega
  have w2 : IntKind.i64.wrap (((sz / 2 + sz / 8 : Nat) : Int) + 3) = ((sz / 2 + sz / 8 + 3 : Nat) : Int) := by rw [i64_in _ (by omega)]; omega
  have hm : (sz : Int) ≤ 140737488355328 := by omega
  have z : ((0 : Nat) : Int) = 0 := rfl
  generalize ((sz / 2 : Nat) : Int) = q2 at *
  generalize ((sz / 8 : Nat) : Int) = q8 at *
  generalize ((sz / 2 + sz / 8 : Nat) : Int) = q28 at *
  generalize ((sz / 2 + sz / 8 + 3 : Nat) : Int) = st at *
  simp only [canon94, z] at e
  simp -implicitDefEqProofs [F94, c94, upd, e, g, e1, e3, w1, w2, hm, mks_ints, RC.len]
theorem tab66 : ∀ b : Fin 256, (toBytes lit66x0)[b.val]?.getD 0 = (bl b.val : Int) := by decide +kernel
theorem tab59_size : lit66x0.size = 256 := by decide +kernel
theorem blI (v : Int) (k : Nat) (h : (2 ^ k : Nat) ≤ v.toNat) : (bl v.toNat : Int) = k + bl (v / ((2 ^ k : Nat) : Int)).toNat := by
  rw [bl_div k h]
  have : (v / ((2 ^ k : Nat) : Int)).toNat = v.toNat / 2 ^ k := by
    rcases Int.eq_ofNat_of_zero_le (show 0 ≤ v by have := Nat.two_pow_pos k; omega) with ⟨m, rfl⟩
    rw [← Int.natCast_ediv, Int.toNat_natCast, Int.toNat_natCast]
  rw [this]; simp
theorem tabK (x K : Int) (h : 0 ≤ x) (h' : x < 256) (hK : 0 ≤ K ∧ K ≤ 24) : (0 ≤ x ∧ x < 256) ∧ IntKind.i64.wrap (K + IntKind.i64.wrap ((toBytes lit66x0)[x.toNat]?.getD 0)) = K + bl x.toNat := by
  have e : (toBytes lit66x0)[x.toNat]?.getD 0 = (bl x.toNat : Int) := tab66 ⟨x.toNat, by omega⟩
  have := bl_le (n := x.toNat) (k := 8) (by omega)
  refine ⟨⟨h, h'⟩, ?_⟩
  rw [e, i64_in (bl x.toNat) (by omega), i64_in _ (by omega)]
theorem e66 (v : Int) (h0 : 0 ≤ v) (h : v < 4294967296) : F66 [.one (.int .u32 v)] [] = some (.one (.int .i64 (bl v.toNat)), []) := by
  by_cases h1 : 65536 ≤ v
  · have a1 := blI v 16 (by omega)
    by_cases h2 : 256 ≤ v / 65536
    · have a2 := blI (v / 65536) 8 (by omega)
      obtain ⟨p, q⟩ := tabK (v / 65536 / 256) 24 (by omega) (by omega) (by omega)
      simp (disch := omega) [F66, c66, h1, h2, i64_in, u8_in, shrI_eq, IntKind.bits, tab59_size]
      exact ⟨p, by rw [q]; simp at a1 a2 ⊢; omega⟩
    · obtain ⟨p, q⟩ := tabK (v / 65536) 16 (by omega) (by omega) (by omega)
      simp (disch := omega) [F66, c66, h1, h2, i64_in, u8_in, shrI_eq, IntKind.bits, tab59_size]
      exact ⟨p, by rw [q]; simp at a1 ⊢; omega⟩
  · by_cases h2 : 256 ≤ v
    · have a2 := blI v 8 (by omega)
      obtain ⟨p, q⟩ := tabK (v / 256) 8 (by omega) (by omega) (by omega)
      simp (disch := omega) [F66, c66, h1, h2, i64_in, u8_in, shrI_eq, IntKind.bits, tab59_size]
      exact ⟨p, by rw [q]; simp at a2 ⊢; omega⟩
    · obtain ⟨p, q⟩ := tabK v 0 (by omega) (by omega) (by omega)
      simp (disch := omega) [F66, c66, h1, h2, i64_in, u8_in, shrI_eq, IntKind.bits, tab59_size]
      exact ⟨p, by simpa using q⟩
theorem e42 (v : Int) (h0 : 0 ≤ v) (h : v < 4294967296) : F42 [.one (.int .u32 v)] [] = some (.one (.int .i64 (bl v.toNat)), []) := by
  simp [F42, c42, upd, e66 v h0 h]
theorem l99 (r : Int) : ∀ (k : Nat) (v n : Int) (env : Env), getT 0 env = .one (.int .u32 v) → getT 3 env = .one (.int .i64 n) → 0 ≤ v → v < 4294967296 → 0 ≤ n → n + bl v.toNat ≤ 100 → bl v.toNat < k →
    ∃ env', loopN (evC T99 KK b99x0) [0, 3] k ⟨env, [.int .u32 r], []⟩ = some (.exit 0, ⟨env', [.int .u32 r], []⟩) ∧ getT 3 env' = .one (.int .i64 (n + bl v.toNat))
  | 0, v, n, env, _, _, _, _, _, _, h => by omega
  | k + 1, v, n, env, e0, e3, h0, h1, hn, hn', hk => by
    by_cases hv : 0 < v
    · have hb := bl_half (n := v.toNat) (by omega)
      have e2 : (v / 2).toNat = v.toNat / 2 := by omega
      obtain ⟨env', p, q⟩ := l99 r k (v / 2) (n + 1) [(3, .one (.int .i64 (n + 1))), (9, .one (.int .i64 (n + 1))), (8, .one (.int .i64 n)), (0, .one (.int .u32 (v / 2))), (7, .one (.int .u32 (v / 2))), (6, .one (.int .u32 v)), (5, .one (.bool true)), (4, .one (.int .u32 v)), (0, .one (.int .u32 v)), (3, .one (.int .i64 n))] rfl rfl (by omega) (by omega) (by omega) (by rw [e2]; omega) (by rw [e2]; omega)
      refine ⟨env', ?_, by rw [q, e2, hb, show n + 1 + (bl (v.toNat / 2) : Int) = n + ((bl (v.toNat / 2) + 1 : Nat) : Int) by omega]⟩
      rw [← p]
      simp (disch := omega) [loopN, b99x0, e0, e3, hv, u32_quo, i64_in]
    · obtain rfl : v = 0 := by omega
      simp [loopN, b99x0, e0, e3, bl]
theorem e99 (v : Int) (h0 : 0 ≤ v) (h : v < 4294967296) : F99 [.one (.int .u32 v)] [] = some (.one (.int .i64 (bl v.toNat)), []) := by
  have hb := bl_le (n := v.toNat) (k := 32) (by omega)
  obtain ⟨env', p, q⟩ := l99 v KK v 0 [(3, .one (.int .i64 0)), (2, .one (.int .i64 0)), (0, .one (.int .u32 v))] rfl rfl h0 h (by omega) (by omega) (by rw [KK_eq]; omega)
  simp [-loop_KK, F99, c99, p, q]
def tabHp (g : Option Nat) (L : Int) (cs : List (List Sc)) (l fi al : List Int) : List Ob :=
  [.cells g [.int .i64 L, .row 1, .row 2, .row 3, .row 4], .rows none (.recs 3 cs), .rows none (.ints .i64 l), .rows none (.ints .i64 fi), .rows none (.ints .i64 al)]
def canon72a (t : Nat) (l : List Int) (L size at_ i : Int) (cs : List (List Sc)) (fi al : List Int) : St :=
  ⟨[(0, .one (.ro t (.ints .i64 l))), (1, .one (.int .i64 L)), (6, .one (.int .i64 size)), (7, .one (.ptr 0 0)), (8, .one (.int .i64 at_)), (34, .one (.ro t (.ints .i64 l))), (35, .one (.int .i64 l.length)), (36, .one (.int .i64 i))],
    [.ro t (.ints .i64 l), .int .i64 L], tabHp none L cs l fi al⟩
theorem body72a (t : Nat) (l : List Int) (L size at_ n at' i' : Int) (i : Nat) (cs : List (List Sc)) (fi al : List Int) (hi : i < l.length) (hf : fi.length = l.length) (hn : l[i]? = some n) (wa : IntKind.i64.wrap (at_ + n) = at') (wi : IntKind.i64.wrap ((i : Int) + 1) = i') :
    ∃ st1, evC T72 KK b72x0 (canon72a t l L size at_ i cs fi al) = some (.norm, st1) ∧ St.head [0, 1, 6, 7, 8, 34, 35, 36] st1 = canon72a t l L size at' i' cs (fi.set i at_) al := by
  have hii : (i : Int) < l.length := by omega
  have hn' : ∀ hh, l[i]'hh = n := fun hh => by rw [List.getElem?_eq_getElem hh] at hn; simpa using hn
  simp -implicitDefEqProofs [b72x0, canon72a, tabHp, upd, hi, hii, hf, hn, hn', wa, wi, RC.len, RC.size, RC.get, RC.set]
theorem end72a (t : Nat) (l : List Int) (L size at_ i : Int) (cs : List (List Sc)) (fi al : List Int) (hi : ¬ i < l.length) :
    evC T72 KK b72x0 (canon72a t l L size at_ i cs fi al) = some (.exit 0, ⟨(37, .one (.bool false)) :: (canon72a t l L size at_ i cs fi al).env, (canon72a t l L size at_ i cs fi al).rts, tabHp none L cs l fi al⟩) := by
  simp -implicitDefEqProofs [b72x0, canon72a, upd, hi]
def fiTo (sh : List Nat) (i : Nat) : List Int := (List.range sh.length).map fun s => if s < i then ((fstS sh s : Nat) : Int) else 0
theorem fiTo_length (sh : List Nat) (i : Nat) : (fiTo sh i).length = sh.length := by simp [fiTo]
theorem fiTo_set {sh : List Nat} {i : Nat} (h : i < sh.length) : (fiTo sh i).set i ((fstS sh i : Nat) : Int) = fiTo sh (i + 1) := by
  apply List.ext_getElem (by simp [fiTo])
  intro k h1 h2
  rw [List.getElem_set]
  simp only [fiTo, List.getElem_map, List.getElem_range]
  by_cases e : i = k
  · subst e; simp
  · rw [if_neg e]
    by_cases h3 : k < i
    · rw [if_pos h3, if_pos (by omega)]
    · rw [if_neg h3, if_neg (by omega)]
theorem loop72a (t : Nat) (l : List Int) (sh : List Nat) {L : Nat} (S : Shr l L sh) (cs : List (List Sc)) (al : List Int) : ∀ (j i : Nat) (K : Nat), i + j = sh.length → j < K →
    ∃ at', loopH (evC T72 KK b72x0) [0, 1, 6, 7, 8, 34, 35, 36] K (canon72a t l L (2 ^ L : Nat) (fstS sh i : Nat) i cs (fiTo sh i) al) = some (.exit 0, ⟨(37, .one (.bool false)) :: (canon72a t l L (2 ^ L : Nat) at' sh.length cs (fiTo sh sh.length) al).env, [.ro t (.ints .i64 l), .int .i64 L], tabHp none L cs l (fiTo sh sh.length) al⟩)
  | 0, i, K, hj, hK => by
    have hl : l.length = sh.length := by rw [S.eq]; simp
    obtain rfl : i = sh.length := by omega
    exact ⟨_, loopH_exit (end72a t l L (2 ^ L : Nat) _ _ cs _ al (by omega))⟩
  | j + 1, i, K, hj, hK => by
    have hl : l.length = sh.length := by rw [S.eq]; simp
    have hi : i < sh.length := by omega
    have hlen := S.len
    have hg : l[i]? = some ((sh[i] : Nat) : Int) := by rw [S.eq]; simp [hi]
    have h1 := fstS_succ hi
    have h2 := fstS_le sh (i + 1)
    have h3 := S.sum
    have h4 := S.size
    obtain ⟨st1, e1, e2⟩ := body72a t l L (2 ^ L : Nat) (fstS sh i : Nat) _ ((fstS sh (i + 1) : Nat) : Int) ((i + 1 : Nat) : Int) i cs (fiTo sh i) al (by omega) (by rw [fiTo_length]; omega) hg (by rw [i64_in _ (by omega)]; omega) (by rw [i64_in _ (by omega)]; omega)
    obtain ⟨at', e⟩ := loop72a t l sh S cs al j (i + 1) (K - 1) (by omega) (by omega)
    refine ⟨at', ?_⟩
    rw [loopH_norm e1 (by omega), e2, fiTo_set hi, e]
def canon72b (t : Nat) (l : List Int) (L size i : Int) (cs : List (List Sc)) (fi al me sy : List Int) : St :=
  ⟨[(0, .one (.ro t (.ints .i64 l))), (1, .one (.int .i64 L)), (6, .one (.int .i64 size)), (7, .one (.ptr 0 0)), (11, .one (.row 5)), (57, .one (.row 6)), (58, .one (.int .i64 sy.length)), (59, .one (.int .i64 i))],
    [.ro t (.ints .i64 l), .int .i64 L], tabHp none L cs l fi al ++ [.rows none (.ints .i64 me), .rows none (.ints .u8 sy)]⟩
theorem body72b (t : Nat) (l : List Int) (L size n m x f w b0 b xs base m' i' : Int) (i s q : Nat) (c0 c1 c2 : Sc) (cs : List (List Sc)) (fi al me sy : List Int) (hi : i < sy.length) (hcl : cs.length = sy.length) (hs : sy[i]? = some (s : Int)) (hn : l[s]? = some n) (hm : me[s]? = some m) (hf : fi[s]? = some f)
    (wx : IntKind.i64.wrap (n + m) = x) (wq : IntKind.i64.wrap (f + m) = (q : Int)) (hq : q < al.length) (wm : IntKind.i64.wrap (m + 1) = m') (wu : IntKind.u32.wrap x = x) (e42 : F42 [.one (.int .u32 x)] [] = some (.one (.int .i64 w), [])) (wb0 : IntKind.i64.wrap (L - w) = b0) (wb : IntKind.i64.wrap (b0 + 1) = b) (hb : ¬ b < 0)
    (hx : shlI .i64 x b = xs) (wbs : IntKind.i64.wrap (xs - size) = base) (hc : cs[i]? = some [c0, c1, c2]) (wi : IntKind.i64.wrap ((i : Int) + 1) = i') :
    ∃ st1, evC T72 KK b72x1 (canon72b t l L size i cs fi al me sy) = some (.norm, st1) ∧ St.head [0, 1, 6, 7, 11, 57, 58, 59] st1 = canon72b t l L size i' (cs.set i [.int .u8 s, .int .i64 b, .int .i64 base]) fi (al.set q i) (me.set s m') sy := by
  have hii : (i : Int) < sy.length := by omega
  have hs' : ∀ hh, sy[i]'hh = s := fun hh => by rw [List.getElem?_eq_getElem hh] at hs; simpa using hs
  have hn' : ∀ hh, l[s]'hh = n := fun hh => by rw [List.getElem?_eq_getElem hh] at hn; simpa using hn
  have hm' : ∀ hh, me[s]'hh = m := fun hh => by rw [List.getElem?_eq_getElem hh] at hm; simpa using hm
  have hf' : ∀ hh, fi[s]'hh = f := fun hh => by rw [List.getElem?_eq_getElem hh] at hf; simpa using hf
  have hc' : ∀ hh, cs[i]'hh = [c0, c1, c2] := fun hh => by rw [List.getElem?_eq_getElem hh] at hc; simpa using hc
  have l1 := (List.getElem?_eq_some_iff.1 hn).1
  have l2 := (List.getElem?_eq_some_iff.1 hm).1
  have l3 := (List.getElem?_eq_some_iff.1 hf).1
  have l4 := (List.getElem?_eq_some_iff.1 hc).1
  have l1i : (s : Int) < l.length := by omega
  have l2i : (s : Int) < me.length := by omega
  have l3i : (s : Int) < fi.length := by omega
  have l4i : (i : Int) < cs.length := by omega
  have hqi : (q : Int) < al.length := by omega
  simp -implicitDefEqProofs [b72x1, canon72b, tabHp, upd, hi, hii, hcl, hs, hs', hn, hn', hm, hm', hf, hf', hc, hc', l1, l2, l3, l4, l1i, l2i, l3i, l4i, hq, hqi, wx, wq, wm, wu, e42, wb0, wb, hb, hx, wbs, wi, RC.len, RC.size, RC.get, RC.set]
def cellSc (L : Nat) (sh : List Nat) (i : Nat) : List Sc := [.int .u8 (((symOf sh).getD i 0 : Nat) : Int), .int .i64 ((bOf L sh i : Nat) : Int), .int .i64 ((baseOf L sh i : Nat) : Int)]
def cellsTo (L : Nat) (sh : List Nat) (st : Nat) : List (List Sc) := (List.range (2 ^ L)).map fun i => if i < st then cellSc L sh i else [.int .u8 0, .int .i64 0, .int .i64 0]
def metTo (sh : List Nat) (st : Nat) : List Int := (List.range sh.length).map fun s => ((((symOf sh).take st).count s : Nat) : Int)
theorem cellsTo_length (L : Nat) (sh : List Nat) (st : Nat) : (cellsTo L sh st).length = 2 ^ L := by simp [cellsTo]
theorem cellsTo_set (L : Nat) (sh : List Nat) (st : Nat) : (cellsTo L sh st).set st (cellSc L sh st) = cellsTo L sh (st + 1) := by
  apply List.ext_getElem (by simp [cellsTo])
  intro k h1 h2
  rw [List.getElem_set]
  simp only [cellsTo, List.getElem_map, List.getElem_range]
  by_cases e : st = k
  · subst e; simp
  · rw [if_neg e]
    by_cases h3 : k < st
    · rw [if_pos h3, if_pos (by omega)]
    · rw [if_neg h3, if_neg (by omega)]
theorem metTo_set {sh : List Nat} {st s : Nat} (h : (symOf sh)[st]? = some s) : (metTo sh st).set s (((((symOf sh).take st).count s + 1 : Nat)) : Int) = metTo sh (st + 1) := by
  obtain ⟨h1, h2⟩ := List.getElem?_eq_some_iff.1 h
  apply List.ext_getElem (by simp [metTo])
  intro k h3 h4
  rw [List.getElem_set]
  simp only [metTo, List.getElem_map, List.getElem_range, count_take_succ h1, h2]
  by_cases e : s = k
  · subst e; simp
  · rw [if_neg e, if_neg e]; rfl
def AllOk (sh : List Nat) (st : Nat) (al : List Int) : Prop := ∀ i s, i < st → (symOf sh)[i]? = some s → al[fstS sh s + ((symOf sh).take i).count s]? = some (i : Int)
theorem end72b (t : Nat) (l : List Int) (L size i : Int) (cs : List (List Sc)) (fi al me sy : List Int) (hi : ¬ i < sy.length) :
    evC T72 KK b72x1 (canon72b t l L size i cs fi al me sy) = some (.exit 2, ⟨(60, .one (.bool false)) :: (canon72b t l L size i cs fi al me sy).env, (canon72b t l L size i cs fi al me sy).rts, tabHp none L cs l fi al ++ [.rows none (.ints .i64 me), .rows none (.ints .u8 sy)]⟩) := by
  simp -implicitDefEqProofs [b72x1, canon72b, upd, hi]
theorem loop72b (t : Nat) (l : List Int) (sh : List Nat) {L : Nat} (S : Shr l L sh) : ∀ (j st : Nat) (al : List Int) (K : Nat), st + j = 2 ^ L → al.length = 2 ^ L → AllOk sh st al → j < K →
    ∃ al', loopH (evC T72 KK b72x1) [0, 1, 6, 7, 11, 57, 58, 59] K (canon72b t l L (2 ^ L : Nat) st (cellsTo L sh st) (fiTo sh sh.length) al (metTo sh st) (ci (symOf sh))) =
      some (.exit 2, ⟨(60, .one (.bool false)) :: (canon72b t l L (2 ^ L : Nat) (2 ^ L : Nat) (cellsTo L sh (2 ^ L)) (fiTo sh sh.length) al' (metTo sh (2 ^ L)) (ci (symOf sh))).env, [.ro t (.ints .i64 l), .int .i64 L], tabHp none L (cellsTo L sh (2 ^ L)) l (fiTo sh sh.length) al' ++ [.rows none (.ints .i64 (metTo sh (2 ^ L))), .rows none (.ints .u8 (ci (symOf sh)))]⟩) ∧ al'.length = 2 ^ L ∧ AllOk sh (2 ^ L) al'
  | 0, st, al, K, hj, hal, hok, hK => by
    obtain rfl : st = 2 ^ L := by omega
    have hsl : (ci (symOf sh)).length = 2 ^ L := by rw [ci_length, symOf_length, S.sum]
    exact ⟨al, loopH_exit (end72b t l L _ _ _ _ _ _ _ (by omega)), hal, hok⟩
  | j + 1, st, al, K, hj, hal, hok, hK => by
    have hsz := S.size
    have hsl : (symOf sh).length = 2 ^ L := by rw [symOf_length, S.sum]
    have hi : st < (symOf sh).length := by omega
    obtain ⟨s, hs⟩ : ∃ s, (symOf sh)[st]? = some s := ⟨_, List.getElem?_eq_getElem hi⟩
    obtain ⟨n, hn, hy, hr, hnL⟩ := y_bd S.sum S.lo hs
    have hsl2 := (List.getElem?_eq_some_iff.1 hn).1
    have hlen := S.len
    have hq := slot_lt hn hr
    rw [S.sum] at hq
    generalize hc : ((symOf sh).take st).count s = c at *
    have hfs := fstS_le sh s
    rw [S.sum] at hfs
    have hyb : yOf sh st < 2 ^ (L + 1) := by rw [Nat.pow_succ]; omega
    obtain ⟨b1, b2, b3, b4⟩ := cell_bd (L := L) (y := yOf sh st) (by omega) hyb
    have hL9 := S.hi
    have e42 := e42 ((n + c : Nat) : Int) (by omega) (by omega)
    rw [Int.toNat_natCast, ← hy] at e42
    have hb : bOf L sh st = L + 1 - bl (yOf sh st) := rfl
    have hbase : baseOf L sh st = yOf sh st * 2 ^ bOf L sh st - 2 ^ L := rfl
    rw [← hb] at b3 b4
    have hpw : 2 ^ (L + 1) ≤ 1024 := by rw [Nat.pow_succ]; omega
    have hmul : yOf sh st * 2 ^ bOf L sh st ≤ 1024 := by
      have : yOf sh st * 2 ^ bOf L sh st ≤ (yOf sh st + 1) * 2 ^ bOf L sh st := Nat.mul_le_mul_right _ (by omega)
      omega
    have hshl : shlI .i64 ((yOf sh st : Nat) : Int) ((bOf L sh st : Nat) : Int) = ((yOf sh st * 2 ^ bOf L sh st : Nat) : Int) := by
      have hmin : Nat.min (((bOf L sh st : Nat) : Int)).toNat 64 = bOf L sh st := by rw [Int.toNat_natCast]; exact Nat.min_eq_left (by omega)
      have : shlI .i64 ((yOf sh st : Nat) : Int) ((bOf L sh st : Nat) : Int) = IntKind.i64.wrap (((yOf sh st : Nat) : Int) * 2 ^ Nat.min (((bOf L sh st : Nat) : Int)).toNat 64) := rfl
      rw [this, hmin]
      have e2 : ((yOf sh st : Nat) : Int) * (2 : Int) ^ bOf L sh st = ((yOf sh st * 2 ^ bOf L sh st : Nat) : Int) := by push_cast; rfl
      rw [e2]; exact i64_in _ (by omega)
    have hcell : (cellsTo L sh st)[st]? = some [.int .u8 0, .int .i64 0, .int .i64 0] := by
      simp [cellsTo, List.getElem?_map, List.getElem?_range (show st < 2 ^ L by omega)]
    obtain ⟨st1, q1, q2⟩ := body72b t l L (2 ^ L : Nat) (n : Nat) (c : Nat) ((yOf sh st : Nat) : Int) ((fstS sh s : Nat) : Int) ((bl (yOf sh st) : Nat) : Int) ((L : Int) - bl (yOf sh st)) ((bOf L sh st : Nat) : Int) ((yOf sh st * 2 ^ bOf L sh st : Nat) : Int) ((baseOf L sh st : Nat) : Int) ((c + 1 : Nat) : Int) ((st + 1 : Nat) : Int) st s (fstS sh s + c) _ _ _ (cellsTo L sh st) (fiTo sh sh.length) al (metTo sh st) (ci (symOf sh))
      (by rw [ci_length]; omega) (by rw [cellsTo_length, ci_length, hsl]) (ci_get hs) (by rw [S.eq, List.getElem?_map, hn]; rfl) (by simp [metTo, List.getElem?_map, List.getElem?_range hsl2, hc]) (by simp [fiTo, List.getElem?_map, List.getElem?_range hsl2, hsl2])
      (by rw [i64_in _ (by omega)]; omega) (by rw [i64_in _ (by omega)]; omega) (by omega) (by rw [i64_in _ (by omega)]; omega) (u32_in _ (by omega)) e42 (i64_in _ (by omega)) (by rw [i64_in _ (by omega)]; omega) (by omega) hshl (by rw [i64_in _ (by omega)]; omega) hcell (by rw [i64_in _ (by omega)]; omega)
    have ecell : [Sc.int .u8 (s : Int), .int .i64 ((bOf L sh st : Nat) : Int), .int .i64 ((baseOf L sh st : Nat) : Int)] = cellSc L sh st := by simp [cellSc, List.getD, hs]
    have emet := metTo_set hs
    rw [hc] at emet
    rw [ecell, cellsTo_set, emet] at q2
    obtain ⟨al', r1, r2, r3⟩ := loop72b t l sh S j (st + 1) (al.set (fstS sh s + c) st) (K - 1) (by omega) (by simpa using hal) (fun i s' hi' hs' => by
      rcases Nat.lt_or_ge i st with h | h
      · have hold := hok i s' h hs'
        obtain ⟨n', hn', _, hr', _⟩ := y_bd S.sum S.lo hs'
        rw [List.getElem?_set_ne]
        · exact hold
        · intro e
          obtain ⟨rfl, e2⟩ := slot_inj hn hn' hr hr' e
          have := rk_strict hs' h
          omega
      · obtain rfl : i = st := by omega
        rw [hs] at hs'; simp at hs'; subst hs'
        rw [hc, List.getElem?_set_self (by omega)]) (by omega)
    refine ⟨al', ?_, r2, r3⟩
    rw [loopH_norm q1 (by omega), q2, r1]
theorem f72 (t : Nat) (l : List Int) (sh : List Nat) {L : Nat} (S : Shr l L sh) (hf : fairB l L = true) :
    ∃ al, F72 [.one (.ro t (.ints .i64 l)), .one (.int .i64 L)] [] = some (.tup [.one (.ptr 0 0), .one (.bool true)], tabHp none L (cellsTo L sh (2 ^ L)) l (fiTo sh sh.length) al) ∧ al.length = 2 ^ L ∧ AllOk sh (2 ^ L) al := by
  have hl : l.length = sh.length := by rw [S.eq]; simp
  have hlen := S.len
  have hsz := S.size
  have e91 := fun t => f91 t l L (by omega)
  rw [hf] at e91
  have e94 := fun t => f94 t l sh S
  have es := shl9 (log := (L : Int)) ⟨by have := S.lo; omega, by have := S.hi; omega⟩
  rw [Int.toNat_natCast] at es
  have hn0 : ¬ (L : Int) < 0 := by omega
  obtain ⟨at', ea⟩ := loop72a t l sh S (List.replicate (2 ^ L) [.int .u8 0, .int .i64 0, .int .i64 0]) (List.replicate (2 ^ L) 0) sh.length 0 KK (by omega) (by rw [KK_eq]; omega)
  obtain ⟨al', eb, h1, h2⟩ := loop72b t l sh S (2 ^ L) 0 (List.replicate (2 ^ L) 0) KK (by omega) (by simp) (fun i s h _ => by omega) (by rw [KK_eq]; omega)
  refine ⟨al', ?_, h1, h2⟩
  have c0 : cellsTo L sh 0 = List.replicate (2 ^ L) [.int .u8 0, .int .i64 0, .int .i64 0] := by
    apply List.ext_getElem (by simp [cellsTo]); intro k _ _; simp [cellsTo]
  have m0 : metTo sh 0 = List.replicate l.length 0 := by
    apply List.ext_getElem (by simp [metTo, hl]); intro k _ _; simp [metTo]
  have f0 : fiTo sh 0 = List.replicate l.length 0 := by
    apply List.ext_getElem (by simp [fiTo, hl]); intro k _ _; simp [fiTo]
  have g0 : fstS sh 0 = 0 := by simp [fstS]
  have hsl : (ci (symOf sh)).length = 2 ^ L := by rw [ci_length, symOf_length, S.sum]
  have z : ((0 : Nat) : Int) = 0 := rfl
  rw [c0, m0] at eb
  rw [f0, g0] at ea
  generalize hcs : cellsTo L sh (2 ^ L) = cs at *
  generalize hme : metTo sh (2 ^ L) = me at *
  generalize hfi : fiTo sh sh.length = fi at *
  generalize hsy : ci (symOf sh) = sy at *
  have n1 : (l.length : Int) * 8 ≤ 140737488355328 := by omega
  have n2 : l.length * 8 ≤ 140737488355328 := by omega
  generalize hszz : 2 ^ L = sz at *
  have n3 : (sz : Int) * 24 ≤ 140737488355328 := by omega
  have n4 : (sz : Int) * 8 ≤ 140737488355328 := by omega
  have mk1 := fun n => mks_recs n 3 [.int .u8 0, .int .i64 0, .int .i64 0] rfl
  simp only [canon72a, canon72b, tabHp, z, hsl, List.cons_append, List.nil_append] at ea eb
  simp -implicitDefEqProofs [F72, c72, upd, tabHp, e91, e94, es, hn0, ea, eb, n1, n2, n3, n4, mk1, mks_ints, hsl, RC.len, RC.size, RC.app]
theorem f115 (L : Int) (cs : List (List Sc)) (l fi al : List Int) : F115 [.one (.ptr 0 0)] (tabHp (some 0) L cs l fi al) = some (.one (.int .i64 cs.length), tabHp (some 0) L cs l fi al) := by
  simp -implicitDefEqProofs [F115, c115, upd, tabHp, RC.len, RC.size]
theorem f97 (L : Int) (cs : List (List Sc)) (l fi al : List Int) : F97 [.one (.ptr 0 0)] (tabHp (some 0) L cs l fi al) = some (.one (.int .i64 L), tabHp (some 0) L cs l fi al) := by
  simp -implicitDefEqProofs [F97, c97, upd, tabHp, RC.len, RC.size]
theorem f113 (L st : Int) (cs : List (List Sc)) (l fi al : List Int) : F113 [.one (.ptr 0 0), .one (.int .i64 st)] (tabHp (some 0) L cs l fi al) = some (.one (.bool (decide (0 ≤ st ∧ st < cs.length))), tabHp (some 0) L cs l fi al) := by
  have e := f115 L cs l fi al
  simp only [tabHp] at e
  by_cases h : 0 ≤ st
  · simp -implicitDefEqProofs [F113, c113, upd, tabHp, e, h]
  · simp -implicitDefEqProofs [F113, c113, upd, tabHp, e, h]
def cel (c : List Sc) (b : Bool) : AV := .tup [.agg (c.map Sc.sv), .one (.bool b)]
theorem f105 (L s b base : Int) (st : Nat) (cs : List (List Sc)) (l fi al : List Int) (hc : cs[st]? = some [.int .u8 s, .int .i64 b, .int .i64 base]) : F105 [.one (.ptr 0 0), .one (.int .i64 st)] (tabHp (some 0) L cs l fi al) = some (cel [.int .u8 s, .int .i64 b, .int .i64 base] true, tabHp (some 0) L cs l fi al) := by
  have e := f113 L st cs l fi al
  have hl := (List.getElem?_eq_some_iff.1 hc).1
  have hc' : ∀ hh, cs[st]'hh = [Sc.int .u8 s, .int .i64 b, .int .i64 base] := fun hh => by rw [List.getElem?_eq_getElem hh] at hc; simpa using hc
  have h0 : (0 : Int) ≤ st := by omega
  have h1 : (st : Int) < cs.length := by omega
  simp only [tabHp, h0, h1, and_self, decide_true] at e
  simp -implicitDefEqProofs [F105, c105, upd, tabHp, cel, e, hl, h1, hc, hc', takeE, RC.len, RC.size, RC.get, RC.elem]
theorem f106 (L m s b base p r : Int) (st : Nat) (cs : List (List Sc)) (l fi al : List Int) (hc : cs[st]? = some [.int .u8 s, .int .i64 b, .int .i64 base]) (hb : ¬ b < 0) (hp : shlI .i64 1 b = p) (hr : 0 ≤ m → m < p → IntKind.i64.wrap (base + m) = r) :
    F106 [.one (.ptr 0 0), .one (.int .i64 st), .one (.int .i64 m)] (tabHp (some 0) L cs l fi al) = some (if 0 ≤ m ∧ m < p then .tup [.one (.int .i64 r), .one (.bool true)] else .tup [.one (.int .i64 0), .one (.bool false)], tabHp (some 0) L cs l fi al) := by
  have e := f105 L s b base st cs l fi al hc
  simp only [tabHp, cel, List.map_cons, List.map_nil, Sc.sv] at e
  by_cases h0 : 0 ≤ m
  · have h0' : ¬ m < 0 := by omega
    by_cases h1 : m < p
    · have h1' : ¬ p ≤ m := by omega
      have hr' := hr h0 h1
      simp -implicitDefEqProofs [F106, c106, upd, tabHp, e, hb, hp, h0, h0', h1, h1', hr']
    · have h1' : p ≤ m := by omega
      simp -implicitDefEqProofs [F106, c106, upd, tabHp, e, hb, hp, h0, h0', h1, h1']
  · have h0' : m < 0 := by omega
    simp -implicitDefEqProofs [F106, c106, upd, tabHp, e, hb, hp, h0, h0']
def canon110 (st : Int) (sb n x k L : Int) (cs : List (List Sc)) (l fi al : List Int) : St :=
  ⟨[(0, .one (.ptr 0 0)), (2, .one (.int .u8 sb)), (10, .one (.int .i64 n)), (11, .one (.int .i64 x)), (12, .one (.int .i64 k))], [.ptr 0 0, .int .i64 st, .int .u8 sb], tabHp (some 0) L cs l fi al⟩
theorem body110 (st : Int) (sb n x k L y n2 k' : Int) (cs : List (List Sc)) (l fi al : List Int) (hk : ¬ k < 0) (hy : shrI .i64 x k = y) (wn : IntKind.i64.wrap (2 * n) = n2) (h : n2 ≤ y) (wk : IntKind.i64.wrap (k + 1) = k') :
    ∃ st1, evC T110 KK b110x0 (canon110 st sb n x k L cs l fi al) = some (.norm, st1) ∧ St.head [0, 2, 10, 11, 12] st1 = canon110 st sb n x k' L cs l fi al := by
  simp -implicitDefEqProofs [b110x0, canon110, tabHp, upd, hk, hy, wn, h, wk]
theorem end110 (st : Int) (sb n x k L y n2 : Int) (cs : List (List Sc)) (l fi al : List Int) (hk : ¬ k < 0) (hy : shrI .i64 x k = y) (wn : IntKind.i64.wrap (2 * n) = n2) (h : ¬ n2 ≤ y) :
    ∃ env, evC T110 KK b110x0 (canon110 st sb n x k L cs l fi al) = some (.exit 0, ⟨env, [.ptr 0 0, .int .i64 st, .int .u8 sb], tabHp (some 0) L cs l fi al⟩) ∧ getT 0 env = .one (.ptr 0 0) ∧ getT 2 env = .one (.int .u8 sb) ∧ getT 10 env = .one (.int .i64 n) ∧ getT 11 env = .one (.int .i64 x) ∧ getT 12 env = .one (.int .i64 k) := by
  simp -implicitDefEqProofs [b110x0, canon110, tabHp, upd, hk, hy, wn, h]
theorem f110n (L st : Int) (sb : Nat) (hsb : sb < 256) (cs : List (List Sc)) (l fi al : List Int) (h : ¬ (0 ≤ st ∧ st < cs.length) ∨ ¬ (sb : Int) < l.length ∨ l[sb]? = some 0) :
    F110 [.one (.ptr 0 0), .one (.int .i64 st), .one (.int .u8 sb)] (tabHp (some 0) L cs l fi al) = some (.tup [.one (.int .i64 0), .one (.int .i64 0), .one (.int .i64 0), .one (.bool false)], tabHp (some 0) L cs l fi al) := by
  have e := f113 L st cs l fi al
  have wb : IntKind.i64.wrap (sb : Int) = sb := i64_in _ (by omega)
  simp only [tabHp] at e
  by_cases h0 : 0 ≤ st ∧ st < cs.length
  · rw [decide_eq_true h0] at e
    by_cases h1 : (sb : Int) < l.length
    · have h1n : sb < l.length := by omega
      have h2 : l[sb]? = some 0 := by
        rcases h with h | h | h
        · exact absurd h0 h
        · exact absurd h1 h
        · exact h
      have h2' : ∀ hh, l[sb]'hh = 0 := fun hh => by rw [List.getElem?_eq_getElem hh] at h2; simpa using h2
      have h1' : ¬ (l.length : Int) ≤ sb := by omega
      have h1'' : ¬ l.length ≤ sb := by omega
      simp -implicitDefEqProofs [F110, c110, upd, tabHp, e, wb, h1, h1n, h1', h1'', h2, h2', RC.len, RC.size, RC.get]
    · have h1' : (l.length : Int) ≤ sb := by omega
      have h1'' : l.length ≤ sb := by omega
      simp -implicitDefEqProofs [F110, c110, upd, tabHp, e, wb, h1, h1', h1'', RC.len, RC.size]
  · rw [decide_eq_false h0] at e
    simp -implicitDefEqProofs [F110, c110, upd, tabHp, e]
theorem loop110 (st : Int) (sb L : Int) (n x : Nat) (hn : 1 ≤ n ∧ n ≤ 512) (hx : x < 2 ^ 10) (cs : List (List Sc)) (l fi al : List Int) : ∀ (j k K : Nat), k + j = 10 → (∀ i, i < k → 2 * n ≤ x / 2 ^ i) → j < K →
    ∃ (k' : Nat) (env : Env), loopH (evC T110 KK b110x0) [0, 2, 10, 11, 12] K (canon110 st sb n x k L cs l fi al) = some (.exit 0, ⟨env, [.ptr 0 0, .int .i64 st, .int .u8 sb], tabHp (some 0) L cs l fi al⟩) ∧ x / 2 ^ k' < 2 * n ∧ (∀ i, i < k' → 2 * n ≤ x / 2 ^ i) ∧ k' ≤ 10 ∧
      getT 0 env = .one (.ptr 0 0) ∧ getT 2 env = .one (.int .u8 sb) ∧ getT 10 env = .one (.int .i64 n) ∧ getT 11 env = .one (.int .i64 x) ∧ getT 12 env = .one (.int .i64 k') := by
  intro j
  induction j with
  | zero =>
    intro k K hj hb hK
    obtain rfl : k = 10 := by omega
    have h0 : x / 2 ^ 10 = 0 := Nat.div_eq_of_lt hx
    obtain ⟨env, e, g⟩ := end110 st sb n x (10 : Nat) L ((x / 2 ^ 10 : Nat) : Int) ((2 * n : Nat) : Int) cs l fi al (by omega) (shr_in (k := .i64) (by decide)) (by rw [i64_in _ (by omega)]; omega) (by omega)
    exact ⟨10, env, loopH_exit e, by omega, hb, Nat.le_refl _, g⟩
  | succ j ih =>
    intro k K hj hb hK
    have hsh : shrI .i64 (x : Int) (k : Int) = ((x / 2 ^ k : Nat) : Int) := shr_in (k := .i64) (by show k ≤ 64; omega)
    by_cases h : 2 * n ≤ x / 2 ^ k
    · obtain ⟨st1, e1, e2⟩ := body110 st sb n x k L ((x / 2 ^ k : Nat) : Int) ((2 * n : Nat) : Int) ((k + 1 : Nat) : Int) cs l fi al (by omega) hsh (by rw [i64_in _ (by omega)]; omega) (by omega) (by rw [i64_in _ (by omega)]; omega)
      obtain ⟨k', env, q1, q2⟩ := ih (k + 1) (K - 1) (by omega) (fun i hi => by
        rcases Nat.lt_or_ge i k with h' | h'
        · exact hb i h'
        · rw [show i = k by omega]; exact h) (by omega)
      refine ⟨k', env, ?_, q2⟩
      rw [loopH_norm e1 (by omega), e2, q1]
    · obtain ⟨env, e, g⟩ := end110 st sb n x k L ((x / 2 ^ k : Nat) : Int) ((2 * n : Nat) : Int) cs l fi al (by omega) hsh (by rw [i64_in _ (by omega)]; omega) (by omega)
      exact ⟨k, env, loopH_exit e, by omega, hb, by omega, g⟩
theorem shl1 {k : Nat} (h : k ≤ 20) : shlI .i64 1 (k : Int) = ((2 ^ k : Nat) : Int) := by
  have hp : 2 ^ k ≤ 2 ^ 20 := Nat.pow_le_pow_right (by omega) h
  have hmin : Nat.min ((k : Int)).toNat 64 = k := by rw [Int.toNat_natCast]; exact Nat.min_eq_left (by omega)
  have : shlI .i64 1 (k : Int) = IntKind.i64.wrap (1 * 2 ^ Nat.min ((k : Int)).toNat 64) := rfl
  rw [this, hmin, Int.one_mul]
  have e2 : (2 : Int) ^ k = ((2 ^ k : Nat) : Int) := by push_cast; rfl
  rw [e2]
  generalize (2 ^ k : Nat) = p at *
  exact i64_in _ (by omega)
theorem and_mask10 {x L : Nat} (hx : x < 2 ^ 60) (hL : L ≤ 10) : bitsI .and .i64 (x : Int) ((2 ^ L - 1 : Nat) : Int) = ((x % 2 ^ L : Nat) : Int) := by
  have : 2 ^ L ≤ 2 ^ 10 := Nat.pow_le_pow_right (by omega) hL
  rw [bitsI_and_i64 (by omega) (by omega), Nat.and_two_pow_sub_one_eq_mod]
theorem f110 (L : Int) (st sb n f : Nat) (hsb : sb < 256) (cs : List (List Sc)) (l fi al : List Int) (hst : st < cs.length) (hcs : cs.length ≤ 512) (hl : l[sb]? = some (n : Int)) (hn : 1 ≤ n ∧ n ≤ 512) (hf : fi[sb]? = some (f : Int)) (hf2 : f ≤ 512) :
    ∃ k : Nat, (st + cs.length) / 2 ^ k < 2 * n ∧ (∀ i, i < k → 2 * n ≤ (st + cs.length) / 2 ^ i) ∧ k ≤ 10 ∧ ∀ (q : Nat) (v : Int), f + (st + cs.length) / 2 ^ k = q + n → al[q]? = some v →
      F110 [.one (.ptr 0 0), .one (.int .i64 st), .one (.int .u8 sb)] (tabHp (some 0) L cs l fi al) = some (.tup [.one (.int .i64 v), .one (.int .i64 ((st + cs.length) % 2 ^ k : Nat)), .one (.int .i64 k), .one (.bool true)], tabHp (some 0) L cs l fi al) := by
  have e113 := f113 L st cs l fi al
  rw [decide_eq_true (by omega)] at e113
  have wb : IntKind.i64.wrap (sb : Int) = sb := i64_in _ (by omega)
  have wx : IntKind.i64.wrap ((st : Int) + cs.length) = ((st + cs.length : Nat) : Int) := by rw [i64_in _ (by omega)]; omega
  obtain ⟨k, env, e, h1, h2, h3, g0, g2, g10, g11, g12⟩ := loop110 st sb L n (st + cs.length) hn (by omega) cs l fi al 10 0 KK (by omega) (fun i hi => by omega) (by rw [KK_eq]; omega)
  refine ⟨k, h1, h2, h3, fun q v hq hv => ?_⟩
  have hll := (List.getElem?_eq_some_iff.1 hl).1
  have hlf := (List.getElem?_eq_some_iff.1 hf).1
  have hla := (List.getElem?_eq_some_iff.1 hv).1
  have hl' : ∀ hh, l[sb]'hh = n := fun hh => by rw [List.getElem?_eq_getElem hh] at hl; simpa using hl
  have hf' : ∀ hh, fi[sb]'hh = f := fun hh => by rw [List.getElem?_eq_getElem hh] at hf; simpa using hf
  have hv' : ∀ hh, al[q]'hh = v := fun hh => by rw [List.getElem?_eq_getElem hh] at hv; simpa using hv
  have i1 : (sb : Int) < l.length := by omega
  have i1' : ¬ (l.length : Int) ≤ sb := by omega
  have i1'' : ¬ l.length ≤ sb := by omega
  have i2 : (sb : Int) < fi.length := by omega
  have i3 : (q : Int) < al.length := by omega
  have hn0 : ¬ (n : Int) = 0 := by omega
  have hn0' : ¬ n = 0 := by omega
  have z : ((0 : Nat) : Int) = 0 := rfl
  have hk0 : ¬ (k : Int) < 0 := by omega
  have hsh : shrI .i64 ((st + cs.length : Nat) : Int) (k : Int) = (((st + cs.length) / 2 ^ k : Nat) : Int) := shr_in (k := .i64) (by show k ≤ 64; omega)
  have hs1 := shl1 (k := k) (by omega)
  have hpk : 2 ^ k ≤ 2 ^ 10 := Nat.pow_le_pow_right (by omega) h3
  have hpk0 := Nat.two_pow_pos k
  have hm1 : IntKind.i64.wrap (((2 ^ k : Nat) : Int) - 1) = ((2 ^ k - 1 : Nat) : Int) := by rw [i64_in _ (by omega)]; omega
  have ha := and_mask10 (x := st + cs.length) (L := k) (by omega) h3
  generalize hxx : st + cs.length = x at *
  generalize hyy : x / 2 ^ k = y at *
  have wq1 : IntKind.i64.wrap ((f : Int) + (y : Int)) = ((f + y : Nat) : Int) := by rw [i64_in _ (by omega)]; omega
  have wq2 : IntKind.i64.wrap (((f + y : Nat) : Int) - n) = (q : Int) := by rw [i64_in _ (by omega)]; omega
  generalize ((x % 2 ^ k : Nat) : Int) = r at *
  generalize ((2 ^ k - 1 : Nat) : Int) = mk at *
  generalize ((2 ^ k : Nat) : Int) = pk at *
  generalize ((f + y : Nat) : Int) = fy at *
  simp only [canon110, tabHp, z] at e e113
  simp -implicitDefEqProofs [F110, c110, upd, tabHp, e113, e, g0, g2, g10, g11, g12, wb, wx, hll, hlf, hla, hl, hl', hf, hf', hv, hv', i1, i1', i1'', i2, i3, hn0, hn0', hk0, hsh, hs1, hm1, ha, wq1, wq2, RC.len, RC.size, RC.get]
def symCs (o : List Nat) : List (List Sc) := o.map fun (s : Nat) => [Sc.int .u8 (s : Int), .int .i64 0, .int .i64 0]
theorem symCs_set (o : List Nat) (a s : Nat) : (symCs o).set a [.int .u8 (s : Int), .int .i64 0, .int .i64 0] = symCs (o.set a s) := by simp [symCs, List.map_set]
def canon77a (t : Nat) (l : List Int) (L size at_ s k : Int) (cs : List (List Sc)) : St :=
  ⟨[(0, .one (.ro t (.ints .i64 l))), (1, .one (.int .i64 L)), (5, .one (.int .i64 size)), (6, .one (.row 0)), (7, .one (.int .i64 at_)), (8, .one (.int .i64 s)), (9, .one (.int .i64 k))],
    [.ro t (.ints .i64 l), .int .i64 L], [.rows none (.recs 3 cs)]⟩
theorem body77a (t : Nat) (l : List Int) (L size n k k' h8 h2 v v2 v3 at' s0 : Int) (at_ s : Nat) (cs : List (List Sc)) (hs : l[s]? = some n) (hk : k < n) (ha : cs[at_]? = some [.int .u8 s0, .int .i64 0, .int .i64 0]) (ws : IntKind.u8.wrap (s : Int) = s) (w2 : IntKind.i64.wrap (size.tdiv 2) = h2) (w8 : IntKind.i64.wrap (size.tdiv 8) = h8)
    (wv : IntKind.i64.wrap ((at_ : Int) + h2) = v) (wv2 : IntKind.i64.wrap (v + h8) = v2) (wv3 : IntKind.i64.wrap (v2 + 3) = v3) (hsz : ¬ size = 0) (hm : v3.tmod size = at') (wk : IntKind.i64.wrap (k + 1) = k') :
    ∃ st1, evC T77 KK b77x0 (canon77a t l L size at_ s k cs) = some (.norm, st1) ∧ St.head [0, 1, 5, 6, 7, 8, 9] st1 = canon77a t l L size at' s k' (cs.set at_ [.int .u8 (s : Int), .int .i64 0, .int .i64 0]) := by
  have l1 := (List.getElem?_eq_some_iff.1 hs).1
  have l2 := (List.getElem?_eq_some_iff.1 ha).1
  have l1i : (s : Int) < l.length := by omega
  have l2i : (at_ : Int) < cs.length := by omega
  have hs' : ∀ hh, l[s]'hh = n := fun hh => by rw [List.getElem?_eq_getElem hh] at hs; simpa using hs
  have ha' : ∀ hh, cs[at_]'hh = [Sc.int .u8 s0, .int .i64 0, .int .i64 0] := fun hh => by rw [List.getElem?_eq_getElem hh] at ha; simpa using ha
  simp -implicitDefEqProofs [b77x0, canon77a, upd, l1, l2, l1i, l2i, hs, hs', hk, ha, ha', ws, w2, w8, wv, wv2, wv3, hsz, hm, wk, RC.len, RC.size, RC.get, RC.set]
theorem end77a (t : Nat) (l : List Int) (L size n at_ k : Int) (s : Nat) (cs : List (List Sc)) (hs : l[s]? = some n) (hk : ¬ k < n) :
    ∃ env, evC T77 KK b77x0 (canon77a t l L size at_ s k cs) = some (.exit 2, ⟨env, [.ro t (.ints .i64 l), .int .i64 L], [.rows none (.recs 3 cs)]⟩) ∧ getT 0 env = .one (.ro t (.ints .i64 l)) ∧ getT 1 env = .one (.int .i64 L) ∧ getT 5 env = .one (.int .i64 size) ∧ getT 6 env = .one (.row 0) ∧ getT 7 env = .one (.int .i64 at_) ∧ getT 8 env = .one (.int .i64 s) := by
  have l1 := (List.getElem?_eq_some_iff.1 hs).1
  have l1i : (s : Int) < l.length := by omega
  have hs' : ∀ hh, l[s]'hh = n := fun hh => by rw [List.getElem?_eq_getElem hh] at hs; simpa using hs
  simp -implicitDefEqProofs [b77x0, canon77a, upd, l1, l1i, hs, hs', hk, RC.len, RC.size, RC.get]
theorem loop77a (t : Nat) (l : List Int) {L : Nat} (hL : 5 ≤ L ∧ L ≤ 9) (s n : Nat) (hs : s < 256) (hg : l[s]? = some (n : Int)) : ∀ (j k at_ : Nat) (out : List Nat) (K : Nat), k + j = n → n ≤ 512 → at_ < 2 ^ L → out.length = 2 ^ L → j < K →
    ∃ env, loopH (evC T77 KK b77x0) [0, 1, 5, 6, 7, 8, 9] K (canon77a t l L (2 ^ L : Nat) at_ s k (symCs out)) =
      some (.exit 2, ⟨env, [.ro t (.ints .i64 l), .int .i64 L], [.rows none (.recs 3 (symCs (place (2 ^ L) (2 ^ L / 2 + 2 ^ L / 8 + 3) out at_ (List.replicate j s)).1))]⟩) ∧
      getT 0 env = .one (.ro t (.ints .i64 l)) ∧ getT 1 env = .one (.int .i64 L) ∧ getT 5 env = .one (.int .i64 (2 ^ L : Nat)) ∧ getT 6 env = .one (.row 0) ∧ getT 7 env = .one (.int .i64 (place (2 ^ L) (2 ^ L / 2 + 2 ^ L / 8 + 3) out at_ (List.replicate j s)).2) ∧ getT 8 env = .one (.int .i64 s)
  | 0, k, at_, out, K, hj, hn, ha, ho, hK => by
    obtain rfl : k = n := by omega
    obtain ⟨env, e, g⟩ := end77a t l L (2 ^ L : Nat) _ at_ k s (symCs out) hg (by omega)
    simp only [List.replicate_zero, place]
    exact ⟨env, loopH_exit e, g⟩
  | j + 1, k, at_, out, K, hj, hn, ha, ho, hK => by
    have hp : 2 ^ L ≤ 2 ^ 9 := Nat.pow_le_pow_right (by omega) hL.2
    have hp0 := Nat.two_pow_pos L
    have t2 : IntKind.i64.wrap (((2 ^ L : Nat) : Int).tdiv 2) = ((2 ^ L / 2 : Nat) : Int) := by
      rw [show ((2 ^ L : Nat) : Int).tdiv 2 = ((2 ^ L / 2 : Nat) : Int) from (Int.ofNat_tdiv _ 2).symm]; exact i64_in _ (by omega)
    have t8 : IntKind.i64.wrap (((2 ^ L : Nat) : Int).tdiv 8) = ((2 ^ L / 8 : Nat) : Int) := by
      rw [show ((2 ^ L : Nat) : Int).tdiv 8 = ((2 ^ L / 8 : Nat) : Int) from (Int.ofNat_tdiv _ 8).symm]; exact i64_in _ (by omega)
    obtain ⟨s0, hs0⟩ : ∃ s0, out[at_]? = some s0 := ⟨_, List.getElem?_eq_getElem (by omega)⟩
    have hc : (symCs out)[at_]? = some [Sc.int .u8 (s0 : Int), .int .i64 0, .int .i64 0] := by simp [symCs, hs0]
    have hmod : (((at_ + (2 ^ L / 2 + 2 ^ L / 8 + 3) : Nat) : Int)).tmod ((2 ^ L : Nat) : Int) = (((at_ + (2 ^ L / 2 + 2 ^ L / 8 + 3)) % 2 ^ L : Nat) : Int) := (Int.ofNat_tmod _ _).symm
    obtain ⟨st1, e1, e2⟩ := body77a t l L (2 ^ L : Nat) n k ((k + 1 : Nat) : Int) _ _ ((at_ + 2 ^ L / 2 : Nat) : Int) ((at_ + 2 ^ L / 2 + 2 ^ L / 8 : Nat) : Int) ((at_ + (2 ^ L / 2 + 2 ^ L / 8 + 3) : Nat) : Int) _ s0 at_ s (symCs out) hg (by omega) hc (u8_in _ (by omega)) t2 t8
      (by rw [i64_in _ (by omega)]; omega) (by rw [i64_in _ (by omega)]; omega) (by rw [i64_in _ (by omega)]; omega) (by omega) hmod (by rw [i64_in _ (by omega)]; omega)
    obtain ⟨env, q1, q2⟩ := loop77a t l hL s n hs hg j (k + 1) ((at_ + (2 ^ L / 2 + 2 ^ L / 8 + 3)) % 2 ^ L) (out.set at_ s) (K - 1) (by omega) hn (Nat.mod_lt _ hp0) (by simpa using ho) (by omega)
    refine ⟨env, ?_, ?_⟩
    · rw [loopH_norm e1 (by omega), e2, symCs_set, q1]
      simp only [List.replicate_succ, place]
    · simp only [List.replicate_succ, place]; exact q2
def canon77b (t : Nat) (l : List Int) (L size at_ s : Int) (cs : List (List Sc)) : St :=
  ⟨[(0, .one (.ro t (.ints .i64 l))), (1, .one (.int .i64 L)), (5, .one (.int .i64 size)), (6, .one (.row 0)), (7, .one (.int .i64 at_)), (8, .one (.int .i64 s))],
    [.ro t (.ints .i64 l), .int .i64 L], [.rows none (.recs 3 cs)]⟩
theorem body77b (t : Nat) (l : List Int) (L size at_ at' s' : Int) (s : Nat) (cs cs' : List (List Sc)) (env : Env) (hi : s < l.length) (wi : IntKind.i64.wrap ((s : Int) + 1) = s')
    (e : loopH (evC T77 KK b77x0) [0, 1, 5, 6, 7, 8, 9] KK (canon77a t l L size at_ s 0 cs) = some (.exit 2, ⟨env, [.ro t (.ints .i64 l), .int .i64 L], [.rows none (.recs 3 cs')]⟩))
    (g0 : getT 0 env = .one (.ro t (.ints .i64 l))) (g1 : getT 1 env = .one (.int .i64 L)) (g5 : getT 5 env = .one (.int .i64 size)) (g6 : getT 6 env = .one (.row 0)) (g7 : getT 7 env = .one (.int .i64 at')) (g8 : getT 8 env = .one (.int .i64 s)) :
    ∃ st1, evC T77 KK b77x1 (canon77b t l L size at_ s cs) = some (.norm, st1) ∧ St.head [0, 1, 5, 6, 7, 8] st1 = canon77b t l L size at' s' cs' := by
  have hii : (s : Int) < l.length := by omega
  simp only [canon77a] at e
  simp -implicitDefEqProofs [b77x1, canon77b, upd, hi, hii, wi, e, g0, g1, g5, g6, g7, g8, RC.len]
theorem end77b (t : Nat) (l : List Int) (L size at_ s : Int) (cs : List (List Sc)) (hi : ¬ s < l.length) :
    ∃ env, evC T77 KK b77x1 (canon77b t l L size at_ s cs) = some (.exit 0, ⟨env, [.ro t (.ints .i64 l), .int .i64 L], [.rows none (.recs 3 cs)]⟩) ∧ getT 0 env = .one (.ro t (.ints .i64 l)) ∧ getT 1 env = .one (.int .i64 L) ∧ getT 5 env = .one (.int .i64 size) ∧ getT 6 env = .one (.row 0) := by
  simp -implicitDefEqProofs [b77x1, canon77b, upd, hi, RC.len]
theorem loop77b (t : Nat) (l : List Int) (sh : List Nat) {L : Nat} (S : Shr l L sh) : ∀ (j i at_ : Nat) (out : List Nat) (K : Nat), i + j = sh.length → at_ < 2 ^ L → out.length = 2 ^ L → j < K →
    ∃ env, loopH (evC T77 KK b77x1) [0, 1, 5, 6, 7, 8] K (canon77b t l L (2 ^ L : Nat) at_ i (symCs out)) = some (.exit 0, ⟨env, [.ro t (.ints .i64 l), .int .i64 L], [.rows none (.recs 3 (symCs (place (2 ^ L) (2 ^ L / 2 + 2 ^ L / 8 + 3) out at_ (runs i (sh.drop i))).1))]⟩) ∧
      getT 0 env = .one (.ro t (.ints .i64 l)) ∧ getT 1 env = .one (.int .i64 L) ∧ getT 5 env = .one (.int .i64 (2 ^ L : Nat)) ∧ getT 6 env = .one (.row 0)
  | 0, i, at_, out, K, hj, ha, ho, hK => by
    have hl : l.length = sh.length := by rw [S.eq]; simp
    obtain ⟨env, e, g⟩ := end77b t l L (2 ^ L : Nat) at_ i (symCs out) (by omega)
    rw [List.drop_eq_nil_of_le (by omega)]
    simp only [runs, place]
    exact ⟨env, loopH_exit e, g⟩
  | j + 1, i, at_, out, K, hj, ha, ho, hK => by
    have hl : l.length = sh.length := by rw [S.eq]; simp
    have hlen := S.len
    have hi : i < sh.length := by omega
    have hg : l[i]? = some ((sh[i] : Nat) : Int) := by rw [S.eq]; simp [hi]
    have hle : sh[i] ≤ 512 := by
      have h1 := fstS_succ hi
      have h2 := fstS_le sh (i + 1)
      have := S.sum
      have := S.size
      omega
    have hpos := Nat.two_pow_pos L
    obtain ⟨env0, ein, g0, g1, g5, g6, g7, g8⟩ := loop77a t l ⟨S.lo, S.hi⟩ i sh[i] (by omega) hg sh[i] 0 at_ out KK (by omega) hle ha ho (by rw [KK_eq]; omega)
    obtain ⟨st1, e1, e2⟩ := body77b t l L (2 ^ L : Nat) at_ _ ((i + 1 : Nat) : Int) i (symCs out) _ env0 (by omega) (by rw [i64_in _ (by omega)]; omega) ein g0 g1 g5 g6 g7 g8
    have ha' := place_at (step := 2 ^ L / 2 + 2 ^ L / 8 + 3) hpos (List.replicate sh[i] i) out at_ ha
    obtain ⟨env, q1, q2⟩ := loop77b t l sh S j (i + 1) _ (place (2 ^ L) (2 ^ L / 2 + 2 ^ L / 8 + 3) out at_ (List.replicate sh[i] i)).1 (K - 1) (by omega) ha'.2 (by rw [place_length]; exact ho) (by omega)
    refine ⟨env, ?_, q2⟩
    rw [loopH_norm e1 (by omega), e2, q1, List.drop_eq_getElem_cons hi]
    simp only [runs, place_append]
def canon77c (t : Nat) (l : List Int) (L size s x i : Int) (cs : List (List Sc)) : St :=
  ⟨[(0, .one (.ro t (.ints .i64 l))), (1, .one (.int .i64 L)), (5, .one (.int .i64 size)), (6, .one (.row 0)), (10, .one (.int .i64 s)), (11, .one (.int .i64 x)), (12, .one (.int .i64 i))],
    [.ro t (.ints .i64 l), .int .i64 L], [.rows none (.recs 3 cs)]⟩
theorem skip37c (t : Nat) (l : List Int) (L size x n i' s0 c1 c2 : Int) (s i : Nat) (cs : List (List Sc)) (hs : l[s]? = some n) (hn : 0 < n) (hi : (i : Int) < size) (hc : cs[i]? = some [.int .u8 s0, .int .i64 c1, .int .i64 c2]) (ws : IntKind.i64.wrap s0 = s0) (hne : ¬ s0 = s) (wi : IntKind.i64.wrap ((i : Int) + 1) = i') :
    ∃ st1, evC T77 KK b77x2 (canon77c t l L size s x i cs) = some (.norm, st1) ∧ St.head [0, 1, 5, 6, 10, 11, 12] st1 = canon77c t l L size s x i' cs := by
  have l1 := (List.getElem?_eq_some_iff.1 hs).1
  have l2 := (List.getElem?_eq_some_iff.1 hc).1
  have l1i : (s : Int) < l.length := by omega
  have l2i : (i : Int) < cs.length := by omega
  have hs' : ∀ hh, l[s]'hh = n := fun hh => by rw [List.getElem?_eq_getElem hh] at hs; simpa using hs
  have hc' : ∀ hh, cs[i]'hh = [Sc.int .u8 s0, .int .i64 c1, .int .i64 c2] := fun hh => by rw [List.getElem?_eq_getElem hh] at hc; simpa using hc
  simp -implicitDefEqProofs [b77x2, canon77c, upd, l1, l2, l1i, l2i, hs, hs', hn, hi, hc, hc', ws, hne, wi, RC.len, RC.size, RC.get, RC.set]
theorem body77c (t : Nat) (l : List Int) (L size x n i' x' w b0 b p xp base c1 c2 : Int) (s i : Nat) (cs : List (List Sc)) (hs : l[s]? = some n) (hn : 0 < n) (hi : (i : Int) < size) (hc : cs[i]? = some [.int .u8 (s : Int), .int .i64 c1, .int .i64 c2]) (ws : IntKind.i64.wrap (s : Int) = s)
    (wu : IntKind.u32.wrap x = x) (e99 : F99 [.one (.int .u32 x)] [] = some (.one (.int .i64 w), [])) (wb0 : IntKind.i64.wrap (L - w) = b0) (wb : IntKind.i64.wrap (b0 + 1) = b) (e28 : F28 [.one (.int .i64 b)] [] = some (.one (.int .i64 p), [])) (wxp : IntKind.i64.wrap (x * p) = xp) (wbs : IntKind.i64.wrap (xp - size) = base)
    (wx : IntKind.i64.wrap (x + 1) = x') (wi : IntKind.i64.wrap ((i : Int) + 1) = i') :
    ∃ st1, evC T77 KK b77x2 (canon77c t l L size s x i cs) = some (.norm, st1) ∧ St.head [0, 1, 5, 6, 10, 11, 12] st1 = canon77c t l L size s x' i' (cs.set i [.int .u8 (s : Int), .int .i64 b, .int .i64 base]) := by
  have l1 := (List.getElem?_eq_some_iff.1 hs).1
  have l2 := (List.getElem?_eq_some_iff.1 hc).1
  have l1i : (s : Int) < l.length := by omega
  have l2i : (i : Int) < cs.length := by omega
  have hs' : ∀ hh, l[s]'hh = n := fun hh => by rw [List.getElem?_eq_getElem hh] at hs; simpa using hs
  have hc' : ∀ hh, cs[i]'hh = [Sc.int .u8 (s : Int), .int .i64 c1, .int .i64 c2] := fun hh => by rw [List.getElem?_eq_getElem hh] at hc; simpa using hc
  simp -implicitDefEqProofs [b77x2, canon77c, upd, l1, l2, l1i, l2i, hs, hs', hn, hi, hc, hc', ws, wu, e99, wb0, wb, e28, wxp, wbs, wx, wi, RC.len, RC.size, RC.get, RC.set]
theorem end77c (t : Nat) (l : List Int) (L size x n i : Int) (s : Nat) (cs : List (List Sc)) (hs : l[s]? = some n) (h : ¬ i < size ∨ ¬ 0 < n) :
    ∃ env, evC T77 KK b77x2 (canon77c t l L size s x i cs) = some (.exit 6, ⟨env, [.ro t (.ints .i64 l), .int .i64 L], [.rows none (.recs 3 cs)]⟩) ∧ getT 0 env = .one (.ro t (.ints .i64 l)) ∧ getT 1 env = .one (.int .i64 L) ∧ getT 5 env = .one (.int .i64 size) ∧ getT 6 env = .one (.row 0) ∧ getT 10 env = .one (.int .i64 s) := by
  have l1 := (List.getElem?_eq_some_iff.1 hs).1
  have l1i : (s : Int) < l.length := by omega
  have hs' : ∀ hh, l[s]'hh = n := fun hh => by rw [List.getElem?_eq_getElem hh] at hs; simpa using hs
  by_cases h1 : i < size
  · have h2 : ¬ 0 < n := by rcases h with h | h; exact absurd h1 h; exact h
    simp -implicitDefEqProofs [b77x2, canon77c, upd, l1, l1i, hs, hs', h1, h2, RC.len, RC.size, RC.get]
  · simp -implicitDefEqProofs [b77x2, canon77c, upd, h1]
def cellsAt (L : Nat) (sh : List Nat) (s i : Nat) : List (List Sc) := (List.range (2 ^ L)).map fun j => if (symOf sh).getD j 0 < s ∨ ((symOf sh).getD j 0 = s ∧ j < i) then cellSc L sh j else [.int .u8 (((symOf sh).getD j 0 : Nat) : Int), .int .i64 0, .int .i64 0]
theorem cellsAt_get (L : Nat) (sh : List Nat) (s i j : Nat) (h : j < 2 ^ L) : ∃ c1 c2 : Int, (cellsAt L sh s i)[j]? = some [.int .u8 (((symOf sh).getD j 0 : Nat) : Int), .int .i64 c1, .int .i64 c2] := by
  simp only [cellsAt, List.getElem?_map, List.getElem?_range h, Option.map_some]
  split
  · exact ⟨_, _, rfl⟩
  · exact ⟨_, _, rfl⟩
theorem cellsAt_skip {L : Nat} {sh : List Nat} {s i : Nat} (h : (symOf sh).getD i 0 ≠ s) : cellsAt L sh s (i + 1) = cellsAt L sh s i := by
  apply List.map_congr_left
  intro j _
  by_cases e : j = i
  · subst e
    have : ((symOf sh).getD j 0 < s ∨ ((symOf sh).getD j 0 = s ∧ j < j + 1)) ↔ ((symOf sh).getD j 0 < s ∨ ((symOf sh).getD j 0 = s ∧ j < j)) := by omega
    simp only [this]
  · have : (j < i + 1) ↔ j < i := by omega
    simp only [this]
theorem cellsAt_set {L : Nat} {sh : List Nat} {s i : Nat} (h : (symOf sh).getD i 0 = s) : (cellsAt L sh s i).set i (cellSc L sh i) = cellsAt L sh s (i + 1) := by
  apply List.ext_getElem (by simp [cellsAt])
  intro k h1 h2
  rw [List.getElem_set]
  simp only [cellsAt, List.getElem_map, List.getElem_range]
  by_cases e : i = k
  · subst e; rw [if_pos rfl, if_pos (.inr ⟨h, by omega⟩)]
  · rw [if_neg e]
    have : (k < i + 1) ↔ k < i := by omega
    simp only [this]
theorem cellsAt_next {L : Nat} {sh : List Nat} {s : Nat} : cellsAt L sh s (2 ^ L) = cellsAt L sh (s + 1) 0 := by
  apply List.map_congr_left
  intro j hj
  have hj := List.mem_range.1 hj
  have : ((symOf sh).getD j 0 < s ∨ ((symOf sh).getD j 0 = s ∧ j < 2 ^ L)) ↔ ((symOf sh).getD j 0 < s + 1 ∨ ((symOf sh).getD j 0 = s + 1 ∧ j < 0)) := by omega
  simp only [this]
theorem cellsAt_none {L : Nat} {sh : List Nat} {s : Nat} (h : ∀ j, j < 2 ^ L → (symOf sh).getD j 0 ≠ s) : cellsAt L sh s 0 = cellsAt L sh (s + 1) 0 := by
  apply List.map_congr_left
  intro j hj
  have hj := h j (List.mem_range.1 hj)
  have : ((symOf sh).getD j 0 < s ∨ ((symOf sh).getD j 0 = s ∧ j < 0)) ↔ ((symOf sh).getD j 0 < s + 1 ∨ ((symOf sh).getD j 0 = s + 1 ∧ j < 0)) := by omega
  simp only [this]
theorem getD_some {S : List Nat} {i s : Nat} (h : S[i]? = some s) : S.getD i 0 = s := by simp [List.getD, h]
theorem loop77c (t : Nat) (l : List Int) (sh : List Nat) {L : Nat} (S : Shr l L sh) (s n : Nat) (hs : sh[s]? = some n) (hn : 0 < n) : ∀ (j i : Nat) (K : Nat), i + j = 2 ^ L → j < K →
    ∃ env, loopH (evC T77 KK b77x2) [0, 1, 5, 6, 10, 11, 12] K (canon77c t l L (2 ^ L : Nat) s (n + ((symOf sh).take i).count s : Nat) i (cellsAt L sh s i)) = some (.exit 6, ⟨env, [.ro t (.ints .i64 l), .int .i64 L], [.rows none (.recs 3 (cellsAt L sh (s + 1) 0))]⟩) ∧
      getT 0 env = .one (.ro t (.ints .i64 l)) ∧ getT 1 env = .one (.int .i64 L) ∧ getT 5 env = .one (.int .i64 (2 ^ L : Nat)) ∧ getT 6 env = .one (.row 0) ∧ getT 10 env = .one (.int .i64 s)
  | 0, i, K, hj, hK => by
    obtain rfl : i = 2 ^ L := by omega
    have hg : l[s]? = some (n : Int) := by rw [S.eq, List.getElem?_map, hs]; rfl
    obtain ⟨env, e, g⟩ := end77c t l L (2 ^ L : Nat) (n + ((symOf sh).take (2 ^ L)).count s : Nat) n (2 ^ L : Nat) s (cellsAt L sh s (2 ^ L)) hg (.inl (by omega))
    rw [cellsAt_next] at e ⊢
    exact ⟨env, loopH_exit e, g⟩
  | j + 1, i, K, hj, hK => by
    have hsz := S.size
    have hsl : (symOf sh).length = 2 ^ L := by rw [symOf_length, S.sum]
    have hi : i < (symOf sh).length := by omega
    have hlen := S.len
    have hsl2 := (List.getElem?_eq_some_iff.1 hs).1
    have hg : l[s]? = some (n : Int) := by rw [S.eq, List.getElem?_map, hs]; rfl
    obtain ⟨s', hs'⟩ : ∃ s', (symOf sh)[i]? = some s' := ⟨_, List.getElem?_eq_getElem hi⟩
    have hsD := getD_some hs'
    obtain ⟨c1, c2, hc⟩ := cellsAt_get L sh s i i (by omega)
    rw [hsD] at hc
    have hlt' := sym_lt S.sum S.lo hs'
    have hcs := count_take_succ (x := s) hi
    rw [show (symOf sh)[i] = s' from (List.getElem?_eq_some_iff.1 hs').2] at hcs
    by_cases e : s' = s
    · subst e
      rw [if_pos rfl] at hcs
      obtain ⟨n', hn', hy, hr, hnL⟩ := y_bd S.sum S.lo hs'
      rw [hs] at hn'; simp at hn'; subst hn'
      generalize hce : ((symOf sh).take i).count s' = c at *
      have hyb : yOf sh i < 2 ^ (L + 1) := by rw [Nat.pow_succ]; omega
      obtain ⟨b1, b2, b3, b4⟩ := cell_bd (L := L) (y := yOf sh i) (by omega) hyb
      have hL9 := S.hi
      have e99 := e99 ((n + c : Nat) : Int) (by omega) (by omega)
      rw [Int.toNat_natCast, ← hy] at e99
      have hb : bOf L sh i = L + 1 - bl (yOf sh i) := rfl
      have hbase : baseOf L sh i = yOf sh i * 2 ^ bOf L sh i - 2 ^ L := rfl
      rw [← hb] at b3 b4
      have hpw : 2 ^ (L + 1) ≤ 1024 := by rw [Nat.pow_succ]; omega
      have hmul : yOf sh i * 2 ^ bOf L sh i ≤ 1024 := by
        have : yOf sh i * 2 ^ bOf L sh i ≤ (yOf sh i + 1) * 2 ^ bOf L sh i := Nat.mul_le_mul_right _ (by omega)
        omega
      have e28 := e28 ((bOf L sh i : Nat) : Int) (by omega) (by omega)
      rw [Int.toNat_natCast] at e28
      have wxp : IntKind.i64.wrap (((yOf sh i : Nat) : Int) * ((2 ^ bOf L sh i : Nat) : Int)) = ((yOf sh i * 2 ^ bOf L sh i : Nat) : Int) := by
        rw [← Int.natCast_mul]; exact i64_in _ (by omega)
      obtain ⟨st1, q1, q2⟩ := body77c t l L (2 ^ L : Nat) ((yOf sh i : Nat) : Int) n ((i + 1 : Nat) : Int) ((n + (c + 1) : Nat) : Int) ((bl (yOf sh i) : Nat) : Int) ((L : Int) - bl (yOf sh i)) ((bOf L sh i : Nat) : Int) ((2 ^ bOf L sh i : Nat) : Int) _ ((baseOf L sh i : Nat) : Int) c1 c2 s' i (cellsAt L sh s' i) hg (by omega) (by omega) hc
        (i64_in _ (by omega)) (u32_in _ (by omega)) e99 (i64_in _ (by omega)) (by rw [i64_in _ (by omega)]; omega) e28 wxp (by rw [i64_in _ (by omega)]; omega) (by rw [i64_in _ (by omega)]; omega) (by rw [i64_in _ (by omega)]; omega)
      have ecell : [Sc.int .u8 (s' : Int), .int .i64 ((bOf L sh i : Nat) : Int), .int .i64 ((baseOf L sh i : Nat) : Int)] = cellSc L sh i := by simp [cellSc, List.getD, hs']
      rw [ecell, cellsAt_set hsD] at q2
      obtain ⟨env, r1, r2⟩ := loop77c t l sh S s' n hs hn j (i + 1) (K - 1) (by omega) (by omega)
      rw [hcs] at r1
      refine ⟨env, ?_, r2⟩
      rw [← hy, loopH_norm q1 (by omega), q2, r1]
    · rw [if_neg e] at hcs
      have hcs : ((symOf sh).take (i + 1)).count s = ((symOf sh).take i).count s := hcs
      obtain ⟨st1, q1, q2⟩ := skip37c t l L (2 ^ L : Nat) (n + ((symOf sh).take i).count s : Nat) n ((i + 1 : Nat) : Int) s' c1 c2 s i (cellsAt L sh s i) hg (by omega) (by omega) hc (i64_in _ (by omega)) (by omega) (by rw [i64_in _ (by omega)]; omega)
      obtain ⟨env, r1, r2⟩ := loop77c t l sh S s n hs hn j (i + 1) (K - 1) (by omega) (by omega)
      rw [hcs, cellsAt_skip (by rw [hsD]; exact e)] at r1
      refine ⟨env, ?_, r2⟩
      rw [loopH_norm q1 (by omega), q2, r1]
def canon77d (t : Nat) (l : List Int) (L size s : Int) (cs : List (List Sc)) : St :=
  ⟨[(0, .one (.ro t (.ints .i64 l))), (1, .one (.int .i64 L)), (5, .one (.int .i64 size)), (6, .one (.row 0)), (10, .one (.int .i64 s))],
    [.ro t (.ints .i64 l), .int .i64 L], [.rows none (.recs 3 cs)]⟩
theorem body77d (t : Nat) (l : List Int) (L size n s' : Int) (s : Nat) (cs cs' : List (List Sc)) (env : Env) (hs : l[s]? = some n) (wi : IntKind.i64.wrap ((s : Int) + 1) = s')
    (e : loopH (evC T77 KK b77x2) [0, 1, 5, 6, 10, 11, 12] KK (canon77c t l L size s n 0 cs) = some (.exit 6, ⟨env, [.ro t (.ints .i64 l), .int .i64 L], [.rows none (.recs 3 cs')]⟩))
    (g0 : getT 0 env = .one (.ro t (.ints .i64 l))) (g1 : getT 1 env = .one (.int .i64 L)) (g5 : getT 5 env = .one (.int .i64 size)) (g6 : getT 6 env = .one (.row 0)) (g10 : getT 10 env = .one (.int .i64 s)) :
    ∃ st1, evC T77 KK b77x3 (canon77d t l L size s cs) = some (.norm, st1) ∧ St.head [0, 1, 5, 6, 10] st1 = canon77d t l L size s' cs' := by
  have l1 := (List.getElem?_eq_some_iff.1 hs).1
  have l1i : (s : Int) < l.length := by omega
  have hs' : ∀ hh, l[s]'hh = n := fun hh => by rw [List.getElem?_eq_getElem hh] at hs; simpa using hs
  simp only [canon77c] at e
  simp -implicitDefEqProofs [b77x3, canon77d, upd, l1, l1i, hs, hs', wi, e, g0, g1, g5, g6, g10, RC.len, RC.size, RC.get]
theorem end77d (t : Nat) (l : List Int) (L size s : Int) (cs : List (List Sc)) (hi : ¬ s < l.length) :
    ∃ env, evC T77 KK b77x3 (canon77d t l L size s cs) = some (.exit 4, ⟨env, [.ro t (.ints .i64 l), .int .i64 L], [.rows none (.recs 3 cs)]⟩) ∧ getT 6 env = .one (.row 0) := by
  simp -implicitDefEqProofs [b77x3, canon77d, upd, hi, RC.len]
theorem loop77d (t : Nat) (l : List Int) (sh : List Nat) {L : Nat} (S : Shr l L sh) : ∀ (j s : Nat) (K : Nat), s + j = sh.length → j < K →
    ∃ env, loopH (evC T77 KK b77x3) [0, 1, 5, 6, 10] K (canon77d t l L (2 ^ L : Nat) s (cellsAt L sh s 0)) = some (.exit 4, ⟨env, [.ro t (.ints .i64 l), .int .i64 L], [.rows none (.recs 3 (cellsTo L sh (2 ^ L)))]⟩) ∧ getT 6 env = .one (.row 0)
  | 0, s, K, hj, hK => by
    have hl : l.length = sh.length := by rw [S.eq]; simp
    obtain rfl : s = sh.length := by omega
    obtain ⟨env, e, g⟩ := end77d t l L (2 ^ L : Nat) sh.length (cellsAt L sh sh.length 0) (by omega)
    have : cellsAt L sh sh.length 0 = cellsTo L sh (2 ^ L) := by
      apply List.map_congr_left
      intro j hj
      have hj := List.mem_range.1 hj
      have hsl : (symOf sh).length = 2 ^ L := by rw [symOf_length, S.sum]
      have h1 : (symOf sh)[j]? = some (symOf sh)[j] := List.getElem?_eq_getElem (by omega)
      have h2 := sym_lt S.sum S.lo h1
      rw [getD_some h1, if_pos (.inl h2), if_pos hj]
    rw [this] at e ⊢
    exact ⟨env, loopH_exit e, g⟩
  | j + 1, s, K, hj, hK => by
    have hl : l.length = sh.length := by rw [S.eq]; simp
    have hlen := S.len
    have hsz := S.size
    have hi : s < sh.length := by omega
    have hs : sh[s]? = some sh[s] := List.getElem?_eq_getElem hi
    have hg : l[s]? = some ((sh[s] : Nat) : Int) := by rw [S.eq]; simp [hi]
    have key : ∃ env, loopH (evC T77 KK b77x2) [0, 1, 5, 6, 10, 11, 12] KK (canon77c t l L (2 ^ L : Nat) s (sh[s] : Nat) (0 : Nat) (cellsAt L sh s 0)) = some (.exit 6, ⟨env, [.ro t (.ints .i64 l), .int .i64 L], [.rows none (.recs 3 (cellsAt L sh (s + 1) 0))]⟩) ∧
      getT 0 env = .one (.ro t (.ints .i64 l)) ∧ getT 1 env = .one (.int .i64 L) ∧ getT 5 env = .one (.int .i64 (2 ^ L : Nat)) ∧ getT 6 env = .one (.row 0) ∧ getT 10 env = .one (.int .i64 s) := by
      rcases Nat.eq_zero_or_pos sh[s] with h0 | h0
      · obtain ⟨env, e, g⟩ := end77c t l L (2 ^ L : Nat) (sh[s] : Nat) (sh[s] : Nat) (0 : Nat) s (cellsAt L sh s 0) hg (.inr (by omega))
        have hno : ∀ j, j < 2 ^ L → (symOf sh).getD j 0 ≠ s := by
          intro j hj e
          have hsl : (symOf sh).length = 2 ^ L := by rw [symOf_length, S.sum]
          have h1 : (symOf sh)[j]? = some (symOf sh)[j] := List.getElem?_eq_getElem (by omega)
          rw [getD_some h1] at e
          rw [e] at h1
          have := rk_lt h1
          rw [sym_count S.sum S.lo, hs, h0] at this
          simp at this
        rw [cellsAt_none hno] at e
        rw [cellsAt_none hno]
        exact ⟨env, loopH_exit e, g⟩
      · have := loop77c t l sh S s sh[s] hs h0 (2 ^ L) 0 KK (by omega) (by rw [KK_eq]; omega)
        simpa using this
    obtain ⟨env0, ein, g0, g1, g5, g6, g10⟩ := key
    obtain ⟨st1, e1, e2⟩ := body77d t l L (2 ^ L : Nat) (sh[s] : Nat) ((s + 1 : Nat) : Int) s (cellsAt L sh s 0) _ env0 hg (by rw [i64_in _ (by omega)]; omega) ein g0 g1 g5 g6 g10
    obtain ⟨env, q1, q2⟩ := loop77d t l sh S j (s + 1) (K - 1) (by omega) (by omega)
    refine ⟨env, ?_, q2⟩
    rw [loopH_norm e1 (by omega), e2, q1]
theorem f77 (t : Nat) (l : List Int) (sh : List Nat) {L : Nat} (S : Shr l L sh) : F77 [.one (.ro t (.ints .i64 l)), .one (.int .i64 L)] [] = some (.one (.row 0), [.rows none (.recs 3 (cellsTo L sh (2 ^ L)))]) := by
  have hsz := S.size
  have hlen := S.len
  have h5 := S.lo
  have h9 := S.hi
  have e28 := e28 (L : Int) (by omega) (by omega)
  rw [Int.toNat_natCast] at e28
  obtain ⟨env, ea, g0, g1, g5, g6⟩ := loop77b t l sh S sh.length 0 0 (List.replicate (2 ^ L) 0) KK (by omega) (by omega) (by simp) (by rw [KK_eq]; omega)
  obtain ⟨env2, eb, k6⟩ := loop77d t l sh S sh.length 0 KK (by omega) (by rw [KK_eq]; omega)
  have hsym : (place (2 ^ L) (2 ^ L / 2 + 2 ^ L / 8 + 3) (List.replicate (2 ^ L) 0) 0 (runs 0 (sh.drop 0))).1 = symOf sh := by
    unfold symOf; rw [S.sum]; rfl
  have hc0 : symCs (symOf sh) = cellsAt L sh 0 0 := by
    have hsl : (symOf sh).length = 2 ^ L := by rw [symOf_length, S.sum]
    apply List.ext_getElem (by simp [symCs, cellsAt, hsl])
    intro k h1 h2
    have hk : k < (symOf sh).length := by simpa [symCs] using h1
    simp [symCs, cellsAt, List.getD, List.getElem?_eq_getElem hk]
  have hz : symCs (List.replicate (2 ^ L) 0) = List.replicate (2 ^ L) [.int .u8 0, .int .i64 0, .int .i64 0] := by simp [symCs]
  rw [hsym, hc0, hz] at ea
  generalize cellsAt L sh 0 0 = cs0 at *
  generalize hcs : cellsTo L sh (2 ^ L) = cs at *
  generalize 2 ^ L = sz at *
  have n3 : (sz : Int) * 24 ≤ 140737488355328 := by omega
  have mk1 := fun n => mks_recs n 3 [.int .u8 0, .int .i64 0, .int .i64 0] rfl
  have z : ((0 : Nat) : Int) = 0 := rfl
  simp only [canon77b, canon77d, z] at ea eb
  simp -implicitDefEqProofs [F77, c77, upd, e28, ea, eb, g0, g1, g5, g6, k6, n3, mk1, RC.len, RC.size]
theorem cellsTo_get {L : Nat} {sh : List Nat} {i : Nat} (h : i < 2 ^ L) : (cellsTo L sh (2 ^ L))[i]? = some (cellSc L sh i) := by
  simp [cellsTo, List.getElem?_map, List.getElem?_range h, h]
def canon8 (l : List Int) (L st i : Int) (cs : List (List Sc)) (fi al : List Int) : St :=
  ⟨[(2, .one (.int .i64 st)), (7, .one (.ptr 0 0)), (11, .one (.row 5)), (72, .one (.row 5)), (73, .one (.int .i64 cs.length)), (74, .one (.int .i64 i))],
    [.ro 0 (.ints .i64 l), .int .i64 L, .int .i64 st], tabHp none L cs l fi al ++ [.rows none (.recs 3 cs)]⟩
def inCell (st sb : Int) : List Sc → Bool
  | [.int _ s, .int _ b, .int _ base] => decide (s = sb ∧ base ≤ st ∧ st < base + ((2 ^ b.toNat : Nat) : Int))
  | _ => false
def CellOk (c : List Sc) : Prop := ∃ s b base : Int, c = [.int .u8 s, .int .i64 b, .int .i64 base] ∧ 0 ≤ b ∧ b ≤ 10 ∧ 0 ≤ base ∧ base ≤ 2000
theorem cellSc_ok {l : List Int} {sh : List Nat} {L : Nat} (S : Shr l L sh) {i : Nat} (hi : i < 2 ^ L) : ∃ s n : Nat, (symOf sh)[i]? = some s ∧ sh[s]? = some n ∧ yOf sh i = n + ((symOf sh).take i).count s ∧ ((symOf sh).take i).count s < n ∧ n ≤ 2 ^ L ∧ s < 256 ∧
    cellSc L sh i = [.int .u8 s, .int .i64 (bOf L sh i : Nat), .int .i64 (baseOf L sh i : Nat)] ∧ bOf L sh i ≤ L ∧ baseOf L sh i + 2 ^ L = yOf sh i * 2 ^ bOf L sh i ∧ (yOf sh i + 1) * 2 ^ bOf L sh i ≤ 2 ^ (L + 1) := by
  have hsl : (symOf sh).length = 2 ^ L := by rw [symOf_length, S.sum]
  obtain ⟨s, hs⟩ : ∃ s, (symOf sh)[i]? = some s := ⟨_, List.getElem?_eq_getElem (by omega)⟩
  obtain ⟨n, hn, hy, hr, hnL⟩ := y_bd S.sum S.lo hs
  have hlt := sym_lt S.sum S.lo hs
  have hlen := S.len
  have hyb : yOf sh i < 2 ^ (L + 1) := by rw [Nat.pow_succ]; omega
  obtain ⟨b1, b2, b3, b4⟩ := cell_bd (L := L) (y := yOf sh i) (by omega) hyb
  have hb : bOf L sh i = L + 1 - bl (yOf sh i) := rfl
  have hbase : baseOf L sh i = yOf sh i * 2 ^ bOf L sh i - 2 ^ L := rfl
  rw [← hb] at b3 b4
  exact ⟨s, n, hs, hn, hy, hr, hnL, by omega, by simp [cellSc, List.getD, hs], by omega, by omega, b4⟩
theorem in_iff {l : List Int} {sh : List Nat} {L : Nat} (S : Shr l L sh) {st sb n k i : Nat} (hst : st < 2 ^ L) (hn : sh[sb]? = some n) (hn1 : 1 ≤ n) (hk1 : (st + 2 ^ L) / 2 ^ k < 2 * n) (hk2 : n ≤ (st + 2 ^ L) / 2 ^ k) (hi : i < 2 ^ L) :
    inCell st sb (cellSc L sh i) = decide ((symOf sh)[i]? = some sb ∧ n + ((symOf sh).take i).count sb = (st + 2 ^ L) / 2 ^ k) := by
  obtain ⟨s, m, h1, h2, h3, h4, h5, h6, h7, h8, h9, h10⟩ := cellSc_ok S hi
  rw [h7]
  simp only [inCell, h1, Option.some.injEq, Int.toNat_natCast]
  by_cases e : s = sb
  · subst e
    rw [hn] at h2; simp at h2; subst h2
    have hb : bOf L sh i = L + 1 - bl (yOf sh i) := rfl
    have := back_iff (L := L) (n := n) (x := st + 2 ^ L) (k := k) (y := yOf sh i) hn1 (by omega) (by rw [Nat.pow_succ]; omega) hk1 hk2 (by omega) (by omega)
    rw [← hb] at this
    rw [← h3]
    congr 1
    rw [eq_iff_iff]
    simp only [true_and]
    rw [← this, Nat.add_mul, Nat.one_mul]
    constructor
    · rintro ⟨a, b⟩; omega
    · rintro ⟨a, b⟩; exact ⟨by omega, by omega⟩
  · have : ¬ (s : Int) = sb := by omega
    simp [e, this]
theorem ex_k (n : Nat) (hn : 1 ≤ n) : ∀ (m x : Nat), x ≤ m → n ≤ x → ∃ k, x / 2 ^ k < 2 * n ∧ n ≤ x / 2 ^ k
  | 0, x, h, h1 => by omega
  | m + 1, x, h, h1 => by
    by_cases hx : x < 2 * n
    · exact ⟨0, by simpa using hx, by simpa using h1⟩
    · obtain ⟨k, a, b⟩ := ex_k n hn m (x / 2) (by omega) (by omega)
      refine ⟨k + 1, ?_, ?_⟩ <;> rw [Nat.pow_succ, Nat.mul_comm, ← Nat.div_div_eq_div_mul] <;> assumption
def bk (L : Nat) (sh : List Nat) (st sb : Nat) : Option Nat := (List.range (2 ^ L)).find? fun i => inCell st sb (cellSc L sh i)
theorem in_cell {l : List Int} {sh : List Nat} {L : Nat} (S : Shr l L sh) {i : Nat} (hi : i < 2 ^ L) (st sb : Nat) :
    inCell st sb (cellSc L sh i) = true ↔ (symOf sh)[i]? = some sb ∧ baseOf L sh i ≤ st ∧ st < baseOf L sh i + 2 ^ bOf L sh i := by
  obtain ⟨s, m, h1, h2, h3, h4, h5, h6, h7, h8, h9, h10⟩ := cellSc_ok S hi
  rw [h7, h1]
  simp only [inCell, decide_eq_true_eq, Int.toNat_natCast, Option.some.injEq]
  omega
theorem bk_uniq {l : List Int} {sh : List Nat} {L : Nat} (S : Shr l L sh) {st sb i j : Nat} (hst : st < 2 ^ L) (hi : i < 2 ^ L) (hj : j < 2 ^ L) (h1 : inCell st sb (cellSc L sh i) = true) (h2 : inCell st sb (cellSc L sh j) = true) : i = j := by
  have a1 := (in_cell S hi st sb).1 h1
  obtain ⟨n, hn, hy, hr, hnL⟩ := y_bd S.sum S.lo a1.1
  obtain ⟨k, hk1, hk2⟩ := ex_k n (by omega) (st + 2 ^ L) (st + 2 ^ L) (by omega) (by omega)
  rw [in_iff S hst hn (by omega) hk1 hk2 hi, decide_eq_true_eq] at h1
  rw [in_iff S hst hn (by omega) hk1 hk2 hj, decide_eq_true_eq] at h2
  exact rk_inj h1.1 h2.1 (by omega)
theorem bk_some {l : List Int} {sh : List Nat} {L : Nat} (S : Shr l L sh) {st sb i : Nat} (h : bk L sh st sb = some i) :
    i < 2 ^ L ∧ (symOf sh)[i]? = some sb ∧ baseOf L sh i ≤ st ∧ st < baseOf L sh i + 2 ^ bOf L sh i := by
  have h1 := List.find?_some h
  have h2 := List.mem_of_find?_eq_some h
  rw [List.mem_range] at h2
  exact ⟨h2, (in_cell S h2 st sb).1 h1⟩
theorem bk_of {l : List Int} {sh : List Nat} {L : Nat} (S : Shr l L sh) {st sb i : Nat} (hst : st < 2 ^ L) (hi : i < 2 ^ L) (h : (symOf sh)[i]? = some sb) (h1 : baseOf L sh i ≤ st) (h2 : st < baseOf L sh i + 2 ^ bOf L sh i) : bk L sh st sb = some i := by
  have hc := (in_cell S hi st sb).2 ⟨h, h1, h2⟩
  cases e : bk L sh st sb with
  | none =>
    have := List.find?_eq_none.1 e i (List.mem_range.2 hi)
    exact absurd hc this
  | some j =>
    have h3 := List.find?_some e
    have h4 := List.mem_of_find?_eq_some e
    rw [List.mem_range] at h4
    rw [bk_uniq S hst hi h4 hc h3]
theorem bk_none {l : List Int} {sh : List Nat} {L : Nat} (S : Shr l L sh) {st sb : Nat} (hst : st < 2 ^ L) : bk L sh st sb = none ↔ ¬ ∃ n, sh[sb]? = some n ∧ 0 < n := by
  constructor
  · rintro h ⟨n, hn, h0⟩
    have hle : n ≤ 2 ^ L := by
      obtain ⟨h3, h4⟩ := List.getElem?_eq_some_iff.1 hn
      have h1 := fstS_succ h3
      have h2 := fstS_le sh (sb + 1)
      have := S.sum
      omega
    obtain ⟨k, hk1, hk2⟩ := ex_k n h0 (st + 2 ^ L) (st + 2 ^ L) (by omega) (by omega)
    obtain ⟨i, hi, hrk⟩ := rk_find (symOf sh) sb ((st + 2 ^ L) / 2 ^ k - n) (by rw [sym_count S.sum S.lo, hn]; simp; omega)
    have hsyl : (symOf sh).length = 2 ^ L := by rw [symOf_length, S.sum]
    have hil : i < 2 ^ L := by have := (List.getElem?_eq_some_iff.1 hi).1; omega
    have h1 := List.find?_eq_none.1 h i (List.mem_range.2 hil)
    rw [in_iff S hst hn h0 hk1 hk2 hil] at h1
    exact h1 (by simp only [decide_eq_true_eq]; exact ⟨hi, by omega⟩)
  · intro h
    cases e : bk L sh st sb with
    | none => rfl
    | some i =>
      obtain ⟨h1, h2, _⟩ := bk_some S e
      obtain ⟨n, hn, _, hr, _⟩ := y_bd S.sum S.lo h2
      exact absurd ⟨n, hn, by omega⟩ h
def bkO (L : Nat) (sh : List Nat) (st : Nat) : Option Nat → AV
  | some i => .tup [.one (.int .i64 i), .one (.int .i64 (st - baseOf L sh i : Nat)), .one (.int .i64 (bOf L sh i : Nat)), .one (.bool true)]
  | none => .tup [.one (.int .i64 0), .one (.int .i64 0), .one (.int .i64 0), .one (.bool false)]
def bkR (L : Nat) (sh : List Nat) (st : Nat) : Option Nat → AV
  | some i => .tup [.one (.int .i64 i), .one (.int .i64 (st - baseOf L sh i : Nat)), .one (.bool true)]
  | none => .tup [.one (.int .i64 0), .one (.int .i64 0), .one (.bool false)]
def tabOf (g : Option Nat) (L : Nat) (sh : List Nat) (l al : List Int) : List Ob := tabHp g L (cellsTo L sh (2 ^ L)) l (fiTo sh sh.length) al
theorem bk90 {l : List Int} {sh : List Nat} {L : Nat} (S : Shr l L sh) {al : List Int} (hok : AllOk sh (2 ^ L) al) {st sb : Nat} (hst : st < 2 ^ L) (hsb : sb < 256) :
    F110 [.one (.ptr 0 0), .one (.int .i64 st), .one (.int .u8 sb)] (tabOf (some 0) L sh l al) = some (bkO L sh st (bk L sh st sb), tabOf (some 0) L sh l al) := by
  have hsz := S.size
  have h9 := S.hi
  have hlen := S.len
  have hl : l.length = sh.length := by rw [S.eq]; simp
  have hcl : (cellsTo L sh (2 ^ L)).length = 2 ^ L := cellsTo_length _ _ _
  unfold tabOf
  cases e : bk L sh st sb with
  | none =>
    have h0 := (bk_none S hst).1 e
    refine f110n L st sb hsb _ l _ al (.inr ?_)
    by_cases hs : sb < sh.length
    · right
      have hnn : sh[sb]? = some sh[sb] := List.getElem?_eq_getElem hs
      have hg : l[sb]? = some ((sh[sb] : Nat) : Int) := by rw [S.eq, List.getElem?_map, hnn]; rfl
      rw [hg]
      rcases Nat.eq_zero_or_pos sh[sb] with h | h
      · rw [h]; rfl
      · exact absurd ⟨_, hnn, h⟩ h0
    · left; omega
  | some i =>
    obtain ⟨hil, hi, hb1, hb2⟩ := bk_some S e
    obtain ⟨s', n, q1, hnn, q3, q4, hle, q6, q7, q8, q9, q10⟩ := cellSc_ok S hil
    rw [hi] at q1; simp at q1; subst q1
    have hsl : sb < sh.length := (List.getElem?_eq_some_iff.1 hnn).1
    have hg : l[sb]? = some (n : Int) := by rw [S.eq, List.getElem?_map, hnn]; rfl
    have hfle := fstS_le sh sb
    rw [S.sum] at hfle
    obtain ⟨k, hk1, hk2, hk3, hrun⟩ := f110 L st sb n (fstS sh sb) hsb (cellsTo L sh (2 ^ L)) l (fiTo sh sh.length) al (by omega) (by omega) hg (by omega) (by simp [fiTo, List.getElem?_map, List.getElem?_range hsl, hsl]) (by omega)
    rw [hcl] at hk1 hk2 hrun
    have hk4 : n ≤ (st + 2 ^ L) / 2 ^ k := by
      rcases Nat.eq_zero_or_pos k with h | h
      · subst h; rw [Nat.pow_zero, Nat.div_one]; omega
      · obtain ⟨d, rfl⟩ : ∃ d, k = d + 1 := ⟨k - 1, by omega⟩
        have := hk2 d (by omega)
        rw [Nat.pow_succ, ← Nat.div_div_eq_div_mul]; omega
    have hic := (in_cell S hil st sb).2 ⟨hi, hb1, hb2⟩
    rw [in_iff S hst hnn (by omega) hk1 hk4 hil, decide_eq_true_eq] at hic
    have hal0 := hok i sb hil hi
    have e106 := hrun (fstS sh sb + ((symOf sh).take i).count sb) i (by omega) hal0
    have hy0 : yOf sh i = (st + 2 ^ L) / 2 ^ k := by omega
    have hkx : 2 ^ k ≤ st + 2 ^ L := by
      rcases Nat.lt_or_ge (st + 2 ^ L) (2 ^ k) with h | h
      · rw [Nat.div_eq_of_lt h] at hk4; omega
      · exact h
    have hbk : bOf L sh i = k := by unfold bOf; rw [hy0]; exact bits_div (by omega) (by rw [Nat.pow_succ]; omega) hkx
    rw [hbk, hy0] at q9
    have hdm := Nat.div_add_mod (st + 2 ^ L) (2 ^ k)
    rw [Nat.mul_comm] at hdm
    have hvb : st - baseOf L sh i = (st + 2 ^ L) % 2 ^ k := by omega
    simp only [bkO, hbk, hvb]
    exact e106
def bufHp (g : Option Nat) (bs : List Int) (n : Int) : List Ob := [.cells g [.row 1, .int .i64 n], .rows none (.ints .u8 bs)]
theorem f43a (n : Int) (h : 0 ≤ n ∧ n ≤ 32) : F43 [.one (.int .i64 n)] [] = some (.one (.bool true), []) := by
  obtain ⟨h1, h2⟩ := h
  simp -implicitDefEqProofs [F43, c43, h1, h2]
def canon103 (n v got : Int) (bs : List Int) (at_ : Int) : St :=
  ⟨[(0, .one (.ptr 0 0)), (1, .one (.int .i64 n)), (6, .one (.int .u32 v)), (7, .one (.int .i64 got))], [.ptr 0 0, .int .i64 n], bufHp (some 0) bs at_⟩
def canon50 (v n i : Int) (out : List Int) : St :=
  ⟨[(0, .one (.int .u32 v)), (1, .one (.int .i64 n)), (5, .one (.row 0)), (6, .one (.int .i64 i))], [.int .u32 v, .int .i64 n], [.rows none (.ints .i64 out)]⟩
theorem body50 (v n i i' s r : Int) (out : List Int) (h : i < n) (hi0 : ¬ i < 0) (es : shrI .u32 v i = s) (ew : IntKind.i64.wrap s = s) (er : s.tmod 2 = r) (ei : IntKind.i64.wrap (i + 1) = i') (hm : (out.length + 1) * 8 ≤ 140737488355328) :
    ∃ st1, evC T50 KK b50x0 (canon50 v n i out) = some (.norm, st1) ∧ St.head [0, 1, 5, 6] st1 = canon50 v n i' (out ++ [r]) := by
  simp -implicitDefEqProofs [b50x0, canon50, upd, h, hi0, es, ew, er, ei, hm, RC.len, RC.size, RC.app, RC.ofElems]
theorem end50 (v n i : Int) (out : List Int) (h : ¬ i < n) :
    ∃ env, evC T50 KK b50x0 (canon50 v n i out) = some (.exit 0, ⟨env, [.int .u32 v, .int .i64 n], [.rows none (.ints .i64 out)]⟩) ∧ getT 5 env = .one (.row 0) := by
  simp -implicitDefEqProofs [b50x0, canon50, upd, h]
theorem loop50 (v n : Nat) (hv : v < 2 ^ 32) (hn : n ≤ 32) : ∀ (j i : Nat) (K : Nat), i + j = n → j < K →
    ∃ env, loopH (evC T50 KK b50x0) [0, 1, 5, 6] K (canon50 v n i (ofN v i)) = some (.exit 0, ⟨env, [.int .u32 v, .int .i64 n], [.rows none (.ints .i64 (ofN v n))]⟩) ∧ getT 5 env = .one (.row 0)
  | 0, i, K, hi, hK => by
    obtain rfl : i = n := by omega
    obtain ⟨env, e, g⟩ := end50 v i i (ofN v i) (by omega)
    exact ⟨env, loopH_exit e, g⟩
  | j + 1, i, K, hi, hK => by
    have hs : v / 2 ^ i < 2 ^ 32 := Nat.lt_of_le_of_lt (Nat.div_le_self _ _) hv
    have ew : IntKind.i64.wrap ((v / 2 ^ i : Nat) : Int) = ((v / 2 ^ i : Nat) : Int) := by
      generalize v / 2 ^ i = s at hs ⊢
      exact i64_in _ (by omega)
    have er : ((v / 2 ^ i : Nat) : Int).tmod 2 = ((v / 2 ^ i % 2 : Nat) : Int) := by
      generalize v / 2 ^ i = s
      rw [Int.tmod_eq_emod_of_nonneg (by omega)]; omega
    obtain ⟨st1, e1, e2⟩ := body50 v n i (i + 1 : Nat) (v / 2 ^ i : Nat) (v / 2 ^ i % 2 : Nat) (ofN v i) (by omega) (by omega) (shr_in (by simp only [IntKind.bits]; omega)) ew er (by rw [i64_in _ (by omega)]; omega) (by rw [ofN_length]; omega)
    obtain ⟨env, e, g⟩ := loop50 v n hv hn j (i + 1) (K - 1) (by omega) (by omega)
    refine ⟨env, ?_, g⟩
    rw [loopH_norm e1 (by omega), e2, ← ofN_snoc]
    exact e
theorem f50 (v n : Nat) (hv : v < 2 ^ 32) (hn : n ≤ 32) : F50 [.one (.int .u32 v), .one (.int .i64 n)] [] = some (.one (.row 0), [.rows none (.ints .i64 (ofN v n))]) := by
  obtain ⟨env, e, g⟩ := loop50 v n hv hn n 0 KK (by omega) (by rw [KK_eq]; omega)
  have z : ((0 : Nat) : Int) = 0 := rfl
  simp only [canon50, ofN, z] at e
  simp -implicitDefEqProofs [F50, c50, upd, e, g]
def canon29 (t : Nat) (l : List Int) (v i : Int) : St :=
  ⟨[(0, .one (.ro t (.ints .i64 l))), (3, .one (.int .u32 v)), (4, .one (.int .i64 i))], [.ro t (.ints .i64 l)], []⟩
theorem body29 (t : Nat) (l : List Int) (v i i' b m s : Int) (h : 0 ≤ i) (hi : i < l.length) (hb : l[i.toNat]?.getD 0 = b) (em : IntKind.u32.wrap (v * 2) = m) (ew : IntKind.u32.wrap b = b) (es : IntKind.u32.wrap (m + b) = s) (ei : IntKind.i64.wrap (i - 1) = i') :
    ∃ st1, evC T29 KK b29x0 (canon29 t l v i) = some (.norm, st1) ∧ St.head [0, 3, 4] st1 = canon29 t l s i' := by
  have hb' : l[i.toNat]'(by omega) = b := by rw [List.getElem?_eq_getElem (by omega)] at hb; exact hb
  simp -implicitDefEqProofs [b29x0, canon29, upd, h, hi, hb, hb', em, ew, es, ei, RC.len, RC.size, RC.get]
theorem end29 (t : Nat) (l : List Int) (v i : Int) (h : ¬ 0 ≤ i) :
    ∃ env, evC T29 KK b29x0 (canon29 t l v i) = some (.exit 0, ⟨env, [.ro t (.ints .i64 l)], []⟩) ∧ getT 3 env = .one (.int .u32 v) := by
  simp -implicitDefEqProofs [b29x0, canon29, upd, h]
theorem loop29 (t : Nat) (l : List Int) (hN : isN l) (hl : l.length ≤ 32) : ∀ (j : Nat) (K : Nat), j ≤ l.length → j < K →
    ∃ env, loopH (evC T29 KK b29x0) [0, 3, 4] K (canon29 t l (leN (l.drop j) : Nat) ((j : Int) - 1)) = some (.exit 0, ⟨env, [.ro t (.ints .i64 l)], []⟩) ∧ getT 3 env = .one (.int .u32 (leN l : Nat))
  | 0, K, hj, hK => by
    obtain ⟨env, e, g⟩ := end29 t l (leN (l.drop 0) : Nat) (((0 : Nat) : Int) - 1) (by omega)
    exact ⟨env, loopH_exit e, g⟩
  | j + 1, K, hj, hK => by
    have hlt : j < l.length := by omega
    have hd : l.drop j = l[j] :: l.drop (j + 1) := List.drop_eq_getElem_cons hlt
    have hb := hN l[j] (List.getElem_mem hlt)
    have hN2 : isN (l.drop (j + 1)) := fun x hx => hN x (List.mem_of_mem_drop hx)
    have hv := leN_lt hN2
    rw [List.length_drop] at hv
    have hv2 : leN (l.drop (j + 1)) < 2 ^ 31 := Nat.lt_of_lt_of_le hv (Nat.pow_le_pow_right (by omega) (by omega))
    have hs : leN (l.drop j) = l[j].toNat + 2 * leN (l.drop (j + 1)) := by rw [hd]; rfl
    have hg : l[(((j + 1 : Nat) : Int) - 1).toNat]?.getD 0 = l[j] := by
      rw [show (((j + 1 : Nat) : Int) - 1).toNat = j by omega, List.getElem?_eq_getElem hlt]; rfl
    have hs2 : (leN (l.drop j) : Int) = 2 * leN (l.drop (j + 1)) + l[j] := by omega
    obtain ⟨st1, e1, e2⟩ := body29 t l (leN (l.drop (j + 1)) : Nat) (((j + 1 : Nat) : Int) - 1) ((j : Int) - 1) l[j] (2 * leN (l.drop (j + 1)) : Nat) (leN (l.drop j) : Nat) (by omega) (by omega) hg (by rw [u32_in _ (by omega)]; omega) (u32_in _ (by omega)) (by rw [u32_in _ (by omega)]; omega) (by rw [i64_in _ (by omega)]; omega)
    obtain ⟨env, e, g⟩ := loop29 t l hN hl j (K - 1) (by omega) (by omega)
    exact ⟨env, by rw [loopH_norm e1 (by omega), e2]; exact e, g⟩
theorem f29 (t : Nat) (l : List Int) (hN : isN l) (hl : l.length ≤ 32) : F29 [.one (.ro t (.ints .i64 l))] [] = some (.one (.int .u32 (leN l : Nat)), []) := by
  obtain ⟨env, e, g⟩ := loop29 t l hN hl l.length KK (by omega) (by rw [KK_eq]; omega)
  have w : IntKind.i64.wrap ((l.length : Int) - 1) = (l.length : Int) - 1 := i64_in _ (by omega)
  have z : ((0 : Nat) : Int) = 0 := rfl
  rw [List.drop_length] at e
  simp only [canon29, leN, z] at e
  simp -implicitDefEqProofs [F29, c29, upd, RC.len, w, e, g]
def canon26 (t : Nat) (bs : List Int) (i : Int) (out : List Int) : St :=
  ⟨[(0, .one (.ro t (.ints .u8 bs))), (3, .one (.row 0)), (4, .one (.int .i64 i))], [.ro t (.ints .u8 bs)], [.rows none (.ints .i64 out)]⟩
theorem body26 (t : Nat) (bs : List Int) (i : Nat) (b : Int) (out add : List Int) (hi : i < bs.length) (hl : bs.length ≤ 100000) (hb : bs[i]?.getD 0 = b) (ew : IntKind.u32.wrap b = b) (e50 : F50 [.one (.int .u32 b), .one (.int .i64 8)] [] = some (.one (.row 0), [.rows none (.ints .i64 add)])) (hm : (out.length + add.length) * 8 ≤ 140737488355328) :
    ∃ st1, evC T26 KK b26x0 (canon26 t bs i out) = some (.norm, st1) ∧ St.head [0, 3, 4] st1 = canon26 t bs (i + 1 : Nat) (out ++ add) := by
  have hb' : bs[i] = b := by rw [List.getElem?_eq_getElem hi] at hb; exact hb
  have hi2 : (i : Int) < bs.length := by omega
  have w : IntKind.i64.wrap ((i : Int) + 1) = (i : Int) + 1 := i64_in _ (by omega)
  simp -implicitDefEqProofs [b26x0, canon26, upd, hi, hi2, hb, hb', ew, e50, hm, w, RC.len, RC.size, RC.get, RC.app]
theorem end26 (t : Nat) (bs : List Int) (i : Nat) (out : List Int) (hi : bs.length ≤ i) :
    ∃ env, evC T26 KK b26x0 (canon26 t bs i out) = some (.exit 0, ⟨env, [.ro t (.ints .u8 bs)], [.rows none (.ints .i64 out)]⟩) ∧ getT 3 env = .one (.row 0) := by
  have hi2 : ¬ (i : Int) < bs.length := by omega
  simp -implicitDefEqProofs [b26x0, canon26, upd, hi2, RC.len]
theorem loop26 (t : Nat) (bs : List Int) (hB : isB bs) (hl : bs.length ≤ 100000) : ∀ (j i : Nat) (out : List Int) (K : Nat), i + j = bs.length → isN out → out.length = 8 * i → leN out = leB (bs.take i) → j < K →
    ∃ env out', loopH (evC T26 KK b26x0) [0, 3, 4] K (canon26 t bs i out) = some (.exit 0, ⟨env, [.ro t (.ints .u8 bs)], [.rows none (.ints .i64 out')]⟩) ∧ getT 3 env = .one (.row 0) ∧ isN out' ∧ out'.length = 8 * bs.length ∧ leN out' = leB bs
  | 0, i, out, K, hi, hN, hlen, hv, hK => by
    obtain rfl : i = bs.length := by omega
    obtain ⟨env, e, g⟩ := end26 t bs bs.length out (Nat.le_refl _)
    rw [List.take_length] at hv
    exact ⟨env, out, loopH_exit e, g, hN, hlen, hv⟩
  | j + 1, i, out, K, hi, hN, hlen, hv, hK => by
    have hlt : i < bs.length := by omega
    have hb := hB bs[i] (List.getElem_mem hlt)
    have hg : bs[i]?.getD 0 = bs[i] := by rw [List.getElem?_eq_getElem hlt]; rfl
    obtain ⟨β, hβ⟩ : ∃ β : Nat, bs[i] = β := ⟨bs[i].toNat, by omega⟩
    have e50 := f50 β 8 (by omega) (by omega)
    rw [← hβ] at e50
    obtain ⟨st1, e1, e2⟩ := body26 t bs i bs[i] out (ofN β 8) hlt hl hg (u32_in _ (by omega)) e50 (by rw [ofN_length]; omega)
    obtain ⟨env, out', e, g, r1, r2, r3⟩ := loop26 t bs hB hl j (i + 1) (out ++ ofN β 8) (K - 1) (by omega) (fun x hx => by
        rcases List.mem_append.1 hx with hx | hx
        · exact hN x hx
        · exact ofN_isN 8 β x hx) (by rw [List.length_append, ofN_length]; omega) (by
        rw [← List.take_append_getElem hlt, leB_append, leN_append, hv, hlen, List.length_take, Nat.min_eq_left (by omega), leN_ofN, Nat.mod_eq_of_lt (by omega), hβ]
        simp [leB]) (by omega)
    exact ⟨env, out', by rw [loopH_norm e1 (by omega), e2]; exact e, g, r1, r2, r3⟩
theorem f26 (t : Nat) (bs : List Int) (hB : isB bs) (hl : bs.length ≤ 90000) : ∃ out, F26 [.one (.ro t (.ints .u8 bs))] [] = some (.one (.row 0), [.rows none (.ints .i64 out)]) ∧ isN out ∧ out.length = 8 * bs.length ∧ leN out = leB bs := by
  obtain ⟨env, out, e, g, r⟩ := loop26 t bs hB (by omega) bs.length 0 [] KK (by omega) (by simp [isN]) rfl rfl (by rw [KK_eq]; omega)
  have z : ((0 : Nat) : Int) = 0 := rfl
  simp only [canon26, z] at e
  refine ⟨out, ?_, r⟩
  simp -implicitDefEqProofs [F26, c26, upd, e, g]
def canon18 (v0 n0 v n : Int) (bs : List Int) (c : Int) : St :=
  ⟨[(0, .one (.ptr 0 0)), (1, .one (.int .u32 v)), (2, .one (.int .i64 n))], [.ptr 0 0, .int .u32 v0, .int .i64 n0], bufHp (some 0) bs c⟩
theorem body18z (v0 n0 v n c e k q mk p r y v' c' n' : Int) (bs : List Int) (hn : 0 < n) (hk : k = if e < n then e else n) (hk0 : ¬ k < 0) (hm : bs.length + 1 ≤ 100000)
    (ea : bitsI .and .i64 c 7 = 0) (ee : IntKind.i64.wrap 8 = e) (eq : shlI .u32 1 k = q) (emk : IntKind.u32.wrap (q - 1) = mk) (ep : bitsI .and .u32 v mk = p) (epc : IntKind.u8.wrap p = p) (er : shlI .u8 p 0 = r) (ey : bitsI .or .u8 0 r = y)
    (ev : shrI .u32 v k = v') (ec : IntKind.i64.wrap (c + k) = c') (en : IntKind.i64.wrap (n - k) = n') :
    ∃ st1, evC T18 KK b18x0 (canon18 v0 n0 v n bs c) = some (.norm, st1) ∧ St.head [0, 1, 2] st1 = canon18 v0 n0 v' n' (bs ++ [y]) c' := by
  have hm' : bs.length + 1 ≤ 140737488355328 := by omega
  have w : IntKind.i64.wrap (bs.length : Int) = bs.length := i64_in _ (by omega)
  have hb1 : (bs.length : Int) < (bs.length : Int) + 1 := by omega
  by_cases hc : e < n
  · rw [if_pos hc] at hk
    subst hk
    simp -implicitDefEqProofs [b18x0, canon18, bufHp, upd, hn, hc, hk0, hm', hb1, ea, ee, eq, emk, ep, epc, er, ey, ev, ec, en, w, RC.len, RC.size, RC.get, RC.set, RC.app, RC.ofElems]
  · rw [if_neg hc] at hk
    subst hk
    have en0 : IntKind.i64.wrap 0 = n' := by rw [← en]; congr 1; omega
    simp -implicitDefEqProofs [b18x0, canon18, bufHp, upd, hn, hc, hk0, hm', hb1, ea, ee, eq, emk, ep, epc, er, ey, ev, ec, en, en0, w, RC.len, RC.size, RC.get, RC.set, RC.app, RC.ofElems]
theorem body18s (v0 n0 v n c a e k q mk p r x y v' c' n' : Int) (i : Nat) (bs : List Int) (hn : 0 < n) (hk : k = if e < n then e else n) (hk0 : ¬ k < 0) (ha : ¬ a = 0) (ha0 : ¬ a < 0) (hi : i < bs.length) (hx : bs[i]?.getD 0 = x)
    (ea : bitsI .and .i64 c 7 = a) (ee : IntKind.i64.wrap (8 - a) = e) (ei : IntKind.i64.wrap ((bs.length : Int) - 1) = i) (eq : shlI .u32 1 k = q) (emk : IntKind.u32.wrap (q - 1) = mk) (ep : bitsI .and .u32 v mk = p) (epc : IntKind.u8.wrap p = p) (er : shlI .u8 p a = r) (ey : bitsI .or .u8 x r = y)
    (ev : shrI .u32 v k = v') (ec : IntKind.i64.wrap (c + k) = c') (en : IntKind.i64.wrap (n - k) = n') :
    ∃ st1, evC T18 KK b18x0 (canon18 v0 n0 v n bs c) = some (.norm, st1) ∧ St.head [0, 1, 2] st1 = canon18 v0 n0 v' n' (bs.set i y) c' := by
  have hx' : bs[i] = x := by rw [List.getElem?_eq_getElem hi] at hx; exact hx
  have hi2 : (i : Int) < bs.length := by omega
  by_cases hc : e < n
  · rw [if_pos hc] at hk
    subst hk
    simp -implicitDefEqProofs [b18x0, canon18, bufHp, upd, hn, hc, hk0, ha, ha0, hi, hi2, hx, hx', ea, ee, ei, eq, emk, ep, epc, er, ey, ev, ec, en, RC.len, RC.size, RC.get, RC.set, RC.app, RC.ofElems]
  · rw [if_neg hc] at hk
    subst hk
    have en0 : IntKind.i64.wrap 0 = n' := by rw [← en]; congr 1; omega
    simp -implicitDefEqProofs [b18x0, canon18, bufHp, upd, hn, hc, hk0, ha, ha0, hi, hi2, hx, hx', ea, ee, ei, eq, emk, ep, epc, er, ey, ev, ec, en, en0, RC.len, RC.size, RC.get, RC.set, RC.app, RC.ofElems]
theorem end18 (v0 n0 v n c : Int) (bs : List Int) (hn : ¬ 0 < n) :
    ∃ env, evC T18 KK b18x0 (canon18 v0 n0 v n bs c) = some (.exit 0, ⟨env, [.ptr 0 0, .int .u32 v0, .int .i64 n0], bufHp (some 0) bs c⟩) := by
  simp -implicitDefEqProofs [b18x0, canon18, upd, hn]
structure Holds (bs : List Int) (c N : Nat) : Prop where
  isB : isB bs
  len : bs.length = (c + 7) / 8
  val : leB bs = N
  lt : N < 2 ^ c
theorem u8_mask {v k : Nat} (hk : k ≤ 8) : v % 2 ^ k < 256 := by
  have e1 : v % 2 ^ k < 2 ^ k := Nat.mod_lt _ (Nat.two_pow_pos k)
  have e2 : 2 ^ k ≤ 2 ^ 8 := Nat.pow_le_pow_right (n := 2) (by omega) hk
  omega
theorem shl1_u32 {k : Nat} (hk : k ≤ 8) : shlI .u32 1 (k : Int) = ((2 ^ k : Nat) : Int) := by
  have hpk : (2 : Nat) ^ k ≤ 2 ^ 8 := Nat.pow_le_pow_right (by omega) (by omega)
  have := shl_in (k := .u32) (x := 1) (n := k) rfl (by simp only [IntKind.bits]; omega) (by simp only [IntKind.bits]; omega)
  rw [Nat.one_mul] at this
  exact this
theorem mask_u32 {k : Nat} (hk : k ≤ 8) : IntKind.u32.wrap (((2 ^ k : Nat) : Int) - 1) = ((2 ^ k - 1 : Nat) : Int) := by
  have hpk : (2 : Nat) ^ k ≤ 2 ^ 8 := Nat.pow_le_pow_right (by omega) (by omega)
  have hp0 := Nat.two_pow_pos k
  generalize (2 : Nat) ^ k = P at hpk hp0 ⊢
  rw [u32_in _ (by omega)]; omega
theorem step18 (v0 n0 : Int) (v n c N : Nat) (bs : List Int) (h : Holds bs c N) (hn : 0 < n) (hn2 : n ≤ 32) (hv : v < 2 ^ 32) (hc : c ≤ 700000) :
    ∃ st1 bs' k, evC T18 KK b18x0 (canon18 v0 n0 v n bs c) = some (.norm, st1) ∧ St.head [0, 1, 2] st1 = canon18 v0 n0 (v / 2 ^ k : Nat) (n - k : Nat) bs' (c + k : Nat) ∧ Holds bs' (c + k) (N + v % 2 ^ k * 2 ^ c) ∧ 0 < k ∧ k ≤ n := by
  obtain ⟨hB, hlen, hval, hlt⟩ := h
  obtain ⟨a, ha⟩ : ∃ a, a = c % 8 := ⟨_, rfl⟩
  obtain ⟨k, hk⟩ : ∃ k, k = if 8 - a < n then 8 - a else n := ⟨_, rfl⟩
  have hk1 : 0 < k ∧ a + k ≤ 8 ∧ k ≤ n := by subst hk; split <;> omega
  have hkI : (k : Int) = if ((8 - a : Nat) : Int) < (n : Int) then ((8 - a : Nat) : Int) else n := by
    rw [hk]
    by_cases d : 8 - a < n
    · rw [if_pos d, if_pos (by omega)]
    · rw [if_neg d, if_neg (by omega)]
  have hp : v % 2 ^ k < 256 := u8_mask (by omega)
  have hpk : v % 2 ^ k < 2 ^ k := Nat.mod_lt _ (Nat.two_pow_pos k)
  have ea : bitsI .and .i64 (c : Int) 7 = (a : Int) := by rw [and7_i64 (by omega), ← ha]
  have ee : IntKind.i64.wrap (8 - (a : Int)) = ((8 - a : Nat) : Int) := by rw [i64_in _ (by omega)]; omega
  have ep := mask_and (k := .u32) (x := v) (n := k) rfl (by simp only [IntKind.bits]; omega) (by simp only [IntKind.bits]; omega)
  have epc : IntKind.u8.wrap ((v % 2 ^ k : Nat) : Int) = ((v % 2 ^ k : Nat) : Int) := by
    generalize v % 2 ^ k = p at hp ⊢
    exact u8_in _ (by omega)
  have ev : shrI .u32 (v : Int) (k : Int) = ((v / 2 ^ k : Nat) : Int) := shr_in (by simp only [IntKind.bits]; omega)
  have ec : IntKind.i64.wrap ((c : Int) + k) = ((c + k : Nat) : Int) := by rw [i64_in _ (by omega)]; omega
  have en : IntKind.i64.wrap ((n : Int) - k) = ((n - k : Nat) : Int) := by rw [i64_in _ (by omega)]; omega
  have hpa : v % 2 ^ k * 2 ^ a < 256 := by
    have e1 : v % 2 ^ k * 2 ^ a < 2 ^ k * 2 ^ a := Nat.mul_lt_mul_of_pos_right hpk (Nat.two_pow_pos a)
    rw [← Nat.pow_add] at e1
    have e2 : 2 ^ (k + a) ≤ 2 ^ 8 := Nat.pow_le_pow_right (n := 2) (by omega) (by omega)
    omega
  have hlt' : N + v % 2 ^ k * 2 ^ c < 2 ^ (c + k) := by
    have e1 : (v % 2 ^ k + 1) * 2 ^ c ≤ 2 ^ k * 2 ^ c := Nat.mul_le_mul_right _ hpk
    rw [← Nat.pow_add, Nat.add_mul, Nat.one_mul, Nat.add_comm k c] at e1
    omega
  have er : shlI .u8 ((v % 2 ^ k : Nat) : Int) (a : Int) = ((v % 2 ^ k * 2 ^ a : Nat) : Int) := shl_in rfl (by simp only [IntKind.bits]; omega) (by simp only [IntKind.bits]; exact hpa)
  by_cases h0 : a = 0
  · subst h0
    have ey : bitsI .or .u8 0 ((v % 2 ^ k * 2 ^ 0 : Nat) : Int) = ((v % 2 ^ k * 2 ^ 0 : Nat) : Int) := by
      have := or_add (k := .u8) (x := 0) (y := v % 2 ^ k) (n := 0) rfl (by omega) (by simp only [IntKind.bits]; rw [Nat.zero_add]; exact hpa)
      rw [Nat.zero_add] at this
      exact this
    have ee0 : IntKind.i64.wrap 8 = ((8 - 0 : Nat) : Int) := by rw [i64_in _ (by omega)]; rfl
    obtain ⟨st1, e1, e2⟩ := body18z v0 n0 v n c (8 - 0 : Nat) k (2 ^ k : Nat) (2 ^ k - 1 : Nat) (v % 2 ^ k : Nat) (v % 2 ^ k * 2 ^ 0 : Nat) (v % 2 ^ k * 2 ^ 0 : Nat) (v / 2 ^ k : Nat) (c + k : Nat) (n - k : Nat) bs (by omega) hkI (by omega) (by omega) ea ee0 (shl1_u32 (by omega)) (mask_u32 (by omega)) ep epc er ey ev ec en
    refine ⟨st1, _, k, e1, e2, ⟨?_, ?_, ?_, hlt'⟩, hk1.1, hk1.2.2⟩
    · intro x hx
      rcases List.mem_append.1 hx with hx | hx
      · exact hB x hx
      · simp only [List.mem_cons, List.not_mem_nil, or_false] at hx
        subst hx
        rw [Nat.pow_zero, Nat.mul_one]
        generalize v % 2 ^ k = p at hp ⊢
        omega
    · rw [List.length_append, List.length_cons, List.length_nil]; omega
    · rw [leB_append, hval, show 8 * bs.length = c by omega]
      simp only [leB, Int.toNat_natCast, Nat.pow_zero, Nat.mul_one, Nat.mul_zero, Nat.add_zero]
      rw [Nat.mul_comm]
  · obtain ⟨i, hi⟩ : ∃ i, i = c / 8 := ⟨_, rfl⟩
    have hca : c = 8 * i + a := by omega
    have hil : i < bs.length := by omega
    obtain ⟨b, hbi⟩ : ∃ b, bs[i]? = some b := ⟨_, List.getElem?_eq_getElem hil⟩
    have hbr := hB b (List.mem_of_getElem? hbi)
    obtain ⟨β, rfl⟩ : ∃ β : Nat, b = β := ⟨b.toNat, by omega⟩
    have hβ := leB_at hB hbi
    rw [hval, Int.toNat_natCast] at hβ
    have hβa : β < 2 ^ a := by
      rw [← hβ]
      refine Nat.lt_of_le_of_lt (Nat.mod_le _ _) ?_
      rw [Nat.div_lt_iff_lt_mul (Nat.two_pow_pos _), ← Nat.pow_add, show a + 8 * i = c by omega]
      exact hlt
    have hy : β + v % 2 ^ k * 2 ^ a < 256 := by
      have e1 : (v % 2 ^ k + 1) * 2 ^ a ≤ 2 ^ k * 2 ^ a := Nat.mul_le_mul_right _ hpk
      have e2 : 2 ^ (k + a) ≤ 2 ^ 8 := Nat.pow_le_pow_right (n := 2) (by omega) (by omega)
      rw [← Nat.pow_add, Nat.add_mul, Nat.one_mul] at e1
      omega
    have ey : bitsI .or .u8 (β : Int) ((v % 2 ^ k * 2 ^ a : Nat) : Int) = ((β + v % 2 ^ k * 2 ^ a : Nat) : Int) := or_add rfl hβa (by simp only [IntKind.bits]; exact hy)
    obtain ⟨st1, e1, e2⟩ := body18s v0 n0 v n c a (8 - a : Nat) k (2 ^ k : Nat) (2 ^ k - 1 : Nat) (v % 2 ^ k : Nat) (v % 2 ^ k * 2 ^ a : Nat) β (β + v % 2 ^ k * 2 ^ a : Nat) (v / 2 ^ k : Nat) (c + k : Nat) (n - k : Nat) i bs (by omega) hkI (by omega) (by omega) (by omega) hil (by rw [hbi]; rfl) ea ee (by rw [i64_in _ (by omega)]; omega) (shl1_u32 (by omega)) (mask_u32 (by omega)) ep epc er ey ev ec en
    refine ⟨st1, _, k, e1, e2, ⟨?_, ?_, ?_, hlt'⟩, hk1.1, hk1.2.2⟩
    · intro x hx
      rcases List.mem_or_eq_of_mem_set hx with hx | hx
      · exact hB x hx
      · subst hx
        generalize β + v % 2 ^ k * 2 ^ a = y at hy ⊢
        omega
    · rw [List.length_set]; omega
    · have := leB_set (d := v % 2 ^ k * 2 ^ a) hB hbi
      rw [hval, Nat.mul_assoc, ← Nat.pow_add, show a + 8 * i = c by omega] at this
      rw [← this]
      congr 2
theorem loop18 (v0 n0 : Int) : ∀ (n v c N : Nat) (bs : List Int) (K : Nat), Holds bs c N → n ≤ 32 → v < 2 ^ 32 → c + n ≤ 700000 → n < K →
    ∃ env bs', loopH (evC T18 KK b18x0) [0, 1, 2] K (canon18 v0 n0 v n bs c) = some (.exit 0, ⟨env, [.ptr 0 0, .int .u32 v0, .int .i64 n0], bufHp (some 0) bs' (c + n : Nat)⟩) ∧ Holds bs' (c + n) (N + v % 2 ^ n * 2 ^ c) := by
  intro n
  induction n using Nat.strongRecOn with
  | ind n ih =>
  intro v c N bs K h hn hv hc hK
  by_cases h0 : 0 < n
  · obtain ⟨st1, bs', k, e1, e2, h', hk0, hkn⟩ := step18 v0 n0 v n c N bs h h0 hn hv (by omega)
    obtain ⟨env, bs2, e, h2⟩ := ih (n - k) (by omega) (v / 2 ^ k) (c + k) _ bs' (K - 1) h' (by omega) (Nat.lt_of_le_of_lt (Nat.div_le_self _ _) hv) (by omega) (by omega)
    rw [show c + k + (n - k) = c + n by omega] at e h2
    refine ⟨env, bs2, by rw [loopH_norm e1 (by omega), e2]; exact e, ?_⟩
    have hm := mod_more v k (n - k)
    rw [show k + (n - k) = n by omega] at hm
    rw [hm, Nat.add_mul, Nat.mul_assoc, ← Nat.pow_add, show k + c = c + k by omega, ← Nat.add_assoc]
    exact h2
  · obtain rfl : n = 0 := by omega
    obtain ⟨env, e⟩ := end18 v0 n0 v (0 : Nat) c bs (by omega)
    refine ⟨env, bs, loopH_exit e, ?_⟩
    rw [Nat.pow_zero, Nat.mod_one, Nat.zero_mul]
    exact h
theorem f18 (v n c N : Nat) (bs : List Int) (h : Holds bs c N) (hn : n ≤ 32) (hv : v < 2 ^ 32) (hc : c + n ≤ 700000) :
    ∃ bs', F18 [.one (.ptr 0 0), .one (.int .u32 v), .one (.int .i64 n)] (bufHp (some 0) bs c) = some (.one (.bool true), bufHp (some 0) bs' (c + n : Nat)) ∧ Holds bs' (c + n) (N + v % 2 ^ n * 2 ^ c) := by
  have e43 := f43a (n : Int) (by omega)
  obtain ⟨env, bs', e, h'⟩ := loop18 v n n v c N bs KK h hn hv hc (by rw [KK_eq]; omega)
  refine ⟨bs', ?_, h'⟩
  simp only [canon18, bufHp] at e
  generalize ((c + n : Nat) : Int) = c' at *
  simp -implicitDefEqProofs [F18, c18, upd, bufHp, e43, e]
theorem f22 (bs : List Int) (c : Int) (h : bs.length ≤ 100000) : F22 [.one (.ptr 0 0)] (bufHp (some 0) bs c) = some (.one (.row 2), bufHp (some 0) bs c ++ [.rows none (.ints .u8 bs)]) := by
  have hm : bs.length ≤ 140737488355328 := by omega
  simp -implicitDefEqProofs [F22, c22, upd, bufHp, hm, RC.len, RC.size, RC.app]
theorem f111 (bs : List Int) (c : Int) : F111 [.one (.ptr 0 0)] (bufHp (some 0) bs c) = some (.one (.int .i64 c), bufHp (some 0) bs c) := by
  simp -implicitDefEqProofs [F111, c111, upd, bufHp]
theorem holds0 : Holds [] 0 0 := ⟨by simp [isB], rfl, rfl, by omega⟩
theorem f107 (bs : List Int) (n : Int) : F107 [.one (.ptr 0 0)] (bufHp (some 0) bs n) = some (.one (.int .i64 n), bufHp (some 0) bs n) := by
  simp -implicitDefEqProofs [F107, c107, upd, bufHp]
theorem f112 (bs : List Int) (n at_ i a s w b : Int) (ei : shrI .i64 at_ 3 = i) (hi0 : 0 ≤ i) (hi : i < bs.length) (hb : bs[i.toNat]?.getD 0 = b) (ea : bitsI .and .i64 at_ 7 = a) (ha : ¬ a < 0) (es : shrI .u8 b a = s) (ec : IntKind.u32.wrap s = s) (ew : bitsI .and .u32 s 1 = w) :
    F112 [.one (.ptr 0 0), .one (.int .i64 at_)] (bufHp (some 0) bs n) = some (.one (.int .u32 w), bufHp (some 0) bs n) := by
  have hb' : bs[i.toNat]'(by omega) = b := by rw [List.getElem?_eq_getElem (by omega)] at hb; exact hb
  simp -implicitDefEqProofs [F112, c112, upd, bufHp, ei, hi0, hi, hb, hb', ea, ha, es, ec, ew, RC.len, RC.size, RC.get]
theorem bit66 (bs : List Int) (n : Int) (at_ : Nat) (hB : isB bs) (hl : bs.length ≤ 100000) (h : at_ < 8 * bs.length) : F112 [.one (.ptr 0 0), .one (.int .i64 at_)] (bufHp (some 0) bs n) = some (.one (.int .u32 ((leB bs / 2 ^ at_ % 2 : Nat) : Int)), bufHp (some 0) bs n) := by
  obtain ⟨a, ha⟩ : ∃ a, a = at_ % 8 := ⟨_, rfl⟩
  obtain ⟨i, hi⟩ : ∃ i, i = at_ / 8 := ⟨_, rfl⟩
  have hib : i < bs.length := by omega
  obtain ⟨b, hbi⟩ : ∃ b, bs[i]? = some b := ⟨_, List.getElem?_eq_getElem hib⟩
  have hbr := hB b (List.mem_of_getElem? hbi)
  obtain ⟨β, rfl⟩ : ∃ β : Nat, b = β := ⟨b.toNat, by omega⟩
  have hβ := leB_at hB hbi
  rw [Int.toNat_natCast] at hβ
  have hs1 : β / 2 ^ a < 256 := Nat.lt_of_le_of_lt (Nat.div_le_self _ _) (by omega)
  have ec : IntKind.u32.wrap ((β / 2 ^ a : Nat) : Int) = ((β / 2 ^ a : Nat) : Int) := by
    generalize β / 2 ^ a = s1 at hs1 ⊢
    exact u32_in _ (by omega)
  have hv : β / 2 ^ a % 2 = leB bs / 2 ^ at_ % 2 := by
    have := byte_bits (N := leB bs) (i := i) (a := a) (k := 1) (by omega)
    rw [hβ, show 8 * i + a = at_ by omega] at this
    exact this
  have ew : bitsI .and .u32 ((β / 2 ^ a : Nat) : Int) 1 = ((leB bs / 2 ^ at_ % 2 : Nat) : Int) := by
    rw [← hv]
    exact mask_and (k := .u32) (n := 1) rfl (by simp only [IntKind.bits]; omega) (by simp only [IntKind.bits]; omega)
  exact f112 bs n at_ i a _ _ β (by rw [show (3 : Int) = ((3 : Nat) : Int) from rfl, shr_in (by simp only [IntKind.bits]; omega), show (2 : Nat) ^ 3 = 8 from rfl, ← hi]) (by omega) (by omega) (by rw [Int.toNat_natCast, hbi]; rfl) (by rw [and7_i64 (by omega), ← ha]) (by omega) (shr_in (by simp only [IntKind.bits]; omega)) ec ew
def canon104 (n0 v i : Int) (bs : List Int) (n : Int) : St :=
  ⟨[(0, .one (.ptr 0 0)), (6, .one (.int .u32 v)), (25, .one (.int .i64 n0)), (26, .one (.int .i64 i))], [.ptr 0 0, .int .i64 n0], bufHp (some 0) bs n⟩
theorem body104 (n0 v i n n' w s v' i' : Int) (bs : List Int) (hi : i < n0) (en : IntKind.i64.wrap (n - 1) = n') (es : shlI .u32 v 1 = s) (ev : bitsI .or .u32 s w = v') (ei : IntKind.i64.wrap (i + 1) = i')
    (e112 : F112 [.one (.ptr 0 0), .one (.int .i64 n')] (bufHp (some 0) bs n') = some (.one (.int .u32 w), bufHp (some 0) bs n')) :
    ∃ st1, evC T104 KK b104x0 (canon104 n0 v i bs n) = some (.norm, st1) ∧ St.head [0, 6, 25, 26] st1 = canon104 n0 v' i' bs n' := by
  simp only [bufHp] at e112
  simp -implicitDefEqProofs [b104x0, canon104, bufHp, upd, hi, en, es, ev, ei, e112]
theorem end104 (n0 v i n : Int) (bs : List Int) (hi : ¬ i < n0) :
    ∃ env, evC T104 KK b104x0 (canon104 n0 v i bs n) = some (.exit 0, ⟨env, [.ptr 0 0, .int .i64 n0], bufHp (some 0) bs n⟩) ∧ getT 6 env = .one (.int .u32 v) := by
  simp -implicitDefEqProofs [b104x0, canon104, upd, hi]
theorem loop104 (bs : List Int) (n0 m : Nat) (hB : isB bs) (hl : bs.length ≤ 100000) (hm : m ≤ 8 * bs.length) (hn : n0 ≤ 32) (hnm : n0 ≤ m) : ∀ (j i : Nat) (K : Nat), i + j = n0 → j < K →
    ∃ env, loopH (evC T104 KK b104x0) [0, 6, 25, 26] K (canon104 n0 (leB bs / 2 ^ (m - i) % 2 ^ i : Nat) i bs (m - i : Nat)) = some (.exit 0, ⟨env, [.ptr 0 0, .int .i64 n0], bufHp (some 0) bs (m - n0 : Nat)⟩) ∧ getT 6 env = .one (.int .u32 (leB bs / 2 ^ (m - n0) % 2 ^ n0 : Nat))
  | 0, i, K, hi, hK => by
    obtain rfl : i = n0 := by omega
    obtain ⟨env, e, g⟩ := end104 i (leB bs / 2 ^ (m - i) % 2 ^ i : Nat) i (m - i : Nat) bs (by omega)
    exact ⟨env, loopH_exit e, g⟩
  | j + 1, i, K, hi, hK => by
    have hv : leB bs / 2 ^ (m - i) % 2 ^ i < 2 ^ i := Nat.mod_lt _ (Nat.two_pow_pos i)
    have hp : 2 ^ i ≤ 2 ^ 31 := Nat.pow_le_pow_right (by omega) (by omega)
    have hstep : leB bs / 2 ^ (m - (i + 1)) % 2 ^ (i + 1) = leB bs / 2 ^ (m - (i + 1)) % 2 + leB bs / 2 ^ (m - i) % 2 ^ i * 2 := by
      have := mod_more (leB bs / 2 ^ (m - (i + 1))) 1 i
      rw [Nat.add_comm 1 i, Nat.div_div_eq_div_mul, ← Nat.pow_add, show m - (i + 1) + 1 = m - i by omega, Nat.pow_one] at this
      exact this
    have hbit : leB bs / 2 ^ (m - (i + 1)) % 2 < 2 ^ 1 := Nat.mod_lt _ (by omega)
    have e112 := bit66 bs ((m - (i + 1) : Nat) : Int) (m - (i + 1)) hB hl (by omega)
    generalize hV : leB bs / 2 ^ (m - i) % 2 ^ i = V at *
    generalize hW : leB bs / 2 ^ (m - (i + 1)) % 2 = Wb at *
    have es : shlI .u32 (V : Int) 1 = ((V * 2 : Nat) : Int) := by
      have := shl_in (k := .u32) (x := V) (n := 1) rfl (by simp only [IntKind.bits]; omega) (by simp only [IntKind.bits]; omega)
      simpa using this
    have ev : bitsI .or .u32 ((V * 2 : Nat) : Int) (Wb : Int) = ((Wb + V * 2 : Nat) : Int) := by
      have h1 := bitsI_or (k := .u32) (x := V * 2) (y := Wb) rfl (by simp only [IntKind.bits]; omega) (by simp only [IntKind.bits]; omega)
      have h2 := Nat.shiftLeft_add_eq_or_of_lt hbit V
      rw [Nat.shiftLeft_eq, Nat.pow_one] at h2
      rw [h1, ← h2, Nat.add_comm]
    obtain ⟨st1, e1, e2⟩ := body104 n0 V i (m - i : Nat) (m - (i + 1) : Nat) Wb (V * 2 : Nat) (Wb + V * 2 : Nat) (i + 1 : Nat) bs (by omega) (by rw [i64_in _ (by omega)]; omega) es ev (by rw [i64_in _ (by omega)]; omega) e112
    obtain ⟨env, e, g⟩ := loop104 bs n0 m hB hl hm hn hnm j (i + 1) (K - 1) (by omega) (by omega)
    refine ⟨env, ?_, g⟩
    rw [loopH_norm e1 (by omega), e2, ← hstep]
    exact e
def tup2 (v : Int) (ok : Bool) : AV := .tup [.one (.int .u32 v), .one (.bool ok)]
theorem f104a (bs : List Int) (m n : Int) (h : n < 0 ∨ 32 < n ∨ m < n) : F104 [.one (.ptr 0 0), .one (.int .i64 n)] (bufHp (some 0) bs m) = some (tup2 0 false, bufHp (some 0) bs m) := by
  by_cases h1 : n < 0
  · simp -implicitDefEqProofs [F104, c104, upd, tup2, bufHp, h1]
  · by_cases h2 : 32 < n
    · simp -implicitDefEqProofs [F104, c104, upd, tup2, bufHp, h1, h2]
    · have h3 : m < n := by omega
      simp -implicitDefEqProofs [F104, c104, upd, tup2, bufHp, h1, h2, h3]
theorem f104 (bs : List Int) (m n : Nat) (hB : isB bs) (hl : bs.length ≤ 100000) (hm : m ≤ 8 * bs.length) (hn : n ≤ 32) (hnm : n ≤ m) : F104 [.one (.ptr 0 0), .one (.int .i64 n)] (bufHp (some 0) bs m) = some (tup2 (leB bs / 2 ^ (m - n) % 2 ^ n : Nat) true, bufHp (some 0) bs (m - n : Nat)) := by
  obtain ⟨env, e, g⟩ := loop104 bs n m hB hl hm hn hnm n 0 KK (by omega) (by rw [KK_eq]; omega)
  have z : ((0 : Nat) : Int) = 0 := rfl
  have h1 : ¬ (n : Int) < 0 := by omega
  have h2 : ¬ (32 : Int) < n := by omega
  have h2' : ¬ 32 < n := by omega
  have h3 : ¬ (m : Int) < n := by omega
  have h3' : ¬ m < n := by omega
  simp only [canon104, bufHp, Nat.pow_zero, Nat.mod_one, Nat.sub_zero, z] at e
  generalize ((leB bs / 2 ^ (m - n) % 2 ^ n : Nat) : Int) = v at *
  generalize ((m - n : Nat) : Int) = m' at *
  simp -implicitDefEqProofs [F104, c104, upd, tup2, bufHp, h1, h2, h2', hn, h3, h3', e, g]
theorem f103z (t : Nat) (bs : List Int) (h : bs = [] ∨ bs.getLast? = some 0) (hl : bs.length ≤ 100000) : F103 [.one (.ro t (.ints .u8 bs))] [] = some (.tup [.one .nilp, .one (.bool false)], []) := by
  by_cases h0 : bs = []
  · subst h0
    simp -implicitDefEqProofs [F103, c103, upd, RC.len]
  · have hp : 0 < bs.length := List.length_pos_iff.2 h0
    have hlast : bs.getLast? = some 0 := h.resolve_left h0
    rw [List.getLast?_eq_getElem?] at hlast
    have w : IntKind.i64.wrap ((bs.length : Int) - 1) = ((bs.length - 1 : Nat) : Int) := by rw [i64_in _ (by omega)]; omega
    have hi : ((bs.length - 1 : Nat) : Int) < bs.length := by omega
    have hi2 : bs.length - 1 < bs.length := by omega
    have hb : bs[bs.length - 1]?.getD 0 = 0 := by rw [hlast]; rfl
    have hb' : bs[bs.length - 1] = 0 := by rw [List.getElem?_eq_getElem hi2] at hb; exact hb
    have hn : ¬ ((bs.length : Int) = 0) := by omega
    simp -implicitDefEqProofs [F103, c103, upd, h0, hn, w, hi, hi2, hb, hb', RC.len, RC.size, RC.get]
theorem f103 (t : Nat) (bs : List Int) (b : Int) (hB : isB bs) (h : bs.getLast? = some b) (hb0 : b ≠ 0) (hl : bs.length ≤ 100000) : F103 [.one (.ro t (.ints .u8 bs))] [] = some (.tup [.one (.ptr 0 0), .one (.bool true)], bufHp none bs (8 * (bs.length - 1) + (bl b.toNat - 1) : Nat)) := by
  have h0 : bs ≠ [] := by rintro rfl; simp at h
  have hp : 0 < bs.length := List.length_pos_iff.2 h0
  rw [List.getLast?_eq_getElem?] at h
  have hbr := hB b (List.mem_of_getElem? h)
  have w : IntKind.i64.wrap ((bs.length : Int) - 1) = ((bs.length - 1 : Nat) : Int) := by rw [i64_in _ (by omega)]; omega
  have hi : ((bs.length - 1 : Nat) : Int) < bs.length := by omega
  have hi2 : bs.length - 1 < bs.length := by omega
  have hb : bs[bs.length - 1]?.getD 0 = b := by rw [h]; rfl
  have hb' : bs[bs.length - 1] = b := by rw [List.getElem?_eq_getElem hi2] at hb; exact hb
  have hn : ¬ ((bs.length : Int) = 0) := by omega
  have wb : IntKind.u32.wrap b = b := u32_in _ (by omega)
  have e42 := e42 b hbr.1 (by omega)
  obtain ⟨h1, h2, h3⟩ := bl_pos (n := b.toNat) (by omega)
  have hbl := bl_le (n := b.toNat) (k := 8) (by omega)
  have wt : IntKind.i64.wrap ((bl b.toNat : Int) - 1) = ((bl b.toNat - 1 : Nat) : Int) := by rw [i64_in _ (by omega)]; omega
  have w8 : IntKind.i64.wrap (8 * ((bs.length - 1 : Nat) : Int)) = ((8 * (bs.length - 1) : Nat) : Int) := by rw [i64_in _ (by omega)]; omega
  have ws : IntKind.i64.wrap (((8 * (bs.length - 1) : Nat) : Int) + ((bl b.toNat - 1 : Nat) : Int)) = ((8 * (bs.length - 1) + (bl b.toNat - 1) : Nat) : Int) := by rw [i64_in _ (by omega)]; omega
  have hm : bs.length ≤ 140737488355328 := by omega
  generalize ((8 * (bs.length - 1) + (bl b.toNat - 1) : Nat) : Int) = q at *
  generalize ((8 * (bs.length - 1) : Nat) : Int) = q1 at *
  generalize ((bl b.toNat - 1 : Nat) : Int) = q2 at *
  simp -implicitDefEqProofs [F103, c103, upd, bufHp, h0, hn, w, hi, hi2, hb, hb', hb0, wb, e42, wt, w8, ws, hm, RC.len, RC.size, RC.get, RC.app]
theorem f98z (bs : List Int) (c : Nat) (hl : bs.length ≤ 90000) (hc : c = 8 * bs.length) : F98 [.one (.ptr 0 0)] (bufHp (some 0) bs c) = some (.one (.row 2), bufHp (some 0) bs c ++ [.rows none (.ints .u8 (bs ++ [1]))]) := by
  have e22 := f22 bs c (by omega)
  have e111 := f111 bs c
  have ea : bitsI .and .i64 (c : Int) 7 = 0 := by rw [and7_i64 (by omega)]; omega
  have ei : shrI .i64 (c : Int) 3 = bs.length := by rw [show (3 : Int) = ((3 : Nat) : Int) from rfl, shr_in (by simp only [IntKind.bits]; omega), show (2 : Nat) ^ 3 = 8 from rfl]; omega
  have s1 : shlI .u8 1 0 = 1 := by decide
  have s2 : bitsI .or .u8 0 1 = 1 := by decide
  have hm : bs.length + 1 ≤ 140737488355328 := by omega
  have hb1 : (bs.length : Int) < (bs.length : Int) + 1 := by omega
  simp only [bufHp, List.cons_append, List.nil_append] at e22 e111
  generalize (c : Int) = C at *
  simp -implicitDefEqProofs [F98, c98, upd, bufHp, e22, e111, ea, ei, s1, s2, hm, hb1, RC.len, RC.size, RC.get, RC.set, RC.app, RC.ofElems]
theorem f98s (bs : List Int) (c : Nat) (a s x y : Int) (i : Nat) (ea : bitsI .and .i64 (c : Int) 7 = a) (ha : ¬ a = 0) (ha0 : ¬ a < 0) (ei : shrI .i64 (c : Int) 3 = i) (hi : i < bs.length) (hx : bs[i]?.getD 0 = x) (es : shlI .u8 1 a = s) (ey : bitsI .or .u8 x s = y) (hl : bs.length ≤ 90000) :
    F98 [.one (.ptr 0 0)] (bufHp (some 0) bs c) = some (.one (.row 2), bufHp (some 0) bs c ++ [.rows none (.ints .u8 (bs.set i y))]) := by
  have e22 := f22 bs c (by omega)
  have e111 := f111 bs c
  have hx' : bs[i] = x := by rw [List.getElem?_eq_getElem hi] at hx; exact hx
  have hi2 : (i : Int) < bs.length := by omega
  simp only [bufHp, List.cons_append, List.nil_append] at e22 e111
  generalize (c : Int) = C at *
  simp -implicitDefEqProofs [F98, c98, upd, bufHp, e22, e111, ea, ha, ha0, ei, hi, hi2, hx, hx', es, ey, RC.len, RC.size, RC.get, RC.set, RC.app, RC.ofElems]
theorem f98 (bs : List Int) (c N : Nat) (h : Holds bs c N) (hc : c ≤ 700000) : ∃ out, F98 [.one (.ptr 0 0)] (bufHp (some 0) bs c) = some (.one (.row 2), bufHp (some 0) bs c ++ [.rows none (.ints .u8 out)]) ∧ Holds out (c + 1) (N + 2 ^ c) := by
  obtain ⟨hB, hlen, hval, hlt⟩ := h
  have hp : 2 ^ (c + 1) = 2 * 2 ^ c := by rw [Nat.pow_succ]; omega
  by_cases h0 : c % 8 = 0
  · refine ⟨_, f98z bs c (by omega) (by omega), isB_append hB (isB_one (by omega)), ?_, ?_, by omega⟩
    · rw [List.length_append, List.length_cons, List.length_nil]; omega
    · rw [leB_append, hval, show 8 * bs.length = c by omega]; simp [leB]
  · obtain ⟨a, ha⟩ : ∃ a, a = c % 8 := ⟨_, rfl⟩
    obtain ⟨q, hq⟩ : ∃ q, q = c / 8 := ⟨_, rfl⟩
    have hql : q < bs.length := by omega
    obtain ⟨b, hbi⟩ : ∃ b, bs[q]? = some b := ⟨_, List.getElem?_eq_getElem hql⟩
    have hbr := hB b (List.mem_of_getElem? hbi)
    obtain ⟨β, rfl⟩ : ∃ β : Nat, b = β := ⟨b.toNat, by omega⟩
    have hβ := leB_at hB hbi
    rw [hval, Int.toNat_natCast] at hβ
    have hβa : β < 2 ^ a := by
      rw [← hβ]
      refine Nat.lt_of_le_of_lt (Nat.mod_le _ _) ?_
      rw [Nat.div_lt_iff_lt_mul (Nat.two_pow_pos _), ← Nat.pow_add, show a + 8 * q = c by omega]
      exact hlt
    have hp7 : 2 ^ a ≤ 2 ^ 7 := Nat.pow_le_pow_right (by omega) (by omega)
    have es : shlI .u8 1 (a : Int) = ((1 * 2 ^ a : Nat) : Int) := shl_in (k := .u8) (x := 1) rfl (by simp only [IntKind.bits]; omega) (by simp only [IntKind.bits]; omega)
    have ey : bitsI .or .u8 (β : Int) ((1 * 2 ^ a : Nat) : Int) = ((β + 1 * 2 ^ a : Nat) : Int) := or_add rfl hβa (by simp only [IntKind.bits]; omega)
    refine ⟨_, f98s bs c a _ β _ q (by rw [and7_i64 (by omega), ← ha]) (by omega) (by omega) (by rw [show (3 : Int) = ((3 : Nat) : Int) from rfl, shr_in (by simp only [IntKind.bits]; omega), show (2 : Nat) ^ 3 = 8 from rfl, ← hq]) hql (by rw [hbi]; rfl) es ey (by omega), ?_, ?_, ?_, by omega⟩
    · intro x hx
      rcases List.mem_or_eq_of_mem_set hx with hx | hx
      · exact hB x hx
      · subst hx
        generalize (2 : Nat) ^ a = P at hp7 hβa ⊢
        omega
    · rw [List.length_set]; omega
    · have := leB_set (d := 1 * 2 ^ a) hB hbi
      rw [hval, Nat.one_mul, ← Nat.pow_add, show a + 8 * q = c by omega] at this
      rw [← this, Nat.one_mul]
      congr 2
def canon100 (t : Nat) (bs l : List Int) (k : Int) : St := ⟨[(4, .one (.row 0)), (5, .one (.int .i64 k))], [.ro t (.ints .u8 bs)], [.rows none (.ints .i64 l)]⟩
theorem body100 (t : Nat) (bs l : List Int) (k : Nat) (k' : Int) (hk : k < l.length) (hb : l[k]?.getD 0 = 0) (ek : IntKind.i64.wrap ((k : Int) - 1) = k') :
    ∃ st1, evC T100 KK b100x0 (canon100 t bs l k) = some (.norm, st1) ∧ St.head [4, 5] st1 = canon100 t bs l k' := by
  have hb' : l[k] = 0 := by rw [List.getElem?_eq_getElem hk] at hb; exact hb
  have hk2 : (k : Int) < l.length := by omega
  simp -implicitDefEqProofs [b100x0, canon100, upd, hk, hk2, hb, hb', ek, RC.len, RC.size, RC.get]
theorem end100 (t : Nat) (bs l : List Int) (k : Nat) (hk : k < l.length) (hb : l[k]?.getD 0 = 1) :
    ∃ env, evC T100 KK b100x0 (canon100 t bs l k) = some (.exit 0, ⟨env, [.ro t (.ints .u8 bs)], [.rows none (.ints .i64 l)]⟩) ∧ getT 4 env = .one (.row 0) ∧ getT 5 env = .one (.int .i64 k) := by
  have hb' : l[k] = 1 := by rw [List.getElem?_eq_getElem hk] at hb; exact hb
  have hk2 : (k : Int) < l.length := by omega
  simp -implicitDefEqProofs [b100x0, canon100, upd, hk, hk2, hb, hb', RC.len, RC.size, RC.get]
theorem loop100 (t : Nat) (bs l : List Int) (hN : isN l) (hl : l.length ≤ 800000) (hpos : 0 < leN l) : ∀ (k K : Nat), k < l.length → leN l < 2 ^ (k + 1) → k < K →
    ∃ env, loopH (evC T100 KK b100x0) [4, 5] K (canon100 t bs l k) = some (.exit 0, ⟨env, [.ro t (.ints .u8 bs)], [.rows none (.ints .i64 l)]⟩) ∧ getT 4 env = .one (.row 0) ∧ getT 5 env = .one (.int .i64 (bl (leN l) - 1 : Nat)) ∧ bl (leN l) - 1 < l.length
  | k, K, hk, hlt, hK => by
    have hb := hN l[k] (List.getElem_mem hk)
    have hg : l[k]?.getD 0 = l[k] := by rw [List.getElem?_eq_getElem hk]; rfl
    have hat := leN_at hN (List.getElem?_eq_getElem hk)
    have hp : 2 ^ (k + 1) = 2 ^ k * 2 := Nat.pow_succ 2 k
    have hp0 := Nat.two_pow_pos k
    have hq : leN l / 2 ^ k < 2 := by rw [Nat.div_lt_iff_lt_mul hp0]; omega
    rcases hb with hb | hb
    · rw [hb] at hat hg
      have hq0 : leN l / 2 ^ k = 0 := by
        simp only [Int.toNat_zero] at hat
        generalize leN l / 2 ^ k = Q at hat hq ⊢
        omega
      have hlt2 : leN l < 2 ^ k := (Nat.div_eq_zero_iff_lt hp0).1 hq0
      cases k with
      | zero => omega
      | succ k =>
        obtain ⟨st1, e1, e2⟩ := body100 t bs l (k + 1) k hk hg (by rw [i64_in _ (by omega)]; omega)
        obtain ⟨env, e, g⟩ := loop100 t bs l hN hl hpos k (K - 1) (by omega) hlt2 (by omega)
        exact ⟨env, by rw [loopH_norm e1 (by omega), e2]; exact e, g⟩
    · rw [hb] at hat hg
      have hq1 : leN l / 2 ^ k = 1 := by
        have h1 : (1 : Int).toNat = 1 := rfl
        rw [h1] at hat
        generalize leN l / 2 ^ k = Q at hat hq ⊢
        omega
      have hge : 2 ^ k ≤ leN l := by
        have := Nat.div_mul_le_self (leN l) (2 ^ k)
        rw [hq1] at this
        omega
      have hbl := bl_unique hge hlt
      obtain ⟨env, e, g4, g5⟩ := end100 t bs l k hk hg
      exact ⟨env, loopH_exit e, g4, by rw [hbl, Nat.add_sub_cancel]; exact g5, by omega⟩
theorem f100z (t : Nat) (bs : List Int) (h : bs = [] ∨ bs.getLast? = some 0) (hl : bs.length ≤ 90000) : F100 [.one (.ro t (.ints .u8 bs))] [] = some (.tup [.one (.row 0), .one (.bool false)], [.rows none (.ints .i64 [])]) := by
  by_cases h0 : bs = []
  · subst h0
    simp -implicitDefEqProofs [F100, c100, upd, RC.len]
  · have hp : 0 < bs.length := List.length_pos_iff.2 h0
    have hlast : bs.getLast? = some 0 := h.resolve_left h0
    rw [List.getLast?_eq_getElem?] at hlast
    have w : IntKind.i64.wrap ((bs.length : Int) - 1) = ((bs.length - 1 : Nat) : Int) := by rw [i64_in _ (by omega)]; omega
    have hi : ((bs.length - 1 : Nat) : Int) < bs.length := by omega
    have hi2 : bs.length - 1 < bs.length := by omega
    have hb : bs[bs.length - 1]?.getD 0 = 0 := by rw [hlast]; rfl
    have hb' : bs[bs.length - 1] = 0 := by rw [List.getElem?_eq_getElem hi2] at hb; exact hb
    have hn : ¬ ((bs.length : Int) = 0) := by omega
    simp -implicitDefEqProofs [F100, c100, upd, h0, hn, w, hi, hi2, hb, hb', RC.len, RC.size, RC.get]
theorem bl_leB {bs : List Int} {b : Int} (hB : isB bs) (h : bs.getLast? = some b) (hb0 : b ≠ 0) : bl (leB bs) = 8 * (bs.length - 1) + bl b.toNat ∧ 0 < leB bs := by
  have h0 : bs ≠ [] := by rintro rfl; simp at h
  have hp : 0 < bs.length := List.length_pos_iff.2 h0
  rw [List.getLast?_eq_getElem?] at h
  have hbr := hB b (List.mem_of_getElem? h)
  have hat := leB_at hB h
  have hlt := leB_lt hB
  have hq : leB bs / 2 ^ (8 * (bs.length - 1)) < 256 := by
    rw [Nat.div_lt_iff_lt_mul (Nat.two_pow_pos _)]
    have : 2 ^ (8 * bs.length) = 256 * 2 ^ (8 * (bs.length - 1)) := by
      rw [show 8 * bs.length = 8 + 8 * (bs.length - 1) by omega, Nat.pow_add]
    omega
  rw [Nat.mod_eq_of_lt hq] at hat
  have hge : 2 ^ (8 * (bs.length - 1)) ≤ leB bs := by
    have := Nat.div_mul_le_self (leB bs) (2 ^ (8 * (bs.length - 1)))
    rw [hat] at this
    have h1 : 1 * 2 ^ (8 * (bs.length - 1)) ≤ b.toNat * 2 ^ (8 * (bs.length - 1)) := Nat.mul_le_mul_right _ (by omega)
    omega
  have := Nat.two_pow_pos (8 * (bs.length - 1))
  exact ⟨by rw [bl_div _ hge, hat], by omega⟩
theorem f100 (t : Nat) (bs : List Int) (b : Int) (hB : isB bs) (h : bs.getLast? = some b) (hb0 : b ≠ 0) (hl : bs.length ≤ 10000) :
    ∃ A, F100 [.one (.ro t (.ints .u8 bs))] [] = some (.tup [.one (.view 0 0 (bl (leB bs) - 1)), .one (.bool true)], [.rows none (.ints .i64 A)]) ∧ isN A ∧ leN A = leB bs ∧ bl (leB bs) - 1 < A.length ∧ A.length = 8 * bs.length := by
  have h0 : bs ≠ [] := by rintro rfl; simp at h
  have hp : 0 < bs.length := List.length_pos_iff.2 h0
  have hbl := bl_leB hB h hb0
  obtain ⟨A, e26, hN, hlen, hv⟩ := f26 0 bs hB (by omega)
  obtain ⟨env, e, g4, g5, hbk⟩ := loop100 t bs A hN (by omega) (by rw [hv]; exact hbl.2) (A.length - 1) KK (by omega) (by rw [show A.length - 1 + 1 = A.length by omega]; exact leN_lt hN) (by rw [KK_eq]; omega)
  rw [hv] at g5 hbk
  rw [List.getLast?_eq_getElem?] at h
  have w : IntKind.i64.wrap ((bs.length : Int) - 1) = ((bs.length - 1 : Nat) : Int) := by rw [i64_in _ (by omega)]; omega
  have wA : IntKind.i64.wrap ((A.length : Int) - 1) = ((A.length - 1 : Nat) : Int) := by rw [i64_in _ (by omega)]; omega
  have hi : ((bs.length - 1 : Nat) : Int) < bs.length := by omega
  have hi2 : bs.length - 1 < bs.length := by omega
  have hb : bs[bs.length - 1]?.getD 0 = b := by rw [h]; rfl
  have hb' : bs[bs.length - 1] = b := by rw [List.getElem?_eq_getElem hi2] at hb; exact hb
  have hn : ¬ ((bs.length : Int) = 0) := by omega
  refine ⟨A, ?_, hN, hv, hbk, hlen⟩
  have hbk1 : ((bl (leB bs) - 1 : Nat) : Int) ≤ A.length := by omega
  have hbk2 : bl (leB bs) - 1 ≤ A.length := by omega
  simp only [canon100] at e
  have wb : ¬ (b == 0) = true := by simpa using hb0
  generalize bl (leB bs) - 1 = q at *
  simp -implicitDefEqProofs [F100, c100, upd, h0, hn, w, wA, hi, hi2, hb, hb', hb0, e26, e, g4, g5, hbk1, hbk2, RC.len, RC.size, RC.get]
end Go.X.Tryz
namespace Go.X
open Go.RowKit Go.ChangeShapes Go.ChangeAt Go.WideShapes Go.Deep
theorem list_of {α : Type} {p : Nat → α → Prop} : ∀ (n : Nat), (∀ i, i < n → ∃ a, p i a) → ∃ zs : List α, zs.length = n ∧ ∀ (i : Nat) (a : α), zs[i]? = some a → p i a
  | 0, _ => ⟨[], rfl, fun i a h => by simp at h⟩
  | n + 1, h => by
    obtain ⟨zs, hl, hz⟩ := list_of n (fun i hi => h i (by omega))
    obtain ⟨a, ha⟩ := h n (by omega)
    refine ⟨zs ++ [a], by simp [hl], fun i b hb => ?_⟩
    by_cases hi : i < n
    · rw [List.getElem?_append_left (by omega)] at hb
      exact hz i b hb
    · have hlt := (List.getElem?_eq_some_iff.1 hb).1
      simp only [List.length_append, List.length_cons, List.length_nil] at hlt
      have hin : i = n := by omega
      subst hin
      rw [← hl, List.getElem?_concat_length] at hb
      simp only [Option.some.injEq] at hb
      subst hb
      exact ha
theorem flat_at {α β : Type} {g : α → List β} {s : Nat} {u : β} : ∀ {zs : List α} {j : Nat}, (∀ a ∈ zs, (g a).length = s) → (zs.flatMap g)[j]? = some u → ∃ i r a, j = i * s + r ∧ r < s ∧ zs[i]? = some a ∧ (g a)[r]? = some u
  | [], j, _, h => by simp at h
  | a :: zs, j, hs, h => by
    have ha := hs a (by simp)
    rw [List.flatMap_cons] at h
    by_cases hj : j < s
    · rw [List.getElem?_append_left (by omega)] at h
      exact ⟨0, j, a, by simp, hj, rfl, h⟩
    · rw [List.getElem?_append_right (by omega), ha] at h
      obtain ⟨i, r, b, h1, h2, h3, h4⟩ := flat_at (zs := zs) (fun b hb => hs b (by simp [hb])) h
      exact ⟨i + 1, r, b, by rw [Nat.add_mul]; omega, h2, by simpa using h3, h4⟩
section
variable {H : Type} {enc : TypeId × Value → H} {P : Program} {W : World} {spare : Nat → Bool} {held : Bool}
theorem open_ro {α : Type} (enc' : α → List Sc) (mkc : List α → RC) (Q : α → Prop) {t e : TypeId} {v : Value} {d : DataW H} {ps : List MemPlace} {r : Reach} {b0 : Nat}
    (hsz : ∀ a, Q a → (enc' a).length = P.cellsOf e) (hv : ∀ zs, (mkc zs).vals = zs.flatMap fun a => (enc' a).map Sc.val) (hl : ∀ zs, (mkc zs).len = zs.length)
    (hw : ∀ zs, (∀ a ∈ zs, Q a) → (mkc zs).wf) (hel : ∀ (fuel : Nat) (cs : List Value) (x : DataW H × List MemPlace), DataW.trod enc P W 0 spare held fuel e cs = some x → ∃ a, cs = (enc' a).map Sc.val ∧ Q a)
    (ht : P.underlying t = some (.slice e)) (hpos : 0 < P.cellsOf e) (hval : Value.okWide P W r b0 t v) (h : DataW.Trod enc P W 0 spare held t v d ps) :
    ∃ (zs : List α) (a : Option Addr) (cap b : Nat), v = .slice a (mkc zs).len cap ∧ (mkc zs).len ≤ cap ∧ zs.length ≤ maxLen ∧ (∀ z ∈ zs, Q z) ∧ ∀ (τ : Nat → Nat) (u : Nat), τ u = b → (cx0 P W τ).reads u (mkc zs) a := by
  obtain ⟨a, len, cap, rfl⟩ := okWide_slice ht hval
  obtain ⟨fuel, hf⟩ := h
  rcases open_slice ht hf with ⟨hcs, hx⟩ | ⟨a, len, cap, m, n, D, Pl, hcs, _, hlc, hm, hmm, hx, hi⟩
  · simp [Value.cells] at hcs
    obtain ⟨rfl, rfl, rfl⟩ := hcs
    refine ⟨[], none, 0, 0, by rw [hl]; rfl, by rw [hl]; exact Nat.le_refl _, by simp, by simp, fun τ u _ => ⟨hw [] (by simp), fun h0 => ?_⟩⟩
    rw [hl] at h0
    simp at h0
  · simp [Value.cells] at hcs
    obtain ⟨rfl, rfl, rfl⟩ := hcs
    have hmle : len ≤ m := by rw [hmm]; split <;> omega
    obtain ⟨zs, hzl, hz⟩ := list_of (p := fun i z => W.cells? 0 (a.add (i * P.cellsOf e)) (P.cellsOf e) = some ((enc' z).map Sc.val) ∧ Q z) len (fun i hilt => by
      obtain ⟨cs', h1, h2⟩ := hi i (by omega)
      obtain ⟨z, rfl, hq⟩ := hel _ _ _ h2
      exact ⟨z, h1, hq⟩)
    have hQ : ∀ z ∈ zs, Q z := fun z hm => by
      obtain ⟨i, hi'⟩ := List.getElem?_of_mem hm
      exact (hz i z hi').2
    obtain ⟨b, o, spot⟩ := a
    have spotOf : 0 < len → spot = none := fun h0 => by
      have h1 := hz 0 _ (List.getElem?_eq_getElem (by omega))
      obtain ⟨_, hcl, hat⟩ := World.cells?_some h1.1
      have h2 := hat 0 hpos
      rw [List.getElem?_eq_getElem (by rw [hcl]; exact hpos)] at h2
      simpa [Addr.add] using World.cell?_spot h2
    refine ⟨zs, some ⟨b, o, spot⟩, cap, b, by rw [hl, hzl], by rw [hl]; omega, by omega, hQ, fun τ u hu => ⟨hw zs hQ, fun h0 => ?_⟩⟩
    rw [hl, hzl] at h0
    have hsp := spotOf h0
    subst hsp
    have hcell : ∀ j v, (mkc zs).vals[j]? = some v → W.cell? ⟨b, o + j, none⟩ = some v := fun j v hj => by
      rw [hv] at hj
      obtain ⟨i, q, z, rfl, hq, hzi, hqv⟩ := flat_at (s := P.cellsOf e) (fun z hzm => by rw [List.length_map]; exact hsz z (hQ z hzm)) hj
      obtain ⟨h1, _⟩ := hz i z hzi
      obtain ⟨_, _, hat⟩ := World.cells?_some h1
      have h2 := hat q hq
      rw [hqv] at h2
      rw [← h2, Go.WideShapes.add_plain, Go.WideShapes.add_plain, Nat.add_assoc]
    refine ⟨b, o, rfl, fun hown => ?_, hu, hcell⟩
    rcases hown with hS | hge
    · exact hS
    · have h1 := hz 0 _ (List.getElem?_eq_getElem (by omega))
      obtain ⟨_, hcl, hat⟩ := World.cells?_some h1.1
      have h2 := hat 0 hpos
      rw [List.getElem?_eq_getElem (by rw [hcl]; exact hpos)] at h2
      have h3 : b < W.heap.size := by simpa [Addr.add] using World.block_lt_of_cell? W _ h2
      simp only [cx0] at hge
      omega
def isU8 (x : Int) : Prop := 0 ≤ x ∧ x < 256
theorem open_ro_recs (n : Nat) (Q : List Sc → Prop) {t e : TypeId} {v : Value} {d : DataW H} {ps : List MemPlace} {r : Reach} {b0 : Nat} (hn : 0 < n) (hQ : ∀ l, Q l → l.length = n)
    (hel : ∀ (fuel : Nat) (cs : List Value) (x : DataW H × List MemPlace), DataW.trod enc P W 0 spare held fuel e cs = some x → ∃ a : List Sc, cs = a.map Sc.val ∧ Q a)
    (ht : P.underlying t = some (.slice e)) (hc : P.cellsOf e = n) (hval : Value.okWide P W r b0 t v) (h : DataW.Trod enc P W 0 spare held t v d ps) :
    ∃ (zs : List (List Sc)) (a : Option Addr) (cap b : Nat), v = .slice a (RC.recs n zs).len cap ∧ (RC.recs n zs).len ≤ cap ∧ zs.length ≤ maxLen ∧ (∀ z ∈ zs, Q z) ∧ ∀ (τ : Nat → Nat) (u : Nat), τ u = b → (cx0 P W τ).reads u (.recs n zs) a :=
  open_ro id (RC.recs n) Q (fun a ha => by rw [hc]; exact hQ a ha) (fun zs => rfl) (fun zs => rfl) (fun zs hz => ⟨hn, fun l hl => hQ l (hz l hl)⟩) hel ht (by omega) hval h
inductive FK where
  | int (k : IntKind)
  | str
  | bool
def FK.ok : FK → Sc → Prop
  | .int k, .int j x => j = k ∧ (Lit.int k x).wf = true
  | .str, .str s => s.size ≤ maxLen
  | .bool, .bool _ => True
  | _, _ => False
def FK.is (P : Program) (t : TypeId) : FK → Bool
  | .int k => match P.underlying t with
    | some (.int j) => decide (j = k)
    | _ => false
  | .str => match P.underlying t with
    | some .string => true
    | _ => false
  | .bool => match P.underlying t with
    | some .bool => true
    | _ => false
def okFields : List FK → List Sc → Prop
  | [], [] => True
  | k :: ks, c :: cs => k.ok c ∧ okFields ks cs
  | _, _ => False
theorem okFields_length : ∀ {ks : List FK} {l : List Sc}, okFields ks l → l.length = ks.length
  | [], [], _ => rfl
  | [], _ :: _, h => h.elim
  | _ :: _, [], h => h.elim
  | k :: ks, c :: cs, h => by simp [okFields_length h.2]
theorem okFields_of : ∀ {ks : List FK} {l : List Sc}, l.length = ks.length → (∀ (j : Nat) (k : FK) (c : Sc), ks[j]? = some k → l[j]? = some c → k.ok c) → okFields ks l
  | [], [], _, _ => trivial
  | [], _ :: _, h, _ => by simp at h
  | _ :: _, [], h, _ => by simp at h
  | k :: ks, c :: cs, h, hf => ⟨hf 0 k c rfl rfl, okFields_of (by simpa using h) fun j k' c' h1 h2 => hf (j + 1) k' c' (by simpa using h1) (by simpa using h2)⟩
theorem open_fk {fuel : Nat} {t : TypeId} {cs : List Value} {x : DataW H × List MemPlace} (k : FK) (hk : k.is P t = true) (h : DataW.trod enc P W 0 spare held fuel t cs = some x) : ∃ c : Sc, cs = [c.val] ∧ k.ok c := by
  cases k with
  | int k =>
    simp only [FK.is] at hk
    split at hk
    · rename_i j hu
      simp only [decide_eq_true_eq] at hk
      subst hk
      obtain ⟨n, rfl, _, hw⟩ := DataW.trod_int hu h
      exact ⟨.int _ n, rfl, rfl, hw⟩
    · cases hk
  | str =>
    simp only [FK.is] at hk
    split at hk
    · rename_i hu
      obtain ⟨n, rfl, _, hw⟩ := DataW.trod_string hu h
      exact ⟨.str n, rfl, hw⟩
    · cases hk
  | bool =>
    simp only [FK.is] at hk
    split at hk
    · rename_i hu
      obtain ⟨n, rfl, _⟩ := DataW.trod_bool hu h
      exact ⟨.bool n, rfl, trivial⟩
    · cases hk
def fieldsAre (P : Program) (fs : Array Field) (ks : List FK) : Bool := fs.size == ks.length && (fs.toList.zip ks).all fun p => p.2.is P p.1.type
theorem open_fields {e : TypeId} {fs : Array Field} {fuel : Nat} {cs : List Value} {x : DataW H × List MemPlace} (he : P.underlying e = some (.struct fs)) (hone : oneCellFields P fs = true) (hC : P.cellsOf e = fs.size) (ks : List FK) (hks : fieldsAre P fs ks = true)
    (h : DataW.trod enc P W 0 spare held fuel e cs = some x) : ∃ l : List Sc, cs = l.map Sc.val ∧ okFields ks l := by
  obtain ⟨ys, n', hn', hy, hlen, hyl, hf⟩ := DataW.trod_struct he h
  simp only [fieldsAre, Bool.and_eq_true, beq_iff_eq] at hks
  obtain ⟨hsz, hall⟩ := hks
  have hcl : cs.length = fs.size := by rw [hlen]; exact hC
  have each : ∀ j, j < fs.size → ∃ c : Sc, cs[j]? = some c.val ∧ ∀ k, ks[j]? = some k → k.ok c := fun j hj => by
    have hfj : fs[j]? = some fs[j] := Array.getElem?_eq_getElem hj
    obtain ⟨ho, hk⟩ := hone_of hone j fs[j] hfj
    have h1 := hf j fs[j] hfj
    rw [ho, hk] at h1
    have hone' : (cs.drop j).take 1 = [cs[j]'(by omega)] := by
      rw [List.drop_eq_getElem_cons (by omega)]
      rfl
    rw [hone'] at h1
    have hys : ys[j]? = some (ys[j]'(by omega)) := List.getElem?_eq_getElem (by omega)
    have hkj : ks[j]? = some (ks[j]'(by omega)) := List.getElem?_eq_getElem (by omega)
    have hmem : (fs[j], ks[j]'(by omega)) ∈ fs.toList.zip ks := by
      refine List.mem_of_getElem? (i := j) ?_
      rw [List.getElem?_zip_eq_some]
      exact ⟨by simp, hkj⟩
    obtain ⟨c, hc, hok⟩ := open_fk _ (List.all_eq_true.1 hall _ hmem) (h1.trans hys)
    simp only [List.cons.injEq, and_true] at hc
    refine ⟨c, by rw [List.getElem?_eq_getElem (by omega), hc], fun k hk' => ?_⟩
    rw [hkj] at hk'
    simp only [Option.some.injEq] at hk'
    rw [← hk']
    exact hok
  obtain ⟨l, hl, hall'⟩ := list_of (p := fun j c => cs[j]? = some (Sc.val c) ∧ ∀ k, ks[j]? = some k → k.ok c) fs.size each
  refine ⟨l, ?_, okFields_of (by omega) fun j k c h1 h2 => (hall' j c h2).2 k h1⟩
  refine List.ext_getElem? fun j => ?_
  by_cases hj : j < l.length
  · have := (hall' j _ (List.getElem?_eq_getElem hj)).1
    rw [this, List.getElem?_map, List.getElem?_eq_getElem hj]
    rfl
  · rw [List.getElem?_eq_none (by omega), List.getElem?_eq_none (by rw [List.length_map]; omega)]
end
end Go.X
namespace Go.X.Tryz
open Go.IntWalk
abbrev rts6 (bs L : List Int) : List SV := [.ro 0 (.ints .u8 bs), .ro 1 (.ints .i64 L)]
def canon6 (bs L A : List Int) (i : Int) (k : Nat) : St :=
  ⟨[(5, .one (.view 0 0 k)), (6, .one (.bool true)), (7, .one (.ptr 1 0)), (45, .one (.ro 1 (.ints .i64 L))), (46, .one (.int .i64 L.length)), (47, .one (.int .i64 i))], rts6 bs L, [.rows none (.ints .i64 A), .cells none [.row 2, .int .i64 k], .rows none (.ints .u8 bs)]⟩
def canon6z (bs L : List Int) (i : Int) : St :=
  ⟨[(5, .one (.row 0)), (6, .one (.bool false)), (7, .one .nilp), (45, .one (.ro 1 (.ints .i64 L))), (46, .one (.int .i64 L.length)), (47, .one (.int .i64 i))], rts6 bs L, [.rows none (.ints .i64 [])]⟩
def pBits : List (List Sc) → Nat
  | [] => 0
  | [.int _ _, .int _ n] :: L => (if 0 ≤ n ∧ n ≤ 32 then n.toNat else 0) + pBits L
  | _ :: L => pBits L
def pVal : List (List Sc) → Nat
  | [] => 0
  | [.int _ v, .int _ n] :: L => if 0 ≤ n ∧ n ≤ 32 then v.toNat % 2 ^ n.toNat + 2 ^ n.toNat * pVal L else pVal L
  | _ :: L => pVal L
section
variable {L : List (List Sc)} (hw : ∀ z ∈ L, okFields [.int .u32, .int .i64] z)
include hw
end
def okPiece (z : List Sc) : Prop := ∃ (u n : Nat), z = [.int .u32 u, .int .i64 n] ∧ u < 2 ^ 32 ∧ n ≤ 32
def canon5a (L : List (List Sc)) (i : Int) (ws : List Int) (c : Int) (all : List Int) (kept : List (List Sc)) : St :=
  ⟨[(3, .one (.ptr 0 0)), (4, .one (.row 2)), (5, .one (.row 3)), (21, .one (.ro 0 (.recs 2 L))), (22, .one (.int .i64 L.length)), (23, .one (.int .i64 i))], [.ro 0 (.recs 2 L)], [.cells none [.row 1, .int .i64 c], .rows none (.ints .u8 ws), .rows none (.ints .i64 all), .rows none (.recs 2 kept)]⟩
def canon5c (L kept : List (List Sc)) (out : List Int) (i m : Int) : St :=
  ⟨[(5, .one (.row 0)), (9, .one (.ptr 1 0)), (11, .one (.int .i64 i))], [.ro 0 (.recs 2 L)], [.rows none (.recs 2 kept), .cells none [.row 2, .int .i64 m], .rows none (.ints .u8 out)]⟩
theorem sealed_last {out : List Int} {c N : Nat} (h : Holds out (c + 1) (N + 2 ^ c)) (hN : N < 2 ^ c) : ∃ b, out.getLast? = some b ∧ b ≠ 0 ∧ bl (leB out) = c + 1 := by
  obtain ⟨hB, hlen, hval, hlt⟩ := h
  have hp : 0 < out.length := by omega
  have h0 : out ≠ [] := List.length_pos_iff.1 hp
  refine ⟨out.getLast h0, List.getLast?_eq_some_getLast h0, fun hb => ?_, ?_⟩
  · have hl := List.getLast?_eq_some_getLast h0
    rw [hb, List.getLast?_eq_getElem?] at hl
    have hat := leB_at hB hl
    have hq : leB out / 2 ^ (8 * (out.length - 1)) < 256 := by
      rw [Nat.div_lt_iff_lt_mul (Nat.two_pow_pos _)]
      have e1 : 2 ^ (8 * out.length) = 256 * 2 ^ (8 * (out.length - 1)) := by
        rw [show 8 * out.length = 8 + 8 * (out.length - 1) by omega, Nat.pow_add]
      have := leB_lt hB
      omega
    rw [Nat.mod_eq_of_lt hq] at hat
    have hz : leB out / 2 ^ (8 * (out.length - 1)) = 0 := hat
    have hz2 := (Nat.div_eq_zero_iff_lt (Nat.two_pow_pos _)).1 hz
    have hle : 2 ^ (8 * (out.length - 1)) ≤ 2 ^ c := Nat.pow_le_pow_right (by omega) (by omega)
    omega
  · exact bl_unique (by omega) (by rw [hval]; exact hlt)
theorem e96 (v n : Int) (c c' : Int) (bs bs' : List Int) (wv : IntKind.u32.wrap v = v) (b : Bool) (e : F18 [.one (.ptr 0 0), .one (.int .u32 v), .one (.int .i64 n)] (bufHp (some 0) bs c) = some (.one (.bool b), bufHp (some 0) bs' c')) :
    F96 [.one (.int .i64 v), .one (.int .i64 n), .one (.ptr 0 0)] (bufHp (some 0) bs c) = some (.tup [], bufHp (some 0) bs' c') := by
  simp only [bufHp] at e
  simp -implicitDefEqProofs [F96, c96, upd, bufHp, wv, e]
theorem e109 (t : Nat) (xs : List Int) : F109 [.one (.ro t (.ints .u8 xs))] [] = some (.one (.fn 114 [.ptr 0 0]), [.cells none [.ro t (.ints .u8 xs)]]) := by
  simp -implicitDefEqProofs [F109, c109, upd]
abbrev G95 : Callee := evB T95 0 bd95 ([3, 5, 6, 7, 8] ++ [10])
abbrev Z95 : Callee := evZ T95 0 z95 [3, 6, 7, 8] [(6, some none), (7, some none)]
abbrev E95 : Option (Bool × St) → Res := endR Z95 [3, 6, 7, 8] [(6, some none), (7, some none)]
def hp95w (L : Int) (cs : List (List Sc)) (l fi al bs : List Int) (c : Int) : List Ob := tabHp (some 0) L cs l fi al ++ [.cells (some 5) [.row 6, .int .i64 c], .rows none (.ints .u8 bs)]
def can95w (t : Nat) (L : Int) (cs : List (List Sc)) (l fi al bs xs : List Int) (c st : Int) : St :=
  ⟨[(3, .one (.ptr 7 0)), (5, .one (.ptr 8 0)), (6, .one (.ptr 9 0)), (7, .one (.ptr 10 0)), (8, .one (.ptr 11 0)), (16, .one (.fn 114 [.ptr 12 0]))],
   [.ptr 0 0, .ro t (.ints .u8 xs), .fn 96 [.ptr 5 0]],
   tabHp (some 0) L cs l fi al ++ [.cells (some 5) [.row 6, .int .i64 c], .rows none (.ints .u8 bs), .cells none [.ptr 0 0], .cells none [.fn 96 [.ptr 5 0]], .cells none [.int .i64 0], .cells none [.bool false], .cells none [.int .i64 st], .cells none [.ro t (.ints .u8 xs)]]⟩
def At95w (t : Nat) (L : Int) (cs : List (List Sc)) (l fi al bs xs : List Int) (c st : Int) (s : St) : Prop :=
  s.head [3, 5, 6, 7, 8, 16] = can95w t L cs l fi al bs xs c st ∧ E95 (some (true, s)) = some (.tup [.one (.int .i64 st), .one (.bool true)], hp95w L cs l fi al bs c)
theorem step95w (t : Nat) (L : Int) (cs : List (List Sc)) (l fi al bs bs' xs : List Int) (c c' st x v n st' : Int) (f : St → Option (Bool × St))
    (e110 : F110 [.one (.ptr 0 0), .one (.int .i64 st), .one (.int .u8 x)] (tabHp (some 0) L cs l fi al) = some (.tup [.one (.int .i64 st'), .one (.int .i64 v), .one (.int .i64 n), .one (.bool true)], tabHp (some 0) L cs l fi al))
    (e96 : F96 [.one (.int .i64 v), .one (.int .i64 n), .one (.ptr 0 0)] [.cells (some 0) [.row 1, .int .i64 c], .rows none (.ints .u8 bs)] = some (.tup [], [.cells (some 0) [.row 1, .int .i64 c'], .rows none (.ints .u8 bs')])) :
    ∃ st1, stepR G95 114 16 xs [3, 5, 6, 7, 8] x f (can95w t L cs l fi al bs xs c st) = f st1 ∧ At95w t L cs l fi al bs' xs c' st' st1 := by
  simp only [bufHp, tabHp] at e110 e96
  refine ⟨?w, ?a, ?b⟩
  case a =>
    simp -implicitDefEqProofs [stepR, itemsR, boxR, getA, nextR, call1, evB, resB, envOf, can95w, tabHp, bd95, upd, e110, e96]
    rfl
  case b =>
    refine ⟨?_, ?_⟩
    · simp -implicitDefEqProofs [hp95w, can95w, tabHp, upd]
    · simp -implicitDefEqProofs [getA, call1, envOf, hp95w, tabHp, upd, endR, doneR, evZ, z95]
theorem miss95w (t : Nat) (L : Int) (cs : List (List Sc)) (l fi al bs xs : List Int) (c st x : Int) (f : St → Option (Bool × St))
    (e110 : F110 [.one (.ptr 0 0), .one (.int .i64 st), .one (.int .u8 x)] (tabHp (some 0) L cs l fi al) = some (.tup [.one (.int .i64 0), .one (.int .i64 0), .one (.int .i64 0), .one (.bool false)], tabHp (some 0) L cs l fi al)) :
    E95 (stepR G95 114 16 xs [3, 5, 6, 7, 8] x f (can95w t L cs l fi al bs xs c st)) = some (.tup [.one (.int .i64 0), .one (.bool false)], hp95w L cs l fi al bs c) := by
  simp only [bufHp, tabHp] at e110
  simp -implicitDefEqProofs [stepR, itemsR, boxR, getA, nextR, call1, evB, resB, envOf, hp95w, can95w, tabHp, bd95, upd, e110, endR]
theorem pre95w (t : Nat) (L : Int) (cs : List (List Sc)) (l fi al bs xs : List Int) (c : Int) (hx : xs.length ≤ 1000000) (e109 : ∀ t, F109 [.one (.ro t (.ints .u8 xs))] [] = some (.one (.fn 114 [.ptr 0 0]), [.cells none [.ro t (.ints .u8 xs)]])) :
    ∃ st1, F95 [.one (.ptr 0 0), .one (.ro t (.ints .u8 xs)), .one (.fn 96 [.ptr 5 0])] (hp95w L cs l fi al bs c) = E95 (roundsR G95 114 16 xs [3, 5, 6, 7, 8, 16] [3, 5, 6, 7, 8] xs.reverse st1) ∧ At95w t L cs l fi al bs xs c 0 st1 := by
  refine ⟨?w, ?a, ?b⟩
  case a =>
    simp -implicitDefEqProofs [F95, evR, preR, itmR, pA95, pB95, pC95, upd, e109, itemsR, boxR, hp95w, tabHp, hx]
    rfl
  case b =>
    refine ⟨?_, ?_⟩
    · simp -implicitDefEqProofs [hp95w, can95w, tabHp, upd]
    · simp -implicitDefEqProofs [getA, call1, envOf, hp95w, tabHp, upd, endR, doneR, evZ, z95]
end Go.X.Tryz
