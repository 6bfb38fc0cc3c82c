import Derived.Test.YtejcknhmobnbeaaAw
set_option linter.unusedVariables false
namespace Go.X
/-! ### symbols at places -/
def runs : Nat → List Nat → List Nat
  | _, [] => []
  | s, n :: l => List.replicate n s ++ runs (s + 1) l
theorem runs_length : ∀ (l : List Nat) (s : Nat), (runs s l).length = l.sum
  | [], _ => rfl
  | n :: l, s => by simp [runs, runs_length l]
theorem runs_count : ∀ (l : List Nat) (s x : Nat), (runs s l).count x = if s ≤ x then (l[x - s]?).getD 0 else 0
  | [], s, x => by simp [runs]
  | n :: l, s, x => by
    simp only [runs, List.count_append, List.count_replicate, runs_count l (s + 1) x]
    by_cases h : s = x
    · subst h; simp; omega
    · have hb : (s == x) = false := by simpa using h
      rw [hb]
      by_cases h2 : s ≤ x
      · rw [if_pos (by omega : s + 1 ≤ x), if_pos h2]
        obtain ⟨d, hd⟩ : ∃ d, x - s = d + 1 := ⟨x - s - 1, by omega⟩
        rw [hd, show x - (s + 1) = d by omega]
        simp
      · simp only [Bool.false_eq_true, if_false]
        rw [if_neg (by omega), if_neg h2]
theorem runs_lt : ∀ (l : List Nat) (s : Nat), ∀ x ∈ runs s l, s ≤ x ∧ x < s + l.length
  | [], _, x, h => by simp [runs] at h
  | n :: l, s, x, h => by
    simp only [runs, List.mem_append, List.mem_replicate] at h
    simp only [List.length_cons]
    rcases h with ⟨_, rfl⟩ | h
    · omega
    · have := runs_lt l (s + 1) x h; omega
def place (size step : Nat) : List Nat → Nat → List Nat → List Nat × Nat
  | out, a, [] => (out, a)
  | out, a, s :: l => place size step (out.set a s) ((a + step) % size) l
theorem place_append (size step : Nat) : ∀ (l m : List Nat) (out : List Nat) (a : Nat), place size step out a (l ++ m) = place size step (place size step out a l).1 (place size step out a l).2 m
  | [], m, out, a => rfl
  | s :: l, m, out, a => by simp only [List.cons_append, place]; exact place_append size step l m _ _
theorem place_length (size step : Nat) : ∀ (l : List Nat) (out : List Nat) (a : Nat), (place size step out a l).1.length = out.length
  | [], out, a => rfl
  | s :: l, out, a => by simp only [place]; rw [place_length]; simp
theorem place_at {size step : Nat} (h0 : 0 < size) : ∀ (l : List Nat) (out : List Nat) (a : Nat), a < size → (place size step out a l).2 = (a + l.length * step) % size ∧ (place size step out a l).2 < size
  | [], out, a, h => by simp [place, Nat.mod_eq_of_lt h, h]
  | s :: l, out, a, h => by
    simp only [place]
    obtain ⟨h1, h2⟩ := place_at h0 l (out.set a s) ((a + step) % size) (Nat.mod_lt _ h0)
    refine ⟨?_, h2⟩
    rw [h1, Nat.mod_add_mod, List.length_cons, Nat.succ_mul]
    congr 1; omega
theorem place_keep (size step : Nat) : ∀ (l : List Nat) (out : List Nat) (a j : Nat), (∀ k, k < l.length → (a + k * step) % size ≠ j) → a < size → (place size step out a l).1[j]? = out[j]?
  | [], out, a, j, _, _ => rfl
  | s :: l, out, a, j, h, ha => by
    simp only [place]
    rw [place_keep size step l _ _ _ (fun k hk => ?_) (Nat.mod_lt _ (by omega))]
    · have h0 := h 0 (by simp)
      rw [Nat.zero_mul, Nat.add_zero, Nat.mod_eq_of_lt ha] at h0
      rw [List.getElem?_set_ne h0]
    · have := h (k + 1) (by simpa using hk)
      rw [Nat.mod_add_mod, Nat.add_assoc, Nat.add_comm step, ← Nat.succ_mul]; exact this
theorem place_get {size step : Nat} : ∀ (l : List Nat) (out : List Nat) (a : Nat), a < size → out.length = size → (∀ k k', k < k' → k' < l.length → (a + k * step) % size ≠ (a + k' * step) % size) →
    ∀ k, k < l.length → (place size step out a l).1[(a + k * step) % size]? = l[k]?
  | [], out, a, _, _, _, k, hk => by simp at hk
  | s :: l, out, a, ha, hl, hd, k, hk => by
    simp only [place]
    have hsh : ∀ k, ((a + step) % size + k * step) % size = (a + (k + 1) * step) % size := fun k => by
      rw [Nat.mod_add_mod, Nat.add_assoc, Nat.add_comm step, ← Nat.succ_mul]
    cases k with
    | zero =>
      rw [Nat.zero_mul, Nat.add_zero, Nat.mod_eq_of_lt ha]
      rw [place_keep size step l _ _ _ (fun k hk => ?_) (Nat.mod_lt _ (by omega))]
      · rw [List.getElem?_set_self (by omega)]; rfl
      · rw [hsh]
        have := hd 0 (k + 1) (by omega) (by simpa using hk)
        rw [Nat.zero_mul, Nat.add_zero, Nat.mod_eq_of_lt ha] at this
        exact this.symm
    | succ k =>
      rw [← hsh, place_get l _ _ (Nat.mod_lt _ (by omega)) (by simpa using hl) (fun k k' h1 h2 => ?_) k (by simpa using hk)]
      · simp
      · rw [hsh, hsh]
        exact hd (k + 1) (k' + 1) (by omega) (by simpa using h2)
theorem step_inj {L step : Nat} (ho : step % 2 = 1) {k k' : Nat} (h : k < k') (hs : k' < k + 2 ^ L) : (k * step) % 2 ^ L ≠ (k' * step) % 2 ^ L := by
  intro e
  have h1 : (k' * step - k * step) % 2 ^ L = 0 := Nat.sub_mod_eq_zero_of_mod_eq e.symm
  rw [← Nat.sub_mul] at h1
  have h2 : 2 ^ L ∣ (k' - k) * step := Nat.dvd_of_mod_eq_zero h1
  have hc : Nat.Coprime (2 ^ L) step := by
    apply Nat.Coprime.pow_left
    rw [Nat.coprime_iff_gcd_eq_one, Nat.gcd_rec, ho]; rfl
  have h3 := hc.dvd_of_dvd_mul_right h2
  have := Nat.le_of_dvd (by omega) h3
  omega
/-! ### a map of places onto themselves -/
theorem nodup_le : ∀ (m : Nat) (l : List Nat), l.Nodup → (∀ x ∈ l, x < m) → l.length ≤ m
  | 0, l, _, h => by
    cases l with
    | nil => simp
    | cons x l => have := h x (by simp); omega
  | m + 1, l, hn, h => by
    have := nodup_le m (l.erase m) (hn.erase m) (fun x hx => by
      have h1 := h x (List.mem_of_mem_erase hx)
      have h2 : x ≠ m := by rintro rfl; exact (List.Nodup.not_mem_erase hn) hx
      omega)
    have h3 := List.length_erase (a := m) (l := l)
    split at h3 <;> omega
theorem perm_range {l : List Nat} {n : Nat} (hn : l.Nodup) (hl : l.length = n) (h : ∀ x ∈ l, x < n) : l.Perm (List.range n) := by
  rw [List.perm_iff_count]
  intro a
  rw [hn.count, List.nodup_range.count]
  by_cases ha : a ∈ l
  · rw [if_pos ha, if_pos (List.mem_range.2 (h a ha))]
  · rw [if_neg ha]
    split
    · rename_i h2
      exfalso
      have := nodup_le n (a :: l) (List.nodup_cons.2 ⟨ha, hn⟩) (fun x hx => by
        rcases List.mem_cons.1 hx with rfl | hx
        · exact List.mem_range.1 h2
        · exact h x hx)
      simp at this; omega
    · rfl
/-- The symbols of the places. -/
def symOf (sh : List Nat) : List Nat := (place sh.sum (sh.sum / 2 + sh.sum / 8 + 3) (List.replicate sh.sum 0) 0 (runs 0 sh)).1
section
variable {sh : List Nat} {L : Nat}
theorem step_odd (hL : 5 ≤ L) : (2 ^ L / 2 + 2 ^ L / 8 + 3) % 2 = 1 := by
  obtain ⟨m, rfl⟩ : ∃ m, L = m + 5 := ⟨L - 5, by omega⟩
  rw [Nat.pow_add]; omega
theorem symOf_length : (symOf sh).length = sh.sum := by unfold symOf; rw [place_length]; simp
theorem symOf_perm (hs : sh.sum = 2 ^ L) (hL : 5 ≤ L) : (symOf sh).Perm (runs 0 sh) := by
  have hpos := Nat.two_pow_pos L
  have ho := step_odd hL
  unfold symOf
  rw [hs]
  generalize 2 ^ L / 2 + 2 ^ L / 8 + 3 = st at *
  have hrl : (runs 0 sh).length = 2 ^ L := by rw [runs_length, hs]
  have hne : ∀ k k', k < k' → k' < (runs 0 sh).length → (0 + k * st) % 2 ^ L ≠ (0 + k' * st) % 2 ^ L := fun k k' h1 h2 => by
    rw [Nat.zero_add, Nat.zero_add]; exact step_inj ho h1 (by omega)
  have hget := place_get (runs 0 sh) (List.replicate (2 ^ L) 0) 0 hpos (by simp) hne
  generalize hS : (place (2 ^ L) st (List.replicate (2 ^ L) 0) 0 (runs 0 sh)).1 = S at *
  have hSl : S.length = 2 ^ L := by rw [← hS, place_length]; simp
  have hp : ((List.range (2 ^ L)).map fun k => (0 + k * st) % 2 ^ L).Perm (List.range (2 ^ L)) := by
    refine perm_range ?_ (by simp) (fun x hx => ?_)
    · refine List.pairwise_iff_getElem.2 fun i j hi hj hij => ?_
      simp only [List.getElem_map, List.getElem_range]
      exact hne i j hij (by simp at hj; omega)
    · obtain ⟨k, _, rfl⟩ := List.mem_map.1 hx
      exact Nat.mod_lt _ hpos
  have h2 := hp.map fun i => S.getD i 0
  have e1 : (List.range (2 ^ L)).map (fun i => S.getD i 0) = S := by
    apply List.ext_getElem (by simp [hSl])
    intro i h1 h2
    simp [List.getD, List.getElem?_eq_getElem h2]
  have e2 : ((List.range (2 ^ L)).map fun k => (0 + k * st) % 2 ^ L).map (fun i => S.getD i 0) = runs 0 sh := by
    apply List.ext_getElem (by simp [hrl])
    intro i h1 h2
    have := hget i h2
    simp only [List.getElem_map, List.getElem_range, List.getD, this, List.getElem?_eq_getElem h2, Option.getD_some]
  rw [e1, e2] at h2
  exact h2.symm
theorem sym_count (hs : sh.sum = 2 ^ L) (hL : 5 ≤ L) (x : Nat) : (symOf sh).count x = (sh[x]?).getD 0 := by
  rw [(symOf_perm hs hL).count_eq, runs_count]; simp
theorem sym_lt (hs : sh.sum = 2 ^ L) (hL : 5 ≤ L) {i x : Nat} (h : (symOf sh)[i]? = some x) : x < sh.length := by
  have := runs_lt sh 0 x ((symOf_perm hs hL).mem_iff.1 (List.mem_of_getElem? h))
  omega
/-- How often the symbol came before. -/
def rkS (S : List Nat) (i : Nat) : Nat := (S.take i).count (S.getD i 0)
theorem count_take_le (S : List Nat) (i x : Nat) : (S.take i).count x ≤ S.count x := (List.take_sublist i S).count_le x
theorem count_take_succ {S : List Nat} {i x : Nat} (h : i < S.length) : (S.take (i + 1)).count x = (S.take i).count x + if S[i] = x then 1 else 0 := by
  rw [List.take_add_one, List.count_append, List.getElem?_eq_getElem h]
  simp [List.count_singleton]
theorem rk_lt {S : List Nat} {i x : Nat} (h : S[i]? = some x) : (S.take i).count x < S.count x := by
  have hi := (List.getElem?_eq_some_iff.1 h).1
  have hx := (List.getElem?_eq_some_iff.1 h).2
  have := count_take_succ (x := x) hi
  rw [hx, if_pos rfl] at this
  have := count_take_le S (i + 1) x
  omega
theorem count_mono (S : List Nat) (x : Nat) {i j : Nat} (h : i ≤ j) : (S.take i).count x ≤ (S.take j).count x := by
  have e : S.take i = (S.take j).take i := by rw [List.take_take, Nat.min_eq_left h]
  rw [e]; exact count_take_le _ _ _
theorem rk_strict {S : List Nat} {i j x : Nat} (hi : S[i]? = some x) (h : i < j) : (S.take i).count x < (S.take j).count x := by
  have hil := (List.getElem?_eq_some_iff.1 hi).1
  have hx := (List.getElem?_eq_some_iff.1 hi).2
  have := count_take_succ (x := x) hil
  rw [hx, if_pos rfl] at this
  have := count_mono S x (show i + 1 ≤ j by omega)
  omega
theorem rk_find : ∀ (S : List Nat) (x j : Nat), j < S.count x → ∃ i, S[i]? = some x ∧ (S.take i).count x = j
  | [], x, j, h => by simp at h
  | y :: S, x, j, h => by
    by_cases e : y = x
    · subst e
      cases j with
      | zero => exact ⟨0, rfl, by simp⟩
      | succ j =>
        obtain ⟨i, h1, h2⟩ := rk_find S y j (by simpa using h)
        exact ⟨i + 1, by simpa using h1, by simp [h2]⟩
    · have hb : (y == x) = false := by simpa using e
      obtain ⟨i, h1, h2⟩ := rk_find S x j (by simpa [List.count_cons, hb] using h)
      exact ⟨i + 1, by simpa using h1, by simp [List.count_cons, hb, h2]⟩
theorem rk_inj {S : List Nat} {i j x : Nat} (hi : S[i]? = some x) (hj : S[j]? = some x) (h : (S.take i).count x = (S.take j).count x) : i = j := by
  rcases Nat.lt_trichotomy i j with h1 | h1 | h1
  · have := rk_strict hi h1; omega
  · exact h1
  · have := rk_strict hj h1; omega
end
/-! ### where a symbol's states lie in the list of all -/
def fstS (sh : List Nat) (s : Nat) : Nat := (sh.take s).sum
theorem fstS_succ {sh : List Nat} {s : Nat} (h : s < sh.length) : fstS sh (s + 1) = fstS sh s + sh[s] := by
  unfold fstS
  rw [List.take_add_one, List.getElem?_eq_getElem h, List.sum_append]; simp
theorem fstS_mono (sh : List Nat) {s t : Nat} (h : s ≤ t) : fstS sh s ≤ fstS sh t := by
  induction h with
  | refl => exact Nat.le_refl _
  | @step m _ ih =>
    rcases Nat.lt_or_ge m sh.length with hm | hm
    · rw [fstS_succ hm]; omega
    · unfold fstS at ih ⊢
      rw [List.take_of_length_le (by omega : sh.length ≤ m + 1)]
      rw [List.take_of_length_le hm] at ih; exact ih
theorem fstS_le (sh : List Nat) (s : Nat) : fstS sh s ≤ sh.sum := by
  have := fstS_mono sh (Nat.le_max_left s sh.length)
  have e : fstS sh (max s sh.length) = sh.sum := by unfold fstS; rw [List.take_of_length_le (by omega)]
  omega
theorem slot_lt {sh : List Nat} {s j n : Nat} (h : sh[s]? = some n) (hj : j < n) : fstS sh s + j < sh.sum := by
  obtain ⟨h1, h2⟩ := List.getElem?_eq_some_iff.1 h
  have := fstS_succ h1
  have := fstS_le sh (s + 1)
  omega
theorem slot_inj {sh : List Nat} {s t j k n m : Nat} (hs : sh[s]? = some n) (ht : sh[t]? = some m) (hj : j < n) (hk : k < m) (e : fstS sh s + j = fstS sh t + k) : s = t ∧ j = k := by
  obtain ⟨a1, a2⟩ := List.getElem?_eq_some_iff.1 hs
  obtain ⟨b1, b2⟩ := List.getElem?_eq_some_iff.1 ht
  have c1 := fstS_succ a1
  have c2 := fstS_succ b1
  rcases Nat.lt_trichotomy s t with h | h | h
  · have := fstS_mono sh (show s + 1 ≤ t by omega); omega
  · subst h; exact ⟨rfl, by omega⟩
  · have := fstS_mono sh (show t + 1 ≤ s by omega); omega
end Go.X
