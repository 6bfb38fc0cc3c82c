import Derived.Test.YthcbhmgjkecppaaAs
import Derived.Test.YthcbhmgjkecppaaProg
import Derived.WalkKit
import Derived.Deep.LoopGhost
import Derived.Deep.RegionLaw
import Derived.Shelf.RegionOpenPlain
import Derived.Lib.Walk
import Derived.Lib.SliceRun
set_option linter.unusedVariables false
set_option linter.unusedSimpArgs false
namespace Go.Proofs
open Go.Shelf Go.RowKit Go.X
/-! ### slices.Delete of entries: three cells each -/
theorem setCells_lay {b : Nat} {T : TypeId} {fr : Nat × Nat} : ∀ (vs : List Value) (o : Nat) (cur : Array Value) (w : World), w.heap[b]? = some (.cells cur T fr) → (w.setCells b o vs).heap[b]? = some (.cells (layV cur.toList o vs).toArray T fr) ∧ SameBut w (w.setCells b o vs) b
  | [], o, cur, w, hb => ⟨by simpa [layV, World.setCells] using hb, .refl _ _⟩
  | v :: vs, o, cur, w, hb => by
    obtain ⟨h1, h2⟩ := setCells_lay vs (o + 1) (cur.setIfInBounds o v) _ (setCell_at hb o v)
    refine ⟨?_, (setCell_same w b o v).trans h2⟩
    rw [World.setCells, h1]
    simp [layV]
/-- 'clear(s)', s a slice of n > 0 elements of several cells each. -/
theorem run_clear_cells {P : Program} (w : World) (t e ty : TypeId) (z : Value) (ht : P.underlying t = some (.slice e)) (hv : ∀ w, (zeroValue e).run P w = .ok z w) (h1 : ∀ v ∈ (Builtin.zeroCells z.cells 1).toList, v.oneCell' = true) (b o n c : Nat) (hn : 0 < n)
    (hc : ∀ j, j < n * z.cells.size → (w.cell? ⟨b, o + j, none⟩).isSome = true) (hf : ∀ j, j < n * z.cells.size → w.frozen? ⟨b, o + j, none⟩ = false) (h1' : ∀ v ∈ (Builtin.zeroCells z.cells n).toList, v.oneCell' = true) :
    (Builtin.clear_ #[t] ty #[.slice (some ⟨b, o, none⟩) n c]).run P w = .ok (.tuple #[]) (w.setCells b o (Builtin.zeroCells z.cells n).toList) := by
  have hl : (Builtin.zeroCells z.cells n).toList.length = n * z.cells.size := by simp [Builtin.zeroCells]
  have hst := run_storeCells_cells (P := P) b o (Builtin.zeroCells z.cells n).toList 0 w (by rw [hl]; simpa using hc) (by rw [hl]; simpa using hf) h1'
  simp only [Nat.add_zero] at hst
  obtain ⟨m, rfl⟩ : ∃ m, n = m + 1 := ⟨n - 1, by omega⟩
  simp [Builtin.clear_, run_underlying ht, hv, hst]
theorem size110 : (Try.prog.info? 110).map (·.size) = some 3 := by kernel_rfl
set_option maxHeartbeats 4000000 in
set_option maxRecDepth 1000000 in
theorem dl103 (b o n cap i : Nat) (w : World) (hi : i < n) (hc : n ≤ cap) (hm : cap ≤ 9223372036854775807) (news : List Value) (hn : news.length = (n - (i + 1)) * 3) (h1 : ∀ u ∈ news, u.oneCell' = true)
    (hsrc : ∀ t u, news[t]? = some u → w.cell? ⟨b, o + (i + 1) * 3 + t, none⟩ = some u)
    (hcl : ∀ t, t < n * 3 → (w.cell? ⟨b, o + t, none⟩).isSome = true ∧ w.frozen? ⟨b, o + t, none⟩ = false)
    (hclear : ∀ ty c, (Builtin.clear_ #[106] ty #[.slice (some ⟨b, o + (n - 1) * 3, none⟩) 1 c]).run Try.prog (w.drew.setCells b (o + i * 3) news) = .ok (.tuple #[]) ((w.drew.setCells b (o + i * 3) news).setCells b (o + (n - 1) * 3) (Builtin.zeroCells #[.int .i64 0, .string .empty, .int .i64 0] 1).toList)) :
    Calls Try.prog 103 #[.slice (some ⟨b, o, none⟩) n cap, .int .i64 i, .int .i64 (i + 1)] w fun e w' => e = .returned (.slice (some ⟨b, o, none⟩) (n - 1) cap) ∧ w' = (w.drew.setCells b (o + i * 3) news).setCells b (o + (n - 1) * 3) (Builtin.zeroCells #[.int .i64 0, .string .empty, .int .i64 0] 1).toList := by
  obtain ⟨A, hA, hsrc'⟩ : ∃ A : Addr, (if cap = i + 1 then some (⟨b, o, none⟩ : Addr) else some ⟨b, o + (i + 1) * 3, none⟩) = some A ∧ Hid (∀ t u, news[t]? = some u → w.drew.cell? (A.add t) = some u) := by
    by_cases h : cap = i + 1
    · refine ⟨⟨b, o, none⟩, by simp [h], fun t u hu => ?_⟩
      have h0 : news.length = 0 := by rw [hn]; have : n - (i + 1) = 0 := by omega
                                      rw [this]
      rw [List.length_eq_zero_iff.1 h0] at hu
      simp at hu
    · exact ⟨⟨b, o + (i + 1) * 3, none⟩, by simp [h], fun t u hu => by rw [Addr.add_lit]; exact hsrc t u hu⟩
  obtain ⟨i0, hi0, hz1⟩ : ∃ i0, Try.prog.info? 110 = some i0 ∧ i0.size = 3 := by
    have := size110
    cases h : Try.prog.info? 110 with
    | none => rw [h] at this; simp at this
    | some i0 => rw [h] at this; exact ⟨i0, rfl, by simpa using this⟩
  have mixed : Try.prog.follows .mixedOrders = true := by kernel_rfl
  have hic : i ≤ cap := by omega
  have hjc : i + 1 ≤ cap := by omega
  have hj2 : 0 ≤ (i : Int) + 1 ∧ (i : Int) + 1 ≤ (n : Int) := by omega
  have s1 : Hid (news.length = (n - (i + 1)) * 3) := hn
  have s2 : Hid (∀ u ∈ news, u.oneCell' = true) := h1
  have s3 : Hid (∀ t, t < news.length → (w.drew.cell? ⟨b, o + i * 3 + t, none⟩).isSome = true ∧ w.drew.frozen? ⟨b, o + i * 3 + t, none⟩ = false) := by
    intro t ht
    rw [hn] at ht
    have := hcl (i * 3 + t) (by omega)
    rw [← Nat.add_assoc] at this
    exact this
  obtain ⟨W1, hW1⟩ : ∃ W1, W1 = w.drew.setCells b (o + i * 3) news := ⟨_, rfl⟩
  rw [← hW1] at hclear ⊢
  have hW : Hid (W1 = w.drew.setCells b (o + i * 3) news) := hW1
  clear hW1 hsrc hcl h1 hn
  have hclear' : ∀ ty c, (Builtin.clear_ #[106] ty #[.slice (some ⟨b, o + (i + (n - (i + 1))) * 3, none⟩) (n - (i + (n - (i + 1)))) c]).run Try.prog W1 = .ok (.tuple #[]) (W1.setCells b (o + (n - 1) * 3) (Builtin.zeroCells #[.int .i64 0, .string .empty, .int .i64 0] 1).toList) := by
    intro ty c
    rw [show i + (n - (i + 1)) = n - 1 by omega, show n - (n - 1) = 1 by omega]
    exact hclear ty c
  clear hclear
  go_enter Try.func103, Try.ntmps103
  go_wp2_with fail
  go_region_law_o (refine step_append_room rfl (.tmp 22) (.tmp 25) 106 rfl 110 i0 3 Try.underlying106 hi0 hz1 b o i cap (by simp [Act.eval, Act.put]) A (n - (i + 1)) (cap - (i + 1)) news (by simp [Act.eval, Act.put]) s1.out hsrc'.out s2.out (by omega) s3.out ?_; rw [← hW.out])
  go_wp2
  go_ret
  exact ⟨by rw [show i + (n - (i + 1)) = n - 1 by omega]; rfl, rfl⟩
def dl103F : Go.X.Callee := fun args hp => match args, hp with
  | [.one (.row 0), .one (.int .i64 x), .one (.int .i64 y)], [.rows none (.recs 3 X)] => if 0 ≤ x ∧ x.toNat < X.length ∧ y = x + 1 then some (.one (.row 0), [.rows none (.recs 3 (X.take x.toNat ++ X.drop (x.toNat + 1)))]) else none
  | _, _ => none
theorem recs_vals_app (n : Nat) (A B : List (List Sc)) : (RC.recs n (A ++ B)).vals = (RC.recs n A).vals ++ (RC.recs n B).vals := by simp [RC.vals]
theorem recs_vals_take {X : List (List Sc)} (hw : (RC.recs 3 X).wf) (i : Nat) (hi : i ≤ X.length) : (RC.recs 3 (X.take i)).vals = (RC.recs 3 X).vals.take (i * 3) := by
  obtain ⟨_, _, _, h⟩ := RC.cut_vals hw (a := 0) (m := i) (by simpa [RC.len] using hi)
  simpa [RC.cut, RC.size] using h
theorem recs_vals_drop {X : List (List Sc)} (hw : (RC.recs 3 X).wf) (i : Nat) (hi : i ≤ X.length) : (RC.recs 3 (X.drop i)).vals = (RC.recs 3 X).vals.drop (i * 3) := by
  obtain ⟨_, _, _, h⟩ := RC.cut_vals hw (a := i) (m := X.length - i) (by simp [RC.len]; omega)
  have hl := RC.vals_length hw
  simp only [RC.cut, RC.size, RC.len] at h hl
  rw [List.take_of_length_le (by simp), List.take_of_length_le (by simp; omega)] at h
  exact h
theorem w103 : Sound Try.prog 103 dl103F := by
  intro args hp r hp' h
  unfold dl103F at h
  split at h
  · rename_i x y X
    split at h
    · rename_i hc
      obtain ⟨hx0, hxl, rfl⟩ := hc
      simp only [Option.some.injEq, Prod.mk.injEq] at h
      obtain ⟨rfl, rfl⟩ := h
      refine ⟨by kernel_rfl, fun C ρ w rargs hP h0 hD hv hH => ?_⟩
      obtain ⟨i, rfl⟩ : ∃ i : Nat, x = i := ⟨x.toNat, by omega⟩
      simp only [Int.toNat_natCast] at hxl ⊢
      cases hv with
      | cons _ v _ vs h1 h2 =>
        cases h1 with
        | one _ _ h1 =>
          cases h2 with
          | cons _ v2 _ vs h2 h3 =>
            cases h2 with
            | one _ _ h2 =>
              cases h2
              cases h3 with
              | cons _ v2 _ vs h2 h3 =>
                cases h3
                cases h2 with
                | one _ _ h2 =>
                  cases h2
                  cases h1 with
                  | row _ a m cap hk hh =>
                    obtain ⟨hw, hsz, _, hob⟩ := hH.ob 0 _ rfl
                    rcases hob with ⟨_, hz⟩ | ⟨b, o, cap', cur, T, fr, e, hown, hb, h1, h2, h3, h4, h5⟩
                    · simp [RC.len] at hz; subst hz; simp at hxl
                    · rw [hh] at e
                      simp only [Value.slice.injEq] at e
                      obtain ⟨rfl, rfl, rfl⟩ := e
                      have hl := RC.vals_length hw
                      have hvd := recs_vals_drop hw (i + 1) (by omega)
                      have hvt := recs_vals_take hw i (by omega)
                      have hva := recs_vals_app 3 (X.take i) (X.drop (i + 1))
                      simp only [RC.size, RC.len] at h1 h3 hl hsz
                      generalize hV : (RC.recs 3 X).vals = V at hl hvd hvt h4
                      have hone : ∀ u ∈ V, u.oneCell' = true := by rw [← hV]; exact fun u hu => by obtain ⟨j, hj, e⟩ := List.mem_iff_getElem.1 hu; exact (RC.val_at hw (j := j) (by rw [List.getElem?_eq_getElem hj, e])).2
                      have hmx : maxLen ≤ 9223372036854775807 := by decide
                      have hnews : (V.drop ((i + 1) * 3)).length = (X.length - (i + 1)) * 3 := by simp [hl]; omega
                      obtain ⟨hL1, hL2⟩ := setCells_lay (V.drop ((i + 1) * 3)) (o + i * 3) cur w.drew hb
                      have hs1 : (layV cur.toList (o + i * 3) (V.drop ((i + 1) * 3))).toArray.size = cur.size := by simp [layV_length]
                      have hcell : ∀ t, t < X.length * 3 → (w.cell? ⟨b, o + t, none⟩).isSome = true ∧ w.frozen? ⟨b, o + t, none⟩ = false := by
                        intro t ht
                        refine ⟨?_, frozen_at hb (h5 _ (by omega))⟩
                        rw [cell_at hb]
                        simp; omega
                      have hzs : (Builtin.zeroCells #[.int .i64 0, .string .empty, .int .i64 0] 1).toList = [.int .i64 0, .string .empty, .int .i64 0] := by simp [Builtin.zeroCells, Array.range]
                      obtain ⟨hM1, hM2⟩ := setCells_lay (Builtin.zeroCells #[.int .i64 0, .string .empty, .int .i64 0] 1).toList (o + (X.length - 1) * 3) _ _ hL1
                      refine Calls.mono (dl103 b o X.length cap i w hxl h1 (by omega) (V.drop ((i + 1) * 3)) hnews (fun u hu => hone u (List.mem_of_mem_drop hu)) (fun t u hu => ?_) hcell (fun ty c => ?_)) ?_
                      · rw [List.getElem?_drop] at hu
                        rw [cell_at hb]
                        have := h4 _ _ hu
                        rw [← Nat.add_assoc] at this
                        simp [this]
                      · refine run_clear_cells _ 106 110 ty _ Try.underlying106 Try.zeroValue110 ?_ b _ 1 c (by omega) ?_ ?_ ?_
                        · show ∀ v ∈ (Builtin.zeroCells #[.int .i64 0, .string .empty, .int .i64 0] 1).toList, _
                          rw [hzs]; intro v hv; simp at hv; rcases hv with rfl | rfl | rfl <;> rfl
                        · intro j hj
                          have hj : j < 3 := by simpa [Value.cells] using hj
                          rw [cell_at hL1]
                          simp [layV_length]; omega
                        · intro j hj
                          have hj : j < 3 := by simpa [Value.cells] using hj
                          exact frozen_at hL1 (h5 _ (by omega))
                        · show ∀ v ∈ (Builtin.zeroCells #[.int .i64 0, .string .empty, .int .i64 0] 1).toList, _
                          rw [hzs]; intro v hv; simp at hv; rcases hv with rfl | rfl | rfl <;> rfl
                      · rintro e w' ⟨rfl, rfl⟩
                        refine ⟨fun _ => ⟨.slice (some ⟨b, o, none⟩) (X.length - 1) cap, 3⟩, _, rfl, .one _ _ (.row 0 _ _ _ (by simp) rfl), ⟨fun k ob ho => ?_, fun j k b hjk hj hk => ?_⟩, ?_⟩
                        · cases k with
                          | succ k => simp at ho
                          | zero =>
                            simp only [List.getElem?_cons_zero, Option.some.injEq] at ho
                            subst ho
                            refine ⟨⟨hw.1, fun l hl => ?_⟩, rfl, by simp, .inr ⟨b, o, cap, _, T, fr, ?_, hown, hM1, ?_, h2, ?_, fun j u hj => ?_, fun j hj => ?_⟩⟩
                            · rcases List.mem_append.1 hl with hl | hl
                              · exact hw.2 l (List.mem_of_mem_take hl)
                              · exact hw.2 l (List.mem_of_mem_drop hl)
                            · simp [RC.len]; omega
                            · simp [RC.len]; omega
                            · simp [layV_length, RC.size]; omega
                            · rw [hva, hvt, hvd] at hj
                              have hlt := (List.getElem?_eq_some_iff.1 hj).1
                              simp only [List.length_append, List.length_take, List.length_drop] at hlt
                              rw [hzs, List.getElem?_toArray, layV_get _ _ _ _ (by simp [layV_length]; omega), if_neg (by simp; omega)]
                              rw [List.toList_toArray, layV_get _ _ _ _ (by simp; omega)]
                              by_cases hji : j < i * 3
                              · rw [if_neg (by omega)]
                                rw [List.getElem?_append_left (by simp; omega), List.getElem?_take, if_pos hji] at hj
                                rw [Array.getElem?_toList]
                                exact h4 j u hj
                              · rw [if_pos (by simp; omega)]
                                rw [List.getElem?_append_right (by simp; omega)] at hj
                                rw [← hj]
                                congr 1
                                simp; omega
                            · refine h5 j ?_
                              simpa [layV_length] using hj
                        · obtain ⟨_, e1, _⟩ := hj
                          obtain ⟨_, e2, _⟩ := hk
                          cases j with
                          | succ j => simp at e1
                          | zero =>
                            cases k with
                            | succ k => simp at e2
                            | zero => exact absurd rfl hjk
                        · have : SameBut w w.drew b := ⟨rfl, fun _ _ => rfl, rfl, rfl, rfl⟩
                          exact (FR.start h0).same ((this.trans hL2).trans hM2) hown
    · simp at h
  · simp at h
end Go.Proofs
