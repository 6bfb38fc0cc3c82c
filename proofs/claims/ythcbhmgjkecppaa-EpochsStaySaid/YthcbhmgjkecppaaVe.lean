/- EpochsStay: the walk. -/
import Derived.Test.YthcbhmgjkecppaaVd
import Derived.Deep.QuietTactic
import Derived.BigQuiet
import Derived.Deep.LoopGhost
set_option maxRecDepth 100000
set_option linter.unusedSimpArgs false
set_option linter.unusedVariables false
namespace Go.Proofs
open Go.RowKit Go.Maps
theorem law3 : Keyed Try.prog 3 := int_keyed Try.underlying3
theorem _root_.Go.X.Try.below_less' {B B' : Nat} {w w' : World} (h : Below B w w') (hB : B' ≤ B) : Below B' w w' := ⟨h.os, h.tape, h.output, h.size, fun k hk => h.block k (by omega)⟩
set_option maxHeartbeats 4000000 in
theorem wk4 (l : List ByteArray) (hold : List Bool) (a a2 : Option Addr) (cap cap2 : Nat) (w : World)
    (hr : 0 < l.length → ∃ b o, a = some ⟨b, o, none⟩ ∧ b < w.heap.size ∧ ∀ (j : Nat) (u : ByteArray), l[j]? = some u → w.cell? ⟨b, o + j, none⟩ = some (.string u))
    (hr2 : 0 < hold.length → ∃ b o, a2 = some ⟨b, o, none⟩ ∧ b < w.heap.size ∧ ∀ (j : Nat) (u : Bool), hold[j]? = some u → w.cell? ⟨b, o + j, none⟩ = some (.bool u)) :
    Calls Try.prog 4 #[.slice a l.length cap, .slice a2 hold.length cap2] w fun e w' => e = .returned (.bool true) ∧ Below w.heap.size w w' := by
  have mixed : Try.prog.follows .mixedOrders = true := by kernel_rfl
  by_cases h60 : (60 : Int) < l.length
  · go_enter Try.func4, Try.ntmps4
    go_wp2_with (go_at_call 17; refine (Go.X.Try.k17 _).mono ?_; rintro e w1 ⟨rfl, hb1⟩)
    go_ret
    exact ⟨rfl, hb1⟩
  have hmm := @run_makeMap Try.prog
  go_enter Try.func4, Try.ntmps4
  go_wp2_with (go_at_call 17; refine (Go.X.Try.k17 _).mono ?_; rintro e w1 ⟨rfl, hb1⟩)
  go_wp2_with (go_at_call 18; refine (Go.X.Try.k18 _).mono ?_; rintro e w2 ⟨ρ, b0, rfl, hp, hst, hb2⟩)
  go_wp2_with fail
  have e1 : ¬ Go.X.Try.Sb ρ w2.heap.size := fun h => by have := (hst.own h).2; omega
  go_loopw [25] (fun i wr => ∃ (k : Nat) (ρ : Nat → Go.X.RV) (last : Int) (E : List Go.X.Try.En) (D : DataW Unit), k ≤ l.length ∧ i = .int .i64 (k : Int) ∧ Go.X.Try.stHR w1 wr ρ last E ∧ (ρ 0).hdr = .pointer (some ⟨b0, 0, none⟩) ∧ Go.X.Try.Kept E last ∧ last ≤ k ∧ Go.X.Try.mapAt wr w2.heap.size k D ∧ Go.X.Try.MapR D E ∧ Below w1.heap.size w1 wr ∧ ¬ Go.X.Try.Sb ρ w2.heap.size) (fun i _ => l.length - (intOf i).toNat)
  case atStart =>
    refine ⟨0, ρ, 0, [], .map [], Nat.zero_le _, rfl, hst.kept (fun b hb => ?_), hp, Go.X.Try.Kept.none 0 (Int.le_refl _), Int.le_refl _, World.ownsMap_made _ _ _ _, Go.X.Try.MapR.none, hb2.alloc hb2.size _, e1⟩
    have := (hst.own hb).2
    exact (World.grownBy_alloc w2 _ none).block b this (by simp)
  case round =>
    obtain ⟨k, ρ, last, E, D, hk, rfl, hst, hp, K, hla, hown, hM, hW, hsb⟩ := hrel
    by_cases hkn : k < l.length
    · obtain ⟨s, hs⟩ : ∃ s, l[k]? = some s := ⟨_, List.getElem?_eq_getElem hkn⟩
      obtain ⟨b, o, rfl, hbw, hcell⟩ := hr (by omega)
      have hbw1 : b < w1.heap.size := Nat.lt_of_lt_of_le hbw hb1.size
      have hcx : wr.cell? ⟨b, o + k, none⟩ = some (.string s) := by
        rw [hW.cell (p := ⟨b, o + k, none⟩) hbw1, hb1.cell (p := ⟨b, o + k, none⟩) hbw]; exact hcell k s hs
      clear hcell hr
      by_cases h20 : (20 : Int) < s.size
      · go_wp2_with fail
        go_ret
        exact ⟨rfl, hb1.trans (Go.X.Try.below_less' hW hb1.size)⟩
      have hws : w1.heap.size ≤ wr.heap.size := hW.size
      have hbml : w2.heap.size < wr.heap.size := hown.lt
      rcases K.adds s (by omega) (by omega) with ⟨E', K', hl', hm', hc', hadd⟩ | ⟨h7, hadd⟩
      · have hn1 : ¬ last + 1 < 1 := by have := K.pos; omega
        have hsz := hM.size
        by_cases g1 : (k : Int) < hold.length
        · obtain ⟨v, hv⟩ : ∃ v, hold[k]? = some v := ⟨_, List.getElem?_eq_getElem (by omega)⟩
          obtain ⟨b', o', rfl, hbw', hcell'⟩ := hr2 (by omega)
          have hcyf : ∀ wx, Below w1.heap.size w1 wx → wx.cell? ⟨b', o' + k, none⟩ = some (.bool v) := fun wx hx => by
            rw [hx.cell (p := ⟨b', o' + k, none⟩) (Nat.lt_of_lt_of_le hbw' hb1.size), hb1.cell (p := ⟨b', o' + k, none⟩) hbw']; exact hcell' k v hv
          clear hcell' hr2
          cases v with
          | false =>
            go_wp2_with (first | (go_at_call 19; refine (Go.X.Try.k19 hst hws hp s (last + 1) 0 hadd).mono ?_; rintro e w3 ⟨ρ3, rfl, hL⟩; have hcy := hcyf w3 (Go.X.Try.below_left hW hst hL)) | (at_range; refine wpList_range_own _ rfl _ 29 rfl 3 9 law3 Try.underlying29 _ w2.heap.size k D rfl (Go.X.Try.map_left hown hL hsb) ?_; intro w4 hrg4 hg4 hs4) | go_in)
            go_frame
            obtain ⟨E2, hE2⟩ : ∃ E2, E2 = E' ++ [(⟨last + 1, s, 0⟩ : Go.X.Try.En)] := ⟨_, rfl⟩
            obtain ⟨D2, hD2⟩ : ∃ D2, D2 = D := ⟨_, rfl⟩
            have K2 : Go.X.Try.Kept E2 (last + 1) := by rw [hE2]; exact K'.add hl' s 0 (.inl rfl)
            have hM2 : Go.X.Try.MapR D2 E2 := by rw [hE2, hD2]; exact (hM.same hm' hc').same (Go.X.Try.hm_add K' s).1.1 (Go.X.Try.hm_add K' s).1.2
            have hne2 : E2 ≠ [] ∧ (E2.map Go.X.Try.En.ep).getD (E2.length - 1) 0 = last + 1 := by rw [hE2]; exact ⟨by simp, by simp [List.getD]⟩
            replace hrg4 : Go.X.Try.rangeAt w4 w2.heap.size w3.heap.size (k + 1) D2 (Maps.has D2) (Maps.size D2) := by rw [hD2]; exact Go.X.Try.range_mono hrg4
            rw [← hE2] at hL
            clear hE2 hD2
            have hbml3 : w2.heap.size < w3.heap.size := Nat.lt_of_lt_of_le hbml hL.size
            have hsb3 : ¬ Go.X.Try.Sb ρ3 w2.heap.size := Go.X.Try.sb_left hL hsb hbml
            have hsi3 : ¬ Go.X.Try.Sb ρ3 w3.heap.size := fun h => by have := (hL.st.own h).2; omega
            have hst4 : Go.X.Try.stHR w1 w4 ρ3 (last + 1) E2 := Go.X.Try.st_grown hL.st hg4 nofun
            have hp4 : (ρ3 0).hdr = .pointer (some ⟨b0, 0, none⟩) := hL.ptr.trans hp
            have hW4 : Below w1.heap.size w1 w4 := Go.X.Try.below_grown (Go.X.Try.below_left hW hst hL) hg4 nofun
            have hw13 : w1.heap.size ≤ w3.heap.size := Nat.le_trans hws hL.size
            clear hL hst hp hW hsb hown hM hg4 hs4
            go_loopw [73] (fun _ wr => ∃ (left : Lit → Bool) (cnt : Nat) (ρ : Nat → Go.X.RV), Go.X.Try.rangeAt wr w2.heap.size w3.heap.size (k + 1) D2 left cnt ∧ Go.X.Try.stHR w1 wr ρ (last + 1) E2 ∧ (ρ 0).hdr = .pointer (some ⟨b0, 0, none⟩) ∧ Below w1.heap.size w1 wr ∧ ¬ Go.X.Try.Sb ρ w2.heap.size ∧ ¬ Go.X.Try.Sb ρ w3.heap.size) (fun _ wr => wr.rangeLeft w2.heap.size w3.heap.size)
            case atStart => exact ⟨_, _, ρ3, hrg4, hst4, hp4, hW4, hsb3, hsi3⟩
            case round =>
              clear hrg4 hst4 hp4 hW4 hsb3 hsi3
              obtain ⟨left, cnt, ρ4, hrg, hst, hp, hW, hsb, hsi⟩ := hrel
              go_wp2_with (first
                | (at_next; refine wpList_next_ranges_is _ rfl _ rfl 3 9 .i64 law3 Try.underlying3 Try.underlying9 w2.heap.size w3.heap.size (k + 1) _ _ _ rfl hrg ?_ ?_)
                | go_in)
              · intro hc0 hl0
                have hown : Go.X.Try.mapAt _ w2.heap.size (k + 1) D2 := hrg.owns
                have hbi4 := Go.X.Try.range_lt hrg
                obtain ⟨m, hm⟩ : ∃ m, E2.length = m + 1 := ⟨E2.length - 1, by have := List.length_pos_iff.2 hne2.1; omega⟩
                have hm8 : m + 1 ≤ 8 := by have := K2.len; omega
                go_wp2_with (first | (go_at_call 22; refine (Go.X.Try.k22 hst hW.size hp K2.len hne2.1).mono ?_; rintro e w7 ⟨ρ7, b7, o7, cap7, rfl, hL7, hb7, hns7, hWb7, hc7⟩; rw [hm]) | go_in)
                have hp7 : (ρ7 0).hdr = .pointer (some ⟨b0, 0, none⟩) := hL7.ptr.trans hp
                have hc7' := hc7 m (by omega)
                have hne3 := hne2.2
                rw [hm, Nat.add_sub_cancel] at hne3
                rw [hne3] at hc7'
                have hcl7 : w7.cell? ⟨b0, 1, none⟩ = some (.int .i64 (last + 1)) := Go.X.Try.st_cells hL7.st hp7
                have hl23 : ∀ n, Calls Try.prog 23 #[.pointer (some ⟨b0, 0, none⟩)] (w7.drewN n) fun e w' => e = .returned (.int .i64 (last + 1)) ∧ w' = w7.drewN n := fun n => last23 b0 (last + 1) _ (show (w7.drewN n).cell? ⟨b0, 1, none⟩ = some (.int .i64 (last + 1)) from hcl7)
                have q1 : decide ((8 : Int) < ((m + 1 : Nat) : Int)) = false := by simp; omega
                have q1' : ¬ (8 : Int) < (m : Int) + 1 := by omega
                have q2 : ((((m + 1 : Nat) : Int)) == 0) = false := by simp; omega
                have q2' : ¬ (m : Int) + 1 = 0 := by omega
                have q3 : IntKind.i64.wrap (m : Int) = m := Go.IntWalk.i64_in _ (by omega)
                have q4 : IntKind.i64.wrap ((m : Int) + 1 - 1) = m := by rw [show (m : Int) + 1 - 1 = m by omega]; exact q3
                have q5 : (m : Int) < (m : Int) + 1 := by omega
                have q6 : (0 : Int) ≤ (m : Int) := by omega
                have q7 : m < m + 1 := by omega
                clear hc7
                go_quiet ((go_at_call 23; refine Calls.quiet_of_same (hl23 _)))
                have hW7 := Go.X.Try.below_left hW hst hL7
                have hown7 := Go.X.Try.map_left hown hL7 hsb
                go_wp2
                go_roundw
                case rel =>
                  exact ⟨k + 1, ρ7, last + 1, E2, D2, by omega, by simp, hL7.st.kept (fun _ _ => rfl), hp7, K2, by omega, hown7, hM2, ⟨hW7.os, hW7.tape, hW7.output, hW7.size, hW7.block⟩, Go.X.Try.sb_left hL7 hsb hown.lt⟩
                case measure => simp [intOf]; omega
              · intro x c w5 cnt1 hwx hwc hlx hat hrg1 hlt hg1 hs1 hen
                have hx := hM2.entry hat
                have hst5 : Go.X.Try.stHR w1 _ ρ4 (last + 1) E2 := Go.X.Try.st_grown hst hg1 (fun b hb => by rw [← Option.some.inj hb]; exact hsi)
                have hW5 : Below w1.heap.size w1 w5 := Go.X.Try.below_grown hW hg1 (fun b hb => by have := Option.some.inj hb; omega)
                go_wp2_with (first | (go_at_call 21; refine (Go.X.Try.k21 hst5 hW5.size hp x c true (K2.text hx)).mono ?_; rintro e w6 ⟨ρ6, rfl, hL6⟩) | go_in)
                go_roundw
                case rel =>
                  exact ⟨_, cnt1, ρ6, Go.X.Try.range_left hrg1 hL6 hsb hsi, hL6.st, hL6.ptr.trans hp, Go.X.Try.below_left hW5 hst5 hL6, Go.X.Try.sb_left hL6 hsb hrg1.owns.lt, Go.X.Try.sb_left hL6 hsi (Go.X.Try.range_lt hrg1)⟩
                case measure => rw [(Go.X.Try.range_left hrg1 hL6 hsb hsi).left_eq, hrg.left_eq]; exact hlt
          | true =>
            by_cases g8 : ((Maps.size D : Nat) : Int) < 8
            · have hwf : (Lit.int .i64 (last + 1)).wf = true := WalkArith.wf_i64 (by have := K.pos; omega)
              have hs20 : s.size ≤ maxLen := by unfold maxLen; omega
              go_wp2_with (first
                | (go_at_call 19; refine (Go.X.Try.k19 hst hws hp s (last + 1) 0 hadd).mono ?_; rintro e w3 ⟨ρ3, rfl, hL⟩; have hcy := hcyf w3 (Go.X.Try.below_left hW hst hL); have hlE := fun ty => (Go.X.Try.map_left hown hL hsb).len Try.underlying29 ty)
                | (at_mapUpdate; refine wpList_mapUpdate_own _ rfl _ _ _ 29 rfl 3 9 law3 Try.underlying29 _ w2.heap.size k D rfl (Go.X.Try.map_left hown hL hsb) (by unfold maxLen; omega) _ _ _ rfl rfl (keyOf_int_mk Try.underlying3 hwf) _ [] (plainElem_string Try.underlying9 hs20) ?_; intro w5 hown5 hg5)
                | (go_at_call 20; refine (Go.X.Try.k20 (Go.X.Try.st_grown hL.st hg5 (fun b hb => by rw [← Option.some.inj hb]; exact Go.X.Try.sb_left hL hsb hbml)) (Nat.le_trans hws (Nat.le_trans hL.size hg5.size)) (hL.ptr.trans hp) (last + 1) true (K'.hold hl' s)).mono ?_; rintro e w6 ⟨ρ6, rfl, hL6⟩)
                | (at_range; refine wpList_range_own _ rfl _ 29 rfl 3 9 law3 Try.underlying29 _ w2.heap.size (k + 1) _ rfl (Go.X.Try.map_left hown5 hL6 (Go.X.Try.sb_left hL hsb hbml)) ?_; intro w4 hrg4 hg4 hs4)
                | go_in)
              go_frame
              obtain ⟨E2, hE2⟩ : ∃ E2, E2 = E' ++ [(⟨last + 1, s, 1⟩ : Go.X.Try.En)] := ⟨_, rfl⟩
              obtain ⟨D2, hD2⟩ : ∃ D2, D2 = D.put (.int .i64 (last + 1)) (.lit (.string s.data.toList)) := ⟨_, rfl⟩
              have K2 : Go.X.Try.Kept E2 (last + 1) := by rw [hE2]; exact K'.add hl' s 1 (.inr rfl)
              have hM2 : Go.X.Try.MapR D2 E2 := by rw [hE2, hD2]; exact (hM.same hm' hc').put K' (hown.tidy law3) s
              have hne2 : E2 ≠ [] ∧ (E2.map Go.X.Try.En.ep).getD (E2.length - 1) 0 = last + 1 := by rw [hE2]; exact ⟨by simp, by simp [List.getD]⟩
              replace hrg4 : Go.X.Try.rangeAt w4 w2.heap.size w6.heap.size (k + 1) D2 (Maps.has D2) (Maps.size D2) := by rw [hD2]; exact hrg4
              rw [← hE2] at hL6
              clear hE2 hD2
              have hsb3' : ¬ Go.X.Try.Sb ρ3 w2.heap.size := Go.X.Try.sb_left hL hsb hbml
              have hsb3 : ¬ Go.X.Try.Sb ρ6 w2.heap.size := Go.X.Try.sb_left hL6 hsb3' hown5.lt
              have hsi3 : ¬ Go.X.Try.Sb ρ6 w6.heap.size := fun h => by have := (hL6.st.own h).2; omega
              have hst5 := Go.X.Try.st_grown hL.st hg5 (fun b hb => by rw [← Option.some.inj hb]; exact hsb3')
              have hst4 : Go.X.Try.stHR w1 w4 ρ6 (last + 1) E2 := Go.X.Try.st_grown hL6.st hg4 nofun
              have hp4 : (ρ6 0).hdr = .pointer (some ⟨b0, 0, none⟩) := hL6.ptr.trans (hL.ptr.trans hp)
              have hw2m : w1.heap.size ≤ w2.heap.size := hb2.size
              have hW5 : Below w1.heap.size w1 w5 := Go.X.Try.below_grown (Go.X.Try.below_left hW hst hL) hg5 (fun b hb => by have := Option.some.inj hb; omega)
              have hW4 : Below w1.heap.size w1 w4 := Go.X.Try.below_grown (Go.X.Try.below_left hW5 hst5 hL6) hg4 nofun
              have hw13 : w1.heap.size ≤ w6.heap.size := Nat.le_trans hws (Nat.le_trans hL.size (Nat.le_trans hg5.size hL6.size))
              clear hL hL6 hst hst5 hp hW hW5 hsb hsb3' hown hown5 hM hg4 hs4 hg5
              go_loopw [73] (fun _ wr => ∃ (left : Lit → Bool) (cnt : Nat) (ρ : Nat → Go.X.RV), Go.X.Try.rangeAt wr w2.heap.size w6.heap.size (k + 1) D2 left cnt ∧ Go.X.Try.stHR w1 wr ρ (last + 1) E2 ∧ (ρ 0).hdr = .pointer (some ⟨b0, 0, none⟩) ∧ Below w1.heap.size w1 wr ∧ ¬ Go.X.Try.Sb ρ w2.heap.size ∧ ¬ Go.X.Try.Sb ρ w6.heap.size) (fun _ wr => wr.rangeLeft w2.heap.size w6.heap.size)
              case atStart => exact ⟨_, _, ρ6, hrg4, hst4, hp4, hW4, hsb3, hsi3⟩
              case round =>
                clear hrg4 hst4 hp4 hW4 hsb3 hsi3
                obtain ⟨left, cnt, ρ4, hrg, hst, hp, hW, hsb, hsi⟩ := hrel
                go_wp2_with (first
                  | (at_next; refine wpList_next_ranges_is _ rfl _ rfl 3 9 .i64 law3 Try.underlying3 Try.underlying9 w2.heap.size w6.heap.size (k + 1) _ _ _ rfl hrg ?_ ?_)
                  | go_in)
                · intro hc0 hl0
                  have hown : Go.X.Try.mapAt _ w2.heap.size (k + 1) D2 := hrg.owns
                  have hbi4 := Go.X.Try.range_lt hrg
                  obtain ⟨m, hm⟩ : ∃ m, E2.length = m + 1 := ⟨E2.length - 1, by have := List.length_pos_iff.2 hne2.1; omega⟩
                  have hm8 : m + 1 ≤ 8 := by have := K2.len; omega
                  go_wp2_with (first | (go_at_call 22; refine (Go.X.Try.k22 hst hW.size hp K2.len hne2.1).mono ?_; rintro e w7 ⟨ρ7, b7, o7, cap7, rfl, hL7, hb7, hns7, hWb7, hc7⟩; rw [hm]) | go_in)
                  have hp7 : (ρ7 0).hdr = .pointer (some ⟨b0, 0, none⟩) := hL7.ptr.trans hp
                  have hc7' := hc7 m (by omega)
                  have hne3 := hne2.2
                  rw [hm, Nat.add_sub_cancel] at hne3
                  rw [hne3] at hc7'
                  have hcl7 : w7.cell? ⟨b0, 1, none⟩ = some (.int .i64 (last + 1)) := Go.X.Try.st_cells hL7.st hp7
                  have hl23 : ∀ n, Calls Try.prog 23 #[.pointer (some ⟨b0, 0, none⟩)] (w7.drewN n) fun e w' => e = .returned (.int .i64 (last + 1)) ∧ w' = w7.drewN n := fun n => last23 b0 (last + 1) _ (show (w7.drewN n).cell? ⟨b0, 1, none⟩ = some (.int .i64 (last + 1)) from hcl7)
                  have q1 : decide ((8 : Int) < ((m + 1 : Nat) : Int)) = false := by simp; omega
                  have q1' : ¬ (8 : Int) < (m : Int) + 1 := by omega
                  have q2 : ((((m + 1 : Nat) : Int)) == 0) = false := by simp; omega
                  have q2' : ¬ (m : Int) + 1 = 0 := by omega
                  have q3 : IntKind.i64.wrap (m : Int) = m := Go.IntWalk.i64_in _ (by omega)
                  have q4 : IntKind.i64.wrap ((m : Int) + 1 - 1) = m := by rw [show (m : Int) + 1 - 1 = m by omega]; exact q3
                  have q5 : (m : Int) < (m : Int) + 1 := by omega
                  have q6 : (0 : Int) ≤ (m : Int) := by omega
                  have q7 : m < m + 1 := by omega
                  clear hc7
                  go_quiet ((go_at_call 23; refine Calls.quiet_of_same (hl23 _)))
                  have hW7 := Go.X.Try.below_left hW hst hL7
                  have hown7 := Go.X.Try.map_left hown hL7 hsb
                  go_wp2
                  go_roundw
                  case rel =>
                    exact ⟨k + 1, ρ7, last + 1, E2, D2, by omega, by simp, hL7.st.kept (fun _ _ => rfl), hp7, K2, by omega, hown7, hM2, ⟨hW7.os, hW7.tape, hW7.output, hW7.size, hW7.block⟩, Go.X.Try.sb_left hL7 hsb hown.lt⟩
                  case measure => simp [intOf]; omega
                · intro x c w5 cnt1 hwx hwc hlx hat hrg1 hlt hg1 hs1 hen
                  have hx := hM2.entry hat
                  have hst5 : Go.X.Try.stHR w1 _ ρ4 (last + 1) E2 := Go.X.Try.st_grown hst hg1 (fun b hb => by rw [← Option.some.inj hb]; exact hsi)
                  have hW5 : Below w1.heap.size w1 w5 := Go.X.Try.below_grown hW hg1 (fun b hb => by have := Option.some.inj hb; omega)
                  go_wp2_with (first | (go_at_call 21; refine (Go.X.Try.k21 hst5 hW5.size hp x c true (K2.text hx)).mono ?_; rintro e w6 ⟨ρ6, rfl, hL6⟩) | go_in)
                  go_roundw
                  case rel =>
                    exact ⟨_, cnt1, ρ6, Go.X.Try.range_left hrg1 hL6 hsb hsi, hL6.st, hL6.ptr.trans hp, Go.X.Try.below_left hW5 hst5 hL6, Go.X.Try.sb_left hL6 hsb hrg1.owns.lt, Go.X.Try.sb_left hL6 hsi (Go.X.Try.range_lt hrg1)⟩
                  case measure => rw [(Go.X.Try.range_left hrg1 hL6 hsb hsi).left_eq, hrg.left_eq]; exact hlt
            · have g8' : (8 : Int) ≤ ((Maps.size D : Nat) : Int) := by omega
              go_wp2_with (first | (go_at_call 19; refine (Go.X.Try.k19 hst hws hp s (last + 1) 0 hadd).mono ?_; rintro e w3 ⟨ρ3, rfl, hL⟩; have hcy := hcyf w3 (Go.X.Try.below_left hW hst hL); have hlE := fun ty => (Go.X.Try.map_left hown hL hsb).len Try.underlying29 ty) | (at_range; refine wpList_range_own _ rfl _ 29 rfl 3 9 law3 Try.underlying29 _ w2.heap.size k D rfl (Go.X.Try.map_left hown hL hsb) ?_; intro w4 hrg4 hg4 hs4) | go_in)
              go_frame
              obtain ⟨E2, hE2⟩ : ∃ E2, E2 = E' ++ [(⟨last + 1, s, 0⟩ : Go.X.Try.En)] := ⟨_, rfl⟩
              obtain ⟨D2, hD2⟩ : ∃ D2, D2 = D := ⟨_, rfl⟩
              have K2 : Go.X.Try.Kept E2 (last + 1) := by rw [hE2]; exact K'.add hl' s 0 (.inl rfl)
              have hM2 : Go.X.Try.MapR D2 E2 := by rw [hE2, hD2]; exact (hM.same hm' hc').same (Go.X.Try.hm_add K' s).1.1 (Go.X.Try.hm_add K' s).1.2
              have hne2 : E2 ≠ [] ∧ (E2.map Go.X.Try.En.ep).getD (E2.length - 1) 0 = last + 1 := by rw [hE2]; exact ⟨by simp, by simp [List.getD]⟩
              replace hrg4 : Go.X.Try.rangeAt w4 w2.heap.size w3.heap.size (k + 1) D2 (Maps.has D2) (Maps.size D2) := by rw [hD2]; exact Go.X.Try.range_mono hrg4
              rw [← hE2] at hL
              clear hE2 hD2
              have hbml3 : w2.heap.size < w3.heap.size := Nat.lt_of_lt_of_le hbml hL.size
              have hsb3 : ¬ Go.X.Try.Sb ρ3 w2.heap.size := Go.X.Try.sb_left hL hsb hbml
              have hsi3 : ¬ Go.X.Try.Sb ρ3 w3.heap.size := fun h => by have := (hL.st.own h).2; omega
              have hst4 : Go.X.Try.stHR w1 w4 ρ3 (last + 1) E2 := Go.X.Try.st_grown hL.st hg4 nofun
              have hp4 : (ρ3 0).hdr = .pointer (some ⟨b0, 0, none⟩) := hL.ptr.trans hp
              have hW4 : Below w1.heap.size w1 w4 := Go.X.Try.below_grown (Go.X.Try.below_left hW hst hL) hg4 nofun
              have hw13 : w1.heap.size ≤ w3.heap.size := Nat.le_trans hws hL.size
              clear hL hst hp hW hsb hown hM hg4 hs4
              go_loopw [73] (fun _ wr => ∃ (left : Lit → Bool) (cnt : Nat) (ρ : Nat → Go.X.RV), Go.X.Try.rangeAt wr w2.heap.size w3.heap.size (k + 1) D2 left cnt ∧ Go.X.Try.stHR w1 wr ρ (last + 1) E2 ∧ (ρ 0).hdr = .pointer (some ⟨b0, 0, none⟩) ∧ Below w1.heap.size w1 wr ∧ ¬ Go.X.Try.Sb ρ w2.heap.size ∧ ¬ Go.X.Try.Sb ρ w3.heap.size) (fun _ wr => wr.rangeLeft w2.heap.size w3.heap.size)
              case atStart => exact ⟨_, _, ρ3, hrg4, hst4, hp4, hW4, hsb3, hsi3⟩
              case round =>
                clear hrg4 hst4 hp4 hW4 hsb3 hsi3
                obtain ⟨left, cnt, ρ4, hrg, hst, hp, hW, hsb, hsi⟩ := hrel
                go_wp2_with (first
                  | (at_next; refine wpList_next_ranges_is _ rfl _ rfl 3 9 .i64 law3 Try.underlying3 Try.underlying9 w2.heap.size w3.heap.size (k + 1) _ _ _ rfl hrg ?_ ?_)
                  | go_in)
                · intro hc0 hl0
                  have hown : Go.X.Try.mapAt _ w2.heap.size (k + 1) D2 := hrg.owns
                  have hbi4 := Go.X.Try.range_lt hrg
                  obtain ⟨m, hm⟩ : ∃ m, E2.length = m + 1 := ⟨E2.length - 1, by have := List.length_pos_iff.2 hne2.1; omega⟩
                  have hm8 : m + 1 ≤ 8 := by have := K2.len; omega
                  go_wp2_with (first | (go_at_call 22; refine (Go.X.Try.k22 hst hW.size hp K2.len hne2.1).mono ?_; rintro e w7 ⟨ρ7, b7, o7, cap7, rfl, hL7, hb7, hns7, hWb7, hc7⟩; rw [hm]) | go_in)
                  have hp7 : (ρ7 0).hdr = .pointer (some ⟨b0, 0, none⟩) := hL7.ptr.trans hp
                  have hc7' := hc7 m (by omega)
                  have hne3 := hne2.2
                  rw [hm, Nat.add_sub_cancel] at hne3
                  rw [hne3] at hc7'
                  have hcl7 : w7.cell? ⟨b0, 1, none⟩ = some (.int .i64 (last + 1)) := Go.X.Try.st_cells hL7.st hp7
                  have hl23 : ∀ n, Calls Try.prog 23 #[.pointer (some ⟨b0, 0, none⟩)] (w7.drewN n) fun e w' => e = .returned (.int .i64 (last + 1)) ∧ w' = w7.drewN n := fun n => last23 b0 (last + 1) _ (show (w7.drewN n).cell? ⟨b0, 1, none⟩ = some (.int .i64 (last + 1)) from hcl7)
                  have q1 : decide ((8 : Int) < ((m + 1 : Nat) : Int)) = false := by simp; omega
                  have q1' : ¬ (8 : Int) < (m : Int) + 1 := by omega
                  have q2 : ((((m + 1 : Nat) : Int)) == 0) = false := by simp; omega
                  have q2' : ¬ (m : Int) + 1 = 0 := by omega
                  have q3 : IntKind.i64.wrap (m : Int) = m := Go.IntWalk.i64_in _ (by omega)
                  have q4 : IntKind.i64.wrap ((m : Int) + 1 - 1) = m := by rw [show (m : Int) + 1 - 1 = m by omega]; exact q3
                  have q5 : (m : Int) < (m : Int) + 1 := by omega
                  have q6 : (0 : Int) ≤ (m : Int) := by omega
                  have q7 : m < m + 1 := by omega
                  clear hc7
                  go_quiet ((go_at_call 23; refine Calls.quiet_of_same (hl23 _)))
                  have hW7 := Go.X.Try.below_left hW hst hL7
                  have hown7 := Go.X.Try.map_left hown hL7 hsb
                  go_wp2
                  go_roundw
                  case rel =>
                    exact ⟨k + 1, ρ7, last + 1, E2, D2, by omega, by simp, hL7.st.kept (fun _ _ => rfl), hp7, K2, by omega, hown7, hM2, ⟨hW7.os, hW7.tape, hW7.output, hW7.size, hW7.block⟩, Go.X.Try.sb_left hL7 hsb hown.lt⟩
                  case measure => simp [intOf]; omega
                · intro x c w5 cnt1 hwx hwc hlx hat hrg1 hlt hg1 hs1 hen
                  have hx := hM2.entry hat
                  have hst5 : Go.X.Try.stHR w1 _ ρ4 (last + 1) E2 := Go.X.Try.st_grown hst hg1 (fun b hb => by rw [← Option.some.inj hb]; exact hsi)
                  have hW5 : Below w1.heap.size w1 w5 := Go.X.Try.below_grown hW hg1 (fun b hb => by have := Option.some.inj hb; omega)
                  go_wp2_with (first | (go_at_call 21; refine (Go.X.Try.k21 hst5 hW5.size hp x c true (K2.text hx)).mono ?_; rintro e w6 ⟨ρ6, rfl, hL6⟩) | go_in)
                  go_roundw
                  case rel =>
                    exact ⟨_, cnt1, ρ6, Go.X.Try.range_left hrg1 hL6 hsb hsi, hL6.st, hL6.ptr.trans hp, Go.X.Try.below_left hW5 hst5 hL6, Go.X.Try.sb_left hL6 hsb hrg1.owns.lt, Go.X.Try.sb_left hL6 hsi (Go.X.Try.range_lt hrg1)⟩
                  case measure => rw [(Go.X.Try.range_left hrg1 hL6 hsb hsi).left_eq, hrg.left_eq]; exact hlt
        · have g1' : (hold.length : Int) ≤ k := by omega
          go_wp2_with (first | (go_at_call 19; refine (Go.X.Try.k19 hst hws hp s (last + 1) 0 hadd).mono ?_; rintro e w3 ⟨ρ3, rfl, hL⟩) | (at_range; refine wpList_range_own _ rfl _ 29 rfl 3 9 law3 Try.underlying29 _ w2.heap.size k D rfl (Go.X.Try.map_left hown hL hsb) ?_; intro w4 hrg4 hg4 hs4) | go_in)
          go_frame
          obtain ⟨E2, hE2⟩ : ∃ E2, E2 = E' ++ [(⟨last + 1, s, 0⟩ : Go.X.Try.En)] := ⟨_, rfl⟩
          obtain ⟨D2, hD2⟩ : ∃ D2, D2 = D := ⟨_, rfl⟩
          have K2 : Go.X.Try.Kept E2 (last + 1) := by rw [hE2]; exact K'.add hl' s 0 (.inl rfl)
          have hM2 : Go.X.Try.MapR D2 E2 := by rw [hE2, hD2]; exact (hM.same hm' hc').same (Go.X.Try.hm_add K' s).1.1 (Go.X.Try.hm_add K' s).1.2
          have hne2 : E2 ≠ [] ∧ (E2.map Go.X.Try.En.ep).getD (E2.length - 1) 0 = last + 1 := by rw [hE2]; exact ⟨by simp, by simp [List.getD]⟩
          replace hrg4 : Go.X.Try.rangeAt w4 w2.heap.size w3.heap.size (k + 1) D2 (Maps.has D2) (Maps.size D2) := by rw [hD2]; exact Go.X.Try.range_mono hrg4
          rw [← hE2] at hL
          clear hE2 hD2
          have hbml3 : w2.heap.size < w3.heap.size := Nat.lt_of_lt_of_le hbml hL.size
          have hsb3 : ¬ Go.X.Try.Sb ρ3 w2.heap.size := Go.X.Try.sb_left hL hsb hbml
          have hsi3 : ¬ Go.X.Try.Sb ρ3 w3.heap.size := fun h => by have := (hL.st.own h).2; omega
          have hst4 : Go.X.Try.stHR w1 w4 ρ3 (last + 1) E2 := Go.X.Try.st_grown hL.st hg4 nofun
          have hp4 : (ρ3 0).hdr = .pointer (some ⟨b0, 0, none⟩) := hL.ptr.trans hp
          have hW4 : Below w1.heap.size w1 w4 := Go.X.Try.below_grown (Go.X.Try.below_left hW hst hL) hg4 nofun
          have hw13 : w1.heap.size ≤ w3.heap.size := Nat.le_trans hws hL.size
          clear hL hst hp hW hsb hown hM hg4 hs4
          go_loopw [73] (fun _ wr => ∃ (left : Lit → Bool) (cnt : Nat) (ρ : Nat → Go.X.RV), Go.X.Try.rangeAt wr w2.heap.size w3.heap.size (k + 1) D2 left cnt ∧ Go.X.Try.stHR w1 wr ρ (last + 1) E2 ∧ (ρ 0).hdr = .pointer (some ⟨b0, 0, none⟩) ∧ Below w1.heap.size w1 wr ∧ ¬ Go.X.Try.Sb ρ w2.heap.size ∧ ¬ Go.X.Try.Sb ρ w3.heap.size) (fun _ wr => wr.rangeLeft w2.heap.size w3.heap.size)
          case atStart => exact ⟨_, _, ρ3, hrg4, hst4, hp4, hW4, hsb3, hsi3⟩
          case round =>
            clear hrg4 hst4 hp4 hW4 hsb3 hsi3
            obtain ⟨left, cnt, ρ4, hrg, hst, hp, hW, hsb, hsi⟩ := hrel
            go_wp2_with (first
              | (at_next; refine wpList_next_ranges_is _ rfl _ rfl 3 9 .i64 law3 Try.underlying3 Try.underlying9 w2.heap.size w3.heap.size (k + 1) _ _ _ rfl hrg ?_ ?_)
              | go_in)
            · intro hc0 hl0
              have hown : Go.X.Try.mapAt _ w2.heap.size (k + 1) D2 := hrg.owns
              have hbi4 := Go.X.Try.range_lt hrg
              obtain ⟨m, hm⟩ : ∃ m, E2.length = m + 1 := ⟨E2.length - 1, by have := List.length_pos_iff.2 hne2.1; omega⟩
              have hm8 : m + 1 ≤ 8 := by have := K2.len; omega
              go_wp2_with (first | (go_at_call 22; refine (Go.X.Try.k22 hst hW.size hp K2.len hne2.1).mono ?_; rintro e w7 ⟨ρ7, b7, o7, cap7, rfl, hL7, hb7, hns7, hWb7, hc7⟩; rw [hm]) | go_in)
              have hp7 : (ρ7 0).hdr = .pointer (some ⟨b0, 0, none⟩) := hL7.ptr.trans hp
              have hc7' := hc7 m (by omega)
              have hne3 := hne2.2
              rw [hm, Nat.add_sub_cancel] at hne3
              rw [hne3] at hc7'
              have hcl7 : w7.cell? ⟨b0, 1, none⟩ = some (.int .i64 (last + 1)) := Go.X.Try.st_cells hL7.st hp7
              have hl23 : ∀ n, Calls Try.prog 23 #[.pointer (some ⟨b0, 0, none⟩)] (w7.drewN n) fun e w' => e = .returned (.int .i64 (last + 1)) ∧ w' = w7.drewN n := fun n => last23 b0 (last + 1) _ (show (w7.drewN n).cell? ⟨b0, 1, none⟩ = some (.int .i64 (last + 1)) from hcl7)
              have q1 : decide ((8 : Int) < ((m + 1 : Nat) : Int)) = false := by simp; omega
              have q1' : ¬ (8 : Int) < (m : Int) + 1 := by omega
              have q2 : ((((m + 1 : Nat) : Int)) == 0) = false := by simp; omega
              have q2' : ¬ (m : Int) + 1 = 0 := by omega
              have q3 : IntKind.i64.wrap (m : Int) = m := Go.IntWalk.i64_in _ (by omega)
              have q4 : IntKind.i64.wrap ((m : Int) + 1 - 1) = m := by rw [show (m : Int) + 1 - 1 = m by omega]; exact q3
              have q5 : (m : Int) < (m : Int) + 1 := by omega
              have q6 : (0 : Int) ≤ (m : Int) := by omega
              have q7 : m < m + 1 := by omega
              clear hc7
              go_quiet ((go_at_call 23; refine Calls.quiet_of_same (hl23 _)))
              have hW7 := Go.X.Try.below_left hW hst hL7
              have hown7 := Go.X.Try.map_left hown hL7 hsb
              go_wp2
              go_roundw
              case rel =>
                exact ⟨k + 1, ρ7, last + 1, E2, D2, by omega, by simp, hL7.st.kept (fun _ _ => rfl), hp7, K2, by omega, hown7, hM2, ⟨hW7.os, hW7.tape, hW7.output, hW7.size, hW7.block⟩, Go.X.Try.sb_left hL7 hsb hown.lt⟩
              case measure => simp [intOf]; omega
            · intro x c w5 cnt1 hwx hwc hlx hat hrg1 hlt hg1 hs1 hen
              have hx := hM2.entry hat
              have hst5 : Go.X.Try.stHR w1 _ ρ4 (last + 1) E2 := Go.X.Try.st_grown hst hg1 (fun b hb => by rw [← Option.some.inj hb]; exact hsi)
              have hW5 : Below w1.heap.size w1 w5 := Go.X.Try.below_grown hW hg1 (fun b hb => by have := Option.some.inj hb; omega)
              go_wp2_with (first | (go_at_call 21; refine (Go.X.Try.k21 hst5 hW5.size hp x c true (K2.text hx)).mono ?_; rintro e w6 ⟨ρ6, rfl, hL6⟩) | go_in)
              go_roundw
              case rel =>
                exact ⟨_, cnt1, ρ6, Go.X.Try.range_left hrg1 hL6 hsb hsi, hL6.st, hL6.ptr.trans hp, Go.X.Try.below_left hW5 hst5 hL6, Go.X.Try.sb_left hL6 hsb hrg1.owns.lt, Go.X.Try.sb_left hL6 hsi (Go.X.Try.range_lt hrg1)⟩
              case measure => rw [(Go.X.Try.range_left hrg1 hL6 hsb hsi).left_eq, hrg.left_eq]; exact hlt
      · have hsz := hM.size
        have h7' : ¬ ((Maps.size D : Nat) : Int) < 7 := by omega
        go_wp2_with (first | (go_at_call 19; refine (Go.X.Try.k19 hst hws hp s 0 2 hadd).mono ?_; rintro e w3 ⟨ρ3, rfl, hL⟩) | (at_len; refine wpList_len_own _ rfl _ 29 rfl 3 9 Try.underlying29 _ w2.heap.size k D rfl (Go.X.Try.map_left hown hL hsb) ?_) | go_in)
        go_roundw
        case rel =>
          exact ⟨k + 1, ρ3, last, E, D, by omega, by simp, hL.st, hL.ptr.trans hp, K, by omega, (Go.X.Try.map_left hown hL hsb).mono (by omega), hM, Go.X.Try.below_left hW hst hL, Go.X.Try.sb_left hL hsb hbml⟩
        case measure => simp [intOf]; omega
    · have hke : k = l.length := by omega
      subst hke
      go_wp2_with fail
      go_ret
      exact ⟨rfl, hb1.trans (Go.X.Try.below_less' hW hb1.size)⟩
end Go.Proofs
