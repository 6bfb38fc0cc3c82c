import Derived.Test.YtcpgijcdmhehaaaVb
set_option maxRecDepth 100000
set_option linter.unusedSimpArgs false
namespace Go.X.Try
open Go.IntWalk
theorem eqS2 {x : List Int} (hx : isB x) : (ofBytes x).toList = [80, 68] ↔ x = [80, 68] := by
  have e := eqS (l := x) (m := [80, 68]) hx (by intro y hy; simp at hy; omega)
  have e2 : (ofBytes [80, 68]).toList = [80, 68] := by simp [ofBytes]
  rw [e2, Bool.eq_iff_iff, beq_iff_eq, decide_eq_true_eq] at e
  exact e
theorem f15core (l x1 r1 r2 r3 t r4 : List Int) (b1 b2 b3 b4 : Bool) (v n : Int) (m : Nat) (hx : isB x1)
    (e50 : F50 [.one (.str (ofBytes l))] [] = some (.one (.ptr 0 0), rHp none l false))
    (e51 : F51 [.one (.ptr 0 0), .one (.int .i64 2)] (rHp (some 0) l false) = some (.one (.str (ofBytes x1)), rHp (some 0) r1 b1))
    (e52 : F52 [.one (.ptr 0 0), .one (.int .i64 8)] (rHp (some 0) r1 b1) = some (.one (.int .u64 v), rHp (some 0) r2 b2))
    (e53 : F53 [.one (.ptr 0 0)] (rHp (some 0) r2 b2) = some (.one (.int .u64 n), rHp (some 0) r3 b3))
    (hh : ¬ 256 < n → IntKind.i64.wrap n = m ∧ F51 [.one (.ptr 0 0), .one (.int .i64 m)] (rHp (some 0) r3 b3) = some (.one (.str (ofBytes t)), rHp (some 0) r4 b4) ∧ F17 [.one (.str (ofBytes t))] [] = some (.one (.int .u64 (sumL t)), [])) :
    F15 [.one (.str (ofBytes l))] [] = some (if b3 = true ∨ ¬ x1 = [80, 68] then tupSI ⟨#[]⟩ 3 else if 256 < n then tupSI ⟨#[]⟩ 5 else if b4 = true ∨ ¬ r4 = [] then tupSI ⟨#[]⟩ 3 else if ¬ sumL t = v then tupSI ⟨#[]⟩ 4 else tupSI (ofBytes t) 0, []) := by
  have e54 := f54 r3 b3
  have e55 := f55 r4 b4
  have q := eqS2 hx
  simp only [rHp] at e50 e51 e52 e53 e54 e55 hh
  cases b3 with
  | true => simp -implicitDefEqProofs [F15, c15, upd, e50, e51, e52, e53, e54, q, tupSI]
  | false =>
    by_cases hp : x1 = [80, 68]
    · rw [if_neg (by rintro (h | h); cases h; exact h hp)]
      have q := q.2 hp
      clear hp
      by_cases h1 : 256 < n
      · simp -implicitDefEqProofs [F15, c15, upd, e50, e51, e52, e53, e54, q, tupSI, h1]
      · obtain ⟨w, e51', e17⟩ := hh h1
        cases b4 with
        | true => simp -implicitDefEqProofs [F15, c15, upd, e50, e51, e52, e53, e54, q, tupSI, h1, w, e51', e55]
        | false =>
          by_cases hr : r4 = []
          · subst hr
            by_cases hs : sumL t = v
            · simp -implicitDefEqProofs [F15, c15, upd, e50, e51, e52, e53, e54, q, tupSI, h1, w, e51', e55, e17, hs]
            · simp -implicitDefEqProofs [F15, c15, upd, e50, e51, e52, e53, e54, q, tupSI, h1, w, e51', e55, e17, hs]
          · simp -implicitDefEqProofs [F15, c15, upd, e50, e51, e52, e53, e54, q, tupSI, h1, w, e51', e55, hr]
    · simp -implicitDefEqProofs [F15, c15, upd, e50, e51, e52, e53, e54, q, tupSI, hp, mt q.1 hp]


theorem rAns_nat (l : List Int) (m : Nat) : rAns l m = if l.length < m then ([], [], true) else (l.take m, l.drop m, false) := by
  unfold rAns
  by_cases h : l.length < m
  · rw [if_pos (by omega), if_pos h]
  · rw [if_neg (by omega), if_neg h, Int.toNat_natCast]
theorem f15 (l : List Int) (hB : isB l) (hl : l.length ≤ 5000) : F15 [.one (.str (ofBytes l))] [] = some (tupSI (ofBytes (dictD l).1) (dictD l).2, []) := by
  have hnil : isB ([] : List Int) := by simp [isB]
  have hz : sz 8 = 8 := by unfold sz; rfl
  have e50 := f50 (ofBytes l)
  rw [toBytes_ofBytes hB] at e50
  have e17n : F17 [.one (.str (ofBytes []))] [] = some (.one (.int .u64 (sumL [])), []) := f17 (ofBytes []) (by decide)
  have wz : IntKind.i64.wrap (((0 : Nat) : Int)) = ((0 : Nat) : Int) := rfl
  by_cases h2 : l.length < 2
  · have e51 := f51' l (2 : Nat) (by omega)
    rw [rAns_nat, if_pos h2] at e51
    rw [f15core l [] [] [] [] [] [] true true true true 0 (0 : Nat) 0 hnil e50 e51 (f52b [] 8) (f53b []) (fun _ => ⟨wz, f51b [] (0 : Nat), e17n⟩)]
    unfold dictD
    rw [if_pos (.inl rfl), if_pos (.inl (by omega))]; rfl
  · have e51 := f51' l (2 : Nat) (by omega)
    rw [rAns_nat, if_neg h2] at e51
    have hl1 : (l.drop 2).length = l.length - 2 := List.length_drop ..
    have e52 := f52 (l.drop 2) 8 (isB_drop 2 hB) (by omega)
    rw [hz, rAns_nat] at e52
    by_cases h10 : l.length < 10
    · rw [if_pos (by omega)] at e52
      rw [f15core l _ _ [] [] [] [] false true true true _ (0 : Nat) 0 (isB_take 2 hB) e50 e51 e52 (f53b []) (fun _ => ⟨wz, f51b [] (0 : Nat), e17n⟩)]
      unfold dictD
      rw [if_pos (.inl rfl), if_pos (.inl h10)]; rfl
    · rw [if_neg (by omega)] at e52
      have hd : (l.drop 2).drop 8 = l.drop 10 := by rw [List.drop_drop]
      rw [hd] at e52
      have hB10 := isB_drop 10 hB
      have e53 := f53 (l.drop 10) hB10 (by rw [List.length_drop]; omega)
      have hok := gAns_ok (l.drop 10) hB10
      have hinv := fun u r => gdec_inv (l.drop 10) 0 0 u r hB10 (by omega)
      unfold gAns at e53 hok
      cases hg : gdec 0 0 (l.drop 10) with
      | none =>
        rw [hg] at e53
        rw [f15core l _ _ _ [] [] [] false false true true _ (0 : Nat) 0 (isB_take 2 hB) e50 e51 e52 e53 (fun _ => ⟨wz, f51b [] (0 : Nat), e17n⟩)]
        rw [if_pos (.inl rfl)]
        unfold dictD
        rw [hg]
        split <;> rfl
      | some p =>
        obtain ⟨n, r⟩ := p
        rw [hg] at e53 hok
        simp only at e53 hok
        obtain ⟨a, ha, hu, _⟩ := hinv n r hg
        have hrl : r.length ≤ l.length := by
          have := congrArg List.length ha
          rw [List.length_drop, List.length_append] at this
          omega
        have hBr : isB r := hok.2.1
        by_cases hbig : 256 < n
        · rw [f15core l _ _ _ r [] [] false false false false _ n 0 (isB_take 2 hB) e50 e51 e52 e53 (fun h => absurd (by omega) h)]
          unfold dictD
          rw [hg]
          by_cases hp : l.take 2 = [80, 68]
          · rw [if_neg (by rintro (h | h); cases h; exact h hp), if_pos (by omega), if_neg (by rintro (h | h); omega; exact h hp)]; simp only; rw [if_pos hbig]; rfl
          · rw [if_pos (.inr hp), if_pos (.inr hp)]; rfl
        · have w : IntKind.i64.wrap ((n : Nat) : Int) = (n : Int) := i64_in _ (by omega)
          have e51' := f51' r (n : Nat) (by omega)
          rw [rAns_nat] at e51'
          by_cases hrm : r.length < n
          · rw [if_pos hrm] at e51'
            rw [f15core l _ _ _ _ _ _ false false false true _ n n (isB_take 2 hB) e50 e51 e52 e53 (fun _ => ⟨w, e51', e17n⟩)]
            unfold dictD
            rw [hg]
            by_cases hp : l.take 2 = [80, 68]
            · rw [if_neg (by rintro (h | h); cases h; exact h hp), if_neg (by omega), if_pos (.inl rfl), if_neg (by rintro (h | h); omega; exact h hp)]; simp only; rw [if_neg hbig, if_pos (by omega)]; rfl
            · rw [if_pos (.inr hp), if_pos (.inr hp)]; rfl
          · rw [if_neg hrm] at e51'
            rw [f15core l _ _ _ _ _ _ false false false false _ n n (isB_take 2 hB) e50 e51 e52 e53 (fun _ => ⟨w, e51', (by have := f17 (ofBytes (r.take n)) (by rw [size_ofBytes, List.length_take]; omega); rwa [toBytes_ofBytes (isB_take n hBr)] at this)⟩)]
            unfold dictD
            rw [hg]
            by_cases hp : l.take 2 = [80, 68]
            · rw [if_neg (by rintro (h | h); cases h; exact h hp), if_neg (by omega)]
              have hif : ∀ (x y : List Int × Int), (if l.length < 10 ∨ ¬ l.take 2 = [80, 68] then x else y) = y := fun x y => if_neg (by rintro (h | h); omega; exact h hp)
              rw [hif]
              simp only
              rw [if_neg hbig]
              by_cases hrn : r.length = n
              · have ht : r.take n = r := List.take_of_length_le (by omega)
                have hdr : r.drop n = [] := List.drop_eq_nil_of_le (by omega)
                rw [ht, hdr, if_neg (by rintro (h | h); cases h; exact h rfl)]
                by_cases hs : sumL r = (leB ((l.drop 2).take 8) : Int)
                · rw [if_neg (fun c => c hs), if_neg (fun c => c hrn), if_neg (fun c => c hs.symm)]
                · rw [if_pos hs, if_neg (fun c => c hrn), if_pos (fun c => hs c.symm)]; rfl
              · have hdr : ¬ r.drop n = [] := fun h => by
                  have := congrArg List.length h
                  rw [List.length_drop, List.length_nil] at this
                  omega
                rw [if_pos (.inr hdr), if_pos hrn]; rfl
            · rw [if_pos (.inr hp), if_pos (.inr hp)]; rfl
end Go.X.Try
