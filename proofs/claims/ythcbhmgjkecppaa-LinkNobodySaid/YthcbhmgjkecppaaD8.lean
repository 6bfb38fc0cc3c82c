import Derived.Test.YthcbhmgjkecppaaD7
set_option maxRecDepth 100000
set_option linter.unusedSimpArgs false
namespace Go.X.Try
open Go.IntWalk
theorem f40z (most h n d : Int) (sf sc : Option (Nat × Nat)) (X Y : List (List Sc)) (h1 : slen X sf ≤ 4000) (h2 : slen Y sc ≤ 4000) (hok : okv X sf) (hok2 : okv Y sc) (v : Nat) (hv : v = if d < 0 then 0 else if d < slen X sf then d.toNat else slen X sf) (hz : v = 0) :
    ∃ sf' sc' X' Y', F40 [.one (.ptr 0 0), .one (.int .i64 d)] (pipeHp (some 0) most sf sc X Y h n) = some (.one (.int .i64 v), pipeHp (some 0) most sf' sc' X' Y' h n) ∧ cont X' sf' = (cont X sf).drop v ∧ okv X' sf' ∧ cont Y' sc' = cont Y sc ++ (cont X sf).take v ∧ okv Y' sc' := by
  have e60 := f60 most h n sf sc X Y
  have hlx := cont_len X sf hok
  have hly := cont_len Y sc hok2
  refine ⟨sf, sc, X, Y, ?_, by simp [hz], hok, by simp [hz], hok2⟩
  simp only [pipeHp, pipeCells] at e60
  generalize slen X sf = lx at *
  by_cases a : d < 0
  · have b : ¬ ((lx : Int) < 0) := by omega
    cases sf <;> cases sc <;> simp only [slv] at e60 <;> simp -implicitDefEqProofs [F40, c40, upd, pipeHp, pipeCells, slv, e60, hz, a, b]
  · simp only [a, if_false] at hv
    by_cases c : d < lx
    · simp only [c, if_true] at hv
      have hd : d = 0 := by omega
      subst hd
      have b : ¬ ((lx : Int) < 0) := by omega
      cases sf <;> cases sc <;> simp only [slv] at e60 <;> simp -implicitDefEqProofs [F40, c40, upd, pipeHp, pipeCells, slv, e60, hz, b]
    · simp only [c, if_false] at hv
      have b : lx = 0 := by omega
      subst b
      by_cases g : 0 < d
      · cases sf <;> cases sc <;> simp only [slv] at e60 <;> simp -implicitDefEqProofs [F40, c40, upd, pipeHp, pipeCells, slv, e60, hz, a, g]
      · have hd : d = 0 := by omega
        subst hd
        cases sf <;> cases sc <;> simp only [slv] at e60 <;> simp -implicitDefEqProofs [F40, c40, upd, pipeHp, pipeCells, slv, e60, hz]
theorem f40d (most h n d : Int) (sf sc : Option (Nat × Nat)) (X Y : List (List Sc)) (h1 : slen X sf ≤ 4000) (h2 : slen Y sc ≤ 4000) (hok : okv X sf) (hok2 : okv Y sc) (v : Nat) (hv0 : 0 < v) (hle : v ≤ slen X sf) (hd : d = v) :
    ∃ sf' sc' X' Y', F40 [.one (.ptr 0 0), .one (.int .i64 d)] (pipeHp (some 0) most sf sc X Y h n) = some (.one (.int .i64 v), pipeHp (some 0) most sf' sc' X' Y' h n) ∧ cont X' sf' = (cont X sf).drop v ∧ okv X' sf' ∧ cont Y' sc' = cont Y sc ++ (cont X sf).take v ∧ okv Y' sc' := by
  have e60 := f60 most h n sf sc X Y
  have hlx := cont_len X sf hok
  have hly := cont_len Y sc hok2
  subst hd
  have ng : ¬ ((slen X sf : Int) < (v : Int)) := by omega
  have hp0 : (0 : Int) < v := by omega
  have nn : ¬ ((v : Int) < 0) := by omega
  simp only [pipeHp, pipeCells] at e60
  cases sf with
  | none =>
    simp only [slen, slv] at e60 hle h1 ng
    have hr : X.length - v + v = X.length := by omega
    cases sc with
    | none =>
      simp only [slen] at h2
      have hm : (Y.length + v) * 24 ≤ 140737488355328 := by omega
      refine ⟨some (v, X.length - v), none, X, Y ++ X.take v, ?_, ?_, ?_, ?_, trivial⟩
      · simp only [slv] at e60
        simp -implicitDefEqProofs [F40, c40, upd, pipeHp, pipeCells, slv, e60, nn, ng, hv0, hp0, hle, hm, RC.len, RC.size, RC.app, RC.cut]
      · simp [cont, List.take_of_length_le]
      · simp only [okv]; omega
      · simp [cont]
    | some p =>
      obtain ⟨o, m⟩ := p
      simp only [slen, okv] at h2 hok2
      have hm : (min m (Y.length - o) + v) * 24 ≤ 140737488355328 := by omega
      refine ⟨some (v, X.length - v), none, X, (Y.drop o).take m ++ X.take v, ?_, ?_, ?_, ?_, trivial⟩
      · simp only [slv] at e60
        simp -implicitDefEqProofs [F40, c40, upd, pipeHp, pipeCells, slv, e60, nn, ng, hv0, hp0, hle, hm, RC.len, RC.size, RC.app, RC.cut]
      · simp [cont, List.take_of_length_le]
      · simp only [okv]; omega
      · simp [cont]
  | some q =>
    obtain ⟨o1, m1⟩ := q
    simp only [slen, slv, okv] at e60 hle h1 hok ng
    have hcut : ((X.drop o1).take m1).drop v = (X.drop (o1 + v)).take (m1 - v) := by rw [List.drop_take, List.drop_drop]
    have hcut2 : ((X.drop o1).take m1).take v = (X.drop o1).take v := by rw [List.take_take]; congr 1; omega
    have hm1 : min v (X.length - o1) = v := by omega
    cases sc with
    | none =>
      simp only [slen] at h2
      have hm : (Y.length + v) * 24 ≤ 140737488355328 := by omega
      refine ⟨some (o1 + v, m1 - v), none, X, Y ++ (X.drop o1).take v, ?_, ?_, ?_, ?_, trivial⟩
      · simp only [slv] at e60
        simp -implicitDefEqProofs [F40, c40, upd, pipeHp, pipeCells, slv, e60, nn, ng, hv0, hp0, hle, hm, RC.len, RC.size, RC.app, RC.cut, hm1]
      · simp only [cont, hcut]
      · simp only [okv]; omega
      · simp only [cont, hcut2]
    | some p =>
      obtain ⟨o, m⟩ := p
      simp only [slen, okv] at h2 hok2
      have hm : (min m (Y.length - o) + v) * 24 ≤ 140737488355328 := by omega
      refine ⟨some (o1 + v, m1 - v), none, X, (Y.drop o).take m ++ (X.drop o1).take v, ?_, ?_, ?_, ?_, trivial⟩
      · simp only [slv] at e60
        simp -implicitDefEqProofs [F40, c40, upd, pipeHp, pipeCells, slv, e60, nn, ng, hv0, hp0, hle, hm, RC.len, RC.size, RC.app, RC.cut, hm1]
      · simp only [cont, hcut]
      · simp only [okv]; omega
      · simp only [cont, hcut2]
theorem f40g (most h n d : Int) (sf sc : Option (Nat × Nat)) (X Y : List (List Sc)) (h1 : slen X sf ≤ 4000) (h2 : slen Y sc ≤ 4000) (hok : okv X sf) (hok2 : okv Y sc) (v : Nat) (hv0 : 0 < v) (hle : v = slen X sf) (hd : (v : Int) < d) :
    ∃ sf' sc' X' Y', F40 [.one (.ptr 0 0), .one (.int .i64 d)] (pipeHp (some 0) most sf sc X Y h n) = some (.one (.int .i64 v), pipeHp (some 0) most sf' sc' X' Y' h n) ∧ cont X' sf' = (cont X sf).drop v ∧ okv X' sf' ∧ cont Y' sc' = cont Y sc ++ (cont X sf).take v ∧ okv Y' sc' := by
  have e60 := f60 most h n sf sc X Y
  have hlx := cont_len X sf hok
  have hly := cont_len Y sc hok2
  have a : ¬ d < 0 := by omega
  rw [hle] at hd
  have ng : (slen X sf : Int) < d := hd
  rw [← hle] at e60 ng
  replace hle : v ≤ slen X sf := by omega
  have hp0 : (0 : Int) < v := by omega
  have nn : ¬ ((v : Int) < 0) := by omega
  simp only [pipeHp, pipeCells] at e60
  cases sf with
  | none =>
    simp only [slen, slv] at e60 hle h1
    have hr : X.length - v + v = X.length := by omega
    cases sc with
    | none =>
      simp only [slen] at h2
      have hm : (Y.length + v) * 24 ≤ 140737488355328 := by omega
      refine ⟨some (v, X.length - v), none, X, Y ++ X.take v, ?_, ?_, ?_, ?_, trivial⟩
      · simp only [slv] at e60
        simp -implicitDefEqProofs [F40, c40, upd, pipeHp, pipeCells, slv, e60, a, ng, hv0, hp0, hle, hm, RC.len, RC.size, RC.app, RC.cut]
      · simp [cont, List.take_of_length_le]
      · simp only [okv]; omega
      · simp [cont]
    | some p =>
      obtain ⟨o, m⟩ := p
      simp only [slen, okv] at h2 hok2
      have hm : (min m (Y.length - o) + v) * 24 ≤ 140737488355328 := by omega
      refine ⟨some (v, X.length - v), none, X, (Y.drop o).take m ++ X.take v, ?_, ?_, ?_, ?_, trivial⟩
      · simp only [slv] at e60
        simp -implicitDefEqProofs [F40, c40, upd, pipeHp, pipeCells, slv, e60, a, ng, hv0, hp0, hle, hm, RC.len, RC.size, RC.app, RC.cut]
      · simp [cont, List.take_of_length_le]
      · simp only [okv]; omega
      · simp [cont]
  | some q =>
    obtain ⟨o1, m1⟩ := q
    simp only [slen, slv, okv] at e60 hle h1 hok
    have hcut : ((X.drop o1).take m1).drop v = (X.drop (o1 + v)).take (m1 - v) := by rw [List.drop_take, List.drop_drop]
    have hcut2 : ((X.drop o1).take m1).take v = (X.drop o1).take v := by rw [List.take_take]; congr 1; omega
    have hm1 : min v (X.length - o1) = v := by omega
    cases sc with
    | none =>
      simp only [slen] at h2
      have hm : (Y.length + v) * 24 ≤ 140737488355328 := by omega
      refine ⟨some (o1 + v, m1 - v), none, X, Y ++ (X.drop o1).take v, ?_, ?_, ?_, ?_, trivial⟩
      · simp only [slv] at e60
        simp -implicitDefEqProofs [F40, c40, upd, pipeHp, pipeCells, slv, e60, a, ng, hv0, hp0, hle, hm, RC.len, RC.size, RC.app, RC.cut, hm1]
      · simp only [cont, hcut]
      · simp only [okv]; omega
      · simp only [cont, hcut2]
    | some p =>
      obtain ⟨o, m⟩ := p
      simp only [slen, okv] at h2 hok2
      have hm : (min m (Y.length - o) + v) * 24 ≤ 140737488355328 := by omega
      refine ⟨some (o1 + v, m1 - v), none, X, (Y.drop o).take m ++ (X.drop o1).take v, ?_, ?_, ?_, ?_, trivial⟩
      · simp only [slv] at e60
        simp -implicitDefEqProofs [F40, c40, upd, pipeHp, pipeCells, slv, e60, a, ng, hv0, hp0, hle, hm, RC.len, RC.size, RC.app, RC.cut, hm1]
      · simp only [cont, hcut]
      · simp only [okv]; omega
      · simp only [cont, hcut2]
theorem f40 (most h n d : Int) (sf sc : Option (Nat × Nat)) (X Y : List (List Sc)) (h1 : slen X sf ≤ 4000) (h2 : slen Y sc ≤ 4000) (hok : okv X sf) (hok2 : okv Y sc) (v : Nat) (hv : v = if d < 0 then 0 else if d < slen X sf then d.toNat else slen X sf) :
    ∃ sf' sc' X' Y', F40 [.one (.ptr 0 0), .one (.int .i64 d)] (pipeHp (some 0) most sf sc X Y h n) = some (.one (.int .i64 v), pipeHp (some 0) most sf' sc' X' Y' h n) ∧ cont X' sf' = (cont X sf).drop v ∧ okv X' sf' ∧ cont Y' sc' = cont Y sc ++ (cont X sf).take v ∧ okv Y' sc' := by
  by_cases hz : v = 0
  · exact f40z most h n d sf sc X Y h1 h2 hok hok2 v hv hz
  · have a : ¬ d < 0 := fun c => hz (by simp only [c, if_true] at hv; exact hv)
    simp only [a, if_false] at hv
    by_cases c : d < slen X sf
    · simp only [c, if_true] at hv
      exact f40d most h n d sf sc X Y h1 h2 hok hok2 v (by omega) (by omega) (by omega)
    · simp only [c, if_false] at hv
      by_cases e : d = v
      · exact f40d most h n d sf sc X Y h1 h2 hok hok2 v (by omega) (by omega) e
      · exact f40g most h n d sf sc X Y h1 h2 hok hok2 v (by omega) hv (by omega)
end Go.X.Try
