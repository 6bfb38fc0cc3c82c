import Derived.Test.YtejcknhmobnbeaaSg
import Derived.Test.YtejcknhmobnbeaaSh
set_option maxRecDepth 100000
set_option linter.unusedSimpArgs false
set_option linter.unusedVariables false
namespace Go.X.Try
open Go.IntWalk
/-! ### the table's objects -/
def tabHp (g : Option Nat) (L : Int) (cs : List (List Sc)) (l fi al : List Int) : List Ob :=
  [.cells g [.int .i64 L, .row 1, .row 2, .row 3, .row 4], .rows (.recs 3 cs), .rows (.ints .i64 l), .rows (.ints .i64 fi), .rows (.ints .i64 al)]
def canon14a (t : Nat) (l : List Int) (L size at_ i : Int) (cs : List (List Sc)) (fi al : List Int) : St :=
  ⟨[(0, .one (.ro t (.ints .i64 l))), (1, .one (.int .i64 L)), (6, .one (.int .i64 size)), (7, .one (.ptr 0 0)), (8, .one (.int .i64 at_)), (34, .one (.ro t (.ints .i64 l))), (35, .one (.int .i64 l.length)), (36, .one (.int .i64 i))],
    [.ro t (.ints .i64 l), .int .i64 L], tabHp none L cs l fi al⟩
theorem body14a (t : Nat) (l : List Int) (L size at_ n at' i' : Int) (i : Nat) (cs : List (List Sc)) (fi al : List Int) (hi : i < l.length) (hf : fi.length = l.length) (hn : l[i]? = some n) (wa : IntKind.i64.wrap (at_ + n) = at') (wi : IntKind.i64.wrap ((i : Int) + 1) = i') :
    ∃ st1, evC T14 KK b14x0 (canon14a t l L size at_ i cs fi al) = some (.norm, st1) ∧ St.head [0, 1, 6, 7, 8, 34, 35, 36] st1 = canon14a t l L size at' i' cs (fi.set i at_) al := by
  have hii : (i : Int) < l.length := by omega
  have hn' : ∀ hh, l[i]'hh = n := fun hh => by rw [List.getElem?_eq_getElem hh] at hn; simpa using hn
  simp -implicitDefEqProofs [b14x0, canon14a, tabHp, upd, hi, hii, hf, hn, hn', wa, wi, RC.len, RC.size, RC.get, RC.set]
theorem end14a (t : Nat) (l : List Int) (L size at_ i : Int) (cs : List (List Sc)) (fi al : List Int) (hi : ¬ i < l.length) :
    evC T14 KK b14x0 (canon14a t l L size at_ i cs fi al) = some (.exit 0, ⟨(37, .one (.bool false)) :: (canon14a t l L size at_ i cs fi al).env, (canon14a t l L size at_ i cs fi al).rts, tabHp none L cs l fi al⟩) := by
  simp -implicitDefEqProofs [b14x0, canon14a, upd, hi]
def fiTo (sh : List Nat) (i : Nat) : List Int := (List.range sh.length).map fun s => if s < i then ((fstS sh s : Nat) : Int) else 0
theorem fiTo_length (sh : List Nat) (i : Nat) : (fiTo sh i).length = sh.length := by simp [fiTo]
theorem fiTo_set {sh : List Nat} {i : Nat} (h : i < sh.length) : (fiTo sh i).set i ((fstS sh i : Nat) : Int) = fiTo sh (i + 1) := by
  apply List.ext_getElem (by simp [fiTo])
  intro k h1 h2
  rw [List.getElem_set]
  simp only [fiTo, List.getElem_map, List.getElem_range]
  by_cases e : i = k
  · subst e; simp
  · rw [if_neg e]
    by_cases h3 : k < i
    · rw [if_pos h3, if_pos (by omega)]
    · rw [if_neg h3, if_neg (by omega)]
theorem loop14a (t : Nat) (l : List Int) (sh : List Nat) {L : Nat} (S : Shr l L sh) (cs : List (List Sc)) (al : List Int) : ∀ (j i : Nat) (K : Nat), i + j = sh.length → j < K →
    ∃ at', loopH (evC T14 KK b14x0) [0, 1, 6, 7, 8, 34, 35, 36] K (canon14a t l L (2 ^ L : Nat) (fstS sh i : Nat) i cs (fiTo sh i) al) = some (.exit 0, ⟨(37, .one (.bool false)) :: (canon14a t l L (2 ^ L : Nat) at' sh.length cs (fiTo sh sh.length) al).env, [.ro t (.ints .i64 l), .int .i64 L], tabHp none L cs l (fiTo sh sh.length) al⟩)
  | 0, i, K, hj, hK => by
    have hl : l.length = sh.length := by rw [S.eq]; simp
    obtain rfl : i = sh.length := by omega
    exact ⟨_, loopH_exit (end14a t l L (2 ^ L : Nat) _ _ cs _ al (by omega))⟩
  | j + 1, i, K, hj, hK => by
    have hl : l.length = sh.length := by rw [S.eq]; simp
    have hi : i < sh.length := by omega
    have hlen := S.len
    have hg : l[i]? = some ((sh[i] : Nat) : Int) := by rw [S.eq]; simp [hi]
    have h1 := fstS_succ hi
    have h2 := fstS_le sh (i + 1)
    have h3 := S.sum
    have h4 := S.size
    obtain ⟨st1, e1, e2⟩ := body14a t l L (2 ^ L : Nat) (fstS sh i : Nat) _ ((fstS sh (i + 1) : Nat) : Int) ((i + 1 : Nat) : Int) i cs (fiTo sh i) al (by omega) (by rw [fiTo_length]; omega) hg (by rw [i64_in _ (by omega)]; omega) (by rw [i64_in _ (by omega)]; omega)
    obtain ⟨at', e⟩ := loop14a t l sh S cs al j (i + 1) (K - 1) (by omega) (by omega)
    refine ⟨at', ?_⟩
    rw [loopH_norm e1 (by omega), e2, fiTo_set hi, e]
def canon14b (t : Nat) (l : List Int) (L size i : Int) (cs : List (List Sc)) (fi al me sy : List Int) : St :=
  ⟨[(0, .one (.ro t (.ints .i64 l))), (1, .one (.int .i64 L)), (6, .one (.int .i64 size)), (7, .one (.ptr 0 0)), (11, .one (.row 5)), (57, .one (.row 6)), (58, .one (.int .i64 sy.length)), (59, .one (.int .i64 i))],
    [.ro t (.ints .i64 l), .int .i64 L], tabHp none L cs l fi al ++ [.rows (.ints .i64 me), .rows (.ints .u8 sy)]⟩
theorem body14b (t : Nat) (l : List Int) (L size n m x f w b0 b xs base m' i' : Int) (i s q : Nat) (c0 c1 c2 : Sc) (cs : List (List Sc)) (fi al me sy : List Int) (hi : i < sy.length) (hcl : cs.length = sy.length) (hs : sy[i]? = some (s : Int)) (hn : l[s]? = some n) (hm : me[s]? = some m) (hf : fi[s]? = some f)
    (wx : IntKind.i64.wrap (n + m) = x) (wq : IntKind.i64.wrap (f + m) = (q : Int)) (hq : q < al.length) (wm : IntKind.i64.wrap (m + 1) = m') (wu : IntKind.u32.wrap x = x) (e60 : F60 [.one (.int .u32 x)] [] = some (.one (.int .i64 w), [])) (wb0 : IntKind.i64.wrap (L - w) = b0) (wb : IntKind.i64.wrap (b0 + 1) = b) (hb : ¬ b < 0)
    (hx : shlI .i64 x b = xs) (wbs : IntKind.i64.wrap (xs - size) = base) (hc : cs[i]? = some [c0, c1, c2]) (wi : IntKind.i64.wrap ((i : Int) + 1) = i') :
    ∃ st1, evC T14 KK b14x1 (canon14b t l L size i cs fi al me sy) = some (.norm, st1) ∧ St.head [0, 1, 6, 7, 11, 57, 58, 59] st1 = canon14b t l L size i' (cs.set i [.int .u8 s, .int .i64 b, .int .i64 base]) fi (al.set q i) (me.set s m') sy := by
  have hii : (i : Int) < sy.length := by omega
  have hs' : ∀ hh, sy[i]'hh = s := fun hh => by rw [List.getElem?_eq_getElem hh] at hs; simpa using hs
  have hn' : ∀ hh, l[s]'hh = n := fun hh => by rw [List.getElem?_eq_getElem hh] at hn; simpa using hn
  have hm' : ∀ hh, me[s]'hh = m := fun hh => by rw [List.getElem?_eq_getElem hh] at hm; simpa using hm
  have hf' : ∀ hh, fi[s]'hh = f := fun hh => by rw [List.getElem?_eq_getElem hh] at hf; simpa using hf
  have hc' : ∀ hh, cs[i]'hh = [c0, c1, c2] := fun hh => by rw [List.getElem?_eq_getElem hh] at hc; simpa using hc
  have l1 := (List.getElem?_eq_some_iff.1 hn).1
  have l2 := (List.getElem?_eq_some_iff.1 hm).1
  have l3 := (List.getElem?_eq_some_iff.1 hf).1
  have l4 := (List.getElem?_eq_some_iff.1 hc).1
  have l1i : (s : Int) < l.length := by omega
  have l2i : (s : Int) < me.length := by omega
  have l3i : (s : Int) < fi.length := by omega
  have l4i : (i : Int) < cs.length := by omega
  have hqi : (q : Int) < al.length := by omega
  simp -implicitDefEqProofs [b14x1, canon14b, tabHp, upd, hi, hii, hcl, hs, hs', hn, hn', hm, hm', hf, hf', hc, hc', l1, l2, l3, l4, l1i, l2i, l3i, l4i, hq, hqi, wx, wq, wm, wu, e60, wb0, wb, hb, hx, wbs, wi, RC.len, RC.size, RC.get, RC.set]
end Go.X.Try
