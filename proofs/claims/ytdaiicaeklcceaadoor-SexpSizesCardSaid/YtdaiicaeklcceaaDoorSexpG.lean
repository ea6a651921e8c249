/-
  SexpReads answers true on all values. No conditions.
-/
import Derived.Test.YtdaiicaeklcceaaDoorSexpF
set_option linter.unusedSimpArgs false
set_option linter.unnecessarySimpa false
set_option linter.unusedVariables false
set_option linter.constructorNameAsVariable false

/-
 law12: what is read, in both ways.
-/
namespace Go.Proofs.YtdaiicaeklcceaaDoor
open Go Go.Abs Go.Lex Go.Sexp
set_option maxRecDepth 20000
attribute [local simp] pureS touchV freezeL fuel shiftV
variable {m : Int}
theorem opens_suffix {r ws : List Wd} (h : r <:+ ws) : opens Wd.kind r ≤ opens Wd.kind ws := by
 obtain ⟨p, rfl⟩ := h
 induction p with
 | nil => exact Nat.le_refl _
 | cons w p ih => simp only [List.cons_append, opens]; omega
theorem next_size {n : Nat} {ws r : List Wd} {t : Tr Wd} {e : Nat} (h : nextR Wd.kind 200 n ws = (some t, r, e)) : t.size ≤ ws.length := by
 obtain ⟨a1, a2, a3, _, _⟩ := next_some Wd.kind h
 have hs := (size_tree Wd.kind n).1 ws a1
 rw [a2, a3] at hs
 have hx := nextR_suffix Wd.kind 200 n ws
 rw [h] at hx
 have h1 := opens_suffix hx
 have h2 := hx.length_le
 dsimp only at h1 h2
 omega
theorem nextO_size {ws : List Wd} {i : Int} {t : Tr Wd} (h : (nextO ws i).1 = some t) : t.size ≤ ws.length := by
 unfold nextO at h
 split at h
 ·cases h
 ·dsimp only at h
  rw [next_eq Wd.kind (n := 2 * (ws.drop i.toNat).length + 1) (by omega)] at h
  have := next_size (n := 2 * (ws.drop i.toNat).length + 1) (ws := ws.drop i.toNat) (t := t) (r := (nextR Wd.kind 200 (2 * (ws.drop i.toNat).length + 1) (ws.drop i.toNat)).2.1) (e := (nextR Wd.kind 200 (2 * (ws.drop i.toNat).length + 1) (ws.drop i.toNat)).2.2) (by rw [← h])
  rw [List.length_drop] at this
  omega
def wdsOf (s : List UInt8) : List Wd := (allS s).1
theorem wds_none {s : List UInt8} (h : lexL s.length s = none) : wdsOf s = [] := by
 unfold wdsOf allS
 split
 ·rfl
 ·rw [h]
theorem wds_some {s : List UInt8} (hs : s.length ≤ 65536) {ws : List Wd} (h : lexL s.length s = some ws) : wdsOf s = ws := by
 unfold wdsOf allS
 rw [if_neg (by omega), h]
theorem wds_len {s : List UInt8} (hs : s.length ≤ 65536) : (wdsOf s).length ≤ s.length := by
 cases h : lexL s.length s with
 | none => rw [wds_none h]; exact Nat.zero_le _
 | some ws => rw [wds_some hs h]; exact (lex_good _ _ s ws (Nat.lt_succ_self _) h).2.2
theorem words_is (s : List UInt8) : sWords [.str s] = some (.lst ((wdsOf s).map Wd.v)) := rfl
def Tr.orZ (o : Option (Tr Wd)) : Tr Wd := o.getD (.leaf ⟨0, [], 0⟩)
theorem outP_enc (o : Option (Tr Wd)) : outP o = encT (Tr.orZ o) := by cases o <;> rfl
theorem same_self {t : Tr Wd} (h : t.size ≤ 1000000) : sSameT [encT t, encT t] = some (.bool true) := by
 simp only [sSameT, decT_enc]
 exact if_pos ⟨h, trivial⟩
noncomputable def To : Tab := ((((Tab.none.with 8 (pureS sWords)).with 7 (pureS sAwake)).with 9 (pureS sNext)).with 10 (pureS sNext)).with 11 (pureS sSameT)
theorem To_ok : TabOk Tryd.prog (base2 m) To := Tab.with_ok (Tab.with_ok (Tab.with_ok (Tab.with_ok (Tab.with_ok Tab.none_ok twords_ok) awake_ok) next_ok) rnext_ok) sameT_ok
theorem To_mu (f : FuncId) (a : List AVal) (H : Heap) : To.mu f a H = none := (rfl)
theorem To_1 : To.fn 8 = pureS sWords := (rfl)
theorem To_2 : To.fn 7 = pureS sAwake := (rfl)
theorem To_3 : To.fn 9 = pureS sNext := (rfl)
theorem To_4 : To.fn 10 = pureS sNext := (rfl)
theorem To_5 : To.fn 11 = pureS sSameT := (rfl)
attribute [local simp] To_mu To_1 To_2 To_3 To_4 To_5
theorem aw_is : sAwake [] = some (.bool true) := rfl
def sReads : List PVal → Option PVal
 | [.str _, .int .i64 _] => some (.bool true)
 | _ => none
theorem reads_ok : FnOk Tryd.prog (base2 m) 3 (pureS sReads) := by
 refine pure_of_vc hmix To_ok globNone low3 fun args x hs hf => ?_
 unfold sReads at hs
 split at hs
 case h_2 => cases hs
 rename_i s a
 cases hs
 refine ⟨by simp [lf3], ?_⟩
 by_cases hl : 1500 < s.length
 ·have hl' : (1500 : Int) < s.length := by omega
  simp [lf3, hl', aw_is]
 ·have hl' : ¬ (1500 : Int) < s.length := by omega
  have hwl := wds_len (s := s) (by omega)
  simp [lf3, hl', words_is]
  generalize wdsOf s = ws at hwl
  simp only [lf3_B0, vc_block]
  refine loop_ind (fun fr H => ∃ i : Int, -1 ≤ i ∧ i ≤ ws.length + 1 ∧ fr 1 = .p (.int .i64 a) ∧ fr 5 = .p (.lst (ws.map Wd.v)) ∧ fr 6 = .p (.int .i64 i))
   (fun fr _ => match fr 6 with | .p (.int .i64 i) => ((ws.length : Int) + 1 - i).toNat | _ => 0) ⟨-1, by omega, by omega, by simp, by simp, by simp⟩ ?_
  rintro fr H ⟨i, hi1, hi2, h1, h5, h6⟩
  by_cases hlt : i ≤ ws.length
  ·have hnx : ∀ k : Int, sNext [.lst (ws.map Wd.v), .int .i64 k] = some (.tup [encT (Tr.orZ (nextO ws k).1), .int .i64 (nextO ws k).2.1, .int .i64 (nextO ws k).2.2]) := fun k => by
    simp only [sNext, decW_map]
    rw [if_pos (by omega), outP_enc]
   have hsz : ∀ k : Int, sSameT [encT (Tr.orZ (nextO ws k).1), encT (Tr.orZ (nextO ws k).1)] = some (.bool true) := fun k => same_self (by
    cases hn : (nextO ws k).1 with
    | none => simp [Tr.orZ, Tr.size]
    | some t =>
     have := nextO_size hn
     simp only [Tr.orZ, Option.getD_some]; omega)
   have hen := fun k : Int => encT_shape (Tr.orZ (nextO ws k).1)
   have w1 : IntKind.i64.wrap (i + 1) = i + 1 := IntWalk.i64_in _ (by omega)
   by_cases hneg : i < 0
   ·have hk := hnx a
    have hs := hsz a
    obtain ⟨b, k, s', a', vs, e⟩ := hen a
    rw [e] at hk hs
    simp [h1, h5, h6, hlt, hneg, hk, hs, w1]
    omega
   ·have hk := hnx i
    have hs := hsz i
    obtain ⟨b, k, s', a', vs, e⟩ := hen i
    rw [e] at hk hs
    simp [h1, h5, h6, hlt, hneg, hk, hs, w1]
    omega
  ·simp [h1, h5, h6, hlt, aw_is]
end Go.Proofs.YtdaiicaeklcceaaDoor
