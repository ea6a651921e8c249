/-
  What whole's functions of ints, texts and quotients compute. No conditions beyond the lemmas' own hypotheses.
-/
import Derived.Test.YtepfpgnjpkcgmaaGreatWholeIA
import Derived.Test.YtepfpgnjpkcgmaaGreatNatI
import Derived.Test.YtepfpgnjpkcgmaaGreatNatH
set_option linter.unusedSimpArgs false
set_option linter.unnecessarySimpa false
set_option linter.unusedVariables false
set_option linter.constructorNameAsVariable false

/-
 whole: numbers of ints, values, texts, quotients; law2's same and few.
-/
namespace Go.Proofs.YtepfpgnjpkcgmaaGreat
open Go Go.Abs Go.Limbs
variable {base : Prot}
set_option maxRecDepth 20000
attribute [local irreducible] vc
attribute [local simp] pureS touchV freezeL fuel shiftV u64 au
def sIOf : List PVal → Option PVal
 | [.int .i64 n] => if -9223372036854775808 ≤ n ∧ n < 9223372036854775808 then some (iN n) else none
 | _ => none
theorem sIOf_at {n : Int} (h1 : -9223372036854775808 ≤ n) (h2 : n < 9223372036854775808) : sIOf [.int .i64 n] = some (iN n) := if_pos ⟨h1, h2⟩
theorem ofL_num {n : Int} (h0 : 0 ≤ n) (h : n < 9223372036854775808) : ofL n = limbs n.natAbs := by
 unfold ofL
 by_cases hz : n ≤ 0
 ·have : n = 0 := by omega
  subst this
  simp [limbs_zero]
 ·rw [if_neg hz, IntKind.wrap_u64, limbs_small (by omega) (by rw [B_lit]; omega)]
  congr 1
  omega
def Tof : Tab := Tab.none.with 188 (pureS sOf)
theorem Tof_ok : TabOk Tryz.prog base Tof := Tab.with_ok Tab.none_ok of_ok
theorem Tof_mu (f : FuncId) (a : List AVal) (H : Heap) : Tof.mu f a H = none := (rfl)
theorem Tof_fn : Tof.fn 188 = pureS sOf := (rfl)
theorem iof_ok : FnOk Tryz.prog base 161 (pureS sIOf) := by
 refine pure_of_vc hmix Tof_ok globNone low161 fun args z hs hf => ?_
 unfold sIOf at hs
 split at hs
 case h_2 => cases hs
 rename_i n
 split at hs
 case isFalse => cases hs
 rename_i hc
 cases hs
 refine ⟨by simp [lf161], ?_⟩
 by_cases h0 : 0 ≤ n
 ·have h1 : sOf [.int .i64 n] = some (.lst ((ofL n).map u64)) := rfl
  rw [ofL_num h0 hc.2] at h1
  have hn : ¬ n < 0 := by omega
  simp [lf161, h0, h1, hn, iN, iP, fillS, Tof_mu, Tof_fn]
 ·have hn : n < 0 := by omega
  have w1 : IntKind.u64.wrap n = n + 18446744073709551616 := by rw [IntKind.wrap_u64]; omega
  obtain ⟨m, hm⟩ : ∃ m, m = n.natAbs := ⟨_, rfl⟩
  have w2 : IntKind.u64.wrap (-(n + 18446744073709551616)) = (m : Int) := by rw [IntKind.wrap_u64]; omega
  have hl : limbs m = [m] := limbs_small (by omega) (by rw [B_lit]; omega)
  unfold iN iP
  rw [← hm, hl]
  simp [lf161, h0, hn, w1, w2, fillS]
end Go.Proofs.YtepfpgnjpkcgmaaGreat

/-
 whole: quotients; law2's awake.
-/
namespace Go.Proofs.YtepfpgnjpkcgmaaGreat
open Go Go.Abs Go.Limbs
variable {base : Prot}
set_option maxRecDepth 20000
attribute [local irreducible] vc
attribute [local simp] pureS touchV freezeL fuel shiftV u64 au
def cD (z w : Int) : Bool := (decide (z < 0) != decide (w < 0)) && decide (z.natAbs % w.natAbs ≠ 0)
def nD (z w : Int) : Nat := if cD z w then z.natAbs / w.natAbs + 1 else z.natAbs / w.natAbs
def lD (z w : Int) : Nat := if cD z w then w.natAbs - z.natAbs % w.natAbs else z.natAbs % w.natAbs
def qD (z w : Int) : Int := zOf (decide (z < 0) != decide (w < 0)) (nD z w)
def rD (z w : Int) : Int := zOf (decide (w < 0)) (lD z w)
def sIDiv : List PVal → Option PVal
 | [.agg [.bool s, .lst xs], .agg [.bool t, .lst ys]] => match decU xs, decU ys with
  | some a, some b => if okI s a && okI t b && decide (b ≠ []) then (if len (val a) ≤ 60 then some (.tup [iN (qD (zL s a) (zL t b)), iN (rD (zL s a) (zL t b)), .int .i64 0]) else none) else some (.tup [iP false [], iP false [], .int .i64 1])
  | _, _ => none
 | _ => none
theorem sIDiv_num {z w : Int} (hz : zl z ≤ 60) (hw : zl w ≤ 64) (h0 : w ≠ 0) : sIDiv [iN z, iN w] = some (.tup [iN (qD z w), iN (rD z w), .int .i64 0]) := by
 simp only [sIDiv, iN, iP, decU_map (wf_limbs _), zL_num, val_limbs]
 have hb : limbs w.natAbs ≠ [] := fun e => h0 (by have := limbs_eq_nil.1 e; omega)
 rw [if_pos (by rw [okI_num (by omega), okI_num hw]; simp [hb]), if_pos (show len z.natAbs ≤ 60 from hz)]
def Tid : Tab := (((((((Tab.none.with 185 (pureS sIV)).with 182 (pureS sQuot)).with 188 (pureS sOf)).with 180 (pureS sPlus)).with 181 (pureS sMinus)).with 179 (pureS sWide)).with 210 (pureS sIHeld))
theorem Tid_ok : TabOk Tryz.prog base Tid := Tab.with_ok (Tab.with_ok (Tab.with_ok (Tab.with_ok (Tab.with_ok (Tab.with_ok (Tab.with_ok Tab.none_ok ivalid_ok) quot_ok) of_ok) plus_ok) minus_ok) wide_ok) iheld_ok
theorem Tid_mu (f : FuncId) (a : List AVal) (H : Heap) : Tid.mu f a H = none := (rfl)
theorem Tid_fns : Tid.fn 185 = pureS sIV ∧ Tid.fn 182 = pureS sQuot ∧ Tid.fn 188 = pureS sOf ∧ Tid.fn 180 = pureS sPlus ∧ Tid.fn 181 = pureS sMinus ∧ Tid.fn 179 = pureS sWide ∧ Tid.fn 210 = pureS sIHeld := ⟨rfl, rfl, rfl, rfl, rfl, rfl, rfl⟩
theorem idiv_ok : FnOk Tryz.prog base 211 (pureS sIDiv) := by
 refine pure_of_vc hmix Tid_ok globNone low211 fun args x hs hf => ?_
 unfold sIDiv at hs
 split at hs
 case h_2 => cases hs
 rename_i s xs t ys
 split at hs
 case h_2 => cases hs
 rename_i a b ha hb
 obtain ⟨rfl, wa⟩ := decU_some ha
 obtain ⟨rfl, wb⟩ := decU_some hb
 refine ⟨by simp [lf211], ?_⟩
 have va := sIV_list (s := s) wa
 have vb := sIV_list (s := t) wb
 by_cases hc : (okI s a && okI t b && decide (b ≠ [])) = true
 case neg =>
  rw [if_neg hc] at hs
  cases hs
  cases oa : okI s a with
  | false =>
   rw [oa] at va
   simp [lf211, va, vc_regionW, iP, Tid_mu, Tid_fns]
   refine ⟨[2], ?_⟩
   simp
  | true =>
   rw [oa] at va hc
   cases ob : okI t b with
   | false =>
    rw [ob] at vb
    simp [lf211, va, vb, vc_regionW, iP, Tid_mu, Tid_fns]
    refine ⟨[2], ?_⟩
    simp
   | true =>
    rw [ob] at vb hc
    have hb0 : b = [] := by simpa using hc
    subst hb0
    simp only [List.map_nil] at vb
    simp [lf211, va, vb, vc_regionW, iP, Tid_mu, Tid_fns]
    refine ⟨[2], ?_⟩
    simp
 rw [if_pos hc] at hs
 split at hs
 case isFalse => cases hs
 rename_i hl60
 cases hs
 simp only [Bool.and_eq_true, decide_eq_true_eq] at hc
 obtain ⟨⟨oa, ob⟩, hb0⟩ := hc
 rw [oa] at va
 rw [ob] at vb
 obtain ⟨z, lz, rfl, rfl⟩ := okI_of oa
 obtain ⟨w, lw, rfl, rfl⟩ := okI_of ob
 rw [zL_num, zL_num]
 rw [val_limbs] at hl60
 unfold zl at lz lw
 have hw0 : w.natAbs ≠ 0 := fun e => hb0 (by rw [e, limbs_zero])
 have hwl : (limbs w.natAbs).length = len w.natAbs := rfl
 have hwl0 : ((len w.natAbs : Int) == 0) = false := beq_false_of_ne (by have : len w.natAbs ≠ 0 := fun e => hw0 (len_eq_zero.1 e); omega)
 have hQ := sQuot_num (show len z.natAbs ≤ 100000 by omega) (show len w.natAbs ≤ 100000 by omega) hw0
 have hqle : z.natAbs / w.natAbs ≤ z.natAbs := Nat.div_le_self _ _
 have hrlt : z.natAbs % w.natAbs < w.natAbs := Nat.mod_lt _ (Nat.pos_of_ne_zero hw0)
 have hql : len (z.natAbs / w.natAbs) ≤ 60 := Nat.le_trans (len_mono hqle) hl60
 have hnl : len (nD z w) ≤ 61 := by
  unfold nD
  split
  ·have := len_add (z.natAbs / w.natAbs) 1
   rw [show len 1 = 1 from by rw [len, limbs_small (by decide) (by decide)]; rfl] at this
   omega
  ·omega
 obtain ⟨b1, l1, hbl1, wl1, hW1⟩ := sWide_num (decide (z < 0) != decide (w < 0)) (nD z w)
 obtain ⟨b2, l2, hbl2, wl2, hW2⟩ := sWide_num (decide (w < 0)) (lD z w)
 have hH := sIHeld_num (qD z w)
 have hq64 : zl (qD z w) ≤ 64 := by unfold zl qD; rw [zOf_abs]; omega
 unfold hN hE at hH
 rw [if_pos hq64, if_pos hq64] at hH
 rw [show zOf (decide (z < 0) != decide (w < 0)) (nD z w) = qD z w from rfl] at hbl1
 rw [show zOf (decide (w < 0)) (lD z w) = rD z w from rfl] at hbl2
 rw [hbl1] at hH ⊢
 rw [hbl2]
 obtain ⟨n, hn⟩ : ∃ n, n = nD z w := ⟨_, rfl⟩
 obtain ⟨l, hl⟩ : ∃ l, l = lD z w := ⟨_, rfl⟩
 rw [← hn] at hW1
 rw [← hl] at hW2
 obtain ⟨s, hs⟩ : ∃ s, s = decide (z < 0) := ⟨_, rfl⟩
 obtain ⟨t, ht⟩ : ∃ t, t = decide (w < 0) := ⟨_, rfl⟩
 have hcd : cD z w = ((!s == t) && decide (z.natAbs % w.natAbs ≠ 0)) := by
  unfold cD
  rw [← hs, ← ht]
  cases s <;> cases t <;> rfl
 unfold nD at hn
 unfold lD at hl
 rw [hcd] at hn hl
 obtain ⟨m, hm⟩ : ∃ m, m = z.natAbs := ⟨_, rfl⟩
 obtain ⟨k, hk⟩ : ∃ k, k = w.natAbs := ⟨_, rfl⟩
 rw [← hs, ← ht] at hW1
 rw [← ht] at hW2
 rw [show (s != t) = (!s == t) from by cases s <;> cases t <;> rfl] at hW1
 rw [← hs, ← hm] at va
 rw [← ht, ← hk] at vb
 rw [← hm, ← hk] at hn hl hQ hrlt hql
 rw [← hk] at hwl hwl0 lw
 rw [← hs, ← ht, ← hm, ← hk]
 obtain ⟨q, hq⟩ : ∃ q, q = m / k := ⟨_, rfl⟩
 obtain ⟨r, hr⟩ : ∃ r, r = m % k := ⟨_, rfl⟩
 rw [← hq, ← hr] at hQ hn
 rw [← hr] at hl
 rw [← hr] at hrlt
 rw [← hq] at hql
 have hrl : (limbs r).length = len r := rfl
 simp only [iP] at hH
 have hlr : len r ≤ 64 := Nat.le_trans (len_mono (Nat.le_of_lt hrlt)) lw
 by_cases hst : s = t
 ·have hbe : (!s == t) = false := by rw [hst]; cases t <;> rfl
  rw [hbe] at hn hl hW1
  simp only [Bool.false_and, Bool.false_eq_true, if_false] at hn hl
  subst hn hl
  simp [lf211, va, vb, hwl, hwl0, hQ, hbe, hrl, hW1, hH, fillS, vc_regionW, Tid_mu, Tid_fns]
  refine ⟨[], ?_⟩
  simp [hW2, iP, Tid_mu, Tid_fns]
 ·have hbe : (!s == t) = true := by cases s <;> cases t <;> simp at hst ⊢
  rw [hbe] at hn hl hW1
  by_cases hr0 : r = 0
  ·simp only [hr0, ne_eq, not_true, decide_false, Bool.and_false, Bool.false_eq_true, if_false] at hn hl
   rw [hr0] at hQ
   subst hn hl
   rw [limbs_zero] at hQ hW2
   simp only [List.map_nil] at hQ hW2
   simp [lf211, va, vb, hwl, hwl0, hQ, hbe, hW1, hH, fillS, vc_regionW, Tid_mu, Tid_fns]
   refine ⟨[], ?_⟩
   simp [hW2, iP, Tid_mu, Tid_fns]
  ·have hr1 : (decide (r ≠ 0)) = true := decide_eq_true hr0
   simp only [hr1, Bool.and_true, if_true] at hn hl
   have hlr0 : len r ≠ 0 := fun e => hr0 (len_eq_zero.1 e)
   have hlp : (0 : Int) < len r := by omega
   have hlp' : 0 < len r := by omega
   have hO : sOf [.int .i64 1] = some (.lst [.int .u64 1]) := by
    show some (lstP (ofL 1)) = _
    unfold ofL
    rw [if_neg (by decide)]
    rfl
   have e1 : limbs 1 = [1] := limbs_small (by decide) (by decide)
   have hP := sPlus_num (a := q) (b := 1) (by omega) (by rw [len, e1]; decide)
   rw [e1] at hP
   simp only [List.map_cons, List.map_nil, u64] at hP
   simp at hP
   have hM := sMinus_num (a := k) (b := r) (by omega) (by omega) (Nat.le_of_lt hrlt)
   rw [← hn] at hP
   rw [← hl] at hM
   simp [lf211, va, vb, hwl, hwl0, hQ, hbe, hrl, hlp, hlp', hO, hP, hM, hW1, hH, fillS, vc_regionW, Tid_mu, Tid_fns]
   refine ⟨[], ?_⟩
   simp [hW2, iP, Tid_mu, Tid_fns]
end Go.Proofs.YtepfpgnjpkcgmaaGreat

/-
 whole: calls at numbers; law2's awake.
-/
namespace Go.Proofs.YtepfpgnjpkcgmaaGreat
open Go Go.Abs Go.Limbs
variable {base : Prot}
set_option maxRecDepth 20000
attribute [local irreducible] vc
attribute [local simp] pureS touchV freezeL fuel shiftV u64 au
end Go.Proofs.YtepfpgnjpkcgmaaGreat
