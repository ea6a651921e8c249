/-
  What whole's functions compute: what is a number, the order, sums, products, signs. No conditions beyond the lemmas' own hypotheses. What whole's functions of ints, texts and quotients compute. No conditions beyond the lemmas' own hypotheses.
-/
import Derived.Test.YtgbjjikaenlkmaaGreatWholeM
import Derived.Test.YtgbjjikaenlkmaaGreatNatE
import Derived.Test.YtgbjjikaenlkmaaGreatNatI
import Derived.Test.YtgbjjikaenlkmaaGreatNatH
set_option linter.unusedSimpArgs false
set_option linter.unnecessarySimpa false
set_option linter.unusedVariables false
set_option linter.constructorNameAsVariable false

/-
 whole: what is a number, signs, the order, sums and products of any size.
-/
namespace Go.Proofs.YtgbjjikaenlkmaaGreat
open Go Go.Abs Go.Limbs
variable {base : Prot}
set_option maxRecDepth 20000
attribute [local irreducible] vc
attribute [local simp] pureS touchV freezeL fuel shiftV u64 au
def iP (s : Bool) (l : List Nat) : PVal := .agg [.bool s, .lst (l.map u64)]
def iN (z : Int) : PVal := iP (decide (z < 0)) (limbs z.natAbs)
def zOf (s : Bool) (n : Nat) : Int := if s then -(n : Int) else n
def okI (s : Bool) (l : List Nat) : Bool := okL l && (!s || decide (0 < l.length))
def zl (z : Int) : Nat := len z.natAbs
theorem zOf_abs (s : Bool) (n : Nat) : (zOf s n).natAbs = n := by cases s <;> simp [zOf]
theorem iP_zOf {s : Bool} {n : Nat} (h : s = true → n ≠ 0) : iP s (limbs n) = iN (zOf s n) := by
 unfold iN
 rw [zOf_abs]
 congr 1
 cases s with
 | false => simp [zOf]
 | true => have := h rfl; simp [zOf]; omega
theorem wide_zOf (s : Bool) (n : Nat) : iP (s && decide (0 < (limbs n).length)) (limbs n) = iN (zOf s n) := by
 by_cases h : n = 0
 ·subst h
  rw [limbs_zero]
  cases s <;> simp [iN, zOf, limbs_zero]
 ·have hl : 0 < (limbs n).length := by
   have : (limbs n).length ≠ 0 := fun e => h (len_eq_zero.1 e)
   omega
  rw [decide_eq_true hl, Bool.and_true]
  exact iP_zOf fun _ => h
theorem okI_of {s : Bool} {l : List Nat} (h : okI s l = true) : ∃ z : Int, zl z ≤ 64 ∧ s = decide (z < 0) ∧ l = limbs z.natAbs := by
 unfold okI at h
 simp only [Bool.and_eq_true, Bool.or_eq_true, Bool.not_eq_true', decide_eq_true_eq] at h
 obtain ⟨n, rfl, hn⟩ := okL_true h.1
 have hs : s = true → n ≠ 0 := fun e h0 => by
  subst h0
  rcases h.2 with h2 | h2
  ·rw [e] at h2; cases h2
  ·rw [limbs_zero] at h2; simp at h2
 refine ⟨zOf s n, by unfold zl; rw [zOf_abs]; exact hn, ?_, by rw [zOf_abs]⟩
 cases s with
 | false => simp [zOf]
 | true => have := hs rfl; simp [zOf]; omega
theorem okI_num {z : Int} (h : zl z ≤ 64) : okI (decide (z < 0)) (limbs z.natAbs) = true := by
 unfold okI
 rw [okL_limbs h, Bool.true_and]
 by_cases hz : z < 0
 ·have : (limbs z.natAbs).length ≠ 0 := fun e => by have := len_eq_zero.1 e; omega
  have hl : 0 < (limbs z.natAbs).length := by omega
  simp [hz, hl]
 ·simp [hz]
theorem zOf_sign (z : Int) : zOf (decide (z < 0)) z.natAbs = z := by
 by_cases h : z < 0
 ·simp [zOf, h]; omega
 ·simp [zOf, h]; omega
def sIV : List PVal → Option PVal
 | [.agg [.bool s, .lst xs]] => match decU xs with | some l => some (.bool (okI s l)) | none => none
 | _ => none
theorem sIV_list {s : Bool} {l : List Nat} (h : Wf l) : sIV [.agg [.bool s, .lst (l.map u64)]] = some (.bool (okI s l)) := by simp only [sIV, decU_map h]
def Tiv1 : Tab := Tab.none.with 105 (pureS sValid)
theorem Tiv1_ok : TabOk Tryz.prog base Tiv1 := Tab.with_ok Tab.none_ok valid_ok
theorem Tiv1_mu (f : FuncId) (a : List AVal) (H : Heap) : Tiv1.mu f a H = none := (rfl)
theorem Tiv1_fn : Tiv1.fn 105 = pureS sValid := (rfl)
theorem ivalid_ok : FnOk Tryz.prog base 112 (pureS sIV) := by
 refine pure_of_vc hmix Tiv1_ok globNone low112 fun args z hs hf => ?_
 unfold sIV at hs
 split at hs
 case h_2 => cases hs
 rename_i s xs
 split at hs
 case h_2 => cases hs
 rename_i l hd
 obtain ⟨rfl, wl⟩ := decU_some hd
 cases hs
 refine ⟨by simp [lf112], ?_⟩
 have hv := sValid_list wl
 unfold okI
 cases ho : okL l with
 | false => rw [ho] at hv; simp [lf112, hv, Tiv1_mu, Tiv1_fn]
 | true =>
  rw [ho] at hv
  cases s with
  | false => simp [lf112, hv, Tiv1_mu, Tiv1_fn]
  | true => simp [lf112, hv, Tiv1_mu, Tiv1_fn]
def sWide : List PVal → Option PVal
 | [.bool s, .lst xs] => match decU xs with | some l => some (iP (s && decide (0 < l.length)) l) | none => none
 | _ => none
theorem sWide_num (s : Bool) (n : Nat) : ∃ b l, iN (zOf s n) = iP b l ∧ Wf l ∧ sWide [.bool s, .lst ((limbs n).map u64)] = some (.agg [.bool b, .lst (l.map u64)]) :=
 ⟨_, _, (wide_zOf s n).symm, wf_limbs n, by simp only [sWide, decU_map (wf_limbs n)]; rfl⟩
theorem wide_ok : FnOk Tryz.prog base 140 (pureS sWide) := by
 refine pure_of_vc hmix Tab.none_ok globNone low140 fun args z hs hf => ?_
 unfold sWide at hs
 split at hs
 case h_2 => cases hs
 rename_i s xs
 split at hs
 case h_2 => cases hs
 rename_i l hd
 obtain ⟨rfl, wl⟩ := decU_some hd
 cases hs
 refine ⟨by simp [lf140], ?_⟩
 cases s with
 | false => simp [lf140, iP, fillS]
 | true => simp [lf140, iP, fillS]
def decZ (s : Bool) (xs : List PVal) : Option Int := match decN xs with | some n => if s = true ∧ n = 0 then none else some (zOf s n) | none => none
theorem decZ_some {s : Bool} {xs : List PVal} {z : Int} (h : decZ s xs = some z) : zl z ≤ 100000 ∧ s = decide (z < 0) ∧ xs = (limbs z.natAbs).map u64 := by
 unfold decZ at h
 split at h
 case h_2 => cases h
 rename_i n hn
 split at h
 ·cases h
 rename_i hc
 cases h
 obtain ⟨rfl, hl⟩ := decN_some hn
 refine ⟨by unfold zl; rw [zOf_abs]; exact hl, ?_, by rw [zOf_abs]⟩
 cases s with
 | false => simp [zOf]
 | true => have : n ≠ 0 := fun e => hc ⟨rfl, e⟩; simp [zOf]; omega
theorem decZ_num {z : Int} (h : zl z ≤ 100000) : decZ (decide (z < 0)) ((limbs z.natAbs).map u64) = some z := by
 unfold decZ
 rw [decN_num h]
 simp only
 rw [if_neg, zOf_sign]
 rintro ⟨h1, h2⟩
 have := of_decide_eq_true h1
 omega
def Two : Tab := ((((Tab.none.with 106 (pureS sOrder)).with 141 (pureS sPlus)).with 142 (pureS sMinus)).with 109 (pureS sTimes)).with 140 (pureS sWide)
theorem Two_ok : TabOk Tryz.prog base Two := Tab.with_ok (Tab.with_ok (Tab.with_ok (Tab.with_ok (Tab.with_ok Tab.none_ok order_ok) plus_ok) minus_ok) times_ok) wide_ok
theorem Two_mu (f : FuncId) (a : List AVal) (H : Heap) : Two.mu f a H = none := (rfl)
theorem Two_fns : Two.fn 106 = pureS sOrder ∧ Two.fn 141 = pureS sPlus ∧ Two.fn 142 = pureS sMinus ∧ Two.fn 109 = pureS sTimes ∧ Two.fn 140 = pureS sWide := ⟨rfl, rfl, rfl, rfl, rfl⟩
end Go.Proofs.YtgbjjikaenlkmaaGreat

/-
 whole: sums, products, the order, signs and negatives, as called from outside.
-/
namespace Go.Proofs.YtgbjjikaenlkmaaGreat
open Go Go.Abs Go.Limbs
variable {base : Prot}
set_option maxRecDepth 20000
attribute [local irreducible] vc
attribute [local simp] pureS touchV freezeL fuel shiftV u64 au
theorem zOf_same {z w : Int} (h : decide (z < 0) = decide (w < 0)) : zOf (decide (z < 0)) (z.natAbs + w.natAbs) = z + w := by
 by_cases hz : z < 0
 ·have hw : w < 0 := by simpa [hz] using h
  simp [zOf, hz]; omega
 ·have hw : ¬ w < 0 := by simpa [hz] using h
  simp [zOf, hz]; omega
theorem zOf_less {z w : Int} (h : decide (z < 0) ≠ decide (w < 0)) (hl : z.natAbs < w.natAbs) : zOf (decide (w < 0)) (w.natAbs - z.natAbs) = z + w := by
 by_cases hz : z < 0
 ·have hw : ¬ w < 0 := by simpa [hz] using h
  simp [zOf, hw]; omega
 ·have hw : w < 0 := by simpa [hz] using h
  simp [zOf, hw]; omega
theorem zOf_more {z w : Int} (h : decide (z < 0) ≠ decide (w < 0)) (hl : w.natAbs ≤ z.natAbs) : zOf (decide (z < 0)) (z.natAbs - w.natAbs) = z + w := by
 by_cases hz : z < 0
 ·have hw : ¬ w < 0 := by simpa [hz] using h
  simp [zOf, hz]; omega
 ·have hw : w < 0 := by simpa [hz] using h
  simp [zOf, hz]; omega
theorem zOf_mul (z w : Int) : zOf (decide (z < 0) != decide (w < 0)) (z.natAbs * w.natAbs) = z * w := by
 have hz : z = zOf (decide (z < 0)) z.natAbs := (zOf_sign z).symm
 have hw : w = zOf (decide (w < 0)) w.natAbs := (zOf_sign w).symm
 generalize hs : decide (z < 0) = s at *
 generalize ht : decide (w < 0) = t at *
 generalize z.natAbs = m at *
 generalize w.natAbs = n at *
 subst hz hw
 cases s <;> cases t <;> simp [zOf, Int.neg_mul, Int.mul_neg]
def sWPlus : List PVal → Option PVal
 | [.agg [.bool s, .lst xs], .agg [.bool t, .lst ys]] => match decZ s xs, decZ t ys with | some z, some w => some (iN (z + w)) | _, _ => none
 | _ => none
theorem sWPlus_num {z w : Int} (hz : zl z ≤ 100000) (hw : zl w ≤ 100000) : sWPlus [iN z, iN w] = some (iN (z + w)) := by
 simp only [sWPlus, iN, iP, decZ_num hz, decZ_num hw]
def sWTimes : List PVal → Option PVal
 | [.agg [.bool s, .lst xs], .agg [.bool t, .lst ys]] => match decZ s xs, decZ t ys with | some z, some w => some (iN (z * w)) | _, _ => none
 | _ => none
theorem sWTimes_num {z w : Int} (hz : zl z ≤ 100000) (hw : zl w ≤ 100000) : sWTimes [iN z, iN w] = some (iN (z * w)) := by
 simp only [sWTimes, iN, iP, decZ_num hz, decZ_num hw]
theorem iplus_ok : FnOk Tryz.prog base 114 (pureS sWPlus) := by
 refine pure_of_vc hmix Two_ok globNone low114 fun args z hs hf => ?_
 unfold sWPlus at hs
 split at hs
 case h_2 => cases hs
 rename_i s xs t ys
 split at hs
 case h_2 => cases hs
 rename_i z w hz hw
 cases hs
 obtain ⟨lz, rfl, rfl⟩ := decZ_some hz
 obtain ⟨lw, rfl, rfl⟩ := decZ_some hw
 refine ⟨by simp [lf114], ?_⟩
 unfold zl at lz lw
 obtain ⟨s, hs⟩ : ∃ s, s = decide (z < 0) := ⟨_, rfl⟩
 obtain ⟨t, ht⟩ : ∃ t, t = decide (w < 0) := ⟨_, rfl⟩
 obtain ⟨m, hm⟩ : ∃ m, m = z.natAbs := ⟨_, rfl⟩
 obtain ⟨n, hn⟩ : ∃ n, n = w.natAbs := ⟨_, rfl⟩
 have e1 := @zOf_same z w
 have e2 := @zOf_less z w
 have e3 := @zOf_more z w
 rw [← hm, ← hn, ← hs, ← ht] at e1 e2 e3
 rw [← hm] at lz
 rw [← hn] at lw
 rw [← hs, ← ht, ← hm, ← hn]
 have hP := sPlus_num lz lw
 have hO := sOrder_num lz lw
 by_cases hst : s = t
 ·obtain ⟨b, l, hbl, wl, hW⟩ := sWide_num s (m + n)
  rw [← e1 hst, hbl]
  have hbe : (s == t) = true := by simp [hst]
  obtain ⟨p, hp⟩ : ∃ p, p = m + n := ⟨_, rfl⟩
  rw [← hp] at hP hW
  simp [lf114, hbe, vc_regionW, iP, Two_mu, Two_fns]
  refine ⟨[], ?_⟩
  simp [hP, hW, Two_mu, Two_fns]
 ·have hbe : (s == t) = false := by simp [hst]
  by_cases hlt : m < n
  ·obtain ⟨b, l, hbl, wl, hW⟩ := sWide_num t (n - m)
   rw [← e2 hst hlt, hbl]
   rw [cmpI_lt hlt] at hO
   have hM := sMinus_num lw lz (Nat.le_of_lt hlt)
   obtain ⟨p, hp⟩ : ∃ p, p = n - m := ⟨_, rfl⟩
   rw [← hp] at hM hW
   simp [lf114, hbe, hO, vc_regionW, iP, Two_mu, Two_fns]
   refine ⟨[], ?_⟩
   simp [hM, hW, Two_mu, Two_fns]
  ·obtain ⟨b, l, hbl, wl, hW⟩ := sWide_num s (m - n)
   rw [← e3 hst (by omega), hbl]
   have hcn : ¬ cmpI m n < 0 := fun h => by have := cmpI_neg.1 h; omega
   obtain ⟨c, hc⟩ : ∃ c, c = cmpI m n := ⟨_, rfl⟩
   rw [← hc] at hO hcn
   have hM := sMinus_num lz lw (by omega)
   obtain ⟨p, hp⟩ : ∃ p, p = m - n := ⟨_, rfl⟩
   rw [← hp] at hM hW
   simp [lf114, hbe, hO, hcn, vc_regionW, iP, Two_mu, Two_fns]
   refine ⟨[], ?_⟩
   simp [hM, hW, Two_mu, Two_fns]
theorem itimes_ok : FnOk Tryz.prog base 115 (pureS sWTimes) := by
 refine pure_of_vc hmix Two_ok globNone low115 fun args z hs hf => ?_
 unfold sWTimes at hs
 split at hs
 case h_2 => cases hs
 rename_i s xs t ys
 split at hs
 case h_2 => cases hs
 rename_i z w hz hw
 cases hs
 obtain ⟨lz, rfl, rfl⟩ := decZ_some hz
 obtain ⟨lw, rfl, rfl⟩ := decZ_some hw
 refine ⟨by simp [lf115], ?_⟩
 unfold zl at lz lw
 have e1 := zOf_mul z w
 obtain ⟨s, hs⟩ : ∃ s, s = decide (z < 0) := ⟨_, rfl⟩
 obtain ⟨t, ht⟩ : ∃ t, t = decide (w < 0) := ⟨_, rfl⟩
 obtain ⟨m, hm⟩ : ∃ m, m = z.natAbs := ⟨_, rfl⟩
 obtain ⟨n, hn⟩ : ∃ n, n = w.natAbs := ⟨_, rfl⟩
 rw [← hm, ← hn, ← hs, ← ht] at e1
 rw [← hm] at lz
 rw [← hn] at lw
 rw [← hs, ← ht, ← hm, ← hn]
 have hP := sTimes_num lz lw
 obtain ⟨b, l, hbl, wl, hW⟩ := sWide_num (s != t) (m * n)
 rw [← e1, hbl]
 obtain ⟨p, hp⟩ : ∃ p, p = m * n := ⟨_, rfl⟩
 rw [← hp] at hP hW
 rw [show (s != t) = (!s == t) from by cases s <;> cases t <;> rfl] at hW
 simp [lf115, vc_regionW, iP, Two_mu, Two_fns]
 refine ⟨[], ?_⟩
 simp [hP, hW, Two_mu, Two_fns]
def hN (z : Int) : PVal := if zl z ≤ 64 then iN z else iP false []
def hE (z : Int) : Int := if zl z ≤ 64 then 0 else 4
def zL (s : Bool) (l : List Nat) : Int := zOf s (val l)
theorem zL_num (z : Int) : zL (decide (z < 0)) (limbs z.natAbs) = z := by unfold zL; rw [val_limbs, zOf_sign]
def sgnZ (z : Int) : Int := if z < 0 then -1 else if z = 0 then 0 else 1
def sISign : List PVal → Option PVal
 | [.agg [.bool s, .lst xs]] => match decU xs with | some a => some (.int .i64 (if okI s a then sgnZ (zL s a) else 0)) | _ => none
 | _ => none
theorem sISign_list {s : Bool} {a : List Nat} (ha : Wf a) : sISign [.agg [.bool s, .lst (a.map u64)]] = some (.int .i64 (if okI s a then sgnZ (zL s a) else 0)) := by simp only [sISign, decU_map ha]
def Tio : Tab := ((((Tab.none.with 112 (pureS sIV)).with 114 (pureS sWPlus)).with 115 (pureS sWTimes)).with 140 (pureS sWide)).with 117 (pureS sClone)
theorem Tio_ok : TabOk Tryz.prog base Tio := Tab.with_ok (Tab.with_ok (Tab.with_ok (Tab.with_ok (Tab.with_ok Tab.none_ok ivalid_ok) iplus_ok) itimes_ok) wide_ok) clone_ok
theorem Tio_mu (f : FuncId) (a : List AVal) (H : Heap) : Tio.mu f a H = none := (rfl)
theorem Tio_fns : Tio.fn 112 = pureS sIV ∧ Tio.fn 114 = pureS sWPlus ∧ Tio.fn 115 = pureS sWTimes ∧ Tio.fn 140 = pureS sWide ∧ Tio.fn 117 = pureS sClone := ⟨rfl, rfl, rfl, rfl, rfl⟩
theorem iN_case (z : Int) : iN z = .agg [.bool (decide (z < 0)), .lst ((limbs z.natAbs).map u64)] := rfl
theorem isign_ok : FnOk Tryz.prog base 110 (pureS sISign) := by
 refine pure_of_vc hmix Tio_ok globNone low110 fun args z hs hf => ?_
 unfold sISign at hs
 split at hs
 case h_2 => cases hs
 rename_i s xs
 split at hs
 case h_2 => cases hs
 rename_i a ha
 obtain ⟨rfl, wa⟩ := decU_some ha
 cases hs
 refine ⟨by simp [lf110], ?_⟩
 have hv := sIV_list (s := s) wa
 cases ho : okI s a with
 | false => rw [ho] at hv; simp [lf110, hv, Tio_mu, Tio_fns]
 | true =>
  rw [ho] at hv
  obtain ⟨z, lz, rfl, rfl⟩ := okI_of ho
  rw [zL_num]
  have ll : (limbs z.natAbs).length = len z.natAbs := rfl
  by_cases h0 : z = 0
  ·subst h0
   simp [limbs_zero] at hv
   simp [lf110, hv, limbs_zero, sgnZ, Tio_mu, Tio_fns]
  ·have hn0 : len z.natAbs ≠ 0 := fun e => h0 (by have h6 := len_eq_zero.1 e; omega)
   have hl : ((len z.natAbs : Int) == 0) = false := beq_false_of_ne (by omega)
   by_cases hz : z < 0
   ·simp [hz] at hv
    simp [lf110, hv, hz, ll, hl, sgnZ, Tio_mu, Tio_fns]
   ·simp [hz] at hv
    simp [lf110, hv, hz, h0, ll, hl, sgnZ, Tio_mu, Tio_fns]
end Go.Proofs.YtgbjjikaenlkmaaGreat

/-
 whole: numbers of ints, values, texts, quotients; law2's same and few.
-/
namespace Go.Proofs.YtgbjjikaenlkmaaGreat
open Go Go.Abs Go.Limbs
variable {base : Prot}
set_option maxRecDepth 20000
attribute [local irreducible] vc
attribute [local simp] pureS touchV freezeL fuel shiftV u64 au
def sIOf : List PVal → Option PVal
 | [.int .i64 n] => if -9223372036854775808 ≤ n ∧ n < 9223372036854775808 then some (iN n) else none
 | _ => none
theorem sIOf_at {n : Int} (h1 : -9223372036854775808 ≤ n) (h2 : n < 9223372036854775808) : sIOf [.int .i64 n] = some (iN n) := if_pos ⟨h1, h2⟩
theorem ofL_num {n : Int} (h0 : 0 ≤ n) (h : n < 9223372036854775808) : ofL n = limbs n.natAbs := by
 unfold ofL
 by_cases hz : n ≤ 0
 ·have : n = 0 := by omega
  subst this
  simp [limbs_zero]
 ·rw [if_neg hz, IntKind.wrap_u64, limbs_small (by omega) (by rw [B_lit]; omega)]
  congr 1
  omega
def Tof : Tab := Tab.none.with 113 (pureS sOf)
theorem Tof_ok : TabOk Tryz.prog base Tof := Tab.with_ok Tab.none_ok of_ok
theorem Tof_mu (f : FuncId) (a : List AVal) (H : Heap) : Tof.mu f a H = none := (rfl)
theorem Tof_fn : Tof.fn 113 = pureS sOf := (rfl)
theorem iof_ok : FnOk Tryz.prog base 73 (pureS sIOf) := by
 refine pure_of_vc hmix Tof_ok globNone low73 fun args z hs hf => ?_
 unfold sIOf at hs
 split at hs
 case h_2 => cases hs
 rename_i n
 split at hs
 case isFalse => cases hs
 rename_i hc
 cases hs
 refine ⟨by simp [lf73], ?_⟩
 by_cases h0 : 0 ≤ n
 ·have h1 : sOf [.int .i64 n] = some (.lst ((ofL n).map u64)) := rfl
  rw [ofL_num h0 hc.2] at h1
  have hn : ¬ n < 0 := by omega
  simp [lf73, h0, h1, hn, iN, iP, fillS, Tof_mu, Tof_fn]
 ·have hn : n < 0 := by omega
  have w1 : IntKind.u64.wrap n = n + 18446744073709551616 := by rw [IntKind.wrap_u64]; omega
  obtain ⟨m, hm⟩ : ∃ m, m = n.natAbs := ⟨_, rfl⟩
  have w2 : IntKind.u64.wrap (-(n + 18446744073709551616)) = (m : Int) := by rw [IntKind.wrap_u64]; omega
  have hl : limbs m = [m] := limbs_small (by omega) (by rw [B_lit]; omega)
  unfold iN iP
  rw [← hm, hl]
  simp [lf73, h0, hn, w1, w2, fillS]
end Go.Proofs.YtgbjjikaenlkmaaGreat

/-
 whole: quotients; law2's awake.
-/
namespace Go.Proofs.YtgbjjikaenlkmaaGreat
open Go Go.Abs Go.Limbs
variable {base : Prot}
set_option maxRecDepth 20000
attribute [local irreducible] vc
attribute [local simp] pureS touchV freezeL fuel shiftV u64 au
end Go.Proofs.YtgbjjikaenlkmaaGreat

/-
 whole: calls at numbers; law2's awake.
-/
namespace Go.Proofs.YtgbjjikaenlkmaaGreat
open Go Go.Abs Go.Limbs
variable {base : Prot}
set_option maxRecDepth 20000
attribute [local irreducible] vc
attribute [local simp] pureS touchV freezeL fuel shiftV u64 au
end Go.Proofs.YtgbjjikaenlkmaaGreat
