/-
  What the library's whole numbers and texts compute. AcvNo conditions beyond the lemmas' own hypotheses.
-/
import Derived.Test.YtbdccebpehogjaaQuickL
import Derived.Test.YtbdccebpehogjaaNatC
import Derived.Test.YtbdccebpehogjaaAbsThree
import Derived.Lib.Builder
import Derived.Lib.UnsafeStr
import Derived.RegionTactic
import Derived.WalkKit
import Derived.Test.YtbdccebpehogjaaNatA
import Derived.Shelf.Strconv.Itoa0
import Derived.Shelf.Strconv.Itoa1
import Derived.Shelf.LaysM
import Derived.Shelf.Strconv.Itoa2
import Derived.Test.YtbdccebpehogjaaProg
import Derived.Test.YtbdccebpehogjaaNatB
import Derived.Shelf.Strconv.Itoa3
import Derived.Lib.Walk
import Derived.Lib.ItoaMem
import Derived.BigCall
import Derived.BigGuard
import Derived.Lib.ItoaNum
import Derived.RangeFuncBox
import Derived.Shelf.Abstract
import Derived.OwnWalkIn
import Derived.TacticsInMore
import Derived.LoopNIn
import Derived.LoopIn
set_option linter.unusedSimpArgs false
set_option linter.unnecessarySimpa false
set_option linter.unusedVariables false
set_option linter.constructorNameAsVariable false

/-
 whole: what is a number, signs, the order, sums and products of any size.
-/
namespace Go.Proofs.Ytbdccebpehogjaa
open Go Go.Abs Go.Limbs
variable {base : Prot}
set_option maxRecDepth 20000
attribute [local irreducible] vc
attribute [local simp] pureS touchV freezeL fuel shiftV u64 au
def iP (s : Bool) (l : List Nat) : PVal := .agg [.bool s, .lst (l.map u64)]
def iN (z : Int) : PVal := iP (decide (z < 0)) (limbs z.natAbs)
def zOf (s : Bool) (n : Nat) : Int := if s then -(n : Int) else n
def okI (s : Bool) (l : List Nat) : Bool := okL l && (!s || decide (0 < l.length))
def zl (z : Int) : Nat := len z.natAbs
theorem zOf_abs (s : Bool) (n : Nat) : (zOf s n).natAbs = n := by cases s <;> simp [zOf]
theorem iP_zOf {s : Bool} {n : Nat} (h : s = true → n ≠ 0) : iP s (limbs n) = iN (zOf s n) := by
 unfold iN
 rw [zOf_abs]
 congr 1
 cases s with
 | false => simp [zOf]
 | true => have := h rfl; simp [zOf]; omega
theorem wide_zOf (s : Bool) (n : Nat) : iP (s && decide (0 < (limbs n).length)) (limbs n) = iN (zOf s n) := by
 by_cases h : n = 0
 ·subst h
  rw [limbs_zero]
  cases s <;> simp [iN, zOf, limbs_zero]
 ·have hl : 0 < (limbs n).length := by
   have : (limbs n).length ≠ 0 := fun e => h (len_eq_zero.1 e)
   omega
  rw [decide_eq_true hl, Bool.and_true]
  exact iP_zOf fun _ => h
theorem okI_of {s : Bool} {l : List Nat} (h : okI s l = true) : ∃ z : Int, zl z ≤ 64 ∧ s = decide (z < 0) ∧ l = limbs z.natAbs := by
 unfold okI at h
 simp only [Bool.and_eq_true, Bool.or_eq_true, Bool.not_eq_true', decide_eq_true_eq] at h
 obtain ⟨n, rfl, hn⟩ := okL_true h.1
 have hs : s = true → n ≠ 0 := fun e h0 => by
  subst h0
  rcases h.2 with h2 | h2
  ·rw [e] at h2; cases h2
  ·rw [limbs_zero] at h2; simp at h2
 refine ⟨zOf s n, by unfold zl; rw [zOf_abs]; exact hn, ?_, by rw [zOf_abs]⟩
 cases s with
 | false => simp [zOf]
 | true => have := hs rfl; simp [zOf]; omega
theorem okI_num {z : Int} (h : zl z ≤ 64) : okI (decide (z < 0)) (limbs z.natAbs) = true := by
 unfold okI
 rw [okL_limbs h, Bool.true_and]
 by_cases hz : z < 0
 ·have : (limbs z.natAbs).length ≠ 0 := fun e => by have := len_eq_zero.1 e; omega
  have hl : 0 < (limbs z.natAbs).length := by omega
  simp [hz, hl]
 ·simp [hz]
theorem zOf_sign (z : Int) : zOf (decide (z < 0)) z.natAbs = z := by
 by_cases h : z < 0
 ·simp [zOf, h]; omega
 ·simp [zOf, h]; omega
def sIV : List PVal → Option PVal
 | [.agg [.bool s, .lst xs]] => match decU xs with | some l => some (.bool (okI s l)) | none => none
 | _ => none
theorem sIV_list {s : Bool} {l : List Nat} (h : Wf l) : sIV [.agg [.bool s, .lst (l.map u64)]] = some (.bool (okI s l)) := by simp only [sIV, decU_map h]
def Tiv1 : Tab := Tab.none.with 90 (pureS sValid)
theorem Tiv1_ok : TabOk Try.prog base Tiv1 := Tab.with_ok Tab.none_ok valid_ok
theorem Tiv1_mu (f : FuncId) (a : List AVal) (H : Heap) : Tiv1.mu f a H = none := (rfl)
theorem Tiv1_fn : Tiv1.fn 90 = pureS sValid := (rfl)
theorem ivalid_ok : FnOk Try.prog base 91 (pureS sIV) := by
 refine pure_of_vc hmix Tiv1_ok globNone low91 fun args z hs hf => ?_
 unfold sIV at hs
 split at hs
 case h_2 => cases hs
 rename_i s xs
 split at hs
 case h_2 => cases hs
 rename_i l hd
 obtain ⟨rfl, wl⟩ := decU_some hd
 cases hs
 refine ⟨by simp [lf91], ?_⟩
 have hv := sValid_list wl
 unfold okI
 cases ho : okL l with
 | false => rw [ho] at hv; simp [lf91, hv, Tiv1_mu, Tiv1_fn]
 | true =>
  rw [ho] at hv
  cases s with
  | false => simp [lf91, hv, Tiv1_mu, Tiv1_fn]
  | true => simp [lf91, hv, Tiv1_mu, Tiv1_fn]
def sWide : List PVal → Option PVal
 | [.bool s, .lst xs] => match decU xs with | some l => some (iP (s && decide (0 < l.length)) l) | none => none
 | _ => none
theorem sWide_num (s : Bool) (n : Nat) : ∃ b l, iN (zOf s n) = iP b l ∧ Wf l ∧ sWide [.bool s, .lst ((limbs n).map u64)] = some (.agg [.bool b, .lst (l.map u64)]) :=
 ⟨_, _, (wide_zOf s n).symm, wf_limbs n, by simp only [sWide, decU_map (wf_limbs n)]; rfl⟩
def decZ (s : Bool) (xs : List PVal) : Option Int := match decN xs with | some n => if s = true ∧ n = 0 then none else some (zOf s n) | none => none
theorem decZ_some {s : Bool} {xs : List PVal} {z : Int} (h : decZ s xs = some z) : zl z ≤ 100000 ∧ s = decide (z < 0) ∧ xs = (limbs z.natAbs).map u64 := by
 unfold decZ at h
 split at h
 case h_2 => cases h
 rename_i n hn
 split at h
 ·cases h
 rename_i hc
 cases h
 obtain ⟨rfl, hl⟩ := decN_some hn
 refine ⟨by unfold zl; rw [zOf_abs]; exact hl, ?_, by rw [zOf_abs]⟩
 cases s with
 | false => simp [zOf]
 | true => have : n ≠ 0 := fun e => hc ⟨rfl, e⟩; simp [zOf]; omega
theorem decZ_num {z : Int} (h : zl z ≤ 100000) : decZ (decide (z < 0)) ((limbs z.natAbs).map u64) = some z := by
 unfold decZ
 rw [decN_num h]
 simp only
 rw [if_neg, zOf_sign]
 rintro ⟨h1, h2⟩
 have := of_decide_eq_true h1
 omega
def sWOrd : List PVal → Option PVal
 | [.agg [.bool s, .lst xs], .agg [.bool t, .lst ys]] => match decZ s xs, decZ t ys with | some z, some w => some (.int .i64 (cmpZ z w)) | _, _ => none
 | _ => none
theorem sWOrd_num {z w : Int} (hz : zl z ≤ 100000) (hw : zl w ≤ 100000) : sWOrd [iN z, iN w] = some (.int .i64 (cmpZ z w)) := by
 simp only [sWOrd, iN, iP, decZ_num hz, decZ_num hw]
theorem cmpZ_pos {z w : Int} (hz : ¬ z < 0) (hw : ¬ w < 0) : cmpI z.natAbs w.natAbs = cmpZ z w := by
 unfold cmpI cmpZ
 by_cases h : z < w
 ·rw [if_pos h, if_pos (by omega)]
 ·rw [if_neg h, if_neg (by omega)]
  by_cases h2 : z = w
  ·rw [if_pos h2, if_pos (by omega)]
  ·rw [if_neg h2, if_neg (by omega)]
end Go.Proofs.Ytbdccebpehogjaa

/-
 whole: sums, products, the order, signs and negatives, as called from outside.
-/
namespace Go.Proofs.Ytbdccebpehogjaa
open Go Go.Abs Go.Limbs
variable {base : Prot}
set_option maxRecDepth 20000
attribute [local irreducible] vc
attribute [local simp] pureS touchV freezeL fuel shiftV u64 au
theorem zOf_same {z w : Int} (h : decide (z < 0) = decide (w < 0)) : zOf (decide (z < 0)) (z.natAbs + w.natAbs) = z + w := by
 by_cases hz : z < 0
 ·have hw : w < 0 := by simpa [hz] using h
  simp [zOf, hz]; omega
 ·have hw : ¬ w < 0 := by simpa [hz] using h
  simp [zOf, hz]; omega
theorem zOf_less {z w : Int} (h : decide (z < 0) ≠ decide (w < 0)) (hl : z.natAbs < w.natAbs) : zOf (decide (w < 0)) (w.natAbs - z.natAbs) = z + w := by
 by_cases hz : z < 0
 ·have hw : ¬ w < 0 := by simpa [hz] using h
  simp [zOf, hw]; omega
 ·have hw : w < 0 := by simpa [hz] using h
  simp [zOf, hw]; omega
theorem zOf_more {z w : Int} (h : decide (z < 0) ≠ decide (w < 0)) (hl : w.natAbs ≤ z.natAbs) : zOf (decide (z < 0)) (z.natAbs - w.natAbs) = z + w := by
 by_cases hz : z < 0
 ·have hw : ¬ w < 0 := by simpa [hz] using h
  simp [zOf, hz]; omega
 ·have hw : w < 0 := by simpa [hz] using h
  simp [zOf, hz]; omega
theorem zOf_mul (z w : Int) : zOf (decide (z < 0) != decide (w < 0)) (z.natAbs * w.natAbs) = z * w := by
 have hz : z = zOf (decide (z < 0)) z.natAbs := (zOf_sign z).symm
 have hw : w = zOf (decide (w < 0)) w.natAbs := (zOf_sign w).symm
 generalize hs : decide (z < 0) = s at *
 generalize ht : decide (w < 0) = t at *
 generalize z.natAbs = m at *
 generalize w.natAbs = n at *
 subst hz hw
 cases s <;> cases t <;> simp [zOf, Int.neg_mul, Int.mul_neg]
def sWPlus : List PVal → Option PVal
 | [.agg [.bool s, .lst xs], .agg [.bool t, .lst ys]] => match decZ s xs, decZ t ys with | some z, some w => some (iN (z + w)) | _, _ => none
 | _ => none
theorem sWPlus_num {z w : Int} (hz : zl z ≤ 100000) (hw : zl w ≤ 100000) : sWPlus [iN z, iN w] = some (iN (z + w)) := by
 simp only [sWPlus, iN, iP, decZ_num hz, decZ_num hw]
def hN (z : Int) : PVal := if zl z ≤ 64 then iN z else iP false []
def hE (z : Int) : Int := if zl z ≤ 64 then 0 else 4
def zL (s : Bool) (l : List Nat) : Int := zOf s (val l)
theorem zL_num (z : Int) : zL (decide (z < 0)) (limbs z.natAbs) = z := by unfold zL; rw [val_limbs, zOf_sign]
def sgnZ (z : Int) : Int := if z < 0 then -1 else if z = 0 then 0 else 1
def sISign : List PVal → Option PVal
 | [.agg [.bool s, .lst xs]] => match decU xs with | some a => some (.int .i64 (if okI s a then sgnZ (zL s a) else 0)) | _ => none
 | _ => none
theorem sISign_list {s : Bool} {a : List Nat} (ha : Wf a) : sISign [.agg [.bool s, .lst (a.map u64)]] = some (.int .i64 (if okI s a then sgnZ (zL s a) else 0)) := by simp only [sISign, decU_map ha]
def Tio : Tab := (Tab.none.with 91 (pureS sIV)).with 68 (pureS sClone)
theorem Tio_ok : TabOk Try.prog base Tio := Tab.with_ok (Tab.with_ok Tab.none_ok ivalid_ok) clone_ok
theorem Tio_mu (f : FuncId) (a : List AVal) (H : Heap) : Tio.mu f a H = none := (rfl)
theorem Tio_fns : Tio.fn 91 = pureS sIV ∧ Tio.fn 68 = pureS sClone := ⟨rfl, rfl⟩
theorem iN_case (z : Int) : iN z = .agg [.bool (decide (z < 0)), .lst ((limbs z.natAbs).map u64)] := rfl
theorem isign_ok : FnOk Try.prog base 71 (pureS sISign) := by
 refine pure_of_vc hmix Tio_ok globNone low71 fun args z hs hf => ?_
 unfold sISign at hs
 split at hs
 case h_2 => cases hs
 rename_i s xs
 split at hs
 case h_2 => cases hs
 rename_i a ha
 obtain ⟨rfl, wa⟩ := decU_some ha
 cases hs
 refine ⟨by simp [lf71], ?_⟩
 have hv := sIV_list (s := s) wa
 cases ho : okI s a with
 | false => rw [ho] at hv; simp [lf71, hv, Tio_mu, Tio_fns]
 | true =>
  rw [ho] at hv
  obtain ⟨z, lz, rfl, rfl⟩ := okI_of ho
  rw [zL_num]
  have ll : (limbs z.natAbs).length = len z.natAbs := rfl
  by_cases h0 : z = 0
  ·subst h0
   simp [limbs_zero] at hv
   simp [lf71, hv, limbs_zero, sgnZ, Tio_mu, Tio_fns]
  ·have hn0 : len z.natAbs ≠ 0 := fun e => h0 (by have h6 := len_eq_zero.1 e; omega)
   have hl : ((len z.natAbs : Int) == 0) = false := beq_false_of_ne (by omega)
   by_cases hz : z < 0
   ·simp [hz] at hv
    simp [lf71, hv, hz, ll, hl, sgnZ, Tio_mu, Tio_fns]
   ·simp [hz] at hv
    simp [lf71, hv, hz, h0, ll, hl, sgnZ, Tio_mu, Tio_fns]
end Go.Proofs.Ytbdccebpehogjaa

/-
 strings.Builder at this seat: its methods, and what it holds.
-/
namespace Go.Proofs.Ytbdccebpehogjaa
open Go Go.RowKit Go.Abs
variable {base : Prot}
set_option maxRecDepth 20000
attribute [local simp] pureS touchV freezeL fuel shiftV
end Go.Proofs.Ytbdccebpehogjaa

/-
 strings.Repeat of a nought, up to 19 times; slices.Backward.
-/
namespace Go.Proofs.Ytbdccebpehogjaa
open Go Go.Abs Go.Limbs
variable {base : Prot}
set_option maxRecDepth 20000
end Go.Proofs.Ytbdccebpehogjaa

/-
 strings.Trim of digits; strings.TrimLeft of noughts; nat.Digits.
-/
namespace Go.Proofs.Ytbdccebpehogjaa
open Go Go.Abs Go.Limbs
variable {base : Prot}
set_option maxRecDepth 20000
section
attribute [local irreducible] vc
attribute [local simp] pureS touchV freezeL fuel shiftV
end
end Go.Proofs.Ytbdccebpehogjaa

/-
 DERIVED: THE SHELF's CONTRACTS AT THIS DUMP, IN PLAIN WORDS (tools/lay-plain.mjs out of 'TryShelf.lean', which tools/lay-shelf.mjs wrote): THE SAME DECLARATIONS UNDER THE SAME NAMES: 'import', 'namespace', 'open', 'def', 'theorem' AND NOTHING ELSE: no command of the shelf's: FOR A HAND-IN. Each laying: the table of numbers ('.._ren') and one theorem, a field a fact of the dump's own or the kernel's comparison; each contract: ONE APPLICATION.
-/
namespace Go.Proofs
open Go.Shelf
end Go.Proofs

/-
 internal/strconv: how many digits; a number's decimal numeral.
-/
namespace Go.Proofs.Ytbdccebpehogjaa
open Go Go.Abs Go.Limbs
variable {base : Prot}
set_option maxRecDepth 20000
section
attribute [local irreducible] vc
attribute [local simp] pureS touchV freezeL fuel shiftV u64
end
end Go.Proofs.Ytbdccebpehogjaa

/-
 internal/strconv.FormatUint at base 10: every number's decimal numeral.
-/
namespace Go.Proofs.Ytbdccebpehogjaa
open Go Go.Shelf Go.RowKit Go.Sort Go.Lib Go.Abs
section
set_option maxRecDepth 20000
attribute [local irreducible] vc
attribute [local simp] pureS touchV freezeL fuel shiftV u64
end
end Go.Proofs.Ytbdccebpehogjaa

/-
 The numeral of a number, out of its chunks of nineteen digits.
-/
namespace Go.Limbs
open Go.Lib
end Go.Limbs

/-
 strconv.ParseUint of digits; nat.Read and nat.Parse.
-/
namespace Go.Proofs.Ytbdccebpehogjaa
open Go Go.Abs Go.Limbs Go.RowKit
variable {base : Prot}
set_option maxRecDepth 20000
end Go.Proofs.Ytbdccebpehogjaa

/-
 nat.Read and nat.Parse.
-/
namespace Go.Proofs.Ytbdccebpehogjaa
open Go Go.Abs Go.Limbs
variable {base : Prot}
set_option maxRecDepth 20000
attribute [local irreducible] vc
attribute [local simp] pureS touchV freezeL fuel shiftV u64 au
end Go.Proofs.Ytbdccebpehogjaa

/-
 slices.Backward: what its iterator hands out.
-/
namespace Go.Proofs.Ytbdccebpehogjaa
open Go Go.Abs Go.RowKit Go.Shelf
attribute [local go_sem] Oper.semAt_some
end Go.Proofs.Ytbdccebpehogjaa

/-
 slices.Backward in a caller: its range.
-/
namespace Go.Proofs.Ytbdccebpehogjaa
open Go Go.Abs Go.RowKit
variable {base : Prot}
set_option maxRecDepth 20000
section
attribute [local irreducible] vc
attribute [local simp] pureS touchV freezeL fuel shiftV
end
abbrev Pl (M : Nat) := {x : Nat × List UInt8 // x.2.length ≤ M}
end Go.Proofs.Ytbdccebpehogjaa

/-
 nat: a number's numeral (Text).
-/
namespace Go.Proofs.Ytbdccebpehogjaa
open Go Go.Abs Go.Limbs
variable {base : Prot}
set_option maxRecDepth 20000
attribute [local irreducible] vc
attribute [local simp] pureS touchV freezeL fuel shiftV u64
end Go.Proofs.Ytbdccebpehogjaa

/-
 law1: same, few, awake.
-/
namespace Go.Proofs.Ytbdccebpehogjaa
open Go Go.Abs Go.Limbs
variable {base : Prot}
set_option maxRecDepth 20000
attribute [local irreducible] vc
attribute [local simp] pureS touchV freezeL fuel shiftV u64 au
def sSame : List PVal → Option PVal
 | [.lst xs, .lst ys] => match decU xs, decU ys with | some a, some b => some (.bool (decide (a = b))) | _, _ => none
 | _ => none
theorem sSame_list {a b : List Nat} (ha : Wf a) (hb : Wf b) : sSame [.lst (a.map u64), .lst (b.map u64)] = some (.bool (decide (a = b))) := by simp only [sSame, decU_map ha, decU_map hb]
theorem sameL_ok : FnOk Try.prog base 44 (pureS sSame) := by
 refine pure_of_vc hmix Tab.none_ok globNone low44 fun args z hs hf => ?_
 unfold sSame at hs
 split at hs
 case h_2 => cases hs
 rename_i xs ys
 split at hs
 case h_2 => cases hs
 rename_i a b ha hb
 obtain ⟨rfl, wa⟩ := decU_some ha
 obtain ⟨rfl, wb⟩ := decU_some hb
 cases hs
 have hlen := (hf (.lst (a.map u64)) (by simp)).lst.1
 unfold maxLen at hlen
 simp only [List.length_map] at hlen
 refine ⟨by simp [lf44], ?_⟩
 by_cases hl : a.length = b.length
 ·have hl1 : ((a.length : Int) != b.length) = false := by simp [hl]
  simp [lf44, hl1]
  simp only [lf44_B0, vc_block]
  refine loop_ind (fun fr H => ∃ i : Nat, H = [] ∧ i ≤ a.length ∧ fr 0 = .p (.lst (a.map u64)) ∧ fr 1 = .p (.lst (b.map u64)) ∧ fr 5 = .p (.int .i64 i) ∧ a.take i = b.take i) (fun fr _ => a.length - ivar (fr 5)) ⟨0, rfl, by omega, by simp, by simp, by simp, by simp⟩ ?_
  rintro fr H ⟨i, rfl, hi, h0, h1, h5, hj⟩
  by_cases h : i < a.length
  ·obtain ⟨u, hx⟩ : ∃ u, a[i]? = some u := ⟨_, List.getElem?_eq_getElem h⟩
   obtain ⟨v, hy⟩ : ∃ v, b[i]? = some v := ⟨_, List.getElem?_eq_getElem (show i < b.length by omega)⟩
   have hib : i < b.length := by omega
   have hnx := getE hx
   have hny := getE hy
   by_cases he : u = v
   ·subst he
    have hj' : a.take (i + 1) = b.take (i + 1) := by rw [List.take_add_one, List.take_add_one, hj, hx, hy]
    simp [h0, h1, h5, h, hib, hnx, hny, wrap_succ (i := i) (by omega), ivar]
    exact ⟨⟨i + 1, by omega, rfl, hj'⟩, by omega⟩
   ·have hne : ¬ a = b := by
     rintro rfl
     rw [hx] at hy
     exact he (by cases hy; rfl)
    have hb : ((u : Int) != (v : Int)) = true := by simp; omega
    have hb2 : ((u : Int) == (v : Int)) = false := beq_false_of_ne (by omega)
    simp [h0, h1, h5, h, hib, hnx, hny, hb, hb2, hne]
  ·have hil : i = a.length := by omega
   subst hil
   have hxy : a = b := by
    rw [List.take_of_length_le (Nat.le_refl _), List.take_of_length_le (by omega)] at hj
    exact hj
   simp [h0, h5, hxy]
 ·have hl1 : ((a.length : Int) != b.length) = true := by simp; omega
  have hne : ¬ a = b := fun e => hl (by rw [e])
  simp [lf44, hl1, hne]
def Tsm : Tab := Tab.none.with 44 (pureS sSame)
theorem Tsm_ok : TabOk Try.prog base Tsm := Tab.with_ok Tab.none_ok sameL_ok
theorem Tsm_mu (f : FuncId) (a : List AVal) (H : Heap) : Tsm.mu f a H = none := (rfl)
theorem Tsm_fn : Tsm.fn 44 = pureS sSame := (rfl)
end Go.Proofs.Ytbdccebpehogjaa

/-
 whole: numbers of ints, values, texts, quotients; law2's same and few.
-/
namespace Go.Proofs.Ytbdccebpehogjaa
open Go Go.Abs Go.Limbs
variable {base : Prot}
set_option maxRecDepth 20000
attribute [local irreducible] vc
attribute [local simp] pureS touchV freezeL fuel shiftV u64 au
def sIOf : List PVal → Option PVal
 | [.int .i64 n] => if -9223372036854775808 ≤ n ∧ n < 9223372036854775808 then some (iN n) else none
 | _ => none
theorem sIOf_at {n : Int} (h1 : -9223372036854775808 ≤ n) (h2 : n < 9223372036854775808) : sIOf [.int .i64 n] = some (iN n) := if_pos ⟨h1, h2⟩
theorem ofL_num {n : Int} (h0 : 0 ≤ n) (h : n < 9223372036854775808) : ofL n = limbs n.natAbs := by
 unfold ofL
 by_cases hz : n ≤ 0
 ·have : n = 0 := by omega
  subst this
  simp [limbs_zero]
 ·rw [if_neg hz, IntKind.wrap_u64, limbs_small (by omega) (by rw [B_lit]; omega)]
  congr 1
  omega
end Go.Proofs.Ytbdccebpehogjaa

/-
 whole: quotients; law2's awake.
-/
namespace Go.Proofs.Ytbdccebpehogjaa
open Go Go.Abs Go.Limbs
variable {base : Prot}
set_option maxRecDepth 20000
attribute [local irreducible] vc
attribute [local simp] pureS touchV freezeL fuel shiftV u64 au
end Go.Proofs.Ytbdccebpehogjaa
