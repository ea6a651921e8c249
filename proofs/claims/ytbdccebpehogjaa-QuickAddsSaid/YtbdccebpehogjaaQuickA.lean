/-
  What math's functions of floats compute, part 1. AcvNo conditions beyond the lemmas' own hypotheses.
-/
import Derived.Test.YtbdccebpehogjaaFloB
import Derived.Test.YtbdccebpehogjaaAbsThree
import Derived.Test.YtbdccebpehogjaaQuickL
set_option linter.unusedSimpArgs false
set_option linter.unnecessarySimpa false
set_option linter.unusedVariables false
set_option linter.constructorNameAsVariable false

/-
 What the small functions of package math compute.
-/
namespace Go.Proofs.Ytbdccebpehogjaa
open Go Go.Abs Go.Flo
variable {base : Prot}
set_option maxRecDepth 20000
attribute [local irreducible] vc
attribute [local simp] pureS touchV freezeL fuel shiftV
theorem vmix : Try.prog.follows .mixedOrders = true := by kernel_rfl
theorem fmt64 : FloatKind.f64.format = Ieee.double := rfl
theorem cmp_facts (x y : Int) : (some (compare x y) == some Ordering.lt) = decide (x < y) ∧ (some (compare x y) == some Ordering.gt) = decide (y < x) ∧ (some (compare x y) == some Ordering.lt || some (compare x y) == some Ordering.eq) = decide (x ≤ y) ∧
  (some (compare x y) == some Ordering.gt || some (compare x y) == some Ordering.eq) = decide (y ≤ x) ∧ (some (compare x y) == some Ordering.eq) = decide (x = y) ∧ (some (compare x y) != some Ordering.eq) = decide (x ≠ y) := by
 have cmp : compare x y = if x < y then .lt else if x = y then .eq else .gt := rfl
 rcases Int.lt_trichotomy x y with h | h | h
 ·have e : compare x y = .lt := by rw [cmp, if_pos h]
  rw [e]
  refine ⟨?_, ?_, ?_, ?_, ?_, ?_⟩ <;> first | (rw [decide_eq_true (by omega)]; rfl) | (rw [decide_eq_false (by omega)]; rfl)
 ·have e : compare x y = .eq := by rw [cmp, if_neg (by omega), if_pos h]
  rw [e]
  refine ⟨?_, ?_, ?_, ?_, ?_, ?_⟩ <;> first | (rw [decide_eq_true (by omega)]; rfl) | (rw [decide_eq_false (by omega)]; rfl)
 ·have e : compare x y = .gt := by rw [cmp, if_neg (by omega), if_neg (by omega)]
  rw [e]
  refine ⟨?_, ?_, ?_, ?_, ?_, ?_⟩ <;> first | (rw [decide_eq_true (by omega)]; rfl) | (rw [decide_eq_false (by omega)]; rfl)
theorem ord_lt {a b : Nat} (ha : NoNaN a) (hb : NoNaN b) : binF .lss .f64 a b = some (.bool (decide (ky a < ky b))) ∧ binF .gtr .f64 a b = some (.bool (decide (ky b < ky a))) ∧
  binF .leq .f64 a b = some (.bool (decide (ky a ≤ ky b))) ∧ binF .geq .f64 a b = some (.bool (decide (ky b ≤ ky a))) ∧ binF .eql .f64 a b = some (.bool (decide (ky a = ky b))) ∧ binF .neq .f64 a b = some (.bool (decide (ky a ≠ ky b))) := by
 simp only [binF, fmt64, order_is ha hb]
 obtain ⟨h1, h2, h3, h4, h5, h6⟩ := cmp_facts (ky a) (ky b)
 rw [h3, h4, h1, h2, h5, h6]
 exact ⟨rfl, rfl, rfl, rfl, rfl, rfl⟩
theorem ord_nan {a b : Nat} (ha : 9218868437227405312 < rg a) : Ieee.double.order a b = none := by
 have hl : rg a < 9223372036854775808 := Nat.mod_lt _ (by decide)
 unfold Ieee.Format.order Ieee.Format.read
 simp only [d_sgn, d_binade, d_inf, d_least]
 have e : a % 9223372036854775808 = rg a := rfl
 rw [e, if_neg (by omega), if_neg (by omega), if_neg (by omega)]
 rfl
theorem ord_nan' {a b : Nat} (hb : 9218868437227405312 < rg b) : Ieee.double.order a b = none := by
 have hl : rg b < 9223372036854775808 := Nat.mod_lt _ (by decide)
 unfold Ieee.Format.order
 have e : Ieee.double.read b = .nan (sg b) (rg b - 9218868437227405312) := by
  unfold Ieee.Format.read
  simp only [d_sgn, d_binade, d_inf, d_least]
  have e : b % 9223372036854775808 = rg b := rfl
  rw [e, if_neg (by omega), if_neg (by omega), if_neg (by omega)]
  rfl
 rw [e]
 cases Ieee.double.read a <;> rfl
theorem neg_wd (s : Bool) {r : Nat} (h : r < 9223372036854775808) : Op.negFloat .f64 (wd s r) = wd (!s) r := by
 have e : (2 : Nat) ^ (FloatKind.f64.format.exponentBits + FloatKind.f64.format.fractionBits) = 2 ^ 63 := rfl
 unfold Op.negFloat
 rw [e]
 have h1 := Nat.xor_div_two_pow (a := wd s r) (b := 2 ^ 63) (n := 63)
 have h2 := Nat.xor_mod_two_pow (a := wd s r) (b := 2 ^ 63) (n := 63)
 rw [p63] at *
 rw [Nat.div_self (by decide)] at h1
 rw [Nat.mod_self, Nat.xor_zero] at h2
 generalize wd s r ^^^ 9223372036854775808 = X at *
 unfold wd at *
 cases s with
 | false =>
  simp only [Bool.false_eq_true, if_false, Bool.not_false, if_true] at *
  have e1 : r / 9223372036854775808 = 0 := by omega
  rw [e1] at h1
  have : (0 : Nat) ^^^ 1 = 1 := by decide
  omega
 | true =>
  simp only [Bool.not_true, Bool.false_eq_true, if_false, if_true] at *
  have e1 : (9223372036854775808 + r) / 9223372036854775808 = 1 := by omega
  rw [e1] at h1
  have : (1 : Nat) ^^^ 1 = 0 := by decide
  omega
theorem neg_word {b : Nat} (h : b < 18446744073709551616) : Op.negFloat .f64 b = wd (!sg b) (rg b) := by
 have := neg_wd (sg b) (r := rg b) (Nat.mod_lt _ (by decide))
 rwa [wd_parts h] at this
def vsBits : List PVal → Option PVal
 | [.flt .f64 b] => some (.int .u64 b)
 | _ => none
def sFrom : List PVal → Option PVal
 | [.int .u64 n] => some (.flt .f64 n.toNat)
 | _ => none
theorem bits_at : ∀ ps x, vsBits ps = some x → ExtOk Try.prog 51 ps x := by
 intro ps x h
 unfold vsBits at h
 split at h
 case h_2 => cases h
 rename_i b
 cases h
 obtain ⟨fn, hfn⟩ : ∃ fn, Try.prog.funcs[51]? = some fn := ⟨_, rfl⟩
 refine ⟨fn, Extern.MathFloatBits.float64bits, hfn, ?_, ?_, ?_, ?_, fun pr w vs hl hr => ?_⟩
 ·cases hfn; kernel_rfl
 ·cases hfn; kernel_rfl
 ·cases hfn; kernel_rfl
 ·cases hfn; kernel_rfl
 ·match vs, hl with
  | [a], _ =>
   have ha := hr 0 _ a rfl rfl
   cases ha
   exact ⟨_, rfl, PRep.int _ _⟩
theorem from_at : ∀ ps x, sFrom ps = some x → ExtOk Try.prog 50 ps x := by
 intro ps x h
 unfold sFrom at h
 split at h
 case h_2 => cases h
 rename_i b
 cases h
 obtain ⟨fn, hfn⟩ : ∃ fn, Try.prog.funcs[50]? = some fn := ⟨_, rfl⟩
 refine ⟨fn, Extern.MathFloatBits.float64frombits, hfn, ?_, ?_, ?_, ?_, fun pr w vs hl hr => ?_⟩
 ·cases hfn; kernel_rfl
 ·cases hfn; kernel_rfl
 ·cases hfn; kernel_rfl
 ·cases hfn; kernel_rfl
 ·match vs, hl with
  | [a], _ =>
   have ha := hr 0 _ a rfl rfl
   cases ha
   exact ⟨_, rfl, PRep.flt _ _⟩
def Tfb : Tab := (Tab.none.ext 50 sFrom).ext 51 vsBits
theorem Tfb_ok : TabOk Try.prog base Tfb := Tab.ext_ok (Tab.ext_ok Tab.none_ok from_at) bits_at
theorem Tfb_1 : Tfb.ex 51 = vsBits := (rfl)
theorem Tfb_2 : Tfb.ex 50 = sFrom := (rfl)
attribute [local simp] vsBits sFrom
theorem bv_and {a c : Nat} (ha : a < 18446744073709551616) (hc : c < 18446744073709551616) : ((BitVec.ofInt 64 (a : Int)) &&& (BitVec.ofInt 64 (c : Int))).toNat = a &&& c := by
 rw [BitVec.toNat_and, BitVec.ofInt_natCast, BitVec.ofInt_natCast, BitVec.toNat_ofNat, BitVec.toNat_ofNat, Nat.mod_eq_of_lt ha, Nat.mod_eq_of_lt hc]
theorem bv_or {a c : Nat} (ha : a < 18446744073709551616) (hc : c < 18446744073709551616) : ((BitVec.ofInt 64 (a : Int)) ||| (BitVec.ofInt 64 (c : Int))).toNat = a ||| c := by
 rw [BitVec.toNat_or, BitVec.ofInt_natCast, BitVec.ofInt_natCast, BitVec.toNat_ofNat, BitVec.toNat_ofNat, Nat.mod_eq_of_lt ha, Nat.mod_eq_of_lt hc]
theorem u64_wrap {n : Nat} (h : n < 18446744073709551616) : IntKind.u64.wrap (n : Int) = n := by rw [IntKind.wrap_u64]; omega
theorem and_low64 {b : Nat} (h : b < 18446744073709551616) : binI .andNot .u64 (b : Int) 9223372036854775808 = some (.int .u64 (rg b : Nat)) := by
 have e : ~~~(BitVec.ofInt 64 9223372036854775808) = BitVec.ofInt 64 ((9223372036854775807 : Nat) : Int) := by decide
 simp only [binI]
 show some (PVal.int .u64 (IntKind.u64.wrap (((BitVec.ofInt 64 (b : Int)) &&& ~~~(BitVec.ofInt 64 9223372036854775808)).toNat : Nat))) = _
 rw [e, bv_and h (by decide), and_low, u64_wrap (by omega)]; rfl
theorem and_clear64 {b : Nat} (h : b < 18446744073709551616) : binI .andNot .u64 (b : Int) 9218868437227405312 = some (.int .u64 (b / 9223372036854775808 * 9223372036854775808 + b % 4503599627370496 : Nat)) := by
 have e : ~~~(BitVec.ofInt 64 9218868437227405312) = BitVec.ofInt 64 ((9227875636482146303 : Nat) : Int) := by decide
 simp only [binI]
 show some (PVal.int .u64 (IntKind.u64.wrap (((BitVec.ofInt 64 (b : Int)) &&& ~~~(BitVec.ofInt 64 9218868437227405312)).toNat : Nat))) = _
 rw [e, bv_and h (by decide), and_clear h, u64_wrap (by omega)]
theorem and_sign64 {b : Nat} (h : b < 18446744073709551616) : binI .and .u64 (b : Int) 9223372036854775808 = some (.int .u64 (b / 9223372036854775808 * 9223372036854775808 : Nat)) := by
 simp only [binI]
 show some (PVal.int .u64 (IntKind.u64.wrap (((BitVec.ofInt 64 (b : Int)) &&& (BitVec.ofInt 64 ((9223372036854775808 : Nat) : Int))).toNat : Nat))) = _
 rw [bv_and h (by decide), and_sign h, u64_wrap (by omega)]
theorem or_field64 {s f E : Nat} (hs : s < 2) (hf : f < 4503599627370496) (hE : E < 2048) : binI .or .u64 ((s * 9223372036854775808 + f : Nat) : Int) ((E * 4503599627370496 : Nat) : Int) = some (.int .u64 (s * 9223372036854775808 + (E * 4503599627370496 + f) : Nat)) := by
 simp only [binI]
 show some (PVal.int .u64 (IntKind.u64.wrap (((BitVec.ofInt 64 ((s * 9223372036854775808 + f : Nat) : Int)) ||| (BitVec.ofInt 64 ((E * 4503599627370496 : Nat) : Int))).toNat : Nat))) = _
 rw [bv_or (by omega) (by omega), or_field hf hE, u64_wrap (by omega)]
theorem sg_div {b : Nat} (h : b < 18446744073709551616) : b / 9223372036854775808 * 9223372036854775808 = if sg b = true then 9223372036854775808 else 0 := by
 unfold sg
 have : b / 9223372036854775808 = 0 ∨ b / 9223372036854775808 = 1 := by omega
 rcases this with e | e <;> rw [e] <;> rfl
def sAbs : List PVal → Option PVal
 | [.flt .f64 b] => if b < 18446744073709551616 then some (.flt .f64 (rg b)) else none
 | _ => none
theorem abs_ok : FnOk Try.prog base 23 (pureS sAbs) := by
 refine pure_of_vc vmix Tfb_ok globNone low23 fun args x hs hf => ?_
 unfold sAbs at hs
 split at hs
 case h_2 => cases hs
 rename_i b
 split at hs
 case isFalse => cases hs
 rename_i hb
 cases hs
 refine ⟨by simp [lf23], ?_⟩
 have h1 := and_low64 hb
 simp [lf23, allP, Tfb_1, Tfb_2, -binI, h1]
def vsNaN : List PVal → Option PVal
 | [.flt .f64 b] => if b < 18446744073709551616 then some (.bool (decide (9218868437227405312 < rg b))) else none
 | _ => none
theorem isnan_ok : FnOk Try.prog base 30 (pureS vsNaN) := by
 refine pure_of_vc vmix Tab.none_ok globNone low30 fun args x hs hf => ?_
 unfold vsNaN at hs
 split at hs
 case h_2 => cases hs
 rename_i b
 split at hs
 case isFalse => cases hs
 rename_i hb
 cases hs
 refine ⟨by simp [lf30], ?_⟩
 have h1 : binF .neq .f64 b b = some (.bool (decide (9218868437227405312 < rg b))) := by
  by_cases h : 9218868437227405312 < rg b
  ·simp only [binF, fmt64, ord_nan h, decide_eq_true h]; rfl
  ·rw [(ord_lt (a := b) (b := b) ⟨hb, by omega⟩ ⟨hb, by omega⟩).2.2.2.2.2, decide_eq_false h]
   simp
 simp [lf30, h1]
def infS (b : Nat) (s : Int) : Bool := if s = 0 then decide (rg b = 9218868437227405312) else if s < 0 then decide (b = wd true 9218868437227405312) else decide (b = wd false 9218868437227405312)
def sInf2 : List PVal → Option PVal
 | [.flt .f64 b, .int .i64 s] => if b < 18446744073709551616 then some (.bool (infS b s)) else none
 | _ => none
theorem max_gt {b : Nat} (hb : b < 18446744073709551616) : binF .gtr .f64 b 9218868437227405311 = some (.bool (decide (b = wd false 9218868437227405312))) := by
 by_cases h : 9218868437227405312 < rg b
 ·have hw : b ≠ wd false 9218868437227405312 := fun e => by rw [e, rg_wd _ (by decide)] at h; omega
  simp only [binF, fmt64, ord_nan h, decide_eq_false hw]; rfl
 ·have hk : ky 9218868437227405311 = 9218868437227405311 := by decide
  rw [(ord_lt (a := b) (b := 9218868437227405311) ⟨hb, by omega⟩ ⟨by decide, by decide⟩).2.1, hk]
  have hp := wd_parts hb
  have hs : sg b = true ∨ sg b = false := by cases sg b <;> simp
  unfold ky
  rcases hs with e | e
  ·rw [if_pos e]
   have h1 : b ≠ wd false 9218868437227405312 := fun h => by rw [h, sg_wd _ (by decide)] at e; cases e
   rw [decide_eq_false h1, decide_eq_false (by omega)]
  ·rw [if_neg (by simp [e])]
   rw [e] at hp
   by_cases h2 : rg b = 9218868437227405312
   ·rw [h2] at hp
    rw [decide_eq_true (by omega), decide_eq_true hp.symm]
   ·have h1 : b ≠ wd false 9218868437227405312 := fun h => h2 (by rw [h, rg_wd _ (by decide)])
    rw [decide_eq_false (by omega), decide_eq_false h1]
def Tii : Tab := Tab.none.with 23 (pureS sAbs)
theorem Tii_ok : TabOk Try.prog base Tii := Tab.with_ok Tab.none_ok abs_ok
theorem Tii_mu (f : FuncId) (a : List AVal) (H : Heap) : Tii.mu f a H = none := (rfl)
theorem Tii_1 : Tii.fn 23 = pureS sAbs := (rfl)
theorem isinf_ok : FnOk Try.prog base 31 (pureS sInf2) := by
 refine pure_of_vc vmix Tii_ok globNone low31 fun args x hs hf => ?_
 unfold sInf2 at hs
 split at hs
 case h_2 => cases hs
 rename_i b s
 split at hs
 case isFalse => cases hs
 rename_i hb
 cases hs
 refine ⟨by simp [lf31], ?_⟩
 have hR : rg b < 9223372036854775808 := Nat.mod_lt _ (by decide)
 unfold infS
 by_cases h0 : s = 0
 ·subst h0
  rw [if_pos rfl]
  have h1 : sAbs [.flt .f64 b] = some (.flt .f64 (rg b)) := if_pos hb
  have h2 := max_gt (b := rg b) (by omega)
  have e : decide (rg b = wd false 9218868437227405312) = decide (rg b = 9218868437227405312) := by
   refine decide_eq_decide.2 ?_
   unfold wd
   rw [if_neg (by decide)]
  rw [e] at h2
  generalize rg b = R at *
  simp [lf31, Tii_mu, Tii_1, h1, h2]
 ·have h0' : (s == 0) = false := by simpa using h0
  rw [if_neg h0]
  by_cases h1 : s < 0
  ·rw [if_pos h1]
   have h3 := neg_word hb
   have h2 := max_gt (b := wd (!sg b) (rg b)) (wd_lt _ hR)
   have e : decide (wd (!sg b) (rg b) = wd false 9218868437227405312) = decide (b = wd true 9218868437227405312) := by
    refine decide_eq_decide.2 ⟨fun h => ?_, fun h => ?_⟩
    ·have e1 := congrArg sg h
     have e2 := congrArg rg h
     rw [sg_wd _ hR, sg_wd _ (by decide)] at e1
     rw [rg_wd _ hR, rg_wd _ (by decide)] at e2
     have e3 : sg b = true := by cases hh : sg b <;> rw [hh] at e1 <;> simp at e1 ⊢
     rw [← wd_parts hb, e3, e2]
    ·rw [h, sg_wd _ (by decide), rg_wd _ (by decide)]; rfl
   rw [e] at h2
   simp [lf31, Tii_mu, h0', h1, h3, h2]
  ·rw [if_neg h1]
   have h2 := max_gt hb
   simp [lf31, Tii_mu, h0', h1, h2]
def sInfW : List PVal → Option PVal
 | [.int .i64 s] => some (.flt .f64 (wd (decide (s < 0)) 9218868437227405312))
 | _ => none
theorem infw_ok : FnOk Try.prog base 19 (pureS sInfW) := by
 refine pure_of_vc vmix Tfb_ok globNone low19 fun args x hs hf => ?_
 unfold sInfW at hs
 split at hs
 case h_2 => cases hs
 rename_i s
 cases hs
 refine ⟨by simp [lf19], ?_⟩
 by_cases h : s < 0
 ·have h2 : (0 ≤ s) = False := by simp; omega
  simp [lf19, allP, Tfb_1, Tfb_2, h, h2, wd]
 ·have h2 : (0 ≤ s) = True := by simp; omega
  simp [lf19, allP, Tfb_1, Tfb_2, h, h2, wd]
def sCopy : List PVal → Option PVal
 | [.flt .f64 a, .flt .f64 b] => if a < 18446744073709551616 ∧ b < 18446744073709551616 then some (.flt .f64 (wd (sg b) (rg a))) else none
 | _ => none
theorem copy_ok : FnOk Try.prog base 49 (pureS sCopy) := by
 refine pure_of_vc vmix Tfb_ok globNone low49 fun args x hs hf => ?_
 unfold sCopy at hs
 split at hs
 case h_2 => cases hs
 rename_i a b
 split at hs
 case isFalse => cases hs
 rename_i hab
 cases hs
 refine ⟨by simp [lf49], ?_⟩
 have hR : rg a < 9223372036854775808 := Nat.mod_lt _ (by decide)
 have h1 := and_low64 hab.1
 have h2 := and_sign64 hab.2
 have h3 : binI .or .u64 ((rg a : Nat) : Int) ((b / 9223372036854775808 * 9223372036854775808 : Nat) : Int) = some (.int .u64 (wd (sg b) (rg a) : Nat)) := by
  simp only [binI]
  show some (PVal.int .u64 (IntKind.u64.wrap (((BitVec.ofInt 64 ((rg a : Nat) : Int)) ||| (BitVec.ofInt 64 ((b / 9223372036854775808 * 9223372036854775808 : Nat) : Int))).toNat : Nat))) = _
  have h4 := or_sum (a := b / 9223372036854775808) (b := rg a) 63 (by rw [p63]; exact hR)
  rw [p63, Nat.mul_comm] at h4
  rw [bv_or (by omega) (by omega), Nat.or_comm, h4, sg_div hab.2]
  have hb2 : b / 9223372036854775808 * 9223372036854775808 ≤ 9223372036854775808 := by omega
  rw [sg_div hab.2] at hb2
  rw [u64_wrap (by omega)]
  unfold wd
  cases sg b <;> simp
 rw [sg_div hab.2] at h2 h3
 generalize rg a = R at *
 generalize wd (sg b) R = W at *
 simp [lf49, allP, Tfb_1, Tfb_2, -binI, h1, h2, h3]
end Go.Proofs.Ytbdccebpehogjaa

/-
 What math.Nextafter, normalize, Ldexp and Frexp compute.
-/
namespace Go.Flo
def nxtW (x y : Nat) : Nat := if ky x = ky y then x else if rg x = 0 then wd (sg y) 1 else if decide (ky x < ky y) = decide (0 < ky x) then x + 1 else x - 1
theorem ky_zero {x : Nat} : ky x = 0 ↔ rg x = 0 := by
 unfold ky
 split <;> omega
theorem word_cases {x : Nat} (h : x < 18446744073709551616) : (sg x = false ∧ x = rg x ∧ ky x = rg x) ∨ (sg x = true ∧ x = 9223372036854775808 + rg x ∧ ky x = -(rg x : Int)) := by
 have hp := wd_parts h
 unfold ky
 cases hs : sg x with
 | false => rw [hs] at hp; exact .inl ⟨rfl, hp.symm, by simp⟩
 | true => rw [hs] at hp; exact .inr ⟨rfl, hp.symm, by simp⟩
theorem next_up {x : Nat} (h : Fin64 x) : nxtW x (wd false 9218868437227405312) < 18446744073709551616 ∧ rg (nxtW x (wd false 9218868437227405312)) ≤ 9218868437227405312 ∧ ky (nxtW x (wd false 9218868437227405312)) = ky x + 1 := by
 have hb := ky_fin h
 have h2 := h.2
 have hy : ky (wd false 9218868437227405312) = 9218868437227405312 := by decide
 unfold nxtW
 rw [hy, sg_wd _ (by decide), if_neg (by omega)]
 by_cases h0 : rg x = 0
 ·have hk := ky_zero.2 h0
  rw [if_pos h0, hk]
  decide
 ·rw [if_neg h0, decide_eq_true (by omega)]
  rcases word_cases h.1 with ⟨e1, e2, e3⟩ | ⟨e1, e2, e3⟩
  ·rw [if_pos (decide_eq_true (by omega)).symm]
   have e : x + 1 = wd false (rg x + 1) := by unfold wd; rw [if_neg (by decide)]; omega
   rw [e, ky_wd _ (by omega), rg_wd _ (by omega)]
   exact ⟨wd_lt _ (by omega), by omega, by simp; omega⟩
  ·rw [if_neg (by rw [decide_eq_false (show ¬ 0 < ky x by omega)]; decide)]
   have e : x - 1 = wd true (rg x - 1) := by unfold wd; rw [if_pos rfl]; omega
   rw [e, ky_wd _ (by omega), rg_wd _ (by omega)]
   exact ⟨wd_lt _ (by omega), by omega, by simp; omega⟩
theorem next_down {x : Nat} (h : Fin64 x) : nxtW x (wd true 9218868437227405312) < 18446744073709551616 ∧ rg (nxtW x (wd true 9218868437227405312)) ≤ 9218868437227405312 ∧ ky (nxtW x (wd true 9218868437227405312)) = ky x - 1 := by
 have hb := ky_fin h
 have h2 := h.2
 have hy : ky (wd true 9218868437227405312) = -9218868437227405312 := by decide
 unfold nxtW
 rw [hy, sg_wd _ (by decide), if_neg (by omega)]
 by_cases h0 : rg x = 0
 ·have hk := ky_zero.2 h0
  rw [if_pos h0, hk]
  decide
 ·rw [if_neg h0, decide_eq_false (by omega)]
  rcases word_cases h.1 with ⟨e1, e2, e3⟩ | ⟨e1, e2, e3⟩
  ·rw [if_neg (by rw [decide_eq_true (show 0 < ky x by omega)]; decide)]
   have e : x - 1 = wd false (rg x - 1) := by unfold wd; rw [if_neg (by decide)]; omega
   rw [e, ky_wd _ (by omega), rg_wd _ (by omega)]
   exact ⟨wd_lt _ (by omega), by omega, by simp; omega⟩
  ·rw [if_pos (decide_eq_false (by omega)).symm]
   have e : x + 1 = wd true (rg x + 1) := by unfold wd; rw [if_pos rfl]; omega
   rw [e, ky_wd _ (by omega), rg_wd _ (by omega)]
   exact ⟨wd_lt _ (by omega), by omega, by simp; omega⟩
def nrmW (x : Nat) : Nat := if rg x < 4503599627370496 then wd (sg x) (dn (rg x * 4503599627370496)) else x
def nrmE (x : Nat) : Int := if rg x < 4503599627370496 then -52 else 0
theorem nrm_mul {x : Nat} (h : Fin64 x) (h0 : 0 < rg x) (hs : rg x < 4503599627370496) : Ieee.double.mul x 4841369599423283200 = some (nrmW x) := by
 obtain ⟨r, hr⟩ := mg_of (m := rg x) (k := 52) (by omega)
 rw [p52] at hr
 have hr2 : r < 53 * 4503599627370496 := by
  refine mg_lt_iff.1 ?_
  have e := mg_join (k := 52) (q := 4503599627370496) (Nat.le_refl _) (by decide)
  rw [show 52 * 4503599627370496 + 4503599627370496 = 53 * 4503599627370496 by decide, p52] at e
  rw [e, hr]; omega
 unfold nrmW
 rw [if_pos hs, ← hr, dn_mg]
 have e : (4841369599423283200 : Nat) = wd false (1075 * 4503599627370496) := by decide
 rw [e]
 refine mul_pow h h0 (by decide) (by decide) (by omega) ?_
 unfold sc; rw [mg_small (by omega), hr, show 51 + 1075 = 52 + 1074 by decide, Nat.pow_add 2 52 1074, p52, Nat.mul_assoc]
theorem nrm_facts {x : Nat} (h : Fin64 x) (h0 : 0 < rg x) : ∃ k q : Nat, 4503599627370496 ≤ q ∧ q < 9007199254740992 ∧ k * 4503599627370496 + q < 9218868437227405312 ∧ nrmW x = wd (sg x) (k * 4503599627370496 + q) ∧ q * 2 ^ k = mg (rg x) * 2 ^ (-nrmE x).toNat := by
 unfold nrmW nrmE
 by_cases hs : rg x < 4503599627370496
 ·rw [if_pos hs, if_pos hs]
  obtain ⟨r, hr⟩ := mg_of (m := rg x) (k := 52) (by omega)
  rw [p52] at hr
  have hr2 : r < 53 * 4503599627370496 := by
   refine mg_lt_iff.1 ?_
   have e := mg_join (k := 52) (q := 4503599627370496) (Nat.le_refl _) (by decide)
   rw [show 52 * 4503599627370496 + 4503599627370496 = 53 * 4503599627370496 by decide, p52] at e
   rw [e, hr]; omega
  rw [← hr, dn_mg]
  rcases rung_cases r with hc | ⟨k, q, h1, h2, rfl⟩
  ·rw [mg_small (by omega)] at hr; omega
  ·refine ⟨k, q, h1, h2, by omega, rfl, ?_⟩
   rw [mg_join h1 (by omega)] at hr
   rw [hr, mg_small (by omega), show (-(-52 : Int)).toNat = 52 by decide, p52]
 ·rw [if_neg hs, if_neg hs]
  rcases rung_cases (rg x) with hc | ⟨k, q, h1, h2, e⟩
  ·exact absurd hc hs
  ·have h3 := h.2
   refine ⟨k, q, h1, h2, by omega, by rw [← e, wd_parts h.1], ?_⟩
   rw [e, mg_join h1 (by omega), show (-(0 : Int)).toNat = 0 by decide, Nat.pow_zero, Nat.mul_one]
def LdOk (b : Nat) (e : Int) (r : Nat) : Prop := mg r * 2 ^ (-e).toNat = mg (rg b) * 2 ^ e.toNat ∧ r < 9218868437227405312
theorem pow_cancel {m q a c : Nat} (h : m * 2 ^ a = q * 2 ^ c) : (a ≤ c → m = q * 2 ^ (c - a)) ∧ (c ≤ a → m * 2 ^ (a - c) = q) := by
 refine ⟨fun hc => ?_, fun hc => ?_⟩
 ·have e : 2 ^ c = 2 ^ (c - a) * 2 ^ a := by rw [← Nat.pow_add]; congr 1; omega
  rw [e, ← Nat.mul_assoc] at h
  exact Nat.eq_of_mul_eq_mul_right (two_pos a) h
 ·have e : 2 ^ a = 2 ^ (a - c) * 2 ^ c := by rw [← Nat.pow_add]; congr 1; omega
  rw [e, ← Nat.mul_assoc] at h
  exact Nat.eq_of_mul_eq_mul_right (two_pos c) h
theorem ld_facts {b r k q : Nat} {e e0 : Int} (h : LdOk b e r) (hx0 : 0 < rg b) (h1 : 4503599627370496 ≤ q) (h2 : q < 9007199254740992) (he0 : e0 ≤ 0) (hq : q * 2 ^ k = mg (rg b) * 2 ^ (-e0).toNat) :
  0 < r ∧ ((0 ≤ (k : Int) + e + e0 → r = ((k : Int) + e + e0).toNat * 4503599627370496 + q ∧ (k : Int) + e + e0 ≤ 2045) ∧ ((k : Int) + e + e0 < 0 → mg r * 2 ^ (-((k : Int) + e + e0)).toNat = q ∧ -52 ≤ (k : Int) + e + e0)) := by
 obtain ⟨h3, h4⟩ := h
 have hX := mg_pos hx0
 have hr0 : 0 < r := by
  refine Nat.pos_of_ne_zero fun h0 => ?_
  rw [h0, mg_zero, Nat.zero_mul] at h3
  have := Nat.mul_pos hX (two_pos e.toNat)
  omega
 refine ⟨hr0, ?_⟩
 have key : mg r * 2 ^ ((-e).toNat + (-e0).toNat) = q * 2 ^ (k + e.toNat) := by
  rw [Nat.pow_add, ← Nat.mul_assoc, h3, Nat.pow_add, ← Nat.mul_assoc, hq, Nat.mul_assoc, Nat.mul_comm (2 ^ e.toNat), ← Nat.mul_assoc]
 obtain ⟨c1, c2⟩ := pow_cancel key
 refine ⟨fun hf => ?_, fun hf => ?_⟩
 ·have e1 := c1 (by omega)
  have e2 : k + e.toNat - ((-e).toNat + (-e0).toNat) = ((k : Int) + e + e0).toNat := by omega
  rw [e2, ← mg_join h1 (by omega)] at e1
  have e3 := mg_inj e1
  exact ⟨e3, by omega⟩
 ·have e1 := c2 (by omega)
  have e2 : (-e).toNat + (-e0).toNat - (k + e.toNat) = (-((k : Int) + e + e0)).toNat := by omega
  rw [e2] at e1
  refine ⟨e1, ?_⟩
  refine Decidable.byContradiction fun hn => ?_
  have h5 := pow_mono (p := 53) (q := (-((k : Int) + e + e0)).toNat) (by omega)
  have h6 : 1 * 2 ^ (-((k : Int) + e + e0)).toNat ≤ mg r * 2 ^ (-((k : Int) + e + e0)).toNat := Nat.mul_le_mul_right _ (mg_pos hr0)
  have h7 : (2 : Nat) ^ 53 = 9007199254740992 := by decide
  omega
theorem mul_comm64 {x y : Nat} (hx : Fin64 x) (hy : Fin64 y) : Ieee.double.mul x y = Ieee.double.mul y x := by
 obtain ⟨m, p, e1, _⟩ := read_fin hx
 obtain ⟨n, q, e2, _⟩ := read_fin hy
 unfold Ieee.Format.mul
 rw [e1, e2]
 simp only [Ieee.Datum.product]
 rw [Bool.xor_comm, Nat.mul_comm, Int.add_comm]
end Go.Flo
namespace Go.Proofs.Ytbdccebpehogjaa
open Go Go.Abs Go.Flo
variable {base : Prot}
set_option maxRecDepth 20000
attribute [local irreducible] vc
attribute [local simp] pureS touchV freezeL fuel shiftV vsBits sFrom
def Tna : Tab := ((((Tab.none.ext 50 sFrom).ext 51 vsBits).with 30 (pureS vsNaN)).with 49 (pureS sCopy))
theorem Tna_ok : TabOk Try.prog base Tna := Tab.with_ok (Tab.with_ok (Tab.ext_ok (Tab.ext_ok Tab.none_ok from_at) bits_at) isnan_ok) copy_ok
theorem Tna_mu (f : FuncId) (a : List AVal) (H : Heap) : Tna.mu f a H = none := (rfl)
theorem Tna_fns : Tna.ex 51 = vsBits ∧ Tna.ex 50 = sFrom ∧ Tna.fn 30 = pureS vsNaN ∧ Tna.fn 49 = pureS sCopy := ⟨rfl, rfl, rfl, rfl⟩
def NextOk (x y : Nat) : Prop := Fin64 x ∧ NoNaN y
instance (x y : Nat) : Decidable (NextOk x y) := inferInstanceAs (Decidable ((_ ∧ _) ∧ (_ ∧ _)))
def sNext : List PVal → Option PVal
 | [.flt .f64 x, .flt .f64 y] => if NextOk x y then some (.flt .f64 (nxtW x y)) else none
 | _ => none
theorem next_ok : FnOk Try.prog base 18 (pureS sNext) := by
 refine pure_of_vc vmix Tna_ok globNone low18 fun args z hs hf => ?_
 unfold sNext at hs
 split at hs
 case h_2 => cases hs
 rename_i x y
 split at hs
 case isFalse => cases hs
 rename_i hxy
 cases hs
 obtain ⟨hx, hy⟩ := hxy
 refine ⟨by simp [lf18], ?_⟩
 have hx2 := hx.2
 have hy2 := hy.2
 have n1 : vsNaN [.flt .f64 x] = some (.bool false) := by simp only [vsNaN]; rw [if_pos hx.1, decide_eq_false (by omega)]
 have n2 : vsNaN [.flt .f64 y] = some (.bool false) := by simp only [vsNaN]; rw [if_pos hy.1, decide_eq_false (by omega)]
 have z0 : NoNaN 0 := ⟨by decide, by decide⟩
 have k0 : ky 0 = 0 := by decide
 have c1 := (ord_lt hx.noNaN hy).2.2.2.2.1
 have c2 := (ord_lt hx.noNaN z0).2.2.2.2.1
 have c3 := (ord_lt hy hx.noNaN).2.1
 have c4 := (ord_lt hx.noNaN z0).2.1
 have c5 : sCopy [.flt .f64 1, .flt .f64 y] = some (.flt .f64 (wd (sg y) 1)) := if_pos ⟨by decide, hy.1⟩
 rw [k0] at c2 c4
 unfold nxtW
 have hz := @ky_zero x
 by_cases h1 : ky x = ky y
 ·rw [if_pos h1]
  rw [decide_eq_true h1] at c1
  simp [lf18, Tna_mu, Tna_fns, n1, n2, c1]
 rw [if_neg h1]
 rw [decide_eq_false h1] at c1
 by_cases h2 : rg x = 0
 ·rw [if_pos h2]
  rw [decide_eq_true (hz.2 h2)] at c2
  generalize wd (sg y) 1 = W at *
  simp [lf18, Tna_mu, Tna_fns, n1, n2, c1, c2, c5]
 rw [if_neg h2]
 rw [decide_eq_false (fun h => h2 (hz.1 h))] at c2
 have w1 : IntKind.u64.wrap ((x : Int) + 1) = ((x + 1 : Nat) : Int) := by
  rcases word_cases hx.1 with ⟨a1, a2, a3⟩ | ⟨a1, a2, a3⟩ <;> (rw [IntKind.wrap_u64]; omega)
 have w2 : IntKind.u64.wrap ((x : Int) - 1) = ((x - 1 : Nat) : Int) := by
  rcases word_cases hx.1 with ⟨a1, a2, a3⟩ | ⟨a1, a2, a3⟩ <;> (rw [IntKind.wrap_u64]; omega)
 generalize x + 1 = X1 at *
 generalize x - 1 = X2 at *
 generalize decide (ky x < ky y) = A at *
 generalize decide (0 < ky x) = B at *
 cases A <;> cases B <;> simp [lf18, Tna_mu, Tna_fns, allP, n1, n2, c1, c2, c3, c4, w1, w2]
end Go.Proofs.Ytbdccebpehogjaa

/-
 What math.Ldexp and Frexp compute.
-/
namespace Go.Flo
theorem ld_one {r : Nat} (s : Bool) (h0 : 0 < r) (h : r < 9218868437227405312) : Ieee.double.mul 4607182418800017408 (wd s r) = some (wd s r) := by
 have e : (4607182418800017408 : Nat) = wd false (1023 * 4503599627370496) := by decide
 have hw := fin_wd s h
 have h1 : Fin64 4607182418800017408 := by rw [e]; exact fin_wd false (by decide)
 rw [mul_comm64 h1 hw, e]
 have := mul_pow (x := wd s r) (E := 1023) (r := r) hw (by rw [rg_wd s (by omega)]; exact h0) (by decide) (by decide) h (by rw [rg_wd s (by omega), show 51 + 1023 = 1074 by decide]; unfold sc; rfl)
 rw [sg_wd s (by omega)] at this
 exact this
theorem ld_deep {r r' : Nat} (s : Bool) (h0 : 0 < r') (h' : r' < 9218868437227405312) (h : r < 9218868437227405312) (he : mg r' = mg r * 2 ^ 53) : Ieee.double.mul 4368491638549381120 (wd s r') = some (wd s r) := by
 have e : (4368491638549381120 : Nat) = wd false (970 * 4503599627370496) := by decide
 have hw := fin_wd s h'
 have h1 : Fin64 4368491638549381120 := by rw [e]; exact fin_wd false (by decide)
 rw [mul_comm64 h1 hw, e]
 have := mul_pow (x := wd s r') (E := 970) (r := r) hw (by rw [rg_wd s (by omega)]; exact h0) (by decide) (by decide) h (by
  rw [rg_wd s (by omega), he, show 51 + 970 = 1021 by decide, Nat.mul_assoc, ← Nat.pow_add 2 53 1021, show 53 + 1021 = 1074 by decide]; unfold sc; rfl)
 rw [sg_wd s (by omega)] at this
 exact this
end Go.Flo
namespace Go.Proofs.Ytbdccebpehogjaa
open Go Go.Abs Go.Flo
variable {base : Prot}
set_option maxRecDepth 20000
attribute [local irreducible] vc
attribute [local simp] pureS touchV freezeL fuel shiftV vsBits sFrom
def NormOk (x : Nat) : Prop := Fin64 x ∧ 0 < rg x
instance (x : Nat) : Decidable (NormOk x) := inferInstanceAs (Decidable ((_ ∧ _) ∧ _))
def sNorm : List PVal → Option PVal
 | [.flt .f64 x] => if NormOk x then some (.tup [.flt .f64 (nrmW x), .int .i64 (nrmE x)]) else none
 | _ => none
theorem norm_ok : FnOk Try.prog base 81 (pureS sNorm) := by
 refine pure_of_vc vmix Tii_ok globNone low81 fun args z hs hf => ?_
 unfold sNorm at hs
 split at hs
 case h_2 => cases hs
 rename_i x
 split at hs
 case isFalse => cases hs
 rename_i hx
 cases hs
 obtain ⟨hx, h0⟩ := hx
 refine ⟨by simp [lf81], ?_⟩
 have hx2 := hx.2
 have a1 : sAbs [.flt .f64 x] = some (.flt .f64 (rg x)) := if_pos hx.1
 have c1 := (ord_lt (a := rg x) (b := 4503599627370496) ⟨by omega, by unfold rg at hx2 ⊢; omega⟩ ⟨by decide, by decide⟩).1
 have k1 : ky 4503599627370496 = 4503599627370496 := by decide
 have k2 : ky (rg x) = rg x := by
  have := ky_wd false (r := rg x) (by omega)
  simpa [wd] using this
 rw [k1, k2] at c1
 have m1 := nrm_mul hx h0
 unfold nrmW nrmE at *
 by_cases h : rg x < 4503599627370496
 ·have m2 := m1 h
  rw [if_pos h] at m2
  rw [if_pos h, if_pos h]
  rw [decide_eq_true (by omega)] at c1
  have m3 : binF .mul .f64 x 4841369599423283200 = some (.flt .f64 (wd (sg x) (dn (rg x * 4503599627370496)))) := by
   simp only [binF, fmt64, m2, Option.map_some]
  generalize wd (sg x) (dn (rg x * 4503599627370496)) = W at *
  generalize rg x = R at *
  simp [lf81, Tii_mu, Tii_1, a1, c1, m3]
 ·rw [if_neg h, if_neg h]
  rw [decide_eq_false (by omega)] at c1
  generalize rg x = R at *
  simp [lf81, Tii_mu, Tii_1, a1, c1]
def Tld : Tab := ((((((Tab.none.ext 50 sFrom).ext 51 vsBits).with 30 (pureS vsNaN)).with 31 (pureS sInf2)).with 81 (pureS sNorm)).with 49 (pureS sCopy)).with 19 (pureS sInfW)
theorem Tld_ok : TabOk Try.prog base Tld := Tab.with_ok (Tab.with_ok (Tab.with_ok (Tab.with_ok (Tab.with_ok (Tab.ext_ok (Tab.ext_ok Tab.none_ok from_at) bits_at) isnan_ok) isinf_ok) norm_ok) copy_ok) infw_ok
theorem Tld_mu (f : FuncId) (a : List AVal) (H : Heap) : Tld.mu f a H = none := (rfl)
theorem Tld_fns : Tld.ex 51 = vsBits ∧ Tld.ex 50 = sFrom ∧ Tld.fn 30 = pureS vsNaN ∧ Tld.fn 31 = pureS sInf2 ∧ Tld.fn 81 = pureS sNorm := ⟨rfl, rfl, rfl, rfl, rfl⟩
theorem shr52 {n : Nat} : shiftI .shr .u64 (n : Int) 52 = some (.int .u64 ((n / 4503599627370496 : Nat) : Int)) := by
 unfold shiftI
 rw [if_neg (by decide)]
 show some (PVal.int .u64 ((n : Int).fdiv (2 ^ 52))) = _
 rw [Int.fdiv_eq_ediv_of_nonneg _ (by decide)]
 rfl
theorem and2047 {k : IntKind} {n : Nat} (hk : k = .i64 ∨ k = .u64) (h : n < 4096) : binI .and k (n : Int) 2047 = some (.int k ((n % 2048 : Nat) : Int)) := by
 have e : n &&& 2047 = n % 2048 := Nat.and_two_pow_sub_one_eq_mod n 11
 rcases hk with rfl | rfl
 ·simp only [binI]
  show some (PVal.int .i64 (IntKind.i64.wrap (((BitVec.ofInt 64 (n : Int)) &&& (BitVec.ofInt 64 ((2047 : Nat) : Int))).toNat : Nat))) = _
  rw [bv_and (by omega) (by decide), e, IntWalk.i64_in _ (by omega)]
 ·simp only [binI]
  show some (PVal.int .u64 (IntKind.u64.wrap (((BitVec.ofInt 64 (n : Int)) &&& (BitVec.ofInt 64 ((2047 : Nat) : Int))).toNat : Nat))) = _
  rw [bv_and (by omega) (by decide), e, u64_wrap (by omega)]
theorem shl52 {n : Nat} (h : n < 4096) : shiftI .shl .u64 (n : Int) 52 = some (.int .u64 ((n * 4503599627370496 : Nat) : Int)) := by
 unfold shiftI
 rw [if_neg (by decide)]
 show some (PVal.int .u64 (IntKind.u64.wrap ((n : Int) * 2 ^ 52))) = _
 have e : (n : Int) * 2 ^ 52 = ((n * 4503599627370496 : Nat) : Int) := by omega
 rw [e, u64_wrap (by omega)]
theorem wd_fields (s : Bool) {k q : Nat} (h1 : 4503599627370496 ≤ q) (h2 : q < 9007199254740992) (h3 : k * 4503599627370496 + q < 9218868437227405312) :
  wd s (k * 4503599627370496 + q) / 4503599627370496 = (if s = true then 2048 else 0) + (k + 1) ∧ wd s (k * 4503599627370496 + q) / 9223372036854775808 = (if s = true then 1 else 0) ∧ wd s (k * 4503599627370496 + q) % 4503599627370496 = q - 4503599627370496 := by
 unfold wd
 cases s
 ·simp only [Bool.false_eq_true, if_false]; omega
 ·simp only [if_true]; omega
theorem small_rung {F q : Nat} (h : F < 53) (h1 : 4503599627370496 ≤ q) (h2 : q < 9007199254740992) : 0 < F * 4503599627370496 + q ∧ F * 4503599627370496 + q < 9218868437227405312 := by omega
theorem field_wd (s : Bool) {F q : Nat} (h1 : 4503599627370496 ≤ q) : (if s = true then 1 else 0) * 9223372036854775808 + ((F + 1) * 4503599627370496 + (q - 4503599627370496)) = wd s (F * 4503599627370496 + q) := by
 unfold wd
 cases s
 ·rw [if_neg (by decide), if_neg (by decide)]; omega
 ·rw [if_pos rfl, if_pos rfl]; omega
theorem b_add {k : IntKind} {a b : Int} : binI .add k a b = some (.int k (k.wrap (a + b))) := (rfl)
theorem b_sub {k : IntKind} {a b : Int} : binI .sub k a b = some (.int k (k.wrap (a - b))) := (rfl)
theorem b_lss {k : IntKind} {a b : Int} : binI .lss k a b = some (.bool (decide (a < b))) := (rfl)
theorem b_gtr {k : IntKind} {a b : Int} : binI .gtr k a b = some (.bool (decide (b < a))) := (rfl)
theorem b_geq {k : IntKind} {a b : Int} : binI .geq k a b = some (.bool (decide (b ≤ a))) := (rfl)
theorem b_eql {k : IntKind} {a b : Int} : binI .eql k a b = some (.bool (a == b)) := (rfl)
open Classical in
noncomputable def sLdexp : List PVal → Option PVal
 | [.flt .f64 b, .int .i64 e] => if Fin64 b ∧ -100000 ≤ e ∧ e ≤ 100000 then (if rg b = 0 then some (.flt .f64 b) else if LdOk b e (dn (mg (rg b) * 2 ^ e.toNat / 2 ^ (-e).toNat)) then some (.flt .f64 (wd (sg b) (dn (mg (rg b) * 2 ^ e.toNat / 2 ^ (-e).toNat)))) else none) else none
 | _ => none
theorem ldexp_at {b r : Nat} {e : Int} (hb : Fin64 b) (he : -100000 ≤ e ∧ e ≤ 100000) (h0 : 0 < rg b) (h : LdOk b e r) : sLdexp [.flt .f64 b, .int .i64 e] = some (.flt .f64 (wd (sg b) r)) := by
 have hr : dn (mg (rg b) * 2 ^ e.toNat / 2 ^ (-e).toNat) = r := by
  rw [← h.1, Nat.mul_div_cancel _ (two_pos _), dn_mg]
 simp only [sLdexp]
 rw [if_pos ⟨hb, he.1, he.2⟩, if_neg (by omega), hr, if_pos h]
theorem ldexp_zero {b : Nat} {e : Int} (hb : Fin64 b) (he : -100000 ≤ e ∧ e ≤ 100000) (h0 : rg b = 0) : sLdexp [.flt .f64 b, .int .i64 e] = some (.flt .f64 b) := by
 simp only [sLdexp]
 rw [if_pos ⟨hb, he.1, he.2⟩, if_pos h0]
theorem sNaN_fin {x : Nat} (h : Fin64 x) : vsNaN [.flt .f64 x] = some (.bool false) := by
 have := h.2
 simp only [vsNaN]; rw [if_pos h.1, decide_eq_false (by omega)]
theorem infS_fin {x : Nat} (h : Fin64 x) (s : Int) : infS x s = false := by
 have := h.2
 unfold infS
 split
 ·exact decide_eq_false (by omega)
 split
 ·exact decide_eq_false fun e => by rw [e, rg_wd _ (by decide)] at this; omega
 ·exact decide_eq_false fun e => by rw [e, rg_wd _ (by decide)] at this; omega
theorem sInf_fin {x : Nat} (h : Fin64 x) (s : Int) : sInf2 [.flt .f64 x, .int .i64 s] = some (.bool false) := by
 simp only [sInf2]; rw [if_pos h.1, infS_fin h]
theorem eq_zero {x : Nat} (h : NoNaN x) : binF .eql .f64 x 0 = some (.bool (decide (rg x = 0))) := by
 have k0 : ky 0 = 0 := by decide
 rw [(ord_lt h ⟨by decide, by decide⟩).2.2.2.2.1, k0]
 congr 2
 exact decide_eq_decide.2 ky_zero
theorem ldexp_in_ok : FnOk Try.prog base 60 (pureS sLdexp) := by
 refine pure_of_vc vmix Tld_ok globNone low60 fun args z hs hf => ?_
 unfold sLdexp at hs
 split at hs
 case h_2 => cases hs
 rename_i b e
 split at hs
 case isFalse => cases hs
 rename_i hbe
 obtain ⟨hb, he1, he2⟩ := hbe
 refine ⟨by simp [lf60], ?_⟩
 have n1 := sNaN_fin hb
 have n2 := sInf_fin hb 0
 have c1 := eq_zero hb.noNaN
 split at hs
 ·rename_i h0
  cases hs
  rw [decide_eq_true h0] at c1
  simp [lf60, Tld_mu, Tld_fns, c1]
 rename_i h0
 rw [decide_eq_false h0] at c1
 split at hs
 case isFalse => cases hs
 rename_i hld
 cases hs
 generalize dn (mg (rg b) * 2 ^ e.toNat / 2 ^ (-e).toNat) = r at hld ⊢
 have h0' : 0 < rg b := by omega
 have n3 : sNorm [.flt .f64 b] = some (.tup [.flt .f64 (nrmW b), .int .i64 (nrmE b)]) := if_pos ⟨hb, h0'⟩
 have hE : nrmE b = 0 ∨ nrmE b = -52 := by unfold nrmE; split <;> simp
 obtain ⟨k, q, hq1, hq2, hkq, hw, hq⟩ := nrm_facts hb h0'
 obtain ⟨hr0, hpos, hneg⟩ := ld_facts hld h0' hq1 hq2 (by omega) hq
 have hr2 := hld.2
 rw [hw] at n3
 obtain ⟨f1, f2, f3⟩ := wd_fields (sg b) hq1 hq2 hkq
 have hN : wd (sg b) (k * 4503599627370496 + q) < 18446744073709551616 := wd_lt _ (by omega)
 have s1 := @shr52 (wd (sg b) (k * 4503599627370496 + q))
 rw [f1] at s1
 have s2 := and_clear64 hN
 rw [f2, f3] at s2
 have k1 : k + 1 < 2048 := by omega
 generalize nrmE b = e0 at *
 generalize hW : wd (sg b) (k * 4503599627370496 + q) = W at *
 generalize hs1 : (if sg b = true then 2048 else 0) + (k + 1) = S1 at *
 have hS1 : S1 % 2048 = k + 1 ∧ S1 < 4096 := by rw [← hs1]; split <;> omega
 have s3 := @and2047 .i64 S1 (.inl rfl) hS1.2
 rw [hS1.1] at s3
 have w0 : IntKind.i64.wrap (S1 : Int) = S1 := IntWalk.i64_in _ (by omega)
 have w1 : IntKind.i64.wrap (e + e0) = e + e0 := IntWalk.i64_in _ (by omega)
 have w2 : IntKind.i64.wrap (((k + 1 : Nat) : Int) - 1023) = (k : Int) - 1022 := by rw [IntWalk.i64_in _ (by omega)]; omega
 have w3 : IntKind.i64.wrap (e + e0 + ((k : Int) - 1022)) = (k : Int) + e + e0 - 1022 := by rw [IntWalk.i64_in _ (by omega)]; omega
 by_cases hf0 : 0 ≤ (k : Int) + e + e0
 ·obtain ⟨hr, hf1⟩ := hpos hf0
  obtain ⟨F, hF⟩ : ∃ F : Nat, (k : Int) + e + e0 = F := ⟨((k : Int) + e + e0).toNat, by omega⟩
  rw [hF] at hr w3 hf1 hf0
  rw [Int.toNat_natCast] at hr
  have w4 : IntKind.i64.wrap ((F : Int) - 1022 + 1023) = ((F + 1 : Nat) : Int) := by rw [IntWalk.i64_in _ (by omega)]; omega
  have w5 : IntKind.u64.wrap ((F + 1 : Nat) : Int) = ((F + 1 : Nat) : Int) := u64_wrap (by omega)
  have s4 := shl52 (n := F + 1) (by omega)
  have s5 := or_field64 (s := if sg b = true then 1 else 0) (f := q - 4503599627370496) (E := F + 1) (by split <;> decide) (by omega) (by omega)
  rw [field_wd (sg b) hq1, ← hr] at s5
  have m1 : binF .mul .f64 4607182418800017408 (wd (sg b) r) = some (.flt .f64 (wd (sg b) r)) := by
   simp only [binF, fmt64, ld_one (sg b) hr0 hr2, Option.map_some]
  have i1 : ((F : Int) - 1022 < -1075) = False := by simp; omega
  have i2 : (1023 < (F : Int) - 1022) = False := by simp; omega
  have i3 : ((F : Int) - 1022 < -1022) = False := by simp; omega
  obtain ⟨V, hV⟩ : ∃ V, V = wd (sg b) r := ⟨_, rfl⟩
  rw [← hV] at s5 m1 ⊢
  obtain ⟨A1, hA1⟩ : ∃ A1, A1 = (if sg b = true then 1 else 0) * 9223372036854775808 + (q - 4503599627370496) := ⟨_, rfl⟩
  rw [← hA1] at s2 s5
  obtain ⟨A2, hA2⟩ : ∃ A2, A2 = (F + 1) * 4503599627370496 := ⟨_, rfl⟩
  rw [← hA2] at s4 s5
  generalize ((F + 1 : Nat) : Int) = G at *
  generalize ((k + 1 : Nat) : Int) = K1 at *
  simp [lf60, Tld_mu, Tld_fns, allP, -binI, b_add, b_sub, b_lss, b_gtr, n1, n2, n3, c1, s1, s2, s3, s4, s5, w0, w1, w2, w3, w4, w5, i1, i2, i3, m1]
 ·obtain ⟨hr, hf1⟩ := hneg (by omega)
  obtain ⟨F, hF⟩ : ∃ F : Nat, (k : Int) + e + e0 = (F : Int) - 53 := ⟨((k : Int) + e + e0 + 53).toNat, by omega⟩
  have h53 : F < 53 := by omega
  rw [hF] at hr w3 hf1 hf0
  have hmg : mg (F * 4503599627370496 + q) = mg r * 2 ^ 53 := by
   rw [mg_join hq1 (by omega), ← hr, Nat.mul_assoc, ← Nat.pow_add]
   congr 2
   omega
  have w3' : IntKind.i64.wrap ((F : Int) - 53 - 1022 + 53) = (F : Int) - 1022 := by rw [IntWalk.i64_in _ (by omega)]; omega
  have w4 : IntKind.i64.wrap ((F : Int) - 1022 + 1023) = ((F + 1 : Nat) : Int) := by rw [IntWalk.i64_in _ (by omega)]; omega
  have w5 : IntKind.u64.wrap ((F + 1 : Nat) : Int) = ((F + 1 : Nat) : Int) := u64_wrap (by omega)
  have s4 := shl52 (n := F + 1) (by omega)
  have s5 := or_field64 (s := if sg b = true then 1 else 0) (f := q - 4503599627370496) (E := F + 1) (by split <;> decide) (by omega) (by omega)
  rw [field_wd (sg b) hq1] at s5
  obtain ⟨hb1, hb2⟩ := small_rung h53 hq1 hq2
  have md := ld_deep (sg b) hb1 hb2 hr2 hmg
  have m1 : binF .mul .f64 4368491638549381120 (wd (sg b) (F * 4503599627370496 + q)) = some (.flt .f64 (wd (sg b) r)) := by
   simp only [binF, fmt64, md, Option.map_some]
  have i1 : ((F : Int) - 53 - 1022 < -1075) = False := by simp; omega
  have i2 : (1023 < (F : Int) - 53 - 1022) = False := by simp; omega
  have i3 : ((F : Int) - 53 - 1022 < -1022) = True := by simp; omega
  obtain ⟨V, hV⟩ : ∃ V, V = wd (sg b) r := ⟨_, rfl⟩
  rw [← hV] at m1 ⊢
  obtain ⟨V2, hV2⟩ : ∃ V, V = wd (sg b) (F * 4503599627370496 + q) := ⟨_, rfl⟩
  rw [← hV2] at s5 m1
  obtain ⟨A1, hA1⟩ : ∃ A1, A1 = (if sg b = true then 1 else 0) * 9223372036854775808 + (q - 4503599627370496) := ⟨_, rfl⟩
  rw [← hA1] at s2 s5
  obtain ⟨A2, hA2⟩ : ∃ A2, A2 = (F + 1) * 4503599627370496 := ⟨_, rfl⟩
  rw [← hA2] at s4 s5
  generalize ((F + 1 : Nat) : Int) = G at *
  generalize ((k + 1 : Nat) : Int) = K1 at *
  simp [lf60, Tld_mu, Tld_fns, allP, -binI, b_add, b_sub, b_lss, b_gtr, n1, n2, n3, c1, s1, s2, s3, s4, s5, w0, w1, w2, w3, w3', w4, w5, i1, i2, i3, m1]
noncomputable def Tlx : Tab := Tab.none.with 60 (pureS sLdexp)
theorem Tlx_ok : TabOk Try.prog base Tlx := Tab.with_ok Tab.none_ok ldexp_in_ok
theorem Tlx_mu (f : FuncId) (a : List AVal) (H : Heap) : Tlx.mu f a H = none := (rfl)
theorem Tlx_1 : Tlx.fn 60 = pureS sLdexp := (rfl)
theorem ldexp_ok : FnOk Try.prog base 29 (pureS sLdexp) := by
 refine pure_of_vc vmix Tlx_ok globNone low29 fun args z hs hf => ?_
 have hs0 := hs
 unfold sLdexp at hs
 split at hs
 case h_2 => cases hs
 rename_i b e
 refine ⟨by simp [lf29], ?_⟩
 simp [lf29, Tlx_mu, Tlx_1, hs0]
def frW (b : Nat) : Nat := wd (sg b) (1022 * 4503599627370496 + rg (nrmW b) % 4503599627370496)
def frE (b : Nat) : Int := nrmE b + ((rg (nrmW b) / 4503599627370496 : Nat) : Int) - 1022
def sFrexp : List PVal → Option PVal
 | [.flt .f64 x] => if NormOk x then some (.tup [.flt .f64 (frW x), .int .i64 (frE x)]) else none
 | _ => none
theorem frexp_in_ok : FnOk Try.prog base 63 (pureS sFrexp) := by
 refine pure_of_vc vmix Tld_ok globNone low63 fun args z hs hf => ?_
 unfold sFrexp at hs
 split at hs
 case h_2 => cases hs
 rename_i b
 split at hs
 case isFalse => cases hs
 rename_i hn
 cases hs
 obtain ⟨hb, h0⟩ := hn
 refine ⟨by simp [lf63], ?_⟩
 have n1 := sNaN_fin hb
 have n2 := sInf_fin hb 0
 have c1 := eq_zero hb.noNaN
 rw [decide_eq_false (by omega)] at c1
 have n3 : sNorm [.flt .f64 b] = some (.tup [.flt .f64 (nrmW b), .int .i64 (nrmE b)]) := if_pos ⟨hb, h0⟩
 have hE : nrmE b = 0 ∨ nrmE b = -52 := by unfold nrmE; split <;> simp
 obtain ⟨k, q, hq1, hq2, hkq, hw, hq⟩ := nrm_facts hb h0
 have hrg : rg (nrmW b) = k * 4503599627370496 + q := by rw [hw, rg_wd _ (by omega)]
 unfold frW frE
 rw [hrg]
 rw [hw] at n3
 obtain ⟨f1, f2, f3⟩ := wd_fields (sg b) hq1 hq2 hkq
 have hN : wd (sg b) (k * 4503599627370496 + q) < 18446744073709551616 := wd_lt _ (by omega)
 have s1 := @shr52 (wd (sg b) (k * 4503599627370496 + q))
 rw [f1] at s1
 have s2 := and_clear64 hN
 rw [f2, f3] at s2
 have e1 : (k * 4503599627370496 + q) / 4503599627370496 = k + 1 := by omega
 have e2 : (k * 4503599627370496 + q) % 4503599627370496 = q - 4503599627370496 := by omega
 rw [e1, e2]
 have k1 : k + 1 < 2048 := by omega
 generalize nrmE b = e0 at *
 obtain ⟨W, hW⟩ : ∃ W, W = wd (sg b) (k * 4503599627370496 + q) := ⟨_, rfl⟩
 rw [← hW] at n3 s1 s2
 generalize hs1 : (if sg b = true then 2048 else 0) + (k + 1) = S1 at *
 have hS1 : S1 % 2048 = k + 1 ∧ S1 < 4096 := by rw [← hs1]; split <;> omega
 have s3 := @and2047 .u64 S1 (.inr rfl) hS1.2
 rw [hS1.1] at s3
 have w0 : IntKind.i64.wrap ((k + 1 : Nat) : Int) = ((k + 1 : Nat) : Int) := IntWalk.i64_in _ (by omega)
 have w2 : IntKind.i64.wrap (((k + 1 : Nat) : Int) - 1023) = ((k + 1 : Nat) : Int) - 1023 := IntWalk.i64_in _ (by omega)
 have w3 : IntKind.i64.wrap (((k + 1 : Nat) : Int) - 1023 + 1) = ((k + 1 : Nat) : Int) - 1022 := by rw [IntWalk.i64_in _ (by omega)]; omega
 have w4 : IntKind.i64.wrap (e0 + (((k + 1 : Nat) : Int) - 1022)) = e0 + ((k + 1 : Nat) : Int) - 1022 := by rw [IntWalk.i64_in _ (by omega)]; omega
 have s5 := or_field64 (s := if sg b = true then 1 else 0) (f := q - 4503599627370496) (E := 1022) (by split <;> decide) (by omega) (by omega)
 rw [show ((1022 * 4503599627370496 : Nat) : Int) = 4602678819172646912 by decide] at s5
 have e5 : (if sg b = true then 1 else 0) * 9223372036854775808 + (1022 * 4503599627370496 + (q - 4503599627370496)) = wd (sg b) (1022 * 4503599627370496 + (q - 4503599627370496)) := by
  unfold wd
  cases sg b
  ·rw [if_neg (by decide), if_neg (by decide), Nat.zero_mul, Nat.zero_add]
  ·rw [if_pos rfl, if_pos rfl, Nat.one_mul]
 rw [e5] at s5
 obtain ⟨V, hV⟩ : ∃ V, V = wd (sg b) (1022 * 4503599627370496 + (q - 4503599627370496)) := ⟨_, rfl⟩
 rw [← hV] at s5 ⊢
 obtain ⟨A1, hA1⟩ : ∃ A1, A1 = (if sg b = true then 1 else 0) * 9223372036854775808 + (q - 4503599627370496) := ⟨_, rfl⟩
 rw [← hA1] at s2 s5
 generalize ((k + 1 : Nat) : Int) = K1 at *
 simp [lf63, Tld_mu, Tld_fns, allP, -binI, b_add, b_sub, b_lss, b_gtr, n1, n2, n3, c1, s1, s2, s3, s5, w0, w2, w3, w4]
def Tfx : Tab := Tab.none.with 63 (pureS sFrexp)
theorem Tfx_ok : TabOk Try.prog base Tfx := Tab.with_ok Tab.none_ok frexp_in_ok
theorem Tfx_mu (f : FuncId) (a : List AVal) (H : Heap) : Tfx.mu f a H = none := (rfl)
theorem Tfx_1 : Tfx.fn 63 = pureS sFrexp := (rfl)
theorem frexp_ok : FnOk Try.prog base 33 (pureS sFrexp) := by
 refine pure_of_vc vmix Tfx_ok globNone low33 fun args z hs hf => ?_
 have hs0 := hs
 unfold sFrexp at hs
 split at hs
 case h_2 => cases hs
 rename_i b
 split at hs
 case isFalse => cases hs
 rename_i hn
 cases hs
 refine ⟨by simp [lf33], ?_⟩
 simp [lf33, Tfx_mu, Tfx_1, hs0]
end Go.Proofs.Ytbdccebpehogjaa
