/-
  What rat's functions compute, part 1. AcvNo conditions beyond the lemmas' own hypotheses.
-/
import Derived.Test.YtbdccebpehogjaaRatA
import Derived.Test.YtbdccebpehogjaaQuickL
set_option linter.unusedSimpArgs false
set_option linter.unnecessarySimpa false
set_option linter.unusedVariables false
set_option linter.constructorNameAsVariable false

/-
 Fractions: how big answers get; the order against sums and products; what lies between.
-/
namespace Go.Proofs.Ytbdccebpehogjaa
open Go Go.Abs Go.Limbs
set_option maxRecDepth 20000
theorem Sm_mk {k : Nat} {z : Int} {d : Nat} (hz : len z.natAbs ≤ k) (hd : len d ≤ k) (h0 : d ≠ 0) : Sm k (mkRat z d) := by
 have h := zOf_sign z
 rw [← h]
 unfold Sm
 rw [mk_num _ _ h0, mk_den _ _ h0, zOf_abs]
 exact ⟨Nat.le_trans (len_mono (Nat.div_le_self _ _)) hz, Nat.le_trans (len_mono (Nat.div_le_self _ _)) hd⟩
theorem len_one : len 1 = 1 := by rw [len, limbs_small (by decide) (by decide)]; rfl
end Go.Proofs.Ytbdccebpehogjaa

/-
 rat: what is one, lowest terms, the order, signs.
-/
namespace Go.Proofs.Ytbdccebpehogjaa
open Go Go.Abs Go.Limbs
variable {base : Prot}
set_option maxRecDepth 20000
attribute [local irreducible] vc
attribute [local simp] pureS touchV freezeL fuel shiftV u64 au
theorem limbs_one : limbs 1 = [1] := limbs_small (by decide) (by decide)
theorem lenL (n : Nat) : (limbs n).length = len n := rfl
theorem len_beq {n : Nat} (h : n ≠ 0) : ((len n : Int) == 0) = false := beq_false_of_ne (by have : len n ≠ 0 := fun e => h (len_eq_zero.1 e); omega)
theorem len_pos' {n : Nat} (h : n ≠ 0) : 0 < len n := by have : len n ≠ 0 := fun e => h (len_eq_zero.1 e); omega
theorem cmpI_one {n : Nat} : (cmpI n 1 == 0) = decide (n = 1) := by
 unfold cmpI
 by_cases h : n < 1
 ·rw [if_pos h]; simp; omega
 ·rw [if_neg h]
  by_cases h2 : n = 1
  ·rw [if_pos h2]; simp [h2]
  ·rw [if_neg h2]; simp [h2]
theorem sOrder_one {n : Nat} (h : len n ≤ 100000) : sOrder [.lst ((limbs n).map u64), .lst [.int .u64 1]] = some (.int .i64 (cmpI n 1)) := by
 have := sOrder_num (a := n) (b := 1) h (by rw [len_one]; omega)
 rw [limbs_one] at this
 exact this
def sOne : List PVal → Option PVal
 | [] => some (.lst [.int .u64 1])
 | _ => none
theorem sOne_nil : sOne [] = some (.lst [.int .u64 1]) := rfl
def Tqo : Tab := Tab.none.with 34 (pureS sOf)
theorem Tqo_ok : TabOk Try.prog base Tqo := Tab.with_ok Tab.none_ok of_ok
theorem Tqo_mu (f : FuncId) (a : List AVal) (H : Heap) : Tqo.mu f a H = none := (rfl)
theorem Tqo_fn : Tqo.fn 34 = pureS sOf := (rfl)
theorem sOf_one : sOf [.int .i64 1] = some (.lst [.int .u64 1]) := by
 have h : sOf [.int .i64 1] = some (.lst ((ofL 1).map u64)) := rfl
 rw [ofL_num (by decide) (by decide)] at h
 rw [h, show Int.natAbs 1 = 1 from rfl, limbs_one]
 rfl
theorem qone_ok : FnOk Try.prog base 61 (pureS sOne) := by
 refine pure_of_vc hmix Tqo_ok globNone low61 fun args z hs hf => ?_
 unfold sOne at hs
 split at hs
 case h_2 => cases hs
 cases hs
 refine ⟨by simp [lf61], ?_⟩
 have h1 := sOf_one
 simp [lf61, h1, Tqo_mu, Tqo_fn]
def sQZero : List PVal → Option PVal
 | [] => some (ofQ 0).enc
 | _ => none
theorem sQZero_nil : sQZero [] = some (ofQ 0).enc := rfl
theorem ofQ_zero : ofQ 0 = ⟨false, [], [1]⟩ := by
 unfold ofQ
 rw [Rat.zero_num, Rat.zero_den, limbs_one]
 simp [limbs_zero]
def Tq1 : Tab := Tab.none.with 61 (pureS sOne)
theorem Tq1_ok : TabOk Try.prog base Tq1 := Tab.with_ok Tab.none_ok qone_ok
theorem Tq1_mu (f : FuncId) (a : List AVal) (H : Heap) : Tq1.mu f a H = none := (rfl)
theorem Tq1_fn : Tq1.fn 61 = pureS sOne := (rfl)
theorem qzero_ok : FnOk Try.prog base 32 (pureS sQZero) := by
 refine pure_of_vc hmix Tq1_ok globNone low32 fun args z hs hf => ?_
 unfold sQZero at hs
 split at hs
 case h_2 => cases hs
 cases hs
 refine ⟨by simp [lf32], ?_⟩
 have h1 := sOne_nil
 rw [ofQ_zero]
 simp [lf32, h1, Fr.enc, fillS, Tq1_mu, Tq1_fn]
def numF (x : Fr) : PVal := iP x.s x.n
theorem qnum_ok : FnOk Try.prog base 72 (pureS (f1 numF)) := by
 refine pure_of_vc hmix Tab.none_ok globNone low72 fun args z hs hf => ?_
 obtain ⟨x, wx, rfl, rfl⟩ := f1_some hs
 refine ⟨by simp [lf72], ?_⟩
 simp [lf72, Fr.enc, numF, iP, fillS]
def Tqv : Tab := (((Tab.none.with 61 (pureS sOne)).with 90 (pureS sValid)).with 66 (pureS sOrder)).with 65 (pureS sCommon)
theorem Tqv_ok : TabOk Try.prog base Tqv := Tab.with_ok (Tab.with_ok (Tab.with_ok (Tab.with_ok Tab.none_ok qone_ok) valid_ok) order_ok) common_ok
theorem Tqv_mu (f : FuncId) (a : List AVal) (H : Heap) : Tqv.mu f a H = none := (rfl)
theorem Tqv_fns : Tqv.fn 61 = pureS sOne ∧ Tqv.fn 90 = pureS sValid ∧ Tqv.fn 66 = pureS sOrder ∧ Tqv.fn 65 = pureS sCommon := ⟨rfl, rfl, rfl, rfl⟩
theorem qvalid_ok : FnOk Try.prog base 70 (pureS (f1 boolF)) := by
 refine pure_of_vc hmix Tqv_ok globNone low70 fun args z hs hf => ?_
 obtain ⟨x, wx, rfl, rfl⟩ := f1_some hs
 obtain ⟨s, n, d⟩ := x
 obtain ⟨wn, wd⟩ := wx
 simp only at wn wd
 refine ⟨by simp [lf70], ?_⟩
 have v1 := sValid_list wn
 have v2 := sValid_list wd
 have ho := sOne_nil
 simp only [Fr.enc, boolF, Fr.ok]
 cases o1 : okL n with
 | false => rw [o1] at v1; simp [lf70, v1, Tqv_mu, Tqv_fns]
 | true =>
  rw [o1] at v1
  cases o2 : okL d with
  | false => rw [o2] at v2; simp [lf70, v1, v2, Tqv_mu, Tqv_fns]
  | true =>
   rw [o2] at v2
   obtain ⟨a, rfl, ha⟩ := okL_true o1
   obtain ⟨b, rfl, hb⟩ := okL_true o2
   rw [val_limbs, val_limbs]
   by_cases b0 : b = 0
   ·subst b0
    rw [limbs_zero] at v2 ⊢
    simp only [List.map_nil] at v2 ⊢
    simp [lf70, v1, v2, Tqv_mu, Tqv_fns]
   ·have lb := len_beq b0
    have c1 := sOrder_one (n := b) (by omega)
    have c2 := sCommon_num (a := a) (b := b) (by omega) (by omega)
    have hg : len (Nat.gcd a b) ≤ 100000 := Nat.le_trans (len_mono (Nat.gcd_le_right _ (Nat.pos_of_ne_zero b0))) (by omega)
    have c3 := sOrder_one hg
    have g1 : b = 1 → Nat.gcd a b = 1 := fun e => by rw [e, Nat.gcd_one_right]
    obtain ⟨g, hgg⟩ : ∃ g, g = Nat.gcd a b := ⟨_, rfl⟩
    rw [← hgg] at c2 c3 g1 ⊢
    have e1 := cmpI_one (n := b)
    have e2 := cmpI_one (n := g)
    obtain ⟨p, hp⟩ : ∃ p, p = cmpI b 1 := ⟨_, rfl⟩
    obtain ⟨r, hr⟩ : ∃ p, p = cmpI g 1 := ⟨_, rfl⟩
    rw [← hp] at c1 e1
    rw [← hr] at c3 e2
    have e2' : (r == 0) = (g == 1) := e2
    have hb0' : decide (b ≠ 0) = true := decide_eq_true b0
    rw [hb0']
    by_cases a0 : a = 0
    ·subst a0
     rw [limbs_zero] at v1 c2 ⊢
     simp only [List.map_nil] at v1 c2 ⊢
     cases s with
     | true => simp [lf70, v1, v2, lenL, lb, Tqv_mu, Tqv_fns]
     | false =>
      by_cases hb1 : b = 1
      ·rw [decide_eq_true hb1] at e1
       have hgb : (g == 1) = true := by rw [g1 hb1]; rfl
       rw [hgb]
       simp [lf70, v1, v2, lenL, lb, ho, c1, e1, Tqv_mu, Tqv_fns]
      ·rw [decide_eq_false hb1] at e1
       simp [lf70, v1, v2, lenL, lb, ho, c1, c2, c3, e1, e2', Tqv_mu, Tqv_fns]
    ·have la := len_beq a0
     by_cases hb1 : b = 1
     ·rw [decide_eq_true hb1] at e1
      have hgb : (g == 1) = true := by rw [g1 hb1]; rfl
      rw [hgb]
      cases s <;> simp [lf70, v1, v2, lenL, la, lb, ho, c1, e1, a0, Tqv_mu, Tqv_fns]
     ·rw [decide_eq_false hb1] at e1
      cases s <;> simp [lf70, v1, v2, lenL, la, lb, ho, c1, c2, c3, e1, e2', a0, Tqv_mu, Tqv_fns]
def sLow : List PVal → Option PVal
 | [.bool s, .lst xs, .lst ys] => match decN xs, decN ys with | some a, some b => if b ≠ 0 then some (pairF (heldQ (mkRat (zOf s a) b))) else none | _, _ => none
 | _ => none
theorem sLow_num (s : Bool) {a b : Nat} (ha : len a ≤ 100000) (hb : len b ≤ 100000) (h0 : b ≠ 0) : sLow [.bool s, .lst ((limbs a).map u64), .lst ((limbs b).map u64)] = some (pairF (heldQ (mkRat (zOf s a) b))) := by
 simp only [sLow, decN_num ha, decN_num hb]
 rw [if_pos h0]
def Tlo : Tab := ((((Tab.none.with 61 (pureS sOne)).with 67 (pureS sQuot)).with 66 (pureS sOrder)).with 65 (pureS sCommon)).with 68 (pureS sClone)
theorem Tlo_ok : TabOk Try.prog base Tlo := Tab.with_ok (Tab.with_ok (Tab.with_ok (Tab.with_ok (Tab.with_ok Tab.none_ok qone_ok) quot_ok) order_ok) common_ok) clone_ok
theorem Tlo_mu (f : FuncId) (a : List AVal) (H : Heap) : Tlo.mu f a H = none := (rfl)
theorem Tlo_fns : Tlo.fn 61 = pureS sOne ∧ Tlo.fn 67 = pureS sQuot ∧ Tlo.fn 66 = pureS sOrder ∧ Tlo.fn 65 = pureS sCommon ∧ Tlo.fn 68 = pureS sClone := ⟨rfl, rfl, rfl, rfl, rfl⟩
theorem cmpI_ne {n : Nat} : (cmpI n 1 != 0) = !decide (n = 1) := by rw [← cmpI_one]; rfl
theorem qlow_ok : FnOk Try.prog base 36 (pureS sLow) := by
 refine pure_of_vc hmix Tlo_ok globNone low36 fun args z hs hf => ?_
 unfold sLow at hs
 split at hs
 case h_2 => cases hs
 rename_i s xs ys
 split at hs
 case h_2 => cases hs
 rename_i a b ha hb
 split at hs
 case isFalse => cases hs
 rename_i h0
 obtain ⟨rfl, hla⟩ := decN_some ha
 obtain ⟨rfl, hlb⟩ := decN_some hb
 cases hs
 refine ⟨by simp [lf36], ?_⟩
 rw [heldQ_mk s a h0]
 have c2 := sCommon_num hla hlb
 have hgl : len (Nat.gcd a b) ≤ 100000 := Nat.le_trans (len_mono (Nat.gcd_le_right _ (Nat.pos_of_ne_zero h0))) hlb
 have hg0 : Nat.gcd a b ≠ 0 := fun e => h0 (Nat.gcd_eq_zero_iff.1 e).2
 have c3 := sOrder_one hgl
 have e2 := cmpI_ne (n := Nat.gcd a b)
 have ho := sOne_nil
 obtain ⟨g, hg⟩ : ∃ g, g = Nat.gcd a b := ⟨_, rfl⟩
 rw [← hg] at c2 c3 e2 hgl hg0 ⊢
 have q1 := sQuot_num hla hgl hg0
 have q2 := sQuot_num hlb hgl hg0
 obtain ⟨m, hm⟩ : ∃ m, m = a / g := ⟨_, rfl⟩
 obtain ⟨k, hk⟩ : ∃ k, k = b / g := ⟨_, rfl⟩
 have hml : len m ≤ 100000 := by rw [hm]; exact Nat.le_trans (len_mono (Nat.div_le_self _ _)) hla
 have hkl : len k ≤ 100000 := by rw [hk]; exact Nat.le_trans (len_mono (Nat.div_le_self _ _)) hlb
 have m1 := sClone_num hml
 have m2 := sClone_num hkl
 rw [← hm, ← hk]
 rw [← hm] at q1
 rw [← hk] at q2
 obtain ⟨r, hr⟩ : ∃ p, p = cmpI g 1 := ⟨_, rfl⟩
 rw [← hr] at c3 e2
 by_cases hg1 : g = 1
 ·have hma : m = a := by rw [hm, hg1, Nat.div_one]
  have hkb : k = b := by rw [hk, hg1, Nat.div_one]
  rw [hma] at m1 ⊢
  rw [hkb] at m2 ⊢
  rw [decide_eq_true hg1] at e2
  by_cases h1 : len a ≤ 64
  ·have h1' : ¬ (64 : Int) < len a := by omega
   by_cases h2 : len b ≤ 64
   ·have h2' : ¬ (64 : Int) < len b := by omega
    cases s <;> simp [lf36, lenL, ho, c2, c3, e2, m1, m2, h1, h1', h2, h2', pairF, Fr.enc, fillS, Tlo_mu, Tlo_fns] <;> exact decide_eq_decide.2 Iff.rfl
   ·have h2' : (64 : Int) < len b := by omega
    simp [lf36, lenL, ho, c2, c3, e2, h1, h1', h2, h2', pairF, zF, Fr.enc, fillS, Tlo_mu, Tlo_fns]
  ·have h1' : (64 : Int) < len a := by omega
   simp [lf36, lenL, ho, c2, c3, e2, h1, h1', pairF, zF, Fr.enc, fillS, Tlo_mu, Tlo_fns]
 ·rw [decide_eq_false hg1] at e2
  by_cases h1 : len m ≤ 64
  ·have h1' : ¬ (64 : Int) < len m := by omega
   by_cases h2 : len k ≤ 64
   ·have h2' : ¬ (64 : Int) < len k := by omega
    cases s <;> simp [lf36, lenL, ho, c2, c3, e2, q1, q2, m1, m2, h1, h1', h2, h2', pairF, Fr.enc, fillS, Tlo_mu, Tlo_fns] <;> exact decide_eq_decide.2 Iff.rfl
   ·have h2' : (64 : Int) < len k := by omega
    simp [lf36, lenL, ho, c2, c3, e2, q1, q2, h1, h1', h2, h2', pairF, zF, Fr.enc, fillS, Tlo_mu, Tlo_fns]
  ·have h1' : (64 : Int) < len m := by omega
   simp [lf36, lenL, ho, c2, c3, e2, q1, q2, h1, h1', pairF, zF, Fr.enc, fillS, Tlo_mu, Tlo_fns]
end Go.Proofs.Ytbdccebpehogjaa

/-
 rat: the order, signs, sums, products, quotients.
-/
namespace Go.Proofs.Ytbdccebpehogjaa
open Go Go.Abs Go.Limbs
variable {base : Prot}
set_option maxRecDepth 20000
attribute [local irreducible] vc
attribute [local simp] pureS touchV freezeL fuel shiftV u64 au
theorem vF {x : Fr} (h : x.wf) : f1 boolF [x.enc] = some (.bool x.ok) := f1_at h
theorem numF_ofQ (q : Rat) : numF (ofQ q) = iN q.num := rfl
theorem nF (q : Rat) : f1 numF [(ofQ q).enc] = some (iN q.num) := by rw [f1_at (wf_ofQ q), numF_ofQ]
theorem Sm_z {k : Nat} {q : Rat} (h : Sm k q) : zl q.num ≤ k := h.1
theorem Sm_d {k : Nat} {q : Rat} (h : Sm k q) : zl (q.den : Int) ≤ k := by unfold zl; rw [Int.natAbs_natCast]; exact h.2
theorem zl_mul {z w : Int} : zl (z * w) ≤ zl z + zl w := by unfold zl; rw [Int.natAbs_mul]; exact len_mul _ _
theorem zl_add {z w : Int} : zl (z + w) ≤ max (zl z) (zl w) + 1 := by
 unfold zl
 exact Nat.le_trans (len_mono (Int.natAbs_add_le z w)) (len_add _ _)
theorem enc_ofQ (q : Rat) : (ofQ q).enc = .agg [.bool (decide (q.num < 0)), .lst ((limbs q.num.natAbs).map u64), .lst ((limbs q.den).map u64)] := rfl
theorem cmpQ_sgn (p : Rat) : cmpQ p 0 = sgnZ p.num := by
 unfold cmpQ cmpZ sgnZ
 simp
def Tqa : Tab := ((((Tab.none.with 70 (pureS (f1 boolF))).with 72 (pureS (f1 numF))).with 71 (pureS sISign)).with 36 (pureS sLow)).with 68 (pureS sClone)
theorem Tqa_ok : TabOk Try.prog base Tqa := Tab.with_ok (Tab.with_ok (Tab.with_ok (Tab.with_ok (Tab.with_ok Tab.none_ok qvalid_ok) qnum_ok) isign_ok) qlow_ok) clone_ok
theorem Tqa_mu (f : FuncId) (a : List AVal) (H : Heap) : Tqa.mu f a H = none := (rfl)
theorem Tqa_fns : Tqa.fn 70 = pureS (f1 boolF) ∧ Tqa.fn 72 = pureS (f1 numF) ∧ Tqa.fn 71 = pureS sISign ∧ Tqa.fn 36 = pureS sLow ∧ Tqa.fn 68 = pureS sClone := ⟨rfl, rfl, rfl, rfl, rfl⟩
def cmpP (x y : Fr) : PVal := .int .i64 (cmpF x y)
def signP (x : Fr) : PVal := .int .i64 (signF x)
def negP (x : Fr) : PVal := (negF x).enc
def addP (x y : Fr) : PVal := pairF (addF x y)
theorem qsign_ok : FnOk Try.prog base 40 (pureS (f1 signP)) := by
 refine pure_of_vc hmix Tqa_ok globNone low40 fun args z hs hf => ?_
 obtain ⟨x, wx, rfl, rfl⟩ := f1_some hs
 refine ⟨by simp [lf40], ?_⟩
 have v1 := vF wx
 cases ox : x.ok with
 | false => rw [ox] at v1; simp only [Fr.enc] at v1 ⊢; simp [lf40, v1, signP, signF, ox, Tqa_mu, Tqa_fns]
 | true =>
  rw [ox] at v1
  obtain ⟨p, hp, rfl⟩ := Fr.ok_of ox
  have e : signP (ofQ p) = .int .i64 (sgnZ p.num) := by unfold signP; rw [signF_num hp, cmpQ_sgn]
  rw [e]
  have n1 := nF p
  have s1 : sISign [iN p.num] = some (.int .i64 (sgnZ p.num)) := by
   have := sISign_list (s := decide (p.num < 0)) (wf_limbs p.num.natAbs)
   rw [okI_num (Sm_z hp), zL_num] at this
   exact this
  simp only [Fr.enc] at v1 n1 ⊢
  simp [lf40, v1, n1, s1, Tqa_mu, Tqa_fns]
end Go.Proofs.Ytbdccebpehogjaa
