/-
  What the reference's functions of fractions compute. No conditions beyond the lemmas' own hypotheses.
-/
import Derived.Test.YtepfpgnjpkcgmaaGreatRefP
import Derived.Test.YtepfpgnjpkcgmaaGreatWholeD
import Derived.Test.YtepfpgnjpkcgmaaGreatRatG
set_option linter.unusedSimpArgs false
set_option linter.unnecessarySimpa false
set_option linter.unusedVariables false
set_option linter.constructorNameAsVariable false

/-
 The reference's fractions: lowest terms, what is one, the order, signs.
-/
namespace Go.Proofs.YtepfpgnjpkcgmaaGreat
open Go Go.Abs Go.Limbs
variable {base : Prot}
set_option maxRecDepth 20000
attribute [local irreducible] vc
attribute [local simp] pureS touchV freezeL fuel shiftV u64 au
theorem sTrim_num {n : Nat} (h : len n ≤ 100000) : sTrim [.lst ((limbs n).map u64)] = some (.lst ((limbs n).map u64)) := by
 rw [sTrim_map (wf_limbs n) (by have : (limbs n).length = len n := rfl; omega), val_limbs]
theorem rone_ok : FnOk Tryz.prog base 118 (pureS sOne) := by
 refine pure_of_vc hmix Tab.none_ok globNone low118 fun args z hs hf => ?_
 unfold sOne at hs
 split at hs
 case h_2 => cases hs
 cases hs
 refine ⟨by simp [lf118], ?_⟩
 simp [lf118, fillS]
def sMade : List PVal → Option PVal
 | [.bool s, .lst xs, .lst ys] => match decN xs, decN ys with | some a, some b => if b ≠ 0 ∧ len a ≤ 80000 ∧ len b ≤ 80000 then some (ofQ (mkRat (zOf s a) b)).enc else none | _, _ => none
 | _ => none
theorem sMade_num (s : Bool) {a b : Nat} (ha : len a ≤ 80000) (hb : len b ≤ 80000) (h0 : b ≠ 0) : sMade [.bool s, .lst ((limbs a).map u64), .lst ((limbs b).map u64)] = some (ofQ (mkRat (zOf s a) b)).enc := by
 simp only [sMade, decN_num (show len a ≤ 100000 by omega), decN_num (show len b ≤ 100000 by omega)]
 rw [if_pos ⟨h0, ha, hb⟩]
def Trq : Tab := ((Tab.none.with 117 (pureS sGcdR)).with 167 (pureS sQuotR)).with 120 (pureS sTrim)
theorem Trq_ok : TabOk Tryz.prog base Trq := Tab.with_ok (Tab.with_ok (Tab.with_ok Tab.none_ok rgcd_ok) rdiv_ok) rtrim_ok
theorem Trq_mu (f : FuncId) (a : List AVal) (H : Heap) : Trq.mu f a H = none := (rfl)
theorem Trq_fns : Trq.fn 117 = pureS sGcdR ∧ Trq.fn 167 = pureS sQuotR ∧ Trq.fn 120 = pureS sTrim := ⟨rfl, rfl, rfl⟩
theorem rmade_ok : FnOk Tryz.prog base 156 (pureS sMade) := by
 refine pure_of_vc hmix Trq_ok globNone low156 fun args z hs hf => ?_
 unfold sMade at hs
 split at hs
 case h_2 => cases hs
 rename_i s xs ys
 split at hs
 case h_2 => cases hs
 rename_i a b ha hb
 split at hs
 case isFalse => cases hs
 rename_i hc
 obtain ⟨h0, la, lb⟩ := hc
 obtain ⟨rfl, _⟩ := decN_some ha
 obtain ⟨rfl, _⟩ := decN_some hb
 cases hs
 refine ⟨by simp [lf156], ?_⟩
 rw [ofQ_mk s a h0]
 have g1 := sGcdR_num (a := a) (b := b) (by omega) (by omega)
 have hgl : len (Nat.gcd a b) ≤ 80000 := Nat.le_trans (len_mono (Nat.gcd_le_right _ (Nat.pos_of_ne_zero h0))) lb
 have hg0 : Nat.gcd a b ≠ 0 := fun e => h0 (Nat.gcd_eq_zero_iff.1 e).2
 obtain ⟨g, hg⟩ : ∃ g, g = Nat.gcd a b := ⟨_, rfl⟩
 rw [← hg] at g1 hgl hg0 ⊢
 have q1 := sQuotR_num (a := a) (b := g) (by omega) (by omega) hg0
 have q2 := sQuotR_num (a := b) (b := g) (by omega) (by omega) hg0
 have hm : len (a / g) ≤ 80000 := Nat.le_trans (len_mono (Nat.div_le_self _ _)) la
 have hk : len (b / g) ≤ 80000 := Nat.le_trans (len_mono (Nat.div_le_self _ _)) lb
 have t1 := sTrim_num (n := a / g) (by omega)
 have t2 := sTrim_num (n := b / g) (by omega)
 obtain ⟨m, hm'⟩ : ∃ m, m = a / g := ⟨_, rfl⟩
 obtain ⟨k, hk'⟩ : ∃ m, m = b / g := ⟨_, rfl⟩
 rw [← hm'] at q1 t1 ⊢
 rw [← hk'] at q2 t2 ⊢
 simp only [Fr.enc]
 cases s <;> simp [lf156, lenL, g1, q1, q2, t1, t2, fillS, Trq_mu, Trq_fns] <;> exact decide_eq_decide.2 Iff.rfl
def Trn : Tab := (Tab.none.with 178 (pureS sIV)).with 156 (pureS sMade)
theorem Trn_ok : TabOk Tryz.prog base Trn := Tab.with_ok (Tab.with_ok Tab.none_ok rivalid_ok) rmade_ok
theorem Trn_mu (f : FuncId) (a : List AVal) (H : Heap) : Trn.mu f a H = none := (rfl)
theorem Trn_fns : Trn.fn 178 = pureS sIV ∧ Trn.fn 156 = pureS sMade := ⟨rfl, rfl⟩
theorem rnew_ok : FnOk Tryz.prog base 141 (pureS sNew) := by
 refine pure_of_vc hmix Trn_ok globNone low141 fun args z hs hf => ?_
 unfold sNew at hs
 split at hs
 case h_2 => cases hs
 rename_i s xs t ys
 split at hs
 case h_2 => cases hs
 rename_i a b ha hb
 obtain ⟨rfl, wa⟩ := decU_some ha
 obtain ⟨rfl, wb⟩ := decU_some hb
 cases hs
 refine ⟨by simp [lf141], ?_⟩
 have va := sIV_list (s := s) wa
 have vb := sIV_list (s := t) wb
 unfold newF
 cases oa : okI s a with
 | false => rw [oa] at va; simp [lf141, va, pairF, zF, Fr.enc, fillS, Trn_mu, Trn_fns]
 | true =>
  rw [oa] at va
  cases ob : okI t b with
  | false => rw [ob] at vb; simp [lf141, va, vb, pairF, zF, Fr.enc, fillS, Trn_mu, Trn_fns]
  | true =>
   rw [ob] at vb
   by_cases hb0 : b = []
   ·subst hb0
    simp only [List.map_nil] at vb
    simp [lf141, va, vb, pairF, zF, Fr.enc, fillS, Trn_mu, Trn_fns]
   ·obtain ⟨z, lz, rfl, rfl⟩ := okI_of oa
    obtain ⟨w, lw, rfl, rfl⟩ := okI_of ob
    rw [zL_num, zL_num]
    have hw0 : w.natAbs ≠ 0 := fun e => hb0 (by rw [e, limbs_zero])
    have hl := len_beq hw0
    have hS : Sm 64 (Rat.divInt z w) := Sm_divInt lz lw (by omega)
    rw [heldQ_ok hS]
    unfold zl at lz lw
    have L := sMade_num (decide (z < 0) != decide (w < 0)) (a := z.natAbs) (b := w.natAbs) (by omega) (by omega) hw0
    rw [mk_divInt] at L
    obtain ⟨R, hR⟩ : ∃ R, R = ofQ (Rat.divInt z w) := ⟨_, rfl⟩
    rw [← hR] at L ⊢
    obtain ⟨s, hs⟩ : ∃ s, s = decide (z < 0) := ⟨_, rfl⟩
    obtain ⟨t, ht⟩ : ∃ s, s = decide (w < 0) := ⟨_, rfl⟩
    rw [← hs] at va L ⊢
    rw [← ht] at vb L ⊢
    have hb : (s != t) = !(s == t) := by cases s <;> cases t <;> rfl
    simp only [pairF, Fr.enc] at L ⊢
    simp [lf141, va, vb, lenL, hl, hb0, L, ← hb, fillS, Trn_mu, Trn_fns]
def Tro : Tab := (Tab.none.with 142 (pureS sIOf)).with 141 (pureS sNew)
theorem Tro_ok : TabOk Tryz.prog base Tro := Tab.with_ok (Tab.with_ok Tab.none_ok riof_ok) rnew_ok
theorem Tro_mu (f : FuncId) (a : List AVal) (H : Heap) : Tro.mu f a H = none := (rfl)
theorem Tro_fns : Tro.fn 142 = pureS sIOf ∧ Tro.fn 141 = pureS sNew := ⟨rfl, rfl⟩
theorem rofR_ok : FnOk Tryz.prog base 82 (pureS sQOf) := by
 refine pure_of_vc hmix Tro_ok globNone low82 fun args z hs hf => ?_
 unfold sQOf at hs
 split at hs
 case h_2 => cases hs
 rename_i n d
 split at hs
 case isFalse => cases hs
 rename_i hc
 obtain ⟨⟨n1, n2⟩, d1, d2⟩ := hc
 cases hs
 refine ⟨by simp [lf82], ?_⟩
 by_cases h0 : d = 0
 ·subst h0
  have o1 : sIOf [.int .i64 0] = some (iN 0) := sIOf_at (by decide) (by decide)
  have o2 := sIOf_one
  have N := sNew_num (z := 0) (w := 1) (Nat.le_trans (zl_int (n := 0) (by decide) (by decide)) (by omega)) (by rw [zl_one]; omega) (by decide)
  rw [divInt_one, show ((0 : Int) : Rat) = 0 from rfl, heldQ_ok (by refine ⟨?_, ?_⟩; rw [Rat.zero_num]; show len 0 ≤ 64; rw [len_zero]; omega; rw [Rat.zero_den, len_one]; omega)] at N
  rw [Rat.divInt_zero]
  obtain ⟨R, hR⟩ : ∃ R, R = ofQ 0 := ⟨_, rfl⟩
  rw [← hR] at N ⊢
  simp only [pairF, Fr.enc] at N ⊢
  simp [lf82, o1, o2, N, fillS, Tro_mu, Tro_fns]
 ·have hb : (d == 0) = false := beq_false_of_ne h0
  have o1 := sIOf_at n1 n2
  have o2 := sIOf_at d1 d2
  have z1 := zl_int n1 n2
  have z2 := zl_int d1 d2
  have N := sNew_num (z := n) (w := d) (by omega) (by omega) h0
  rw [heldQ_ok (Sm_divInt (k := 64) (by omega) (by omega) (by omega))] at N
  obtain ⟨R, hR⟩ : ∃ R, R = ofQ (Rat.divInt n d) := ⟨_, rfl⟩
  rw [← hR] at N ⊢
  simp only [pairF, Fr.enc] at N ⊢
  simp [lf82, h0, hb, o1, o2, N, fillS, Tro_mu, Tro_fns]
def Trv2 : Tab := (((Tab.none.with 118 (pureS sOne)).with 115 (pureS sValid)).with 116 (pureS sOrder)).with 117 (pureS sGcdR)
theorem Trv2_ok : TabOk Tryz.prog base Trv2 := Tab.with_ok (Tab.with_ok (Tab.with_ok (Tab.with_ok Tab.none_ok rone_ok) rvalid_ok) rcmp_ok) rgcd_ok
theorem Trv2_mu (f : FuncId) (a : List AVal) (H : Heap) : Trv2.mu f a H = none := (rfl)
theorem Trv2_fns : Trv2.fn 118 = pureS sOne ∧ Trv2.fn 115 = pureS sValid ∧ Trv2.fn 116 = pureS sOrder ∧ Trv2.fn 117 = pureS sGcdR := ⟨rfl, rfl, rfl, rfl⟩
theorem rvalidR_ok : FnOk Tryz.prog base 50 (pureS (f1 boolF)) := by
 refine pure_of_vc hmix Trv2_ok globNone low50 fun args z hs hf => ?_
 obtain ⟨x, wx, rfl, rfl⟩ := f1_some hs
 obtain ⟨s, n, d⟩ := x
 obtain ⟨wn, wd⟩ := wx
 simp only at wn wd
 refine ⟨by simp [lf50], ?_⟩
 have v1 := sValid_list wn
 have v2 := sValid_list wd
 have ho := sOne_nil
 simp only [Fr.enc, boolF, Fr.ok]
 cases o1 : okL n with
 | false => rw [o1] at v1; simp [lf50, v1, Trv2_mu, Trv2_fns]
 | true =>
  rw [o1] at v1
  cases o2 : okL d with
  | false => rw [o2] at v2; simp [lf50, v1, v2, Trv2_mu, Trv2_fns]
  | true =>
   rw [o2] at v2
   obtain ⟨a, rfl, ha⟩ := okL_true o1
   obtain ⟨b, rfl, hb⟩ := okL_true o2
   rw [val_limbs, val_limbs]
   by_cases b0 : b = 0
   ·subst b0
    rw [limbs_zero] at v2 ⊢
    simp only [List.map_nil] at v2 ⊢
    simp [lf50, v1, v2, Trv2_mu, Trv2_fns]
   ·have lb := len_pos' b0
    have lbI : (0 : Int) < len b := by omega
    have c2 := sGcdR_num (a := a) (b := b) (by omega) (by omega)
    have hg : len (Nat.gcd a b) ≤ 100000 := Nat.le_trans (len_mono (Nat.gcd_le_right _ (Nat.pos_of_ne_zero b0))) (by omega)
    have c3 := sOrder_one hg
    obtain ⟨g, hgg⟩ : ∃ g, g = Nat.gcd a b := ⟨_, rfl⟩
    rw [← hgg] at c2 c3 ⊢
    have e2 : (cmpI g 1 == 0) = (g == 1) := cmpI_one (n := g)
    obtain ⟨r, hr⟩ : ∃ p, p = cmpI g 1 := ⟨_, rfl⟩
    rw [← hr] at c3 e2
    have hb0' : decide (b ≠ 0) = true := decide_eq_true b0
    rw [hb0']
    by_cases a0 : a = 0
    ·subst a0
     rw [limbs_zero] at v1 c2 ⊢
     simp only [List.map_nil] at v1 c2 ⊢
     cases s <;> simp [lf50, v1, v2, lenL, lb, lbI, ho, c2, c3, e2, Trv2_mu, Trv2_fns]
    ·have la := len_pos' a0
     have laI : (0 : Int) < len a := by omega
     cases s <;> simp [lf50, v1, v2, lenL, la, laI, lb, lbI, ho, c2, c3, e2, a0, Trv2_mu, Trv2_fns]
end Go.Proofs.YtepfpgnjpkcgmaaGreat

/-
 The reference's fractions: sums, differences, products, quotients.
-/
namespace Go.Proofs.YtepfpgnjpkcgmaaGreat
open Go Go.Abs Go.Limbs
variable {base : Prot}
set_option maxRecDepth 20000
attribute [local irreducible] vc
attribute [local simp] pureS touchV freezeL fuel shiftV u64 au
end Go.Proofs.YtepfpgnjpkcgmaaGreat
