/-
  What the reference's functions of fractions compute. No conditions beyond the lemmas' own hypotheses.
-/
import Derived.Test.YtgbjjikaenlkmaaGreatRefP
import Derived.Test.YtgbjjikaenlkmaaGreatWholeD
import Derived.Test.YtgbjjikaenlkmaaGreatRatG
set_option linter.unusedSimpArgs false
set_option linter.unnecessarySimpa false
set_option linter.unusedVariables false
set_option linter.constructorNameAsVariable false

/-
 The reference's fractions: lowest terms, what is one, the order, signs.
-/
namespace Go.Proofs.YtgbjjikaenlkmaaGreat
open Go Go.Abs Go.Limbs
variable {base : Prot}
set_option maxRecDepth 20000
attribute [local irreducible] vc
attribute [local simp] pureS touchV freezeL fuel shiftV u64 au
theorem sTrim_num {n : Nat} (h : len n ≤ 100000) : sTrim [.lst ((limbs n).map u64)] = some (.lst ((limbs n).map u64)) := by
 rw [sTrim_map (wf_limbs n) (by have : (limbs n).length = len n := rfl; omega), val_limbs]
def sMade : List PVal → Option PVal
 | [.bool s, .lst xs, .lst ys] => match decN xs, decN ys with | some a, some b => if b ≠ 0 ∧ len a ≤ 80000 ∧ len b ≤ 80000 then some (ofQ (mkRat (zOf s a) b)).enc else none | _, _ => none
 | _ => none
theorem sMade_num (s : Bool) {a b : Nat} (ha : len a ≤ 80000) (hb : len b ≤ 80000) (h0 : b ≠ 0) : sMade [.bool s, .lst ((limbs a).map u64), .lst ((limbs b).map u64)] = some (ofQ (mkRat (zOf s a) b)).enc := by
 simp only [sMade, decN_num (show len a ≤ 100000 by omega), decN_num (show len b ≤ 100000 by omega)]
 rw [if_pos ⟨h0, ha, hb⟩]
def Trq : Tab := ((Tab.none.with 103 (pureS sGcdR)).with 104 (pureS sQuotR)).with 66 (pureS sTrim)
theorem Trq_ok : TabOk Tryz.prog base Trq := Tab.with_ok (Tab.with_ok (Tab.with_ok Tab.none_ok rgcd_ok) rdiv_ok) rtrim_ok
theorem Trq_mu (f : FuncId) (a : List AVal) (H : Heap) : Trq.mu f a H = none := (rfl)
theorem Trq_fns : Trq.fn 103 = pureS sGcdR ∧ Trq.fn 104 = pureS sQuotR ∧ Trq.fn 66 = pureS sTrim := ⟨rfl, rfl, rfl⟩
theorem rmade_ok : FnOk Tryz.prog base 64 (pureS sMade) := by
 refine pure_of_vc hmix Trq_ok globNone low64 fun args z hs hf => ?_
 unfold sMade at hs
 split at hs
 case h_2 => cases hs
 rename_i s xs ys
 split at hs
 case h_2 => cases hs
 rename_i a b ha hb
 split at hs
 case isFalse => cases hs
 rename_i hc
 obtain ⟨h0, la, lb⟩ := hc
 obtain ⟨rfl, _⟩ := decN_some ha
 obtain ⟨rfl, _⟩ := decN_some hb
 cases hs
 refine ⟨by simp [lf64], ?_⟩
 rw [ofQ_mk s a h0]
 have g1 := sGcdR_num (a := a) (b := b) (by omega) (by omega)
 have hgl : len (Nat.gcd a b) ≤ 80000 := Nat.le_trans (len_mono (Nat.gcd_le_right _ (Nat.pos_of_ne_zero h0))) lb
 have hg0 : Nat.gcd a b ≠ 0 := fun e => h0 (Nat.gcd_eq_zero_iff.1 e).2
 obtain ⟨g, hg⟩ : ∃ g, g = Nat.gcd a b := ⟨_, rfl⟩
 rw [← hg] at g1 hgl hg0 ⊢
 have q1 := sQuotR_num (a := a) (b := g) (by omega) (by omega) hg0
 have q2 := sQuotR_num (a := b) (b := g) (by omega) (by omega) hg0
 have hm : len (a / g) ≤ 80000 := Nat.le_trans (len_mono (Nat.div_le_self _ _)) la
 have hk : len (b / g) ≤ 80000 := Nat.le_trans (len_mono (Nat.div_le_self _ _)) lb
 have t1 := sTrim_num (n := a / g) (by omega)
 have t2 := sTrim_num (n := b / g) (by omega)
 obtain ⟨m, hm'⟩ : ∃ m, m = a / g := ⟨_, rfl⟩
 obtain ⟨k, hk'⟩ : ∃ m, m = b / g := ⟨_, rfl⟩
 rw [← hm'] at q1 t1 ⊢
 rw [← hk'] at q2 t2 ⊢
 simp only [Fr.enc]
 cases s <;> simp [lf64, lenL, g1, q1, q2, t1, t2, fillS, Trq_mu, Trq_fns] <;> exact decide_eq_decide.2 Iff.rfl
def Trn : Tab := (Tab.none.with 63 (pureS sIV)).with 64 (pureS sMade)
theorem Trn_ok : TabOk Tryz.prog base Trn := Tab.with_ok (Tab.with_ok Tab.none_ok rivalid_ok) rmade_ok
theorem Trn_mu (f : FuncId) (a : List AVal) (H : Heap) : Trn.mu f a H = none := (rfl)
theorem Trn_fns : Trn.fn 63 = pureS sIV ∧ Trn.fn 64 = pureS sMade := ⟨rfl, rfl⟩
theorem rnew_ok : FnOk Tryz.prog base 37 (pureS sNew) := by
 refine pure_of_vc hmix Trn_ok globNone low37 fun args z hs hf => ?_
 unfold sNew at hs
 split at hs
 case h_2 => cases hs
 rename_i s xs t ys
 split at hs
 case h_2 => cases hs
 rename_i a b ha hb
 obtain ⟨rfl, wa⟩ := decU_some ha
 obtain ⟨rfl, wb⟩ := decU_some hb
 cases hs
 refine ⟨by simp [lf37], ?_⟩
 have va := sIV_list (s := s) wa
 have vb := sIV_list (s := t) wb
 unfold newF
 cases oa : okI s a with
 | false => rw [oa] at va; simp [lf37, va, pairF, zF, Fr.enc, fillS, Trn_mu, Trn_fns]
 | true =>
  rw [oa] at va
  cases ob : okI t b with
  | false => rw [ob] at vb; simp [lf37, va, vb, pairF, zF, Fr.enc, fillS, Trn_mu, Trn_fns]
  | true =>
   rw [ob] at vb
   by_cases hb0 : b = []
   ·subst hb0
    simp only [List.map_nil] at vb
    simp [lf37, va, vb, pairF, zF, Fr.enc, fillS, Trn_mu, Trn_fns]
   ·obtain ⟨z, lz, rfl, rfl⟩ := okI_of oa
    obtain ⟨w, lw, rfl, rfl⟩ := okI_of ob
    rw [zL_num, zL_num]
    have hw0 : w.natAbs ≠ 0 := fun e => hb0 (by rw [e, limbs_zero])
    have hl := len_beq hw0
    have hS : Sm 64 (Rat.divInt z w) := Sm_divInt lz lw (by omega)
    rw [heldQ_ok hS]
    unfold zl at lz lw
    have L := sMade_num (decide (z < 0) != decide (w < 0)) (a := z.natAbs) (b := w.natAbs) (by omega) (by omega) hw0
    rw [mk_divInt] at L
    obtain ⟨R, hR⟩ : ∃ R, R = ofQ (Rat.divInt z w) := ⟨_, rfl⟩
    rw [← hR] at L ⊢
    obtain ⟨s, hs⟩ : ∃ s, s = decide (z < 0) := ⟨_, rfl⟩
    obtain ⟨t, ht⟩ : ∃ s, s = decide (w < 0) := ⟨_, rfl⟩
    rw [← hs] at va L ⊢
    rw [← ht] at vb L ⊢
    have hb : (s != t) = !(s == t) := by cases s <;> cases t <;> rfl
    simp only [pairF, Fr.enc] at L ⊢
    simp [lf37, va, vb, lenL, hl, hb0, L, ← hb, fillS, Trn_mu, Trn_fns]
def Tro : Tab := (Tab.none.with 38 (pureS sIOf)).with 37 (pureS sNew)
theorem Tro_ok : TabOk Tryz.prog base Tro := Tab.with_ok (Tab.with_ok Tab.none_ok riof_ok) rnew_ok
theorem Tro_mu (f : FuncId) (a : List AVal) (H : Heap) : Tro.mu f a H = none := (rfl)
theorem Tro_fns : Tro.fn 38 = pureS sIOf ∧ Tro.fn 37 = pureS sNew := ⟨rfl, rfl⟩
theorem rofR_ok : FnOk Tryz.prog base 19 (pureS sQOf) := by
 refine pure_of_vc hmix Tro_ok globNone low19 fun args z hs hf => ?_
 unfold sQOf at hs
 split at hs
 case h_2 => cases hs
 rename_i n d
 split at hs
 case isFalse => cases hs
 rename_i hc
 obtain ⟨⟨n1, n2⟩, d1, d2⟩ := hc
 cases hs
 refine ⟨by simp [lf19], ?_⟩
 by_cases h0 : d = 0
 ·subst h0
  have o1 : sIOf [.int .i64 0] = some (iN 0) := sIOf_at (by decide) (by decide)
  have o2 := sIOf_one
  have N := sNew_num (z := 0) (w := 1) (Nat.le_trans (zl_int (n := 0) (by decide) (by decide)) (by omega)) (by rw [zl_one]; omega) (by decide)
  rw [divInt_one, show ((0 : Int) : Rat) = 0 from rfl, heldQ_ok (by refine ⟨?_, ?_⟩; rw [Rat.zero_num]; show len 0 ≤ 64; rw [len_zero]; omega; rw [Rat.zero_den, len_one]; omega)] at N
  rw [Rat.divInt_zero]
  obtain ⟨R, hR⟩ : ∃ R, R = ofQ 0 := ⟨_, rfl⟩
  rw [← hR] at N ⊢
  simp only [pairF, Fr.enc] at N ⊢
  simp [lf19, o1, o2, N, fillS, Tro_mu, Tro_fns]
 ·have hb : (d == 0) = false := beq_false_of_ne h0
  have o1 := sIOf_at n1 n2
  have o2 := sIOf_at d1 d2
  have z1 := zl_int n1 n2
  have z2 := zl_int d1 d2
  have N := sNew_num (z := n) (w := d) (by omega) (by omega) h0
  rw [heldQ_ok (Sm_divInt (k := 64) (by omega) (by omega) (by omega))] at N
  obtain ⟨R, hR⟩ : ∃ R, R = ofQ (Rat.divInt n d) := ⟨_, rfl⟩
  rw [← hR] at N ⊢
  simp only [pairF, Fr.enc] at N ⊢
  simp [lf19, h0, hb, o1, o2, N, fillS, Tro_mu, Tro_fns]
end Go.Proofs.YtgbjjikaenlkmaaGreat

/-
 The reference's fractions: sums, differences, products, quotients.
-/
namespace Go.Proofs.YtgbjjikaenlkmaaGreat
open Go Go.Abs Go.Limbs
variable {base : Prot}
set_option maxRecDepth 20000
attribute [local irreducible] vc
attribute [local simp] pureS touchV freezeL fuel shiftV u64 au
end Go.Proofs.YtgbjjikaenlkmaaGreat
