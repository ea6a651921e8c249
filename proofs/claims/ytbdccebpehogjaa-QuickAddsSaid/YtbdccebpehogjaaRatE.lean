/-
  What the reference's fractions compute, part 1. AcvNo conditions beyond the lemmas' own hypotheses.
-/
import Derived.Test.YtbdccebpehogjaaRatD
import Derived.Test.YtbdccebpehogjaaQuickL
import Derived.Test.YtbdccebpehogjaaRefA
import Derived.Test.YtbdccebpehogjaaRefB
set_option linter.unusedSimpArgs false
set_option linter.unnecessarySimpa false
set_option linter.unusedVariables false
set_option linter.constructorNameAsVariable false

/-
 law3: same, few, awake; the functions of fractions at numbers.
-/
namespace Go.Proofs.Ytbdccebpehogjaa
open Go Go.Abs Go.Limbs
variable {base : Prot}
set_option maxRecDepth 20000
attribute [local irreducible] vc
attribute [local simp] pureS touchV freezeL fuel shiftV u64 au
def sameF (x y : Fr) : Bool := decide (x.s = y.s) && decide (x.n = y.n) && decide (x.d = y.d)
def sameP (x y : Fr) : PVal := .bool (sameF x y)
theorem sameF_num (p q : Rat) : sameF (ofQ p) (ofQ q) = decide (p = q) := by
 by_cases h : p = q
 ·subst h; simp [sameF]
 ·rw [decide_eq_false h]
  cases hs : sameF (ofQ p) (ofQ q) with
  | false => rfl
  | true =>
   exfalso
   unfold sameF at hs
   simp only [Bool.and_eq_true, decide_eq_true_eq] at hs
   refine h (ofQ_inj ?_)
   obtain ⟨⟨h1, h2⟩, h3⟩ := hs
   cases hp : ofQ p
   cases hq : ofQ q
   rw [hp, hq] at h1 h2 h3
   simp only at h1 h2 h3
   rw [h1, h2, h3]
theorem sameP_two (p q : Rat) : f2 sameP [(ofQ p).enc, (ofQ q).enc] = some (.bool (decide (p = q))) := by
 rw [f2_at (wf_ofQ p) (wf_ofQ q)]; unfold sameP; rw [sameF_num]
theorem sameP_self (p : Rat) : f2 sameP [(ofQ p).enc, (ofQ p).enc] = some (.bool true) := by rw [sameP_two, decide_eq_true rfl]
theorem sameP_wf {x : Fr} (h : x.wf) : f2 sameP [x.enc, x.enc] = some (.bool true) := by
 rw [f2_at h h]; unfold sameP sameF; simp
theorem rsame_ok : FnOk Try.prog base 15 (pureS (f2 sameP)) := by
 refine pure_of_vc hmix Tsm_ok globNone low15 fun args z hs hf => ?_
 obtain ⟨x, y, wx, wy, rfl, rfl⟩ := f2_some hs
 obtain ⟨s, n, d⟩ := x
 obtain ⟨t, m, e⟩ := y
 refine ⟨by simp [lf15], ?_⟩
 have h1 := sSame_list wx.1 wy.1
 have h2 := sSame_list wx.2 wy.2
 simp only at h1 h2
 simp only [Fr.enc, sameP, sameF]
 obtain ⟨q1, hq1⟩ : ∃ q, q = decide (n = m) := ⟨_, rfl⟩
 obtain ⟨q2, hq2⟩ : ∃ q, q = decide (d = e) := ⟨_, rfl⟩
 rw [← hq1] at h1 ⊢
 rw [← hq2] at h2 ⊢
 cases s <;> cases t <;> cases q1 <;> cases q2 <;> simp [lf15, h1, h2, Tsm_mu, Tsm_fn]
end Go.Proofs.Ytbdccebpehogjaa

/-
 The reference's fractions: lowest terms, what is one, the order, signs.
-/
namespace Go.Proofs.Ytbdccebpehogjaa
open Go Go.Abs Go.Limbs
variable {base : Prot}
set_option maxRecDepth 20000
attribute [local irreducible] vc
attribute [local simp] pureS touchV freezeL fuel shiftV u64 au
theorem sWide_iN (s : Bool) (n : Nat) : sWide [.bool s, .lst ((limbs n).map u64)] = some (iN (zOf s n)) := by
 obtain ⟨b, l, e, _, h⟩ := sWide_num s n
 rw [h, e]
 rfl
theorem zOf_nat (z : Int) (d : Nat) : zOf (decide (z < 0)) (z.natAbs * d) = z * (d : Int) := by
 have h := zOf_mul z (d : Int)
 have hd : decide ((d : Int) < 0) = false := decide_eq_false (by omega)
 rw [hd, Int.natAbs_natCast, Bool.bne_false] at h
 exact h
theorem sTrim_num {n : Nat} (h : len n ≤ 100000) : sTrim [.lst ((limbs n).map u64)] = some (.lst ((limbs n).map u64)) := by
 rw [sTrim_map (wf_limbs n) (by have : (limbs n).length = len n := rfl; omega), val_limbs]
theorem rone_ok : FnOk Try.prog base 39 (pureS sOne) := by
 refine pure_of_vc hmix Tab.none_ok globNone low39 fun args z hs hf => ?_
 unfold sOne at hs
 split at hs
 case h_2 => cases hs
 cases hs
 refine ⟨by simp [lf39], ?_⟩
 simp [lf39, fillS]
def sMade : List PVal → Option PVal
 | [.bool s, .lst xs, .lst ys] => match decN xs, decN ys with | some a, some b => if b ≠ 0 ∧ len a ≤ 80000 ∧ len b ≤ 80000 then some (ofQ (mkRat (zOf s a) b)).enc else none | _, _ => none
 | _ => none
theorem sMade_num (s : Bool) {a b : Nat} (ha : len a ≤ 80000) (hb : len b ≤ 80000) (h0 : b ≠ 0) : sMade [.bool s, .lst ((limbs a).map u64), .lst ((limbs b).map u64)] = some (ofQ (mkRat (zOf s a) b)).enc := by
 simp only [sMade, decN_num (show len a ≤ 100000 by omega), decN_num (show len b ≤ 100000 by omega)]
 rw [if_pos ⟨h0, ha, hb⟩]
def Trq : Tab := ((Tab.none.with 47 (pureS sGcdR)).with 69 (pureS sQuotR)).with 56 (pureS sTrim)
theorem Trq_ok : TabOk Try.prog base Trq := Tab.with_ok (Tab.with_ok (Tab.with_ok Tab.none_ok rgcd_ok) rdiv_ok) rtrim_ok
theorem Trq_mu (f : FuncId) (a : List AVal) (H : Heap) : Trq.mu f a H = none := (rfl)
theorem Trq_fns : Trq.fn 47 = pureS sGcdR ∧ Trq.fn 69 = pureS sQuotR ∧ Trq.fn 56 = pureS sTrim := ⟨rfl, rfl, rfl⟩
theorem rmade_ok : FnOk Try.prog base 37 (pureS sMade) := by
 refine pure_of_vc hmix Trq_ok globNone low37 fun args z hs hf => ?_
 unfold sMade at hs
 split at hs
 case h_2 => cases hs
 rename_i s xs ys
 split at hs
 case h_2 => cases hs
 rename_i a b ha hb
 split at hs
 case isFalse => cases hs
 rename_i hc
 obtain ⟨h0, la, lb⟩ := hc
 obtain ⟨rfl, _⟩ := decN_some ha
 obtain ⟨rfl, _⟩ := decN_some hb
 cases hs
 refine ⟨by simp [lf37], ?_⟩
 rw [ofQ_mk s a h0]
 have g1 := sGcdR_num (a := a) (b := b) (by omega) (by omega)
 have hgl : len (Nat.gcd a b) ≤ 80000 := Nat.le_trans (len_mono (Nat.gcd_le_right _ (Nat.pos_of_ne_zero h0))) lb
 have hg0 : Nat.gcd a b ≠ 0 := fun e => h0 (Nat.gcd_eq_zero_iff.1 e).2
 obtain ⟨g, hg⟩ : ∃ g, g = Nat.gcd a b := ⟨_, rfl⟩
 rw [← hg] at g1 hgl hg0 ⊢
 have q1 := sQuotR_num (a := a) (b := g) (by omega) (by omega) hg0
 have q2 := sQuotR_num (a := b) (b := g) (by omega) (by omega) hg0
 have hm : len (a / g) ≤ 80000 := Nat.le_trans (len_mono (Nat.div_le_self _ _)) la
 have hk : len (b / g) ≤ 80000 := Nat.le_trans (len_mono (Nat.div_le_self _ _)) lb
 have t1 := sTrim_num (n := a / g) (by omega)
 have t2 := sTrim_num (n := b / g) (by omega)
 obtain ⟨m, hm'⟩ : ∃ m, m = a / g := ⟨_, rfl⟩
 obtain ⟨k, hk'⟩ : ∃ m, m = b / g := ⟨_, rfl⟩
 rw [← hm'] at q1 t1 ⊢
 rw [← hk'] at q2 t2 ⊢
 simp only [Fr.enc]
 cases s <;> simp [lf37, lenL, g1, q1, q2, t1, t2, fillS, Trq_mu, Trq_fns] <;> exact decide_eq_decide.2 Iff.rfl
def fitF (x : Fr) : Fr × Nat := if x.n.length ≤ 64 ∧ x.d.length ≤ 64 then (x, 0) else (zF, 4)
def fitP (x : Fr) : PVal := pairF (fitF x)
theorem fit_held (q : Rat) : fitF (ofQ q) = heldQ q := by
 unfold fitF heldQ
 by_cases h : Sm 64 q
 ·rw [if_pos h]; exact if_pos h
 ·rw [if_neg h]; exact if_neg h
theorem fitP_num (q : Rat) : f1 fitP [(ofQ q).enc] = some (pairF (heldQ q)) := by rw [f1_at (wf_ofQ q), fitP, fit_held]
theorem rfitsR_ok : FnOk Try.prog base 54 (pureS (f1 fitP)) := by
 refine pure_of_vc hmix Tab.none_ok globNone low54 fun args z hs hf => ?_
 obtain ⟨x, wx, rfl, rfl⟩ := f1_some hs
 obtain ⟨s, n, d⟩ := x
 refine ⟨by simp [lf54], ?_⟩
 simp only [Fr.enc, fitP, fitF]
 by_cases h1 : n.length ≤ 64
 ·have h1' : ¬ (64 : Int) < n.length := by omega
  by_cases h2 : d.length ≤ 64
  ·have h2' : ¬ (64 : Int) < d.length := by omega
   simp [lf54, h1, h2, h1', h2', pairF, Fr.enc, fillS]
  ·have h2' : (64 : Int) < d.length := by omega
   simp [lf54, h1, h2, h1', h2', pairF, zF, Fr.enc, fillS]
 ·have h1' : (64 : Int) < n.length := by omega
  simp [lf54, h1, h1', pairF, zF, Fr.enc, fillS]
def Trn : Tab := (Tab.none.with 80 (pureS sIV)).with 37 (pureS sMade)
theorem Trn_ok : TabOk Try.prog base Trn := Tab.with_ok (Tab.with_ok Tab.none_ok rivalid_ok) rmade_ok
theorem Trn_mu (f : FuncId) (a : List AVal) (H : Heap) : Trn.mu f a H = none := (rfl)
theorem Trn_fns : Trn.fn 80 = pureS sIV ∧ Trn.fn 37 = pureS sMade := ⟨rfl, rfl⟩
theorem rnew_ok : FnOk Try.prog base 57 (pureS sNew) := by
 refine pure_of_vc hmix Trn_ok globNone low57 fun args z hs hf => ?_
 unfold sNew at hs
 split at hs
 case h_2 => cases hs
 rename_i s xs t ys
 split at hs
 case h_2 => cases hs
 rename_i a b ha hb
 obtain ⟨rfl, wa⟩ := decU_some ha
 obtain ⟨rfl, wb⟩ := decU_some hb
 cases hs
 refine ⟨by simp [lf57], ?_⟩
 have va := sIV_list (s := s) wa
 have vb := sIV_list (s := t) wb
 unfold newF
 cases oa : okI s a with
 | false => rw [oa] at va; simp [lf57, va, pairF, zF, Fr.enc, fillS, Trn_mu, Trn_fns]
 | true =>
  rw [oa] at va
  cases ob : okI t b with
  | false => rw [ob] at vb; simp [lf57, va, vb, pairF, zF, Fr.enc, fillS, Trn_mu, Trn_fns]
  | true =>
   rw [ob] at vb
   by_cases hb0 : b = []
   ·subst hb0
    simp only [List.map_nil] at vb
    simp [lf57, va, vb, pairF, zF, Fr.enc, fillS, Trn_mu, Trn_fns]
   ·obtain ⟨z, lz, rfl, rfl⟩ := okI_of oa
    obtain ⟨w, lw, rfl, rfl⟩ := okI_of ob
    rw [zL_num, zL_num]
    have hw0 : w.natAbs ≠ 0 := fun e => hb0 (by rw [e, limbs_zero])
    have hl := len_beq hw0
    have hS : Sm 64 (Rat.divInt z w) := Sm_divInt lz lw (by omega)
    rw [heldQ_ok hS]
    unfold zl at lz lw
    have L := sMade_num (decide (z < 0) != decide (w < 0)) (a := z.natAbs) (b := w.natAbs) (by omega) (by omega) hw0
    rw [mk_divInt] at L
    obtain ⟨R, hR⟩ : ∃ R, R = ofQ (Rat.divInt z w) := ⟨_, rfl⟩
    rw [← hR] at L ⊢
    obtain ⟨s, hs⟩ : ∃ s, s = decide (z < 0) := ⟨_, rfl⟩
    obtain ⟨t, ht⟩ : ∃ s, s = decide (w < 0) := ⟨_, rfl⟩
    rw [← hs] at va L ⊢
    rw [← ht] at vb L ⊢
    have hb : (s != t) = !(s == t) := by cases s <;> cases t <;> rfl
    simp only [pairF, Fr.enc] at L ⊢
    simp [lf57, va, vb, lenL, hl, hb0, L, ← hb, fillS, Trn_mu, Trn_fns]
def Tro : Tab := (Tab.none.with 58 (pureS sIOf)).with 57 (pureS sNew)
theorem Tro_ok : TabOk Try.prog base Tro := Tab.with_ok (Tab.with_ok Tab.none_ok riof_ok) rnew_ok
theorem Tro_mu (f : FuncId) (a : List AVal) (H : Heap) : Tro.mu f a H = none := (rfl)
theorem Tro_fns : Tro.fn 58 = pureS sIOf ∧ Tro.fn 57 = pureS sNew := ⟨rfl, rfl⟩
theorem rofR_ok : FnOk Try.prog base 28 (pureS sQOf) := by
 refine pure_of_vc hmix Tro_ok globNone low28 fun args z hs hf => ?_
 unfold sQOf at hs
 split at hs
 case h_2 => cases hs
 rename_i n d
 split at hs
 case isFalse => cases hs
 rename_i hc
 obtain ⟨⟨n1, n2⟩, d1, d2⟩ := hc
 cases hs
 refine ⟨by simp [lf28], ?_⟩
 by_cases h0 : d = 0
 ·subst h0
  have o1 : sIOf [.int .i64 0] = some (iN 0) := sIOf_at (by decide) (by decide)
  have o2 := sIOf_one
  have N := sNew_num (z := 0) (w := 1) (Nat.le_trans (zl_int (n := 0) (by decide) (by decide)) (by omega)) (by rw [zl_one]; omega) (by decide)
  rw [divInt_one, show ((0 : Int) : Rat) = 0 from rfl, heldQ_ok (by refine ⟨?_, ?_⟩; rw [Rat.zero_num]; show len 0 ≤ 64; rw [len_zero]; omega; rw [Rat.zero_den, len_one]; omega)] at N
  rw [Rat.divInt_zero]
  obtain ⟨R, hR⟩ : ∃ R, R = ofQ 0 := ⟨_, rfl⟩
  rw [← hR] at N ⊢
  simp only [pairF, Fr.enc] at N ⊢
  simp [lf28, o1, o2, N, fillS, Tro_mu, Tro_fns]
 ·have hb : (d == 0) = false := beq_false_of_ne h0
  have o1 := sIOf_at n1 n2
  have o2 := sIOf_at d1 d2
  have z1 := zl_int n1 n2
  have z2 := zl_int d1 d2
  have N := sNew_num (z := n) (w := d) (by omega) (by omega) h0
  rw [heldQ_ok (Sm_divInt (k := 64) (by omega) (by omega) (by omega))] at N
  obtain ⟨R, hR⟩ : ∃ R, R = ofQ (Rat.divInt n d) := ⟨_, rfl⟩
  rw [← hR] at N ⊢
  simp only [pairF, Fr.enc] at N ⊢
  simp [lf28, h0, hb, o1, o2, N, fillS, Tro_mu, Tro_fns]
def Trv2 : Tab := (((Tab.none.with 39 (pureS sOne)).with 45 (pureS sValid)).with 46 (pureS sOrder)).with 47 (pureS sGcdR)
theorem Trv2_ok : TabOk Try.prog base Trv2 := Tab.with_ok (Tab.with_ok (Tab.with_ok (Tab.with_ok Tab.none_ok rone_ok) rvalid_ok) rcmp_ok) rgcd_ok
theorem Trv2_mu (f : FuncId) (a : List AVal) (H : Heap) : Trv2.mu f a H = none := (rfl)
theorem Trv2_fns : Trv2.fn 39 = pureS sOne ∧ Trv2.fn 45 = pureS sValid ∧ Trv2.fn 46 = pureS sOrder ∧ Trv2.fn 47 = pureS sGcdR := ⟨rfl, rfl, rfl, rfl⟩
theorem rvalidR_ok : FnOk Try.prog base 16 (pureS (f1 boolF)) := by
 refine pure_of_vc hmix Trv2_ok globNone low16 fun args z hs hf => ?_
 obtain ⟨x, wx, rfl, rfl⟩ := f1_some hs
 obtain ⟨s, n, d⟩ := x
 obtain ⟨wn, wd⟩ := wx
 simp only at wn wd
 refine ⟨by simp [lf16], ?_⟩
 have v1 := sValid_list wn
 have v2 := sValid_list wd
 have ho := sOne_nil
 simp only [Fr.enc, boolF, Fr.ok]
 cases o1 : okL n with
 | false => rw [o1] at v1; simp [lf16, v1, Trv2_mu, Trv2_fns]
 | true =>
  rw [o1] at v1
  cases o2 : okL d with
  | false => rw [o2] at v2; simp [lf16, v1, v2, Trv2_mu, Trv2_fns]
  | true =>
   rw [o2] at v2
   obtain ⟨a, rfl, ha⟩ := okL_true o1
   obtain ⟨b, rfl, hb⟩ := okL_true o2
   rw [val_limbs, val_limbs]
   by_cases b0 : b = 0
   ·subst b0
    rw [limbs_zero] at v2 ⊢
    simp only [List.map_nil] at v2 ⊢
    simp [lf16, v1, v2, Trv2_mu, Trv2_fns]
   ·have lb := len_pos' b0
    have lbI : (0 : Int) < len b := by omega
    have c2 := sGcdR_num (a := a) (b := b) (by omega) (by omega)
    have hg : len (Nat.gcd a b) ≤ 100000 := Nat.le_trans (len_mono (Nat.gcd_le_right _ (Nat.pos_of_ne_zero b0))) (by omega)
    have c3 := sOrder_one hg
    obtain ⟨g, hgg⟩ : ∃ g, g = Nat.gcd a b := ⟨_, rfl⟩
    rw [← hgg] at c2 c3 ⊢
    have e2 : (cmpI g 1 == 0) = (g == 1) := cmpI_one (n := g)
    obtain ⟨r, hr⟩ : ∃ p, p = cmpI g 1 := ⟨_, rfl⟩
    rw [← hr] at c3 e2
    have hb0' : decide (b ≠ 0) = true := decide_eq_true b0
    rw [hb0']
    by_cases a0 : a = 0
    ·subst a0
     rw [limbs_zero] at v1 c2 ⊢
     simp only [List.map_nil] at v1 c2 ⊢
     cases s <;> simp [lf16, v1, v2, lenL, lb, lbI, ho, c2, c3, e2, Trv2_mu, Trv2_fns]
    ·have la := len_pos' a0
     have laI : (0 : Int) < len a := by omega
     cases s <;> simp [lf16, v1, v2, lenL, la, laI, lb, lbI, ho, c2, c3, e2, a0, Trv2_mu, Trv2_fns]
def sCmpR : List PVal → Option PVal
 | [a, b] => match decF a, decF b with | some x, some y => if x.ok ∧ y.ok then some (.int .i64 (cmpQ x.q y.q)) else none | _, _ => none
 | _ => none
theorem sCmpR_num {p q : Rat} (hp : Sm 64 p) (hq : Sm 64 q) : sCmpR [(ofQ p).enc, (ofQ q).enc] = some (.int .i64 (cmpQ p q)) := by
 simp only [sCmpR, decF_enc (wf_ofQ p), decF_enc (wf_ofQ q)]
 rw [if_pos ⟨ok_ofQ hp, ok_ofQ hq⟩, q_ofQ, q_ofQ]
def Trc : Tab := (((Tab.none.with 78 (pureS sTimes)).with 77 (pureS sWide)).with 76 (pureS sWOrd)).with 79 (pureS sWPlus)
theorem Trc_ok : TabOk Try.prog base Trc := Tab.with_ok (Tab.with_ok (Tab.with_ok (Tab.with_ok Tab.none_ok rmul_ok) riwide_ok) ricmp_ok) riadd_ok
theorem Trc_mu (f : FuncId) (a : List AVal) (H : Heap) : Trc.mu f a H = none := (rfl)
theorem Trc_fns : Trc.fn 78 = pureS sTimes ∧ Trc.fn 77 = pureS sWide ∧ Trc.fn 76 = pureS sWOrd ∧ Trc.fn 79 = pureS sWPlus := ⟨rfl, rfl, rfl, rfl⟩
theorem mulW {z : Int} {d : Nat} (hz : zl z ≤ 64) (hd : len d ≤ 64) : sTimes [.lst ((limbs z.natAbs).map u64), .lst ((limbs d).map u64)] = some (.lst ((limbs (z.natAbs * d)).map u64)) ∧
  sWide [.bool (decide (z < 0)), .lst ((limbs (z.natAbs * d)).map u64)] = some (iN (z * (d : Int))) := by
 unfold zl at hz
 refine ⟨sTimes_num (by omega) (by omega), ?_⟩
 rw [sWide_iN, zOf_nat]
theorem rcmpR_ok : FnOk Try.prog base 52 (pureS sCmpR) := by
 refine pure_of_vc hmix Trc_ok globNone low52 fun args z hs hf => ?_
 unfold sCmpR at hs
 split at hs
 case h_2 => cases hs
 rename_i v w
 split at hs
 case h_2 => cases hs
 rename_i x y hx hy
 obtain ⟨rfl, wx⟩ := decF_some hx
 obtain ⟨rfl, wy⟩ := decF_some hy
 split at hs
 case isFalse => cases hs
 rename_i hok
 cases hs
 obtain ⟨p, hp, rfl⟩ := Fr.ok_of hok.1
 obtain ⟨q, hq, rfl⟩ := Fr.ok_of hok.2
 refine ⟨by simp [lf52], ?_⟩
 rw [q_ofQ, q_ofQ]
 obtain ⟨m1, w1⟩ := mulW (Sm_z hp) hq.2
 obtain ⟨m2, w2⟩ := mulW (Sm_z hq) hp.2
 have zp := Sm_z hp
 have zq := Sm_z hq
 have dp := Sm_d hp
 have dq := Sm_d hq
 have l1 := zl_mul (z := p.num) (w := q.den)
 have l2 := zl_mul (z := q.num) (w := p.den)
 have o := sWOrd_num (z := p.num * q.den) (w := q.num * p.den) (by omega) (by omega)
 rw [show cmpZ (p.num * q.den) (q.num * p.den) = cmpQ p q from rfl] at o
 simp only [enc_ofQ]
 simp [lf52, m1, w1, m2, w2, o, Trc_mu, Trc_fns]
def Trc2 : Tab := (Tab.none.with 16 (pureS (f1 boolF))).with 52 (pureS sCmpR)
theorem Trc2_ok : TabOk Try.prog base Trc2 := Tab.with_ok (Tab.with_ok Tab.none_ok rvalidR_ok) rcmpR_ok
theorem Trc2_mu (f : FuncId) (a : List AVal) (H : Heap) : Trc2.mu f a H = none := (rfl)
theorem Trc2_fns : Trc2.fn 16 = pureS (f1 boolF) ∧ Trc2.fn 52 = pureS sCmpR := ⟨rfl, rfl⟩
theorem rCmp_ok : FnOk Try.prog base 20 (pureS (f2 cmpP)) := by
 refine pure_of_vc hmix Trc2_ok globNone low20 fun args z hs hf => ?_
 obtain ⟨x, y, wx, wy, rfl, rfl⟩ := f2_some hs
 refine ⟨by simp [lf20], ?_⟩
 have v1 := vF wx
 have v2 := vF wy
 cases ox : x.ok with
 | false => rw [ox] at v1; simp only [Fr.enc] at v1 ⊢; simp [lf20, v1, cmpP, cmpF, ox, Trc2_mu, Trc2_fns]
 | true =>
  rw [ox] at v1
  cases oy : y.ok with
  | false => rw [oy] at v2; simp only [Fr.enc] at v1 v2 ⊢; simp [lf20, v1, v2, cmpP, cmpF, ox, oy, Trc2_mu, Trc2_fns]
  | true =>
   rw [oy] at v2
   obtain ⟨p, hp, rfl⟩ := Fr.ok_of ox
   obtain ⟨q, hq, rfl⟩ := Fr.ok_of oy
   have e : cmpP (ofQ p) (ofQ q) = .int .i64 (cmpQ p q) := by unfold cmpP; rw [cmpF_num hp hq]
   have c := sCmpR_num hp hq
   rw [e]
   simp only [Fr.enc] at v1 v2 c ⊢
   simp [lf20, v1, v2, c, Trc2_mu, Trc2_fns]
def Trg2 : Tab := (Tab.none.with 16 (pureS (f1 boolF))).with 56 (pureS sTrim)
theorem Trg2_ok : TabOk Try.prog base Trg2 := Tab.with_ok (Tab.with_ok Tab.none_ok rvalidR_ok) rtrim_ok
theorem Trg2_mu (f : FuncId) (a : List AVal) (H : Heap) : Trg2.mu f a H = none := (rfl)
theorem Trg2_fns : Trg2.fn 16 = pureS (f1 boolF) ∧ Trg2.fn 56 = pureS sTrim := ⟨rfl, rfl⟩
theorem rNeg_ok : FnOk Try.prog base 27 (pureS (f1 negP)) := by
 refine pure_of_vc hmix Trg2_ok globNone low27 fun args z hs hf => ?_
 obtain ⟨x, wx, rfl, rfl⟩ := f1_some hs
 refine ⟨by simp [lf27], ?_⟩
 have v1 := vF wx
 cases ox : x.ok with
 | false => rw [ox] at v1; simp only [Fr.enc] at v1 ⊢; simp [lf27, v1, negP, negF, ox, zF, Fr.enc, fillS, Trg2_mu, Trg2_fns]
 | true =>
  rw [ox] at v1
  obtain ⟨p, hp, rfl⟩ := Fr.ok_of ox
  have e : negP (ofQ p) = (ofQ (-p)).enc := by unfold negP; rw [negF_num hp]
  rw [e, ofQ_neg]
  have c1 := sTrim_num (n := p.num.natAbs) (by have := hp.1; omega)
  have c2 := sTrim_num (n := p.den) (by have := hp.2; omega)
  obtain ⟨s, hs⟩ : ∃ s, s = decide (p.num < 0) := ⟨_, rfl⟩
  rw [enc_ofQ, ← hs] at v1 ⊢
  simp [lf27, v1, vc_regionW, Fr.enc, fillS, Trg2_mu, Trg2_fns]
  refine ⟨[], ?_⟩
  cases s <;> simp [c1, c2, lenL, fillS, Trg2_mu, Trg2_fns] <;> exact decide_eq_decide.2 Iff.rfl
end Go.Proofs.Ytbdccebpehogjaa
