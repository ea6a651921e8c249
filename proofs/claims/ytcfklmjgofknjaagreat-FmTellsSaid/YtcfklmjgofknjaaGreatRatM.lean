/-
  What the reference's functions of fractions compute. No conditions beyond the lemmas' own hypotheses.
-/
import Derived.Test.YtcfklmjgofknjaaGreatRefP
import Derived.Test.YtcfklmjgofknjaaGreatWholeD
import Derived.Test.YtcfklmjgofknjaaGreatRatG
set_option linter.unusedSimpArgs false
set_option linter.unnecessarySimpa false
set_option linter.unusedVariables false
set_option linter.constructorNameAsVariable false

/-
 The reference's fractions: lowest terms, what is one, the order, signs.
-/
namespace Go.Proofs.YtcfklmjgofknjaaGreat
open Go Go.Abs Go.Limbs
variable {base : Prot}
set_option maxRecDepth 20000
attribute [local irreducible] vc
attribute [local simp] pureS touchV freezeL fuel shiftV u64 au
theorem sWide_iN (s : Bool) (n : Nat) : sWide [.bool s, .lst ((limbs n).map u64)] = some (iN (zOf s n)) := by
 obtain ⟨b, l, e, _, h⟩ := sWide_num s n
 rw [h, e]
 rfl
theorem zOf_nat (z : Int) (d : Nat) : zOf (decide (z < 0)) (z.natAbs * d) = z * (d : Int) := by
 have h := zOf_mul z (d : Int)
 have hd : decide ((d : Int) < 0) = false := decide_eq_false (by omega)
 rw [hd, Int.natAbs_natCast, Bool.bne_false] at h
 exact h
theorem sTrim_num {n : Nat} (h : len n ≤ 100000) : sTrim [.lst ((limbs n).map u64)] = some (.lst ((limbs n).map u64)) := by
 rw [sTrim_map (wf_limbs n) (by have : (limbs n).length = len n := rfl; omega), val_limbs]
theorem rone_ok : FnOk Tryz.prog base 80 (pureS sOne) := by
 refine pure_of_vc hmix Tab.none_ok globNone low80 fun args z hs hf => ?_
 unfold sOne at hs
 split at hs
 case h_2 => cases hs
 cases hs
 refine ⟨by simp [lf80], ?_⟩
 simp [lf80, fillS]
def sMade : List PVal → Option PVal
 | [.bool s, .lst xs, .lst ys] => match decN xs, decN ys with | some a, some b => if b ≠ 0 ∧ len a ≤ 80000 ∧ len b ≤ 80000 then some (ofQ (mkRat (zOf s a) b)).enc else none | _, _ => none
 | _ => none
theorem sMade_num (s : Bool) {a b : Nat} (ha : len a ≤ 80000) (hb : len b ≤ 80000) (h0 : b ≠ 0) : sMade [.bool s, .lst ((limbs a).map u64), .lst ((limbs b).map u64)] = some (ofQ (mkRat (zOf s a) b)).enc := by
 simp only [sMade, decN_num (show len a ≤ 100000 by omega), decN_num (show len b ≤ 100000 by omega)]
 rw [if_pos ⟨h0, ha, hb⟩]
def Trq : Tab := ((Tab.none.with 79 (pureS sGcdR)).with 117 (pureS sQuotR)).with 97 (pureS sTrim)
theorem Trq_ok : TabOk Tryz.prog base Trq := Tab.with_ok (Tab.with_ok (Tab.with_ok Tab.none_ok rgcd_ok) rdiv_ok) rtrim_ok
theorem Trq_mu (f : FuncId) (a : List AVal) (H : Heap) : Trq.mu f a H = none := (rfl)
theorem Trq_fns : Trq.fn 79 = pureS sGcdR ∧ Trq.fn 117 = pureS sQuotR ∧ Trq.fn 97 = pureS sTrim := ⟨rfl, rfl, rfl⟩
theorem rmade_ok : FnOk Tryz.prog base 112 (pureS sMade) := by
 refine pure_of_vc hmix Trq_ok globNone low112 fun args z hs hf => ?_
 unfold sMade at hs
 split at hs
 case h_2 => cases hs
 rename_i s xs ys
 split at hs
 case h_2 => cases hs
 rename_i a b ha hb
 split at hs
 case isFalse => cases hs
 rename_i hc
 obtain ⟨h0, la, lb⟩ := hc
 obtain ⟨rfl, _⟩ := decN_some ha
 obtain ⟨rfl, _⟩ := decN_some hb
 cases hs
 refine ⟨by simp [lf112], ?_⟩
 rw [ofQ_mk s a h0]
 have g1 := sGcdR_num (a := a) (b := b) (by omega) (by omega)
 have hgl : len (Nat.gcd a b) ≤ 80000 := Nat.le_trans (len_mono (Nat.gcd_le_right _ (Nat.pos_of_ne_zero h0))) lb
 have hg0 : Nat.gcd a b ≠ 0 := fun e => h0 (Nat.gcd_eq_zero_iff.1 e).2
 obtain ⟨g, hg⟩ : ∃ g, g = Nat.gcd a b := ⟨_, rfl⟩
 rw [← hg] at g1 hgl hg0 ⊢
 have q1 := sQuotR_num (a := a) (b := g) (by omega) (by omega) hg0
 have q2 := sQuotR_num (a := b) (b := g) (by omega) (by omega) hg0
 have hm : len (a / g) ≤ 80000 := Nat.le_trans (len_mono (Nat.div_le_self _ _)) la
 have hk : len (b / g) ≤ 80000 := Nat.le_trans (len_mono (Nat.div_le_self _ _)) lb
 have t1 := sTrim_num (n := a / g) (by omega)
 have t2 := sTrim_num (n := b / g) (by omega)
 obtain ⟨m, hm'⟩ : ∃ m, m = a / g := ⟨_, rfl⟩
 obtain ⟨k, hk'⟩ : ∃ m, m = b / g := ⟨_, rfl⟩
 rw [← hm'] at q1 t1 ⊢
 rw [← hk'] at q2 t2 ⊢
 simp only [Fr.enc]
 cases s <;> simp [lf112, lenL, g1, q1, q2, t1, t2, fillS, Trq_mu, Trq_fns] <;> exact decide_eq_decide.2 Iff.rfl
def fitF (x : Fr) : Fr × Nat := if x.n.length ≤ 64 ∧ x.d.length ≤ 64 then (x, 0) else (zF, 4)
def fitP (x : Fr) : PVal := pairF (fitF x)
theorem fit_held (q : Rat) : fitF (ofQ q) = heldQ q := by
 unfold fitF heldQ
 by_cases h : Sm 64 q
 ·rw [if_pos h]; exact if_pos h
 ·rw [if_neg h]; exact if_neg h
theorem fitP_num (q : Rat) : f1 fitP [(ofQ q).enc] = some (pairF (heldQ q)) := by rw [f1_at (wf_ofQ q), fitP, fit_held]
theorem rfitsR_ok : FnOk Tryz.prog base 75 (pureS (f1 fitP)) := by
 refine pure_of_vc hmix Tab.none_ok globNone low75 fun args z hs hf => ?_
 obtain ⟨x, wx, rfl, rfl⟩ := f1_some hs
 obtain ⟨s, n, d⟩ := x
 refine ⟨by simp [lf75], ?_⟩
 simp only [Fr.enc, fitP, fitF]
 by_cases h1 : n.length ≤ 64
 ·have h1' : ¬ (64 : Int) < n.length := by omega
  by_cases h2 : d.length ≤ 64
  ·have h2' : ¬ (64 : Int) < d.length := by omega
   simp [lf75, h1, h2, h1', h2', pairF, Fr.enc, fillS]
  ·have h2' : (64 : Int) < d.length := by omega
   simp [lf75, h1, h2, h1', h2', pairF, zF, Fr.enc, fillS]
 ·have h1' : (64 : Int) < n.length := by omega
  simp [lf75, h1, h1', pairF, zF, Fr.enc, fillS]
def Trn : Tab := (Tab.none.with 111 (pureS sIV)).with 112 (pureS sMade)
theorem Trn_ok : TabOk Tryz.prog base Trn := Tab.with_ok (Tab.with_ok Tab.none_ok rivalid_ok) rmade_ok
theorem Trn_mu (f : FuncId) (a : List AVal) (H : Heap) : Trn.mu f a H = none := (rfl)
theorem Trn_fns : Trn.fn 111 = pureS sIV ∧ Trn.fn 112 = pureS sMade := ⟨rfl, rfl⟩
theorem rnew_ok : FnOk Tryz.prog base 70 (pureS sNew) := by
 refine pure_of_vc hmix Trn_ok globNone low70 fun args z hs hf => ?_
 unfold sNew at hs
 split at hs
 case h_2 => cases hs
 rename_i s xs t ys
 split at hs
 case h_2 => cases hs
 rename_i a b ha hb
 obtain ⟨rfl, wa⟩ := decU_some ha
 obtain ⟨rfl, wb⟩ := decU_some hb
 cases hs
 refine ⟨by simp [lf70], ?_⟩
 have va := sIV_list (s := s) wa
 have vb := sIV_list (s := t) wb
 unfold newF
 cases oa : okI s a with
 | false => rw [oa] at va; simp [lf70, va, pairF, zF, Fr.enc, fillS, Trn_mu, Trn_fns]
 | true =>
  rw [oa] at va
  cases ob : okI t b with
  | false => rw [ob] at vb; simp [lf70, va, vb, pairF, zF, Fr.enc, fillS, Trn_mu, Trn_fns]
  | true =>
   rw [ob] at vb
   by_cases hb0 : b = []
   ·subst hb0
    simp only [List.map_nil] at vb
    simp [lf70, va, vb, pairF, zF, Fr.enc, fillS, Trn_mu, Trn_fns]
   ·obtain ⟨z, lz, rfl, rfl⟩ := okI_of oa
    obtain ⟨w, lw, rfl, rfl⟩ := okI_of ob
    rw [zL_num, zL_num]
    have hw0 : w.natAbs ≠ 0 := fun e => hb0 (by rw [e, limbs_zero])
    have hl := len_beq hw0
    have hS : Sm 64 (Rat.divInt z w) := Sm_divInt lz lw (by omega)
    rw [heldQ_ok hS]
    unfold zl at lz lw
    have L := sMade_num (decide (z < 0) != decide (w < 0)) (a := z.natAbs) (b := w.natAbs) (by omega) (by omega) hw0
    rw [mk_divInt] at L
    obtain ⟨R, hR⟩ : ∃ R, R = ofQ (Rat.divInt z w) := ⟨_, rfl⟩
    rw [← hR] at L ⊢
    obtain ⟨s, hs⟩ : ∃ s, s = decide (z < 0) := ⟨_, rfl⟩
    obtain ⟨t, ht⟩ : ∃ s, s = decide (w < 0) := ⟨_, rfl⟩
    rw [← hs] at va L ⊢
    rw [← ht] at vb L ⊢
    have hb : (s != t) = !(s == t) := by cases s <;> cases t <;> rfl
    simp only [pairF, Fr.enc] at L ⊢
    simp [lf70, va, vb, lenL, hl, hb0, L, ← hb, fillS, Trn_mu, Trn_fns]
def Tro : Tab := (Tab.none.with 71 (pureS sIOf)).with 70 (pureS sNew)
theorem Tro_ok : TabOk Tryz.prog base Tro := Tab.with_ok (Tab.with_ok Tab.none_ok riof_ok) rnew_ok
theorem Tro_mu (f : FuncId) (a : List AVal) (H : Heap) : Tro.mu f a H = none := (rfl)
theorem Tro_fns : Tro.fn 71 = pureS sIOf ∧ Tro.fn 70 = pureS sNew := ⟨rfl, rfl⟩
theorem rofR_ok : FnOk Tryz.prog base 31 (pureS sQOf) := by
 refine pure_of_vc hmix Tro_ok globNone low31 fun args z hs hf => ?_
 unfold sQOf at hs
 split at hs
 case h_2 => cases hs
 rename_i n d
 split at hs
 case isFalse => cases hs
 rename_i hc
 obtain ⟨⟨n1, n2⟩, d1, d2⟩ := hc
 cases hs
 refine ⟨by simp [lf31], ?_⟩
 by_cases h0 : d = 0
 ·subst h0
  have o1 : sIOf [.int .i64 0] = some (iN 0) := sIOf_at (by decide) (by decide)
  have o2 := sIOf_one
  have N := sNew_num (z := 0) (w := 1) (Nat.le_trans (zl_int (n := 0) (by decide) (by decide)) (by omega)) (by rw [zl_one]; omega) (by decide)
  rw [divInt_one, show ((0 : Int) : Rat) = 0 from rfl, heldQ_ok (by refine ⟨?_, ?_⟩; rw [Rat.zero_num]; show len 0 ≤ 64; rw [len_zero]; omega; rw [Rat.zero_den, len_one]; omega)] at N
  rw [Rat.divInt_zero]
  obtain ⟨R, hR⟩ : ∃ R, R = ofQ 0 := ⟨_, rfl⟩
  rw [← hR] at N ⊢
  simp only [pairF, Fr.enc] at N ⊢
  simp [lf31, o1, o2, N, fillS, Tro_mu, Tro_fns]
 ·have hb : (d == 0) = false := beq_false_of_ne h0
  have o1 := sIOf_at n1 n2
  have o2 := sIOf_at d1 d2
  have z1 := zl_int n1 n2
  have z2 := zl_int d1 d2
  have N := sNew_num (z := n) (w := d) (by omega) (by omega) h0
  rw [heldQ_ok (Sm_divInt (k := 64) (by omega) (by omega) (by omega))] at N
  obtain ⟨R, hR⟩ : ∃ R, R = ofQ (Rat.divInt n d) := ⟨_, rfl⟩
  rw [← hR] at N ⊢
  simp only [pairF, Fr.enc] at N ⊢
  simp [lf31, h0, hb, o1, o2, N, fillS, Tro_mu, Tro_fns]
def Trv2 : Tab := (((Tab.none.with 80 (pureS sOne)).with 77 (pureS sValid)).with 78 (pureS sOrder)).with 79 (pureS sGcdR)
theorem Trv2_ok : TabOk Tryz.prog base Trv2 := Tab.with_ok (Tab.with_ok (Tab.with_ok (Tab.with_ok Tab.none_ok rone_ok) rvalid_ok) rcmp_ok) rgcd_ok
theorem Trv2_mu (f : FuncId) (a : List AVal) (H : Heap) : Trv2.mu f a H = none := (rfl)
theorem Trv2_fns : Trv2.fn 80 = pureS sOne ∧ Trv2.fn 77 = pureS sValid ∧ Trv2.fn 78 = pureS sOrder ∧ Trv2.fn 79 = pureS sGcdR := ⟨rfl, rfl, rfl, rfl⟩
theorem rvalidR_ok : FnOk Tryz.prog base 37 (pureS (f1 boolF)) := by
 refine pure_of_vc hmix Trv2_ok globNone low37 fun args z hs hf => ?_
 obtain ⟨x, wx, rfl, rfl⟩ := f1_some hs
 obtain ⟨s, n, d⟩ := x
 obtain ⟨wn, wd⟩ := wx
 simp only at wn wd
 refine ⟨by simp [lf37], ?_⟩
 have v1 := sValid_list wn
 have v2 := sValid_list wd
 have ho := sOne_nil
 simp only [Fr.enc, boolF, Fr.ok]
 cases o1 : okL n with
 | false => rw [o1] at v1; simp [lf37, v1, Trv2_mu, Trv2_fns]
 | true =>
  rw [o1] at v1
  cases o2 : okL d with
  | false => rw [o2] at v2; simp [lf37, v1, v2, Trv2_mu, Trv2_fns]
  | true =>
   rw [o2] at v2
   obtain ⟨a, rfl, ha⟩ := okL_true o1
   obtain ⟨b, rfl, hb⟩ := okL_true o2
   rw [val_limbs, val_limbs]
   by_cases b0 : b = 0
   ·subst b0
    rw [limbs_zero] at v2 ⊢
    simp only [List.map_nil] at v2 ⊢
    simp [lf37, v1, v2, Trv2_mu, Trv2_fns]
   ·have lb := len_pos' b0
    have lbI : (0 : Int) < len b := by omega
    have c2 := sGcdR_num (a := a) (b := b) (by omega) (by omega)
    have hg : len (Nat.gcd a b) ≤ 100000 := Nat.le_trans (len_mono (Nat.gcd_le_right _ (Nat.pos_of_ne_zero b0))) (by omega)
    have c3 := sOrder_one hg
    obtain ⟨g, hgg⟩ : ∃ g, g = Nat.gcd a b := ⟨_, rfl⟩
    rw [← hgg] at c2 c3 ⊢
    have e2 : (cmpI g 1 == 0) = (g == 1) := cmpI_one (n := g)
    obtain ⟨r, hr⟩ : ∃ p, p = cmpI g 1 := ⟨_, rfl⟩
    rw [← hr] at c3 e2
    have hb0' : decide (b ≠ 0) = true := decide_eq_true b0
    rw [hb0']
    by_cases a0 : a = 0
    ·subst a0
     rw [limbs_zero] at v1 c2 ⊢
     simp only [List.map_nil] at v1 c2 ⊢
     cases s <;> simp [lf37, v1, v2, lenL, lb, lbI, ho, c2, c3, e2, Trv2_mu, Trv2_fns]
    ·have la := len_pos' a0
     have laI : (0 : Int) < len a := by omega
     cases s <;> simp [lf37, v1, v2, lenL, la, laI, lb, lbI, ho, c2, c3, e2, a0, Trv2_mu, Trv2_fns]
def sCmpR : List PVal → Option PVal
 | [a, b] => match decF a, decF b with | some x, some y => if x.ok ∧ y.ok then some (.int .i64 (cmpQ x.q y.q)) else none | _, _ => none
 | _ => none
theorem sCmpR_num {p q : Rat} (hp : Sm 64 p) (hq : Sm 64 q) : sCmpR [(ofQ p).enc, (ofQ q).enc] = some (.int .i64 (cmpQ p q)) := by
 simp only [sCmpR, decF_enc (wf_ofQ p), decF_enc (wf_ofQ q)]
 rw [if_pos ⟨ok_ofQ hp, ok_ofQ hq⟩, q_ofQ, q_ofQ]
def Trc : Tab := (((Tab.none.with 115 (pureS sTimes)).with 113 (pureS sWide)).with 156 (pureS sWOrd)).with 116 (pureS sWPlus)
theorem Trc_ok : TabOk Tryz.prog base Trc := Tab.with_ok (Tab.with_ok (Tab.with_ok (Tab.with_ok Tab.none_ok rmul_ok) riwide_ok) ricmp_ok) riadd_ok
theorem Trc_mu (f : FuncId) (a : List AVal) (H : Heap) : Trc.mu f a H = none := (rfl)
theorem Trc_fns : Trc.fn 115 = pureS sTimes ∧ Trc.fn 113 = pureS sWide ∧ Trc.fn 156 = pureS sWOrd ∧ Trc.fn 116 = pureS sWPlus := ⟨rfl, rfl, rfl, rfl⟩
theorem mulW {z : Int} {d : Nat} (hz : zl z ≤ 64) (hd : len d ≤ 64) : sTimes [.lst ((limbs z.natAbs).map u64), .lst ((limbs d).map u64)] = some (.lst ((limbs (z.natAbs * d)).map u64)) ∧
  sWide [.bool (decide (z < 0)), .lst ((limbs (z.natAbs * d)).map u64)] = some (iN (z * (d : Int))) := by
 unfold zl at hz
 refine ⟨sTimes_num (by omega) (by omega), ?_⟩
 rw [sWide_iN, zOf_nat]
theorem rcmpR_ok : FnOk Tryz.prog base 136 (pureS sCmpR) := by
 refine pure_of_vc hmix Trc_ok globNone low136 fun args z hs hf => ?_
 unfold sCmpR at hs
 split at hs
 case h_2 => cases hs
 rename_i v w
 split at hs
 case h_2 => cases hs
 rename_i x y hx hy
 obtain ⟨rfl, wx⟩ := decF_some hx
 obtain ⟨rfl, wy⟩ := decF_some hy
 split at hs
 case isFalse => cases hs
 rename_i hok
 cases hs
 obtain ⟨p, hp, rfl⟩ := Fr.ok_of hok.1
 obtain ⟨q, hq, rfl⟩ := Fr.ok_of hok.2
 refine ⟨by simp [lf136], ?_⟩
 rw [q_ofQ, q_ofQ]
 obtain ⟨m1, w1⟩ := mulW (Sm_z hp) hq.2
 obtain ⟨m2, w2⟩ := mulW (Sm_z hq) hp.2
 have zp := Sm_z hp
 have zq := Sm_z hq
 have dp := Sm_d hp
 have dq := Sm_d hq
 have l1 := zl_mul (z := p.num) (w := q.den)
 have l2 := zl_mul (z := q.num) (w := p.den)
 have o := sWOrd_num (z := p.num * q.den) (w := q.num * p.den) (by omega) (by omega)
 rw [show cmpZ (p.num * q.den) (q.num * p.den) = cmpQ p q from rfl] at o
 simp only [enc_ofQ]
 simp [lf136, m1, w1, m2, w2, o, Trc_mu, Trc_fns]
def Trc2 : Tab := (Tab.none.with 37 (pureS (f1 boolF))).with 136 (pureS sCmpR)
theorem Trc2_ok : TabOk Tryz.prog base Trc2 := Tab.with_ok (Tab.with_ok Tab.none_ok rvalidR_ok) rcmpR_ok
theorem Trc2_mu (f : FuncId) (a : List AVal) (H : Heap) : Trc2.mu f a H = none := (rfl)
theorem Trc2_fns : Trc2.fn 37 = pureS (f1 boolF) ∧ Trc2.fn 136 = pureS sCmpR := ⟨rfl, rfl⟩
theorem rCmp_ok : FnOk Tryz.prog base 114 (pureS (f2 cmpP)) := by
 refine pure_of_vc hmix Trc2_ok globNone low114 fun args z hs hf => ?_
 obtain ⟨x, y, wx, wy, rfl, rfl⟩ := f2_some hs
 refine ⟨by simp [lf114], ?_⟩
 have v1 := vF wx
 have v2 := vF wy
 cases ox : x.ok with
 | false => rw [ox] at v1; simp only [Fr.enc] at v1 ⊢; simp [lf114, v1, cmpP, cmpF, ox, Trc2_mu, Trc2_fns]
 | true =>
  rw [ox] at v1
  cases oy : y.ok with
  | false => rw [oy] at v2; simp only [Fr.enc] at v1 v2 ⊢; simp [lf114, v1, v2, cmpP, cmpF, ox, oy, Trc2_mu, Trc2_fns]
  | true =>
   rw [oy] at v2
   obtain ⟨p, hp, rfl⟩ := Fr.ok_of ox
   obtain ⟨q, hq, rfl⟩ := Fr.ok_of oy
   have e : cmpP (ofQ p) (ofQ q) = .int .i64 (cmpQ p q) := by unfold cmpP; rw [cmpF_num hp hq]
   have c := sCmpR_num hp hq
   rw [e]
   simp only [Fr.enc] at v1 v2 c ⊢
   simp [lf114, v1, v2, c, Trc2_mu, Trc2_fns]
def Trs2 : Tab := (Tab.none.with 31 (pureS sQOf)).with 114 (pureS (f2 cmpP))
theorem Trs2_ok : TabOk Tryz.prog base Trs2 := Tab.with_ok (Tab.with_ok Tab.none_ok rofR_ok) rCmp_ok
theorem Trs2_mu (f : FuncId) (a : List AVal) (H : Heap) : Trs2.mu f a H = none := (rfl)
theorem Trs2_fns : Trs2.fn 31 = pureS sQOf ∧ Trs2.fn 114 = pureS (f2 cmpP) := ⟨rfl, rfl⟩
theorem Sm0 : Sm 64 (0 : Rat) := by
 refine ⟨?_, ?_⟩
 ·rw [Rat.zero_num]; show len 0 ≤ 64; rw [len_zero]; omega
 ·rw [Rat.zero_den, len_one]; omega
theorem rSign_ok : FnOk Tryz.prog base 72 (pureS (f1 signP)) := by
 refine pure_of_vc hmix Trs2_ok globNone low72 fun args z hs hf => ?_
 obtain ⟨x, wx, rfl, rfl⟩ := f1_some hs
 refine ⟨by simp [lf72], ?_⟩
 have o := sQOf_num (n := 0) (d := 1) 0 (by omega) (by omega) (by rw [divInt_one]; rfl)
 have c : f2 cmpP [x.enc, (ofQ 0).enc] = some (.int .i64 (signF x)) := by
  rw [f2_at wx (wf_ofQ 0)]
  unfold cmpP cmpF signF
  rw [ok_ofQ Sm0, q_ofQ, Bool.and_true]
 obtain ⟨y, hy⟩ : ∃ y, y = ofQ 0 := ⟨_, rfl⟩
 rw [← hy] at o c
 unfold signP
 obtain ⟨k, hk⟩ : ∃ k, k = signF x := ⟨_, rfl⟩
 rw [← hk] at c ⊢
 simp only [Fr.enc] at o c ⊢
 simp [lf72, o, c, Trs2_mu, Trs2_fns]
def Trg2 : Tab := (Tab.none.with 37 (pureS (f1 boolF))).with 97 (pureS sTrim)
theorem Trg2_ok : TabOk Tryz.prog base Trg2 := Tab.with_ok (Tab.with_ok Tab.none_ok rvalidR_ok) rtrim_ok
theorem Trg2_mu (f : FuncId) (a : List AVal) (H : Heap) : Trg2.mu f a H = none := (rfl)
theorem Trg2_fns : Trg2.fn 37 = pureS (f1 boolF) ∧ Trg2.fn 97 = pureS sTrim := ⟨rfl, rfl⟩
theorem rNeg_ok : FnOk Tryz.prog base 51 (pureS (f1 negP)) := by
 refine pure_of_vc hmix Trg2_ok globNone low51 fun args z hs hf => ?_
 obtain ⟨x, wx, rfl, rfl⟩ := f1_some hs
 refine ⟨by simp [lf51], ?_⟩
 have v1 := vF wx
 cases ox : x.ok with
 | false => rw [ox] at v1; simp only [Fr.enc] at v1 ⊢; simp [lf51, v1, negP, negF, ox, zF, Fr.enc, fillS, Trg2_mu, Trg2_fns]
 | true =>
  rw [ox] at v1
  obtain ⟨p, hp, rfl⟩ := Fr.ok_of ox
  have e : negP (ofQ p) = (ofQ (-p)).enc := by unfold negP; rw [negF_num hp]
  rw [e, ofQ_neg]
  have c1 := sTrim_num (n := p.num.natAbs) (by have := hp.1; omega)
  have c2 := sTrim_num (n := p.den) (by have := hp.2; omega)
  obtain ⟨s, hs⟩ : ∃ s, s = decide (p.num < 0) := ⟨_, rfl⟩
  rw [enc_ofQ, ← hs] at v1 ⊢
  simp [lf51, v1, vc_regionW, Fr.enc, fillS, Trg2_mu, Trg2_fns]
  refine ⟨[], ?_⟩
  cases s <;> simp [c1, c2, lenL, fillS, Trg2_mu, Trg2_fns] <;> exact decide_eq_decide.2 Iff.rfl
end Go.Proofs.YtcfklmjgofknjaaGreat

/-
 The reference's fractions: sums, differences, products, quotients.
-/
namespace Go.Proofs.YtcfklmjgofknjaaGreat
open Go Go.Abs Go.Limbs
variable {base : Prot}
set_option maxRecDepth 20000
attribute [local irreducible] vc
attribute [local simp] pureS touchV freezeL fuel shiftV u64 au
def sAddR : List PVal → Option PVal
 | [a, b] => match decF a, decF b with | some x, some y => if x.ok ∧ y.ok then some (ofQ (x.q + y.q)).enc else none | _, _ => none
 | _ => none
theorem sAddR_num {p q : Rat} (hp : Sm 64 p) (hq : Sm 64 q) : sAddR [(ofQ p).enc, (ofQ q).enc] = some (ofQ (p + q)).enc := by
 simp only [sAddR, decF_enc (wf_ofQ p), decF_enc (wf_ofQ q)]
 rw [if_pos ⟨ok_ofQ hp, ok_ofQ hq⟩, q_ofQ, q_ofQ]
def Tra : Tab := Trc.with 112 (pureS sMade)
theorem Tra_ok : TabOk Tryz.prog base Tra := Tab.with_ok Trc_ok rmade_ok
theorem Tra_mu (f : FuncId) (a : List AVal) (H : Heap) : Tra.mu f a H = none := (rfl)
theorem Tra_fns : Tra.fn 112 = pureS sMade ∧ Tra.fn 115 = pureS sTimes ∧ Tra.fn 113 = pureS sWide ∧ Tra.fn 156 = pureS sWOrd ∧ Tra.fn 116 = pureS sWPlus := ⟨rfl, rfl, rfl, rfl, rfl⟩
theorem raddR_ok : FnOk Tryz.prog base 76 (pureS sAddR) := by
 refine pure_of_vc hmix Tra_ok globNone low76 fun args z hs hf => ?_
 unfold sAddR at hs
 split at hs
 case h_2 => cases hs
 rename_i v w
 split at hs
 case h_2 => cases hs
 rename_i x y hx hy
 obtain ⟨rfl, wx⟩ := decF_some hx
 obtain ⟨rfl, wy⟩ := decF_some hy
 split at hs
 case isFalse => cases hs
 rename_i hok
 cases hs
 obtain ⟨p, hp, rfl⟩ := Fr.ok_of hok.1
 obtain ⟨q, hq, rfl⟩ := Fr.ok_of hok.2
 refine ⟨by simp [lf76], ?_⟩
 rw [q_ofQ, q_ofQ]
 obtain ⟨m1, w1⟩ := mulW (Sm_z hp) hq.2
 obtain ⟨m2, w2⟩ := mulW (Sm_z hq) hp.2
 have zp := Sm_z hp
 have zq := Sm_z hq
 have dp := Sm_d hp
 have dq := Sm_d hq
 have l1 := zl_mul (z := p.num) (w := q.den)
 have l2 := zl_mul (z := q.num) (w := p.den)
 have o := sWPlus_num (z := p.num * q.den) (w := q.num * p.den) (by omega) (by omega)
 have l3 := zl_add (z := p.num * q.den) (w := q.num * p.den)
 have hpd := hp.2
 have hqd := hq.2
 have dd : sTimes [.lst ((limbs p.den).map u64), .lst ((limbs q.den).map u64)] = some (.lst ((limbs (p.den * q.den)).map u64)) := sTimes_num (by omega) (by omega)
 have l4 := len_mul p.den q.den
 have lw := sMade_num (decide (p.num * q.den + q.num * p.den < 0)) (a := (p.num * q.den + q.num * p.den).natAbs) (b := p.den * q.den) (by unfold zl at *; omega) (by omega) (Nat.mul_ne_zero p.den_nz q.den_nz)
 rw [zOf_sign, add_mk] at lw
 obtain ⟨w, hw⟩ : ∃ w, w = p.num * q.den + q.num * p.den := ⟨_, rfl⟩
 rw [← hw] at o lw
 obtain ⟨R, hR⟩ : ∃ R, R = ofQ (p + q) := ⟨_, rfl⟩
 rw [← hR] at lw ⊢
 rw [iN_case w] at o
 simp only [enc_ofQ]
 simp only [Fr.enc] at lw ⊢
 simp [lf76, vc_regionW, fillS, Tra_mu, Tra_fns]
 refine ⟨[], ?_⟩
 simp [m1, w1, m2, w2, o, vc_regionW, fillS, Tra_mu, Tra_fns]
 refine ⟨fun k hk => by match k, hk with | 0, _ => rfl | 1, _ => rfl | 2, _ => rfl, [], ?_⟩
 simp [dd, lw, fillS, Tra_mu, Tra_fns]
def Trtq : Tab := (((((Tab.none.with 37 (pureS (f1 boolF))).with 76 (pureS sAddR)).with 75 (pureS (f1 fitP))).with 51 (pureS (f1 negP))).with 115 (pureS sTimes)).with 112 (pureS sMade)
theorem Trtq_ok : TabOk Tryz.prog base Trtq := Tab.with_ok (Tab.with_ok (Tab.with_ok (Tab.with_ok (Tab.with_ok (Tab.with_ok Tab.none_ok rvalidR_ok) raddR_ok) rfitsR_ok) rNeg_ok) rmul_ok) rmade_ok
theorem Trtq_mu (f : FuncId) (a : List AVal) (H : Heap) : Trtq.mu f a H = none := (rfl)
theorem Trtq_fns : Trtq.fn 37 = pureS (f1 boolF) ∧ Trtq.fn 76 = pureS sAddR ∧ Trtq.fn 75 = pureS (f1 fitP) ∧ Trtq.fn 51 = pureS (f1 negP) ∧ Trtq.fn 115 = pureS sTimes ∧ Trtq.fn 112 = pureS sMade := ⟨rfl, rfl, rfl, rfl, rfl, rfl⟩
theorem rAdd_ok : FnOk Tryz.prog base 34 (pureS (f2 addP)) := by
 refine pure_of_vc hmix Trtq_ok globNone low34 fun args z hs hf => ?_
 obtain ⟨x, y, wx, wy, rfl, rfl⟩ := f2_some hs
 refine ⟨by simp [lf34], ?_⟩
 have v1 := vF wx
 have v2 := vF wy
 cases ox : x.ok with
 | false => rw [ox] at v1; simp only [Fr.enc] at v1 ⊢; simp [lf34, v1, addP, addF, ox, pairF, zF, Fr.enc, fillS, Trtq_mu, Trtq_fns]
 | true =>
  rw [ox] at v1
  cases oy : y.ok with
  | false => rw [oy] at v2; simp only [Fr.enc] at v1 v2 ⊢; simp [lf34, v1, v2, addP, addF, ox, oy, pairF, zF, Fr.enc, fillS, Trtq_mu, Trtq_fns]
  | true =>
   rw [oy] at v2
   obtain ⟨p, hp, rfl⟩ := Fr.ok_of ox
   obtain ⟨q, hq, rfl⟩ := Fr.ok_of oy
   have e : addP (ofQ p) (ofQ q) = pairF (heldQ (p + q)) := by unfold addP; rw [addF_num hp hq]
   rw [e]
   have a := sAddR_num hp hq
   have f := fitP_num (p + q)
   obtain ⟨R, hR⟩ : ∃ R, R = heldQ (p + q) := ⟨_, rfl⟩
   obtain ⟨S, hS⟩ : ∃ S, S = ofQ (p + q) := ⟨_, rfl⟩
   rw [← hR, ← hS] at f
   rw [← hS] at a
   rw [← hR]
   simp only [pairF, Fr.enc] at v1 v2 a f ⊢
   simp [lf34, v1, v2, a, f, fillS, Trtq_mu, Trtq_fns]
theorem rMul_ok : FnOk Tryz.prog base 98 (pureS (f2 mulP)) := by
 refine pure_of_vc hmix Trtq_ok globNone low98 fun args z hs hf => ?_
 obtain ⟨x, y, wx, wy, rfl, rfl⟩ := f2_some hs
 refine ⟨by simp [lf98], ?_⟩
 have v1 := vF wx
 have v2 := vF wy
 cases ox : x.ok with
 | false => rw [ox] at v1; simp only [Fr.enc] at v1 ⊢; simp [lf98, v1, mulP, mulF, ox, pairF, zF, Fr.enc, fillS, Trtq_mu, Trtq_fns]
 | true =>
  rw [ox] at v1
  cases oy : y.ok with
  | false => rw [oy] at v2; simp only [Fr.enc] at v1 v2 ⊢; simp [lf98, v1, v2, mulP, mulF, ox, oy, pairF, zF, Fr.enc, fillS, Trtq_mu, Trtq_fns]
  | true =>
   rw [oy] at v2
   obtain ⟨p, hp, rfl⟩ := Fr.ok_of ox
   obtain ⟨q, hq, rfl⟩ := Fr.ok_of oy
   have e : mulP (ofQ p) (ofQ q) = pairF (heldQ (p * q)) := by unfold mulP; rw [mulF_num hp hq]
   rw [e]
   obtain ⟨a1, a2⟩ := hp
   obtain ⟨b1, b2⟩ := hq
   have t1 := sTimes_num (a := p.num.natAbs) (b := q.num.natAbs) (by omega) (by omega)
   have t2 := sTimes_num (a := p.den) (b := q.den) (by omega) (by omega)
   have l1 := len_mul p.num.natAbs q.num.natAbs
   have l2 := len_mul p.den q.den
   have lw := sMade_num (decide (p.num < 0) != decide (q.num < 0)) (a := p.num.natAbs * q.num.natAbs) (b := p.den * q.den) (by omega) (by omega) (Nat.mul_ne_zero p.den_nz q.den_nz)
   rw [zOf_mul, mul_mk] at lw
   have f := fitP_num (p * q)
   obtain ⟨R, hR⟩ : ∃ R, R = heldQ (p * q) := ⟨_, rfl⟩
   obtain ⟨S, hS⟩ : ∃ S, S = ofQ (p * q) := ⟨_, rfl⟩
   rw [← hR, ← hS] at f
   rw [← hS] at lw
   rw [← hR]
   obtain ⟨s, hs⟩ : ∃ s, s = decide (p.num < 0) := ⟨_, rfl⟩
   obtain ⟨t, ht⟩ : ∃ s, s = decide (q.num < 0) := ⟨_, rfl⟩
   simp only [enc_ofQ, ← hs, ← ht] at v1 v2 lw f ⊢
   simp only [pairF, Fr.enc] at lw f ⊢
   have hb : (s != t) = !(s == t) := by cases s <;> cases t <;> rfl
   simp [lf98, v1, v2, vc_regionW, fillS, Trtq_mu, Trtq_fns]
   refine ⟨[], ?_⟩
   simp [t1, t2, lw, f, ← hb, fillS, Trtq_mu, Trtq_fns]
theorem rQuo_ok : FnOk Tryz.prog base 73 (pureS (f2 quoP)) := by
 refine pure_of_vc hmix Trtq_ok globNone low73 fun args z hs hf => ?_
 obtain ⟨x, y, wx, wy, rfl, rfl⟩ := f2_some hs
 refine ⟨by simp [lf73], ?_⟩
 have v1 := vF wx
 have v2 := vF wy
 cases ox : x.ok with
 | false => rw [ox] at v1; simp only [Fr.enc] at v1 ⊢; simp [lf73, v1, quoP, quoF, ox, pairF, zF, Fr.enc, fillS, Trtq_mu, Trtq_fns]
 | true =>
  rw [ox] at v1
  cases oy : y.ok with
  | false => rw [oy] at v2; simp only [Fr.enc] at v1 v2 ⊢; simp [lf73, v1, v2, quoP, quoF, ox, oy, pairF, zF, Fr.enc, fillS, Trtq_mu, Trtq_fns]
  | true =>
   rw [oy] at v2
   obtain ⟨p, hp, rfl⟩ := Fr.ok_of ox
   obtain ⟨q, hq, rfl⟩ := Fr.ok_of oy
   by_cases h0 : q = 0
   ·subst h0
    have e : quoP (ofQ p) (ofQ 0) = pairF (zF, 1) := by unfold quoP quoF; rw [q_ofQ, q_ofQ]; simp
    rw [e]
    rw [ofQ_zero] at v2 ⊢
    simp only [Fr.enc, List.map_nil, List.map_cons, u64] at v1 v2 ⊢
    have v2' : f1 boolF [.agg [.bool false, .lst [], .lst [.int .u64 1]]] = some (.bool true) := v2
    simp [lf73, v1, v2', pairF, zF, Fr.enc, fillS, Trtq_mu, Trtq_fns]
   ·have e : quoP (ofQ p) (ofQ q) = pairF (heldQ (p / q)) := by unfold quoP; rw [quoF_num hp hq h0]
    rw [e]
    have hn : q.num.natAbs ≠ 0 := fun e => h0 (Rat.num_eq_zero.1 (by omega))
    have hl := len_beq hn
    obtain ⟨a1, a2⟩ := hp
    obtain ⟨b1, b2⟩ := hq
    have t1 := sTimes_num (a := p.num.natAbs) (b := q.den) (by omega) (by omega)
    have t2 := sTimes_num (a := p.den) (b := q.num.natAbs) (by omega) (by omega)
    have l1 := len_mul p.num.natAbs q.den
    have l2 := len_mul p.den q.num.natAbs
    have lw := sMade_num (decide (p.num < 0) != decide (q.num < 0)) (a := p.num.natAbs * q.den) (b := p.den * q.num.natAbs) (by omega) (by omega) (Nat.mul_ne_zero p.den_nz hn)
    rw [quo_mk p h0] at lw
    have f := fitP_num (p / q)
    obtain ⟨R, hR⟩ : ∃ R, R = heldQ (p / q) := ⟨_, rfl⟩
    obtain ⟨S, hS⟩ : ∃ S, S = ofQ (p / q) := ⟨_, rfl⟩
    rw [← hR, ← hS] at f
    rw [← hS] at lw
    rw [← hR]
    obtain ⟨s, hs⟩ : ∃ s, s = decide (p.num < 0) := ⟨_, rfl⟩
    obtain ⟨t, ht⟩ : ∃ s, s = decide (q.num < 0) := ⟨_, rfl⟩
    simp only [enc_ofQ, ← hs, ← ht] at v1 v2 lw f ⊢
    simp only [pairF, Fr.enc] at lw f ⊢
    have hb : (s != t) = !(s == t) := by cases s <;> cases t <;> rfl
    simp [lf73, v1, v2, lenL, hl, vc_regionW, fillS, Trtq_mu, Trtq_fns]
    refine ⟨[], ?_⟩
    simp [t1, t2, lw, f, ← hb, fillS, Trtq_mu, Trtq_fns]
end Go.Proofs.YtcfklmjgofknjaaGreat
