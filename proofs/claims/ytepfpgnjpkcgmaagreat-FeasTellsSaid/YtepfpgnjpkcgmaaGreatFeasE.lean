/-
  What both sides' Pick and Of compute. No conditions beyond the lemmas' own hypotheses.
-/
import Derived.Test.YtepfpgnjpkcgmaaGreatFeasD
import Derived.Test.YtepfpgnjpkcgmaaGreatRatD
import Derived.Test.YtepfpgnjpkcgmaaGreatAtomC
import Derived.Test.YtepfpgnjpkcgmaaGreatLinE
set_option linter.unusedSimpArgs false
set_option linter.unnecessarySimpa false
set_option linter.unusedVariables false
set_option linter.constructorNameAsVariable false

/-
 The reference's fractions: the whole number below, a number between two.
-/
namespace Go.Proofs.YtepfpgnjpkcgmaaGreat
open Go Go.Abs Go.Limbs
variable {base : Prot}
set_option maxRecDepth 20000
attribute [local irreducible] vc
attribute [local simp] pureS touchV freezeL fuel shiftV u64 au
def Trfl : Tab := (((Tab.none.with 50 (pureS (f1 boolF))).with 167 (pureS sQuotR)).with 172 (pureS sPlus)).with 118 (pureS sOne)
def Trfm : Tab := Trfl.with 173 (pureS sWide)
theorem Trfm_ok : TabOk Tryz.prog base Trfm := Tab.with_ok (Tab.with_ok (Tab.with_ok (Tab.with_ok (Tab.with_ok Tab.none_ok rvalidR_ok) rdiv_ok) radd_ok) rone_ok) riwide_ok
theorem Trfm_mu (f : FuncId) (a : List AVal) (H : Heap) : Trfm.mu f a H = none := (rfl)
theorem Trfm_fns : Trfm.fn 50 = pureS (f1 boolF) ∧ Trfm.fn 167 = pureS sQuotR ∧ Trfm.fn 172 = pureS sPlus ∧ Trfm.fn 118 = pureS sOne ∧ Trfm.fn 173 = pureS sWide := ⟨rfl, rfl, rfl, rfl, rfl⟩
theorem rfloor_ok : FnOk Tryz.prog base 127 (pureS sFloor) := by
 refine pure_of_vc hmix Trfm_ok globNone low127 fun args z hs hf => ?_
 unfold sFloor at hs
 split at hs
 case h_2 => cases hs
 rename_i v
 split at hs
 case h_2 => cases hs
 rename_i x hx
 obtain ⟨rfl, wx⟩ := decF_some hx
 refine ⟨by simp [lf127], ?_⟩
 have v1 := vF wx
 cases ox : x.ok with
 | false =>
  rw [ox] at v1 hs
  cases hs
  simp only [Fr.enc] at v1 ⊢
  simp [lf127, v1, iP, fillS, Trfm_mu, Trfm_fns]
 | true =>
  rw [ox] at v1 hs
  rw [if_pos rfl] at hs
  split at hs
  case isFalse => cases hs
  rename_i h60
  cases hs
  obtain ⟨p, hp, rfl⟩ := Fr.ok_of ox
  rw [q_ofQ]
  have hn60 : len p.num.natAbs ≤ 60 := h60
  have hd := hp.2
  have q1 : sQuotR [.lst ((ofQ p).n.map u64), .lst ((ofQ p).d.map u64)] = some (.tup [.lst ((limbs (p.num.natAbs / p.den)).map u64), .lst ((limbs (p.num.natAbs % p.den)).map u64)]) := sQuotR_num (by omega) (by omega) p.den_nz
  have hql : len (p.num.natAbs / p.den) ≤ 60 := Nat.le_trans (len_mono (Nat.div_le_self _ _)) hn60
  have o1 := sOne_nil
  have a1 : sPlus [.lst ((limbs (p.num.natAbs / p.den)).map u64), .lst [.int .u64 1]] = some (.lst ((limbs (p.num.natAbs / p.den + 1)).map u64)) := by
   have := sPlus_num (a := p.num.natAbs / p.den) (b := 1) (by omega) (by rw [len_one]; omega)
   rw [limbs_one] at this
   exact this
  have hfl := qD_floor p
  unfold qD nD cD at hfl
  rw [Int.natAbs_natCast, decide_eq_false (show ¬ (p.den : Int) < 0 by omega), Bool.bne_false] at hfl
  have hw1 := sWide_iN (decide (p.num < 0)) (p.num.natAbs / p.den)
  have hw2 := sWide_iN (decide (p.num < 0)) (p.num.natAbs / p.den + 1)
  have hr0 : (0 < (limbs (p.num.natAbs % p.den)).length) ↔ p.num.natAbs % p.den ≠ 0 := by
   constructor
   ·intro h e
    rw [e, limbs_zero] at h
    simp at h
   ·intro h
    have : (limbs (p.num.natAbs % p.den)).length ≠ 0 := fun e => h (len_eq_zero.1 e)
    omega
  have hs : (ofQ p).s = decide (p.num < 0) := rfl
  obtain ⟨q, hq⟩ : ∃ q, q = p.num.natAbs / p.den := ⟨_, rfl⟩
  obtain ⟨r, hr⟩ : ∃ q, q = p.num.natAbs % p.den := ⟨_, rfl⟩
  rw [← hq] at q1 a1 hfl hw1 hw2
  rw [← hr] at q1 hfl hr0
  obtain ⟨Lr, hLr⟩ : ∃ l, l = limbs r := ⟨_, rfl⟩
  rw [← hLr] at q1 hr0
  simp only [Fr.enc, hs] at v1 ⊢
  by_cases h0 : p.num < 0
  ·rw [decide_eq_true h0] at v1 hfl hw1 hw2 ⊢
   by_cases hr1 : r = 0
   ·rw [if_neg (by simp [hr1])] at hfl
    rw [hfl] at hw1
    have hl : ¬ 0 < Lr.length := fun h => (hr0.1 h) hr1
    have hl' : Lr = [] := List.length_eq_zero_iff.1 (by omega)
    rw [iN_case p.floor] at hw1 ⊢
    subst hl'
    simp only [List.map_nil] at q1
    simp [lf127, v1, q1, hw1, fillS, Trfm_mu, Trfm_fns]
   ·rw [if_pos (by simp [hr1])] at hfl
    rw [hfl] at hw2
    have hl := hr0.2 hr1
    rw [iN_case p.floor] at hw2 ⊢
    simp [lf127, v1, q1, hl, o1, a1, hw2, fillS, Trfm_mu, Trfm_fns]
  ·rw [decide_eq_false h0] at v1 hfl hw1 hw2 ⊢
   rw [if_neg (by simp)] at hfl
   rw [hfl] at hw1
   rw [iN_case p.floor] at hw1 ⊢
   simp [lf127, v1, q1, hw1, fillS, Trfm_mu, Trfm_fns]
def sOfW : List PVal → Option PVal
 | [.agg [.bool s, .lst xs]] => match decZ s xs with | some z => some (ofQ (z : Rat)).enc | none => none
 | _ => none
theorem sOfW_num {z : Int} (h : zl z ≤ 100000) : sOfW [iN z] = some (ofQ (z : Rat)).enc := by
 simp only [sOfW, iN, iP, decZ_num h]
theorem ofQ_int (z : Int) : (ofQ (z : Rat)).enc = .agg [.bool (decide (z < 0)), .lst ((limbs z.natAbs).map u64), .lst [.int .u64 1]] := by
 unfold Fr.enc ofQ
 rw [Rat.num_intCast, Rat.den_intCast, limbs_one]
 rfl
def Trofw : Tab := Tab.none.with 118 (pureS sOne)
theorem Trofw_ok : TabOk Tryz.prog base Trofw := Tab.with_ok Tab.none_ok rone_ok
theorem Trofw_mu (f : FuncId) (a : List AVal) (H : Heap) : Trofw.mu f a H = none := (rfl)
theorem Trofw_fns : Trofw.fn 118 = (pureS sOne) := (rfl)
theorem rofw_ok : FnOk Tryz.prog base 174 (pureS sOfW) := by
 refine pure_of_vc hmix Trofw_ok globNone low174 fun args z hs hf => ?_
 unfold sOfW at hs
 split at hs
 case h_2 => cases hs
 rename_i s xs
 split at hs
 case h_2 => cases hs
 rename_i z hz
 obtain ⟨lz, rfl, rfl⟩ := decZ_some hz
 cases hs
 refine ⟨by simp [lf174], ?_⟩
 have o1 := sOne_nil
 rw [ofQ_int]
 simp [lf174, fillS, Trofw_mu, Trofw_fns]
 rw [vc_regionW]
 refine ⟨[], ?_⟩
 simp [o1, fillS, Trofw_mu, Trofw_fns]
theorem rwhole22_ok : FnOk Tryz.prog base 126 (pureS sOfW) := by
 refine pure_of_vc hmix Tab.none_ok globNone low126 fun args z hs hf => ?_
 unfold sOfW at hs
 split at hs
 case h_2 => cases hs
 rename_i s xs
 split at hs
 case h_2 => cases hs
 rename_i z hz
 obtain ⟨lz, rfl, rfl⟩ := decZ_some hz
 cases hs
 refine ⟨by simp [lf126], ?_⟩
 rw [ofQ_int]
 simp [lf126, fillS]
def Trb1 : Tab := ((((((((((Tab.none.with 50 (pureS (f1 boolF))).with 168 (pureS sCmpR)).with 82 (pureS sQOf)).with 127 (pureS sFloor)).with 142 (pureS sIOf)).with 175 (pureS sWPlus)).with 174 (pureS sOfW)).with 155 (pureS (f1 fitP))).with 164 (pureS sAddR)).with 157 (pureS sTimes)).with 156 (pureS sMade)
theorem Trb1_ok : TabOk Tryz.prog base Trb1 := Tab.with_ok (Tab.with_ok (Tab.with_ok (Tab.with_ok (Tab.with_ok (Tab.with_ok (Tab.with_ok (Tab.with_ok (Tab.with_ok (Tab.with_ok (Tab.with_ok Tab.none_ok rvalidR_ok) rcmpR_ok) rofR_ok) rfloor_ok) riof_ok) riadd_ok) rofw_ok) rfitsR_ok) raddR_ok) rmul_ok) rmade_ok
theorem Trb1_mu (f : FuncId) (a : List AVal) (H : Heap) : Trb1.mu f a H = none := (rfl)
theorem Trb1_fns : Trb1.fn 50 = (pureS (f1 boolF)) ∧ Trb1.fn 168 = (pureS sCmpR) ∧ Trb1.fn 82 = (pureS sQOf) ∧ Trb1.fn 127 = (pureS sFloor) ∧ Trb1.fn 142 = (pureS sIOf) ∧ Trb1.fn 175 = (pureS sWPlus) ∧ Trb1.fn 174 = (pureS sOfW) ∧ Trb1.fn 155 = (pureS (f1 fitP)) ∧ Trb1.fn 164 = (pureS sAddR) ∧ Trb1.fn 157 = (pureS sTimes) ∧ Trb1.fn 156 = (pureS sMade) := ⟨rfl, rfl, rfl, rfl, rfl, rfl, rfl, rfl, rfl, rfl, rfl⟩
theorem half_one (s : Rat) : mkRat s.num (s.den * 2) = s / 2 := by
 refine div_of_mul (by decide +kernel) ?_
 have h := Rat.mkRat_mul_mkRat s.num 2 (s.den * 2) 1
 rw [show mkRat 2 1 = (2 : Rat) by decide +kernel] at h
 rw [h, Nat.mul_one]
 have h2 := Rat.mkRat_mul_right (n := s.num) (d := s.den) (a := 2) (by decide)
 rw [Rat.mkRat_self] at h2
 exact h2
theorem keep6 {a b c d e f : Ent} {r s : Heap} (k : Nat) (hk : k < 6) : (a :: b :: c :: d :: e :: f :: r)[k]? = (a :: b :: c :: d :: e :: f :: s)[k]? := by
 rcases k with _ | _ | _ | _ | _ | _ | k <;> first | rfl | omega
def sBetA : List PVal → Option PVal
 | [a, b] => match decF a, decF b with
  | some x, some y => if x.ok ∧ y.ok ∧ x.q < y.q ∧ 0 < y.q ∧ x.n.length ≤ 20 ∧ x.d.length ≤ 20 ∧ y.n.length ≤ 20 ∧ y.d.length ≤ 20 then some (pairF (heldQ (betweenQ x.q y.q))) else none
  | _, _ => none
 | _ => none
theorem sBetA_num {p q : Rat} (hp : Sm 20 p) (hq : Sm 20 q) (h : p < q) (h0 : 0 < q) : sBetA [(ofQ p).enc, (ofQ q).enc] = some (pairF (heldQ (betweenQ p q))) := by
 simp only [sBetA, decF_enc (wf_ofQ p), decF_enc (wf_ofQ q), q_ofQ]
 rw [if_pos ⟨ok_ofQ (Sm_mono hp (by omega)), ok_ofQ (Sm_mono hq (by omega)), h, h0, hp.1, hp.2, hq.1, hq.2⟩]
theorem zeroQ_of : sQOf [.int .i64 0, .int .i64 1] = some (ofQ 0).enc := by
 have := oL (n := 0) (d := 1) (q := 0) (by decide) (by decide +kernel)
 exact this
set_option maxHeartbeats 2000000 in
theorem rbetA_ok : FnOk Tryz.prog base 129 (pureS sBetA) := by
 refine pure_of_vc hmix Trb1_ok globNone low129 fun args z hs hf => ?_
 unfold sBetA at hs
 split at hs
 case h_2 => cases hs
 rename_i v w
 split at hs
 case h_2 => cases hs
 rename_i x y hx hy
 obtain ⟨rfl, wx⟩ := decF_some hx
 obtain ⟨rfl, wy⟩ := decF_some hy
 split at hs
 case isFalse => cases hs
 rename_i hc
 cases hs
 obtain ⟨ox, oy, hlt, h0, l1, l2, l3, l4⟩ := hc
 obtain ⟨p, hp, rfl⟩ := Fr.ok_of ox
 obtain ⟨q, hq, rfl⟩ := Fr.ok_of oy
 rw [q_ofQ, q_ofQ] at *
 have hp20 : Sm 20 p := ⟨l1, l2⟩
 have hq20 : Sm 20 q := ⟨l3, l4⟩
 have S0 : Sm 64 (0 : Rat) := by decide +kernel
 refine ⟨by simp [lf129], ?_⟩
 have v1 := vF (wf_ofQ p)
 have v2 := vF (wf_ofQ q)
 rw [ox] at v1
 rw [oy] at v2
 have c1 := sCmpR_num hp hq
 have c2 := sCmpR_num hp S0
 have c3 := sCmpR_num hq S0
 have z0 := zeroQ_of
 rw [cmpQ_lt hlt] at c1
 rw [cmpQ_gt h0] at c3
 by_cases hn : p < 0
 ·rw [cmpQ_lt hn] at c2
  rw [betweenQ_eq, if_pos ⟨hn, h0⟩, heldQ_ok S0]
  simp only [pairF, Fr.enc] at v1 v2 c1 c2 c3 z0 ⊢
  simp [lf129, v1, v2, c1, c2, c3, z0, fillS, Trb1_mu, Trb1_fns]
 ·have c2n : ¬ cmpQ p 0 < 0 := fun h => hn (cmpQ_neg_iff.1 h)
  obtain ⟨k2, hk2⟩ : ∃ k, k = cmpQ p 0 := ⟨_, rfl⟩
  rw [← hk2] at c2 c2n
  have hfl : p < ((p.floor + 1 : Int) : Rat) := Rat.lt_floor_add_one p
  have eb : betweenQ p q = if ((p.floor + 1 : Int) : Rat) < q then ((p.floor + 1 : Int) : Rat) else (p + q) / 2 := by
   rw [betweenQ_eq, if_neg (fun h => hn h.1)]
   unfold nextZ
   rw [if_neg hn]
   by_cases h : ((p.floor + 1 : Int) : Rat) < q
   ·rw [if_pos ⟨hfl, h⟩, if_pos h]
   ·rw [if_neg (fun e => h e.2), if_neg h]
  rw [eb]
  have F := sFloor_num (Sm_mono hp20 (show 20 ≤ 60 by omega))
  have hz : zl p.floor ≤ 21 := len_floor l1
  have o1 := sIOf_one
  have A := sWPlus_num (z := p.floor) (w := 1) (by omega) (by rw [zl_one]; omega)
  have hl2 := zl_add (z := p.floor) (w := 1)
  rw [zl_one] at hl2
  have W := sOfW_num (z := p.floor + 1) (by omega)
  have SA : Sm 64 ((p.floor + 1 : Int) : Rat) := Sm_mono (Sm_above l1 (by omega)) (by omega)
  have c4 := sCmpR_num SA hq
  have f1' := fitP_num ((p.floor + 1 : Int) : Rat)
  obtain ⟨m, hm⟩ : ∃ m : Rat, m = ((p.floor + 1 : Int) : Rat) := ⟨_, rfl⟩
  rw [← hm] at W c4 SA f1' ⊢
  by_cases hlt2 : m < q
  ·rw [cmpQ_lt hlt2] at c4
   rw [if_pos hlt2]
   obtain ⟨R, hR⟩ : ∃ R, R = heldQ m := ⟨_, rfl⟩
   rw [← hR] at f1' ⊢
   simp only [pairF, Fr.enc, iN_case (p.floor), iN_case (p.floor + 1)] at v1 v2 c1 c2 c3 c4 z0 F A W f1' ⊢
   simp [lf129, v1, v2, c1, c2, c2n, c3, c4, z0, F, o1, A, W, f1', fillS, Trb1_mu, Trb1_fns]
  ·have c4n : ¬ cmpQ m q < 0 := fun h => hlt2 (cmpQ_neg_iff.1 h)
   rw [if_neg hlt2]
   obtain ⟨k4, hk4⟩ : ∃ k, k = cmpQ m q := ⟨_, rfl⟩
   rw [← hk4] at c4 c4n
   have S := sAddR_num hp hq
   obtain ⟨s, hs⟩ : ∃ s, s = p + q := ⟨_, rfl⟩
   rw [← hs] at S ⊢
   have Ss : Sm 41 s := by rw [hs]; exact Sm_add hp20 hq20
   have len2 : len 2 ≤ 1 := len_le (by decide)
   have lsd := Ss.2
   have lsn := Ss.1
   have lmul := len_mul s.den 2
   have T := sTimes_num (a := s.den) (b := 2) (by omega) (by omega)
   have M := sMade_num (decide (s.num < 0)) (a := s.num.natAbs) (b := s.den * 2) (by omega) (by omega) (Nat.mul_ne_zero s.den_nz (by decide))
   rw [zOf_sign, half_one] at M
   have f2' := fitP_num (s / 2)
   have e2 : limbs 2 = [2] := by decide +kernel
   rw [e2] at T
   have T' : sTimes [.lst ((ofQ s).d.map u64), .lst [.int .u64 2]] = some (.lst ((limbs (s.den * 2)).map u64)) := T
   have M' : sMade [.bool (ofQ s).s, .lst ((ofQ s).n.map u64), .lst ((limbs (s.den * 2)).map u64)] = some (ofQ (s / 2)).enc := M
   obtain ⟨R, hR⟩ : ∃ R, R = heldQ (s / 2) := ⟨_, rfl⟩
   rw [← hR] at f2' ⊢
   simp only [pairF, Fr.enc, iN_case (p.floor), iN_case (p.floor + 1)] at v1 v2 c1 c2 c3 c4 z0 F A W S f2' M' ⊢
   simp [lf129, v1, v2, c1, c2, c2n, c3, c4, c4n, z0, F, o1, A, W, S, fillS, Trb1_mu, Trb1_fns]
   rw [vc_regionW]
   refine ⟨[], ?_⟩
   simp [fillS, Trb1_mu, Trb1_fns]
   refine ⟨keep6, ?_⟩
   simp [freeze1, T', M', f2', fillS, Trb1_mu, Trb1_fns]
   exact keep6
theorem fnOk_or {P : Program} {f : FuncId} {s t u : List PVal → Option PVal} (h1 : FnOk P base f (pureS s)) (h2 : FnOk P base f (pureS t)) (hu : ∀ a x, u a = some x → s a = some x ∨ t a = some x) : FnOk P base f (pureS u) := by
 refine ⟨h1.1, fun args r E hr => ?_⟩
 unfold pureS at hr
 cases hx : u args with
 | none => rw [hx] at hr; cases hr
 | some x =>
  rw [hx] at hr
  rcases hu args x hx with h | h
  ·exact h1.2 args r E (by unfold pureS; rw [h]; exact hr)
  ·exact h2.2 args r E (by unfold pureS; rw [h]; exact hr)
def Trb2 : Tab := ((((Tab.none.with 50 (pureS (f1 boolF))).with 168 (pureS sCmpR)).with 82 (pureS sQOf)).with 53 (pureS (f1 negP))).with 129 (pureS sBetA)
theorem Trb2_ok : TabOk Tryz.prog base Trb2 := Tab.with_ok (Tab.with_ok (Tab.with_ok (Tab.with_ok (Tab.with_ok Tab.none_ok rvalidR_ok) rcmpR_ok) rofR_ok) rNeg_ok) rbetA_ok
theorem Trb2_mu (f : FuncId) (a : List AVal) (H : Heap) : Trb2.mu f a H = none := (rfl)
theorem Trb2_fns : Trb2.fn 50 = (pureS (f1 boolF)) ∧ Trb2.fn 168 = (pureS sCmpR) ∧ Trb2.fn 82 = (pureS sQOf) ∧ Trb2.fn 53 = (pureS (f1 negP)) ∧ Trb2.fn 129 = (pureS sBetA) := ⟨rfl, rfl, rfl, rfl, rfl⟩
theorem lt_neg_iff {a b : Rat} : -b < -a ↔ a < b := ⟨fun h => by have := Rat.neg_lt_neg h; rwa [Rat.neg_neg, Rat.neg_neg] at this, Rat.neg_lt_neg⟩
theorem between_neg {p q : Rat} (h : p < q) (h0 : ¬ 0 < q) : betweenQ p q = - betweenQ (-q) (-p) := by
 have hp : p < 0 := lt_le h (Rat.not_lt.1 h0)
 have hq : ¬ -q < 0 := fun e => h0 (by have := Rat.neg_lt_neg e; rwa [Rat.neg_neg, show -(0 : Rat) = 0 by decide +kernel] at this)
 rw [betweenQ_eq p q, if_neg (show ¬ (p < 0 ∧ 0 < q) from fun e => h0 e.2), betweenQ_eq (-q) (-p), if_neg (show ¬ (-q < 0 ∧ 0 < -p) from fun e => hq e.1)]
 unfold nextZ
 rw [if_pos hp, if_neg hq, Rat.intCast_neg]
 obtain ⟨n, hn⟩ : ∃ n : Rat, n = (((-q).floor + 1 : Int) : Rat) := ⟨_, rfl⟩
 rw [← hn]
 have e1 : p < -n ↔ n < -p := by rw [← lt_neg_iff (a := p) (b := -n), Rat.neg_neg]
 have e2 : -n < q ↔ -q < n := by rw [← lt_neg_iff (a := -n) (b := q), Rat.neg_neg]
 by_cases c : p < -n ∧ -n < q
 ·rw [if_pos c, if_pos ⟨e2.1 c.2, e1.1 c.1⟩]
 ·rw [if_neg c, if_neg (fun e => c ⟨e1.2 e.2, e2.2 e.1⟩)]
  grind
def sBetB : List PVal → Option PVal
 | [a, b] => match decF a, decF b with
  | some x, some y => if x.ok ∧ y.ok ∧ x.q < y.q ∧ ¬ 0 < y.q ∧ x.n.length ≤ 20 ∧ x.d.length ≤ 20 ∧ y.n.length ≤ 20 ∧ y.d.length ≤ 20 then some (pairF (heldQ (betweenQ x.q y.q))) else none
  | _, _ => none
 | _ => none
set_option maxHeartbeats 2000000 in
theorem rbetB_ok : FnOk Tryz.prog base 129 (pureS sBetB) := by
 refine pure_of_vc hmix Trb2_ok globNone low129 fun args z hs hf => ?_
 unfold sBetB at hs
 split at hs
 case h_2 => cases hs
 rename_i v w
 split at hs
 case h_2 => cases hs
 rename_i x y hx hy
 obtain ⟨rfl, wx⟩ := decF_some hx
 obtain ⟨rfl, wy⟩ := decF_some hy
 split at hs
 case isFalse => cases hs
 rename_i hc
 cases hs
 obtain ⟨ox, oy, hlt, h0, l1, l2, l3, l4⟩ := hc
 obtain ⟨p, hp, rfl⟩ := Fr.ok_of ox
 obtain ⟨q, hq, rfl⟩ := Fr.ok_of oy
 rw [q_ofQ, q_ofQ] at *
 have hp20 : Sm 20 p := ⟨l1, l2⟩
 have hq20 : Sm 20 q := ⟨l3, l4⟩
 have S0 : Sm 64 (0 : Rat) := by decide +kernel
 refine ⟨by simp [lf129], ?_⟩
 have v1 := vF (wf_ofQ p)
 have v2 := vF (wf_ofQ q)
 rw [ox] at v1
 rw [oy] at v2
 have c1 := sCmpR_num hp hq
 have c2 := sCmpR_num hp S0
 have c3 := sCmpR_num hq S0
 have z0 := zeroQ_of
 have hp0 : p < 0 := lt_le hlt (Rat.not_lt.1 h0)
 rw [cmpQ_lt hlt] at c1
 rw [cmpQ_lt hp0] at c2
 have c3n : ¬ 0 < cmpQ q 0 := fun h => h0 (cmpQ_pos_iff.1 h)
 have c3l : cmpQ q 0 ≤ 0 := by omega
 obtain ⟨k3, hk3⟩ : ∃ k, k = cmpQ q 0 := ⟨_, rfl⟩
 rw [← hk3] at c3 c3n c3l
 have n1 := negP_num hp
 have n2 := negP_num hq
 have hnp : 0 < -p := by have := Rat.neg_lt_neg hp0; rwa [show -(0 : Rat) = 0 by decide +kernel] at this
 have hb := sBetA_num (Sm_neg hq20) (Sm_neg hp20) (Rat.neg_lt_neg hlt) hnp
 have Sb : Sm 64 (betweenQ (-q) (-p)) := Sm_mono (Sm_between (Sm_neg hq20) (Sm_neg hp20) (by omega)) (by omega)
 rw [heldQ_ok Sb] at hb
 rw [between_neg hlt h0, heldQ_ok (Sm_neg Sb)]
 have n3 := negP_num Sb
 obtain ⟨m, hm⟩ : ∃ m, m = betweenQ (-q) (-p) := ⟨_, rfl⟩
 rw [← hm] at hb n3 ⊢
 simp only [pairF, Fr.enc] at v1 v2 c1 c2 c3 z0 n1 n2 n3 hb ⊢
 simp [lf129, v1, v2, c1, c2, c3, c3n, c3l, z0, fillS, Trb2_mu, Trb2_fns]
 rw [vc_regionW]
 refine ⟨[], ?_⟩
 simp [n1, n2, hb, n3, fillS, Trb2_mu, Trb2_fns]
 exact keep4
def sBetR : List PVal → Option PVal
 | [a, b] => match decF a, decF b with
  | some x, some y => if x.ok ∧ y.ok ∧ x.q < y.q ∧ x.n.length ≤ 20 ∧ x.d.length ≤ 20 ∧ y.n.length ≤ 20 ∧ y.d.length ≤ 20 then some (pairF (heldQ (betweenQ x.q y.q))) else none
  | _, _ => none
 | _ => none
theorem sBetR_num {p q : Rat} (hp : Sm 20 p) (hq : Sm 20 q) (h : p < q) : sBetR [(ofQ p).enc, (ofQ q).enc] = some (pairF (heldQ (betweenQ p q))) := by
 simp only [sBetR, decF_enc (wf_ofQ p), decF_enc (wf_ofQ q), q_ofQ]
 rw [if_pos ⟨ok_ofQ (Sm_mono hp (by omega)), ok_ofQ (Sm_mono hq (by omega)), h, hp.1, hp.2, hq.1, hq.2⟩]
theorem rbetween_ok : FnOk Tryz.prog base 129 (pureS sBetR) := by
 refine fnOk_or rbetA_ok rbetB_ok fun a x h => ?_
 unfold sBetR at h
 split at h
 case h_2 => cases h
 split at h
 case h_2 => cases h
 rename_i hx hy
 split at h
 case isFalse => cases h
 rename_i hc
 obtain ⟨ox, oy, hlt, l1, l2, l3, l4⟩ := hc
 simp only [sBetA, sBetB, hx, hy]
 rename_i y
 by_cases h0 : 0 < y.q
 ·rw [if_pos ⟨ox, oy, hlt, h0, l1, l2, l3, l4⟩]; exact .inl h
 ·rw [if_pos (c := _ ∧ _ ∧ _ ∧ ¬ _ ∧ _) ⟨ox, oy, hlt, h0, l1, l2, l3, l4⟩]; exact .inr h
end Go.Proofs.YtepfpgnjpkcgmaaGreat

/-
 Sets of spans: a number of a set: both sides.
-/
namespace Go.Proofs.YtepfpgnjpkcgmaaGreat
open Go Go.Abs Go.Limbs
variable {base : Prot}
set_option maxRecDepth 20000
attribute [local irreducible] vc
attribute [local simp] pureS touchV freezeL fuel shiftV u64 au
def insideS (x : Sp) : Fr × Nat :=
 if (x.nl && x.nh) = true then (ofQ 0, 0)
 else if (!x.nl && !x.o1) = true then (x.lo, 0)
 else if (!x.nh && !x.o2) = true then (x.hi, 0)
 else if x.nh = true then heldQ ((x.lo.q.floor + 1 : Int) : Rat)
 else if x.nl = true then heldQ ((-((-x.hi.q).floor + 1) : Int) : Rat)
 else heldQ (betweenQ x.lo.q x.hi.q)
def tinyF (x : Fr) : Bool := decide (x.n.length ≤ 20) && decide (x.d.length ≤ 20)
def tinySp (x : Sp) : Bool := tinyF x.lo && tinyF x.hi
def sInside : List PVal → Option PVal
 | [a] => match decSp a with | some x => if (goodB x && (someS x && tinySp x)) = true then some (pairF (insideS x)) else none | none => none
 | _ => none
theorem sInside_at {x : Sp} (w : x.wf) (g : x.good) (s : someS x = true) (t : tinySp x = true) : sInside [x.enc] = some (pairF (insideS x)) := by
 simp only [sInside, decSp_enc w, goodB_iff.2 g, s, t, Bool.and_self, if_true]
theorem tiny_sm {x : Fr} (h : tinyF x = true) (ho : x.ok = true) : ∃ q : Rat, Sm 20 q ∧ x = ofQ q := by
 obtain ⟨q, hq, rfl⟩ := Fr.ok_of ho
 unfold tinyF at h
 rw [Bool.and_eq_true] at h
 exact ⟨q, ⟨of_decide_eq_true h.1, of_decide_eq_true h.2⟩, rfl⟩
def Tfins : Tab := ((((Tab.none.with 101 (pureS sQZero)).with 86 (pureS sOwn)).with 169 (pureS sAbove)).with 170 (pureS sBelow)).with 171 (pureS sBet)
theorem Tfins_ok : TabOk Tryz.prog base Tfins := Tab.with_ok (Tab.with_ok (Tab.with_ok (Tab.with_ok (Tab.with_ok Tab.none_ok qzero_ok) lown_ok) qabove_ok) qbelow_ok) qbetween_ok
theorem Tfins_mu (f : FuncId) (a : List AVal) (H : Heap) : Tfins.mu f a H = none := (rfl)
theorem Tfins_fns : Tfins.fn 101 = (pureS sQZero) ∧ Tfins.fn 86 = (pureS sOwn) ∧ Tfins.fn 169 = (pureS sAbove) ∧ Tfins.fn 170 = (pureS sBelow) ∧ Tfins.fn 171 = (pureS sBet) := ⟨rfl, rfl, rfl, rfl, rfl⟩
theorem finside_ok : FnOk Tryz.prog base 125 (pureS sInside) := by
 refine pure_of_vc hmix Tfins_ok globNone low125 fun args z hs hf => ?_
 unfold sInside at hs
 split at hs
 case h_2 => cases hs
 split at hs
 case h_2 => cases hs
 rename_i x hx
 obtain ⟨rfl, wx⟩ := decSp_some hx
 split at hs
 case isFalse => cases hs
 rename_i hc
 cases hs
 simp only [Bool.and_eq_true] at hc
 obtain ⟨hg, hsome, htiny⟩ := hc
 have gx := goodB_iff.1 hg
 unfold tinySp at htiny
 rw [Bool.and_eq_true] at htiny
 have v1 := sOwn_at wx.1 (small_bound gx.1)
 have v2 := sOwn_at wx.2 (small_bound gx.2)
 have z0 : sQZero [] = some (ofQ 0).enc := sQZero_nil
 refine ⟨by simp [lf125], ?_⟩
 obtain ⟨lo, hi, nl, nh, o1, o2⟩ := x
 obtain ⟨g1, g2⟩ := gx
 dsimp only at g1 g2 v1 v2 htiny
 unfold insideS
 cases nl <;> cases nh <;> dsimp only [Bool.and_true, Bool.true_and, Bool.false_and, Bool.and_false, Bool.not_true, Bool.not_false]
 ·cases o1
  ·simp only [Fr.enc] at v1
   simp [lf125, v1, Sp.enc, Fr.enc, pairF, fillS, Tfins_mu, Tfins_fns]
  ·cases o2
   ·simp only [Fr.enc] at v2
    simp [lf125, v2, Sp.enc, Fr.enc, pairF, fillS, Tfins_mu, Tfins_fns]
   ·obtain ⟨p, hp, rfl⟩ := tiny_sm htiny.1 (bound_ok g1)
    obtain ⟨q, hq, rfl⟩ := tiny_sm htiny.2 (bound_ok g2)
    unfold someS at hsome
    rw [cmpF_num (Sm_mono hp (by omega)) (Sm_mono hq (by omega))] at hsome
    have hlt : p < q := by
     simp at hsome
     exact cmpQ_neg_iff.1 hsome
    have b := sBet_num (Sm_mono hp (show 20 ≤ 60 by omega)) (Sm_mono hq (show 20 ≤ 60 by omega)) hlt
    obtain ⟨R, hR⟩ : ∃ R, R = heldQ (betweenQ p q) := ⟨_, rfl⟩
    rw [q_ofQ, q_ofQ, ← hR]
    rw [← hR] at b
    simp only [pairF, Fr.enc] at b
    simp [lf125, b, Sp.enc, Fr.enc, pairF, fillS, Tfins_mu, Tfins_fns]
 ·cases o1
  ·simp only [Fr.enc] at v1
   simp [lf125, v1, Sp.enc, Fr.enc, pairF, fillS, Tfins_mu, Tfins_fns]
  ·obtain ⟨p, hp, rfl⟩ := tiny_sm htiny.1 (bound_ok g1)
   have b := sAbove_num (Sm_mono hp (show 20 ≤ 60 by omega))
   obtain ⟨R, hR⟩ : ∃ R, R = heldQ ((p.floor + 1 : Int) : Rat) := ⟨_, rfl⟩
   rw [q_ofQ, ← hR]
   rw [← hR] at b
   simp only [pairF, Fr.enc] at b
   simp [lf125, b, Sp.enc, Fr.enc, pairF, fillS, Tfins_mu, Tfins_fns]
 ·cases o2
  ·simp only [Fr.enc] at v2
   simp [lf125, v2, Sp.enc, Fr.enc, pairF, fillS, Tfins_mu, Tfins_fns]
  ·obtain ⟨q, hq, rfl⟩ := tiny_sm htiny.2 (bound_ok g2)
   have b := sBelow_num (Sm_mono hq (show 20 ≤ 60 by omega))
   obtain ⟨R, hR⟩ : ∃ R, R = heldQ ((-((-q).floor + 1) : Int) : Rat) := ⟨_, rfl⟩
   rw [q_ofQ, ← hR]
   rw [← hR] at b
   simp only [pairF, Fr.enc] at b
   simp [lf125, b, Sp.enc, Fr.enc, pairF, fillS, Tfins_mu, Tfins_fns]
 ·obtain ⟨Z, hZ⟩ : ∃ Z, Z = ofQ 0 := ⟨_, rfl⟩
  rw [← hZ] at z0 ⊢
  simp only [Fr.enc] at z0
  simp [lf125, z0, Sp.enc, Fr.enc, pairF, fillS, Tfins_mu, Tfins_fns]
def pickS (l : List Sp) (k : Int) : Fr × Nat := if decide (l = []) || !validP none l then (zF, 5) else match l[(k % (l.length : Int)).toNat]? with | some x => insideS x | none => (zF, 5)
def tinyL (l : List Sp) : Bool := decide (l.length ≤ 1000) && l.all tinySp
def sPick : List PVal → Option PVal
 | [.lst vs, .int .i64 k] => match decSs vs with | some l => if tinyL l = true then some (pairF (pickS l k)) else none | none => none
 | _ => none
theorem sPick_at {l : List Sp} {k : Int} (w : wfSs l) (t : tinyL l = true) : sPick [.lst (l.map Sp.enc), .int .i64 k] = some (pairF (pickS l k)) := by
 simp only [sPick, decSs_enc w, t, if_true]
theorem rem_mod {k n : Int} (hn : 0 < n) : Int.tmod (Int.tmod k n + n) n = k % n := by
 have h1 := Int.tmod_lt_of_pos k hn
 have h2 : -n < Int.tmod k n := by
  rw [Int.tmod_eq_emod]
  have := Int.emod_nonneg k (show n ≠ 0 by omega)
  have := Int.emod_lt_of_pos k hn
  split <;> omega
 rw [Int.tmod_eq_emod_of_nonneg (by omega), Int.add_emod_right]
 rw [Int.tmod_eq_emod]
 split
 ·simp
 ·rw [Int.natAbs_of_nonneg (by omega), Int.sub_emod_right, Int.emod_emod_of_dvd _ (Int.dvd_refl n)]
theorem some_of_valid : ∀ {a : Option Sp} {l : List Sp}, validP a l = true → ∀ x ∈ l, x.good ∧ someS x = true
 | _, y :: r, h, x, hx => by
  simp only [validP, okS, Bool.and_eq_true] at h
  rcases List.mem_cons.1 hx with rfl | hx
  ·exact ⟨⟨h.1.1, h.1.2.1⟩, h.1.2.2⟩
  ·exact some_of_valid h.2.2 x hx
def Tfpk : Tab := (Tab.none.with 60 (pureS (s1 validS))).with 125 (pureS sInside)
theorem Tfpk_ok : TabOk Tryz.prog base Tfpk := Tab.with_ok (Tab.with_ok Tab.none_ok fvalid_ok) finside_ok
theorem Tfpk_mu (f : FuncId) (a : List AVal) (H : Heap) : Tfpk.mu f a H = none := (rfl)
theorem Tfpk_fns : Tfpk.fn 60 = (pureS (s1 validS)) ∧ Tfpk.fn 125 = (pureS sInside) := ⟨rfl, rfl⟩
theorem fpick_ok : FnOk Tryz.prog base 58 (pureS sPick) := by
 refine pure_of_vc hmix Tfpk_ok globNone low58 fun args z hs hf => ?_
 unfold sPick at hs
 split at hs
 case h_2 => cases hs
 rename_i vs k
 split at hs
 case h_2 => cases hs
 rename_i l hl
 obtain ⟨rfl, wl⟩ := decSs_some hl
 split at hs
 case isFalse => cases hs
 rename_i ht
 cases hs
 unfold tinyL at ht
 rw [Bool.and_eq_true] at ht
 have hlen := of_decide_eq_true ht.1
 refine ⟨by simp [lf58], ?_⟩
 have v1 : s1 validS [.lst (l.map Sp.enc)] = some (.bool (validP none l)) := s1_at wl
 unfold pickS
 by_cases h0 : l = []
 ·subst h0
  simp [lf58, v1, zF, Fr.enc, pairF, fillS, Tfpk_mu, Tfpk_fns]
 have hpos : 0 < l.length := by cases l with | nil => exact absurd rfl h0 | cons _ _ => simp
 have hl0 : ((l.length : Int) == 0) = false := by simp; omega
 rw [decide_eq_false h0]
 cases h1 : validP none l with
 | false => rw [h1] at v1; simp [lf58, v1, hl0, zF, Fr.enc, pairF, fillS, Tfpk_mu, Tfpk_fns]
 | true =>
 rw [h1] at v1
 have hm0 := Int.emod_nonneg k (show (l.length : Int) ≠ 0 by omega)
 have hm1 := Int.emod_lt_of_pos k (show (0 : Int) < l.length by omega)
 obtain ⟨j, hj⟩ : ∃ j : Nat, k % (l.length : Int) = j := ⟨(k % (l.length : Int)).toNat, by omega⟩
 have hjl : j < l.length := by omega
 obtain ⟨x, hx⟩ : ∃ x, l[j]? = some x := ⟨_, List.getElem?_eq_getElem hjl⟩
 have hxm := List.mem_of_getElem? hx
 obtain ⟨gx, sx⟩ := some_of_valid h1 x hxm
 have v2 := sInside_at (wl x hxm) gx sx (List.all_eq_true.1 ht.2 x hxm)
 have hxe := getE hx
 rw [hj, Int.toNat_natCast, hx]
 simp only [Bool.false_or, Bool.not_true, Bool.false_eq_true, if_false]
 obtain ⟨R, hR⟩ : ∃ R, R = insideS x := ⟨_, rfl⟩
 rw [← hR] at v2 ⊢
 have e1 : IntKind.i64.wrap (Int.tmod k l.length + l.length) = Int.tmod k l.length + l.length := by
  have h1 := Int.tmod_lt_of_pos k (show (0 : Int) < l.length by omega)
  have h2 : -(l.length : Int) < Int.tmod k l.length := by
   rw [Int.tmod_eq_emod]
   split <;> omega
  exact IntWalk.i64_in _ (by omega)
 have e2 : Int.tmod (Int.tmod k l.length + l.length) l.length = (j : Int) := by rw [rem_mod (by omega), hj]
 simp only [pairF, Sp.enc, Fr.enc] at v2
 simp [lf58, v1, hl0, h0, e1, e2, hjl, hxe, v2, Sp.enc, Fr.enc, pairF, fillS, Tfpk_mu, Tfpk_fns]
theorem below_floor (h : Rat) : (-((-h).floor + 1) : Int) = if ((h.floor : Int) : Rat) < h then h.floor else h.floor - 1 := by
 have h1 := below_lt h
 have h2 := below_next h
 have h3 := Rat.floor_le h
 obtain ⟨g, hg⟩ : ∃ g, g = -((-h).floor + 1) := ⟨_, rfl⟩
 rw [← hg] at h1 h2 ⊢
 split
 ·rename_i hlt
  have a := below_ge hlt
  rw [← hg] at a
  have b := Rat.lt_floor_add_one h
  have c : (g : Rat) < ((h.floor + 1 : Int) : Rat) := lt_le h1 (Rat.le_of_lt b)
  have := int_lt c
  omega
 ·rename_i hn
  have e : ((h.floor : Int) : Rat) = h := Rat.le_antisymm h3 (Rat.not_lt.1 hn)
  have a : (g : Rat) < ((h.floor : Int) : Rat) := by rw [e]; exact h1
  have b : ((h.floor : Int) : Rat) ≤ ((g + 1 : Int) : Rat) := by rw [e]; exact h2
  have := int_lt a
  have := int_le b
  omega
def Trpk : Tab := (((((((Tab.none.with 61 (pureS (s1 validS))).with 82 (pureS sQOf)).with 127 (pureS sFloor)).with 126 (pureS sOfW)).with 99 (pureS (f2 addP))).with 128 (pureS (f2 subP))).with 119 (pureS (f2 cmpP))).with 129 (pureS sBetR)
theorem Trpk_ok : TabOk Tryz.prog base Trpk := Tab.with_ok (Tab.with_ok (Tab.with_ok (Tab.with_ok (Tab.with_ok (Tab.with_ok (Tab.with_ok (Tab.with_ok Tab.none_ok rfvalid_ok) rofR_ok) rfloor_ok) rwhole22_ok) rAdd_ok) rSub_ok) rCmp_ok) rbetween_ok
theorem Trpk_mu (f : FuncId) (a : List AVal) (H : Heap) : Trpk.mu f a H = none := (rfl)
theorem Trpk_fns : Trpk.fn 61 = (pureS (s1 validS)) ∧ Trpk.fn 82 = (pureS sQOf) ∧ Trpk.fn 127 = (pureS sFloor) ∧ Trpk.fn 126 = (pureS sOfW) ∧ Trpk.fn 99 = (pureS (f2 addP)) ∧ Trpk.fn 128 = (pureS (f2 subP)) ∧ Trpk.fn 119 = (pureS (f2 cmpP)) ∧ Trpk.fn 129 = (pureS sBetR) := ⟨rfl, rfl, rfl, rfl, rfl, rfl, rfl, rfl⟩
set_option maxHeartbeats 2000000 in
theorem rpick_ok : FnOk Tryz.prog base 59 (pureS sPick) := by
 refine pure_of_vc hmix Trpk_ok globNone low59 fun args z hs hf => ?_
 unfold sPick at hs
 split at hs
 case h_2 => cases hs
 rename_i vs k
 split at hs
 case h_2 => cases hs
 rename_i l hl
 obtain ⟨rfl, wl⟩ := decSs_some hl
 split at hs
 case isFalse => cases hs
 rename_i ht
 cases hs
 unfold tinyL at ht
 rw [Bool.and_eq_true] at ht
 have hlen := of_decide_eq_true ht.1
 refine ⟨by simp [lf59], ?_⟩
 have v1 : s1 validS [.lst (l.map Sp.enc)] = some (.bool (validP none l)) := s1_at wl
 unfold pickS
 by_cases h0 : l = []
 ·subst h0
  simp [lf59, v1, zF, Fr.enc, pairF, fillS, Trpk_mu, Trpk_fns]
 have hpos : 0 < l.length := by cases l with | nil => exact absurd rfl h0 | cons _ _ => simp
 have hl0 : ((l.length : Int) == 0) = false := by simp; omega
 rw [decide_eq_false h0]
 cases h1 : validP none l with
 | false => rw [h1] at v1; simp [lf59, v1, hl0, zF, Fr.enc, pairF, fillS, Trpk_mu, Trpk_fns]
 | true =>
 rw [h1] at v1
 have hm0 := Int.emod_nonneg k (show (l.length : Int) ≠ 0 by omega)
 have hm1 := Int.emod_lt_of_pos k (show (0 : Int) < l.length by omega)
 obtain ⟨j, hj⟩ : ∃ j : Nat, k % (l.length : Int) = j := ⟨(k % (l.length : Int)).toNat, by omega⟩
 have hjl : j < l.length := by omega
 obtain ⟨x, hx⟩ : ∃ x, l[j]? = some x := ⟨_, List.getElem?_eq_getElem hjl⟩
 have hxm := List.mem_of_getElem? hx
 obtain ⟨gx, sx⟩ := some_of_valid h1 x hxm
 have wx := wl x hxm
 have tx := List.all_eq_true.1 ht.2 x hxm
 have hxe := getE hx
 rw [hj, Int.toNat_natCast, hx]
 simp only [Bool.false_or, Bool.not_true, Bool.false_eq_true, if_false]
 have e1 : IntKind.i64.wrap (Int.tmod k l.length + l.length) = Int.tmod k l.length + l.length := by
  have h1 := Int.tmod_lt_of_pos k (show (0 : Int) < l.length by omega)
  have h2 : -(l.length : Int) < Int.tmod k l.length := by
   rw [Int.tmod_eq_emod]
   split <;> omega
  exact IntWalk.i64_in _ (by omega)
 have e2 : Int.tmod (Int.tmod k l.length + l.length) l.length = (j : Int) := by rw [rem_mod (by omega), hj]
 have z0 := zeroQ_of
 have z1 : sQOf [.int .i64 1, .int .i64 1] = some (ofQ 1).enc := oL (n := 1) (d := 1) (q := 1) (by decide) (by decide +kernel)
 have S1 : Sm 1 (1 : Rat) := by decide +kernel
 obtain ⟨lo, hi, nl, nh, o1, o2⟩ := x
 obtain ⟨g1, g2⟩ := gx
 unfold tinySp at tx
 rw [Bool.and_eq_true] at tx
 dsimp only at g1 g2 tx
 unfold insideS
 obtain ⟨Z, hZ⟩ : ∃ Z, Z = ofQ 0 := ⟨_, rfl⟩
 obtain ⟨O, hO⟩ : ∃ Z, Z = ofQ 1 := ⟨_, rfl⟩
 rw [← hZ] at z0 ⊢
 rw [← hO] at z1
 simp only [Sp.enc, Fr.enc] at hxe z0 z1
 cases nl <;> cases nh <;> dsimp only [Bool.and_true, Bool.true_and, Bool.false_and, Bool.and_false, Bool.not_true, Bool.not_false]
 ·cases o1
  ·simp [lf59, v1, hl0, h0, e1, e2, hjl, hxe, z1, Sp.enc, Fr.enc, pairF, fillS, Trpk_mu, Trpk_fns]
  ·cases o2
   ·simp [lf59, v1, hl0, h0, e1, e2, hjl, hxe, z1, Sp.enc, Fr.enc, pairF, fillS, Trpk_mu, Trpk_fns]
   ·obtain ⟨p, hp, rfl⟩ := tiny_sm tx.1 (bound_ok g1)
    obtain ⟨q, hq, rfl⟩ := tiny_sm tx.2 (bound_ok g2)
    unfold someS at sx
    rw [cmpF_num (Sm_mono hp (by omega)) (Sm_mono hq (by omega))] at sx
    have hlt : p < q := by
     simp at sx
     exact cmpQ_neg_iff.1 sx
    have b := sBetR_num hp hq hlt
    obtain ⟨R, hR⟩ : ∃ R, R = heldQ (betweenQ p q) := ⟨_, rfl⟩
    rw [q_ofQ, q_ofQ, ← hR]
    rw [← hR] at b
    simp only [pairF, Fr.enc] at b
    simp [lf59, v1, hl0, h0, e1, e2, hjl, hxe, z1, b, Sp.enc, Fr.enc, pairF, fillS, Trpk_mu, Trpk_fns]
 ·cases o1
  ·simp [lf59, v1, hl0, h0, e1, e2, hjl, hxe, z1, Sp.enc, Fr.enc, pairF, fillS, Trpk_mu, Trpk_fns]
  ·obtain ⟨p, hp, rfl⟩ := tiny_sm tx.1 (bound_ok g1)
   have F := sFloor_num (Sm_mono hp (show 20 ≤ 60 by omega))
   have lz : zl p.floor ≤ 21 := len_floor hp.1
   have W := sOfW_num (z := p.floor) (by omega)
   have SF : Sm 21 ((p.floor : Int) : Rat) := Sm_int lz (by omega)
   have A : f2 addP [(ofQ ((p.floor : Int) : Rat)).enc, O.enc] = some (pairF (heldQ ((p.floor + 1 : Int) : Rat))) := by
    rw [hO, f2_at (wf_ofQ _) (wf_ofQ _)]
    unfold addP
    rw [addF_num (Sm_mono SF (by omega)) (Sm_mono S1 (by omega)), Rat.intCast_add]
    rfl
   obtain ⟨R, hR⟩ : ∃ R, R = heldQ ((p.floor + 1 : Int) : Rat) := ⟨_, rfl⟩
   obtain ⟨m, hm⟩ : ∃ m : Rat, m = ((p.floor : Int) : Rat) := ⟨_, rfl⟩
   rw [q_ofQ, ← hR]
   rw [← hR, ← hm] at A
   rw [← hm] at W
   simp only [pairF, Fr.enc, iN_case p.floor] at F W A
   simp [lf59, v1, hl0, h0, e1, e2, hjl, hxe, z1, Sp.enc, Fr.enc, pairF, fillS, Trpk_mu, Trpk_fns]
   rw [vc_regionW]
   refine ⟨[], ?_⟩
   simp [F, W, A, fillS, Trpk_mu, Trpk_fns]
 ·cases o2
  ·simp [lf59, v1, hl0, h0, e1, e2, hjl, hxe, z1, Sp.enc, Fr.enc, pairF, fillS, Trpk_mu, Trpk_fns]
  ·obtain ⟨q, hq, rfl⟩ := tiny_sm tx.2 (bound_ok g2)
   have F := sFloor_num (Sm_mono hq (show 20 ≤ 60 by omega))
   have lz : zl q.floor ≤ 21 := len_floor hq.1
   have W := sOfW_num (z := q.floor) (by omega)
   have SF : Sm 21 ((q.floor : Int) : Rat) := Sm_int lz (by omega)
   have C := cmpP_num (Sm_mono SF (show 21 ≤ 64 by omega)) (Sm_mono hq (show 20 ≤ 64 by omega))
   have A : f2 subP [(ofQ ((q.floor : Int) : Rat)).enc, O.enc] = some (pairF (heldQ ((q.floor - 1 : Int) : Rat))) := by
    rw [hO, f2_at (wf_ofQ _) (wf_ofQ _)]
    unfold subP
    rw [subF_num (Sm_mono SF (by omega)) (Sm_mono S1 (by omega)), Rat.intCast_sub]
    rfl
   rw [q_ofQ, below_floor]
   obtain ⟨m, hm⟩ : ∃ m : Rat, m = ((q.floor : Int) : Rat) := ⟨_, rfl⟩
   rw [← hm] at A W C SF ⊢
   by_cases hlt : m < q
   ·rw [if_pos hlt, ← hm, heldQ_ok (Sm_mono SF (by omega))]
    rw [cmpQ_lt hlt] at C
    simp only [pairF, Fr.enc, iN_case q.floor] at F W C
    simp [lf59, v1, hl0, h0, e1, e2, hjl, hxe, z1, F, W, C, Sp.enc, Fr.enc, pairF, fillS, Trpk_mu, Trpk_fns]
   ·have hn : ¬ cmpQ m q < 0 := fun h => hlt (cmpQ_neg_iff.1 h)
    rw [if_neg hlt]
    obtain ⟨c, hc⟩ : ∃ c, c = cmpQ m q := ⟨_, rfl⟩
    rw [← hc] at C hn
    obtain ⟨R, hR⟩ : ∃ R, R = heldQ ((q.floor - 1 : Int) : Rat) := ⟨_, rfl⟩
    rw [← hR] at A ⊢
    simp only [pairF, Fr.enc, iN_case q.floor] at F W C A
    simp [lf59, v1, hl0, h0, e1, e2, hjl, hxe, z1, F, W, C, hn, A, Sp.enc, Fr.enc, pairF, fillS, Trpk_mu, Trpk_fns]
 ·simp [lf59, v1, hl0, h0, e1, e2, hjl, hxe, z0, z1, Sp.enc, Fr.enc, pairF, fillS, Trpk_mu, Trpk_fns]
end Go.Proofs.YtepfpgnjpkcgmaaGreat

/-
 Sets of spans: what a number can be, so that an atom is so: both sides.
-/
namespace Go.Proofs.YtepfpgnjpkcgmaaGreat
open Go Go.Abs Go.Limbs
variable {base : Prot}
set_option maxRecDepth 20000
attribute [local irreducible] vc
attribute [local simp] pureS touchV freezeL fuel shiftV u64 au
def cutS (k : Int) (up : Bool) (q : Fr) : List Sp := if k = 3 then pointS q else if up = true then [⟨zF, q, true, false, false, decide (k = 2)⟩] else [⟨q, zF, false, true, decide (k = 2), false⟩]
def turnS (nt : Bool) (s : List Sp) : List Sp := if nt = true then otherL s else s
def ofAt (lk : Int → Fr) (x : At) (nt : Bool) (v : Int) : List Sp × Nat :=
 if x.ok && (isSum x.k && decide (signF (coefPo x.p v) ≠ 0)) then
  if (valuePo lk (withoutPo x.p v)).2 = 0 then
   if (quoF (negF (valuePo lk (withoutPo x.p v)).1) (coefPo x.p v)).2 = 0 then
    (turnS nt (cutS x.k (decide (0 < signF (coefPo x.p v))) (quoF (negF (valuePo lk (withoutPo x.p v)).1) (coefPo x.p v)).1), 0)
   else ([], (quoF (negF (valuePo lk (withoutPo x.p v)).1) (coefPo x.p v)).2)
  else ([], (valuePo lk (withoutPo x.p v)).2)
 else ([], 1)
def pairSs (r : List Sp × Nat) : PVal := .tup [.lst (r.1.map Sp.enc), .int .i64 r.2]
def sOfA (L : Lk) : List PVal → Option PVal
 | [a, .bool nt, .int .i64 v, c] => match decAt a with | some x => if x.p.few = true then (match L c (withoutPo x.p v) with | some lk => some (pairSs (ofAt lk x nt v)) | none => none) else none | none => none
 | _ => none
def Tfof (L : Lk) : Tab := ((((((((Tab.none.with 32 (pureS (gi coefP))).with 46 (pureS (h1 okAt))).with 87 (pureS (f1 signP))).with 96 (pureS (gis withoutP))).with 23 (pureS (sValue L))).with 140 (pureS (f1 negP))).with 94 (pureS (f2 quoP))).with 71 (pureS (f1 pointP))).with 67 (pureS (ks1 100000 otherP))
theorem Tfof_mu (L : Lk) (f : FuncId) (a : List AVal) (H : Heap) : (Tfof L).mu f a H = none := (rfl)
theorem Tfof_fns (L : Lk) : (Tfof L).fn 32 = pureS (gi coefP) ∧ (Tfof L).fn 46 = pureS (h1 okAt) ∧ (Tfof L).fn 87 = pureS (f1 signP) ∧ (Tfof L).fn 96 = pureS (gis withoutP) ∧ (Tfof L).fn 23 = pureS (sValue L) ∧ (Tfof L).fn 140 = pureS (f1 negP) ∧ (Tfof L).fn 94 = pureS (f2 quoP) ∧ (Tfof L).fn 71 = pureS (f1 pointP) ∧ (Tfof L).fn 67 = pureS (ks1 100000 otherP) := ⟨rfl, rfl, rfl, rfl, rfl, rfl, rfl, rfl, rfl⟩
theorem wf_pointS {x : Fr} (h : x.wf) : wfSs (pointS x) := by
 unfold pointS
 split
 ·intro y hy; rw [List.mem_singleton] at hy; subst hy; exact ⟨h, h⟩
 ·intro y hy; cases hy
theorem len_pointS (x : Fr) : (pointS x).length ≤ 1 := by unfold pointS; split <;> simp
theorem wf_cutS {k : Int} {up : Bool} {q : Fr} (h : q.wf) : wfSs (cutS k up q) := by
 unfold cutS
 split
 ·exact wf_pointS h
 ·split <;> (intro y hy; rw [List.mem_singleton] at hy; subst hy)
  ·exact ⟨wf_zF, h⟩
  ·exact ⟨h, wf_zF⟩
theorem len_cutS (k : Int) (up : Bool) (q : Fr) : (cutS k up q).length ≤ 1 := by
 unfold cutS
 split
 ·exact len_pointS q
 ·split <;> simp
set_option maxHeartbeats 4000000 in
theorem fof_ok {L : Lk} (hv : FnOk Tryz.prog base 23 (pureS (sValue L))) : FnOk Tryz.prog base 76 (pureS (sOfA L)) := by
 refine pure_of_vc (T := Tfof L) hmix (Tab.with_ok (Tab.with_ok (Tab.with_ok (Tab.with_ok (Tab.with_ok (Tab.with_ok (Tab.with_ok (Tab.with_ok (Tab.with_ok Tab.none_ok lcoef_ok) avalid_ok) qsign_ok) lwithout_ok) hv) qneg_ok) qquo_ok) fpoint_ok) fother_ok) globNone low76 fun args z hs hf => ?_
 unfold sOfA at hs
 split at hs
 case h_2 => cases hs
 rename_i a nt v c
 split at hs
 case h_2 => cases hs
 rename_i x hx
 obtain ⟨rfl, wx⟩ := decAt_some hx
 split at hs
 case isFalse => cases hs
 rename_i fx
 split at hs
 case h_2 => cases hs
 rename_i lk hl
 cases hs
 refine ⟨by simp [lf76], ?_⟩
 have v1 : gi coefP [x.p.enc, .int .i64 v] = some (coefPo x.p v).enc := gi_at wx
 have v2 : h1 okAt [x.enc] = some (.bool x.ok) := h1_at wx
 have v3 : f1 signP [(coefPo x.p v).enc] = some (.int .i64 (signF (coefPo x.p v))) := f1_at (wf_coefPo wx v)
 have v4 : gis withoutP [x.p.enc, .int .i64 v] = some (withoutPo x.p v).enc := gis_at wx fx
 have v5 := sValue_at (wf_without wx v) (few_without fx v) hl
 have wv := wf_valuePo (lk := lk) (wf_without wx v)
 unfold pairSs ofAt
 obtain ⟨r, hr⟩ : ∃ r, r = valuePo lk (withoutPo x.p v) := ⟨_, rfl⟩
 rw [← hr] at v5 wv ⊢
 have wc := wf_coefPo wx v
 obtain ⟨cf, hcf⟩ : ∃ c, c = coefPo x.p v := ⟨_, rfl⟩
 rw [← hcf] at v1 v3 wc ⊢
 obtain ⟨w, hw⟩ : ∃ w, w = withoutPo x.p v := ⟨_, rfl⟩
 rw [← hw] at v4 v5
 have v6 : f1 negP [r.1.enc] = some (negF r.1).enc := f1_at wv
 have v7 : f2 quoP [(negF r.1).enc, cf.enc] = some (pairF (quoF (negF r.1) cf)) := f2_at (wf_negF _) wc
 have wq := wf_quoF (negF r.1) cf
 obtain ⟨n, hn⟩ : ∃ n, n = negF r.1 := ⟨_, rfl⟩
 rw [← hn] at v6 v7 wq ⊢
 obtain ⟨q, hq⟩ : ∃ q, q = quoF n cf := ⟨_, rfl⟩
 rw [← hq] at v7 wq ⊢
 have v8 : f1 pointP [q.1.enc] = some (.lst ((pointS q.1).map Sp.enc)) := f1_at wq
 have v9 : ks1 100000 otherP [.lst ((cutS x.k (decide (0 < signF cf)) q.1).map Sp.enc)] = some (.lst ((otherL (cutS x.k (decide (0 < signF cf)) q.1)).map Sp.enc)) := ks1_at (wf_cutS wq) (decide_eq_true (by have := len_cutS x.k (decide (0 < signF cf)) q.1; omega))
 obtain ⟨sg, hsg⟩ : ∃ s, s = signF cf := ⟨_, rfl⟩
 rw [← hsg] at v3 v9 ⊢
 have es : (sg == 0) = decide (sg = 0) := rfl
 have er : ((r.2 : Int) == 0) = decide (r.2 = 0) := by rw [Bool.eq_iff_iff]; simp
 have er2 : ((r.2 : Int) != 0) = !decide (r.2 = 0) := by rw [Bool.eq_iff_iff]; simp
 have eq2 : ((q.2 : Int) != 0) = !decide (q.2 = 0) := by rw [Bool.eq_iff_iff]; simp
 have eq : ((q.2 : Int) == 0) = decide (q.2 = 0) := by rw [Bool.eq_iff_iff]; simp
 clear hl hr hcf hw hn hq hsg hf hx
 obtain ⟨k, p, xa, xb⟩ := x
 obtain ⟨o, ho⟩ : ∃ o, o = (At.mk k p xa xb).ok := ⟨_, rfl⟩
 rw [← ho] at v2 ⊢
 clear ho
 unfold turnS
 unfold pairF at v5 v7
 simp only [At.enc, Po.enc, Fr.enc] at v1 v2 v3 v4 v5 v6 v7 v8 v9 ⊢
 by_cases hk : k = 1 ∨ k = 2 ∨ k = 3
 ·have hks : isSum k = true := by unfold isSum; rcases hk with h | h | h <;> simp [h]
  rw [hks]
  rcases hk with rfl | rfl | rfl
  all_goals
   cases o
   ·simp [lf76, v1, v2, fillS, Tfof_mu, Tfof_fns]
   ·by_cases hs0 : sg = 0
    ·simp [lf76, v1, v2, v3, es, hs0, fillS, Tfof_mu, Tfof_fns]
    ·by_cases hr0 : r.2 = 0
     ·by_cases hq0 : q.2 = 0
      ·by_cases hs1 : 0 < sg
       ·cases nt
        ·simp [lf76, v1, v2, v3, v4, v5, es, er, er2, hs0, hr0, fillS, Tfof_mu, Tfof_fns]
         rw [vc_regionW]
         refine ⟨[], ?_⟩
         simp [lf76, v1, v2, v3, v4, v5, v6, v7, v8, es, er, er2, eq, eq2, hs0, hr0, hs1, hq0, fillS, Tfof_mu, Tfof_fns]
         all_goals first | rfl | simp [cutS, Sp.enc, Fr.enc, zF]
        ·simp [lf76, v1, v2, v3, v4, v5, es, er, er2, hs0, hr0, fillS, Tfof_mu, Tfof_fns]
         rw [vc_regionW]
         refine ⟨[], ?_⟩
         simp [hs1, cutS, Sp.enc, Fr.enc, zF] at v9
         simp [lf76, v1, v2, v3, v4, v5, v6, v7, v8, v9, es, er, er2, eq, eq2, hs0, hr0, hs1, hq0, fillS, Tfof_mu, Tfof_fns]
         all_goals first | rfl | simp [cutS, Sp.enc, Fr.enc, zF]
       ·cases nt
        ·simp [lf76, v1, v2, v3, v4, v5, es, er, er2, hs0, hr0, fillS, Tfof_mu, Tfof_fns]
         rw [vc_regionW]
         refine ⟨[], ?_⟩
         simp [lf76, v1, v2, v3, v4, v5, v6, v7, v8, es, er, er2, eq, eq2, hs0, hr0, hs1, hq0, fillS, Tfof_mu, Tfof_fns]
         all_goals first | rfl | simp [cutS, Sp.enc, Fr.enc, zF]
        ·simp [lf76, v1, v2, v3, v4, v5, es, er, er2, hs0, hr0, fillS, Tfof_mu, Tfof_fns]
         rw [vc_regionW]
         refine ⟨[], ?_⟩
         simp [hs1, cutS, Sp.enc, Fr.enc, zF] at v9
         simp [lf76, v1, v2, v3, v4, v5, v6, v7, v8, v9, es, er, er2, eq, eq2, hs0, hr0, hs1, hq0, fillS, Tfof_mu, Tfof_fns]
         all_goals first | rfl | simp [cutS, Sp.enc, Fr.enc, zF]
      ·simp [lf76, v1, v2, v3, v4, v5, es, er, er2, hs0, hr0, fillS, Tfof_mu, Tfof_fns]
       rw [vc_regionW]
       refine ⟨[], ?_⟩
       simp [lf76, v1, v2, v3, v4, v5, v6, v7, es, er, er2, eq, eq2, hs0, hr0, hq0, fillS, Tfof_mu, Tfof_fns]
     ·simp [lf76, v1, v2, v3, v4, v5, es, er, er2, hs0, hr0, fillS, Tfof_mu, Tfof_fns]
 ·have hks : isSum k = false := by unfold isSum; simp; omega
  have h1 : (k == 1) = false := by simp; omega
  have h2 : (k == 2) = false := by simp; omega
  have h3 : (k == 3) = false := by simp; omega
  have h1' : (k != 1) = true := by simp; omega
  have h2' : (k != 2) = true := by simp; omega
  have h3' : (k != 3) = true := by simp; omega
  rw [hks]
  simp [lf76, v1, h1', h2', h3', h1, h2, h3, fillS, Tfof_mu, Tfof_fns]
end Go.Proofs.YtepfpgnjpkcgmaaGreat
