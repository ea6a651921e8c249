/-
  What rat's functions compute: whole numbers below and above, a number between two, texts. No conditions beyond the lemmas' own hypotheses.
-/
import Derived.Test.YtepfpgnjpkcgmaaGreatRatC
set_option linter.unusedSimpArgs false
set_option linter.unnecessarySimpa false
set_option linter.unusedVariables false
set_option linter.constructorNameAsVariable false

/-
 rat: the whole number below, those next to a fraction, and a number between two.
-/
namespace Go.Proofs.YtepfpgnjpkcgmaaGreat
open Go Go.Abs Go.Limbs
variable {base : Prot}
set_option maxRecDepth 20000
attribute [local irreducible] vc
attribute [local simp] pureS touchV freezeL fuel shiftV u64 au
def sFloor : List PVal → Option PVal
 | [a] => match decF a with
  | some x => if x.ok then (if x.n.length ≤ 60 then some (iN x.q.floor) else none) else some (iP false [])
  | none => none
 | _ => none
def Tqf : Tab := (((Tab.none.with 89 (pureS (f1 boolF))).with 145 (pureS (f1 numF))).with 146 (pureS (f1 denF))).with 211 (pureS sIDiv)
theorem Tqf_ok : TabOk Tryz.prog base Tqf := Tab.with_ok (Tab.with_ok (Tab.with_ok (Tab.with_ok Tab.none_ok qvalid_ok) qnum_ok) qden_ok) idiv_ok
theorem Tqf_mu (f : FuncId) (a : List AVal) (H : Heap) : Tqf.mu f a H = none := (rfl)
theorem Tqf_fns : Tqf.fn 89 = pureS (f1 boolF) ∧ Tqf.fn 145 = pureS (f1 numF) ∧ Tqf.fn 146 = pureS (f1 denF) ∧ Tqf.fn 211 = pureS sIDiv := ⟨rfl, rfl, rfl, rfl⟩
theorem qfloor_ok : FnOk Tryz.prog base 197 (pureS sFloor) := by
 refine pure_of_vc hmix Tqf_ok globNone low197 fun args z hs hf => ?_
 unfold sFloor at hs
 split at hs
 case h_2 => cases hs
 rename_i v
 split at hs
 case h_2 => cases hs
 rename_i x hx
 obtain ⟨rfl, wx⟩ := decF_some hx
 refine ⟨by simp [lf197], ?_⟩
 have v1 := vF wx
 cases ox : x.ok with
 | false =>
  rw [ox] at v1 hs
  cases hs
  simp only [Fr.enc] at v1 ⊢
  simp [lf197, v1, iP, fillS, Tqf_mu, Tqf_fns]
 | true =>
  rw [ox] at v1 hs
  rw [if_pos rfl] at hs
  split at hs
  case isFalse => cases hs
  rename_i h60
  cases hs
  obtain ⟨p, hp, rfl⟩ := Fr.ok_of ox
  rw [q_ofQ]
  have n1 := nF p
  have d1 := dF p
  have hD := sIDiv_num (z := p.num) (w := p.den) (show len p.num.natAbs ≤ 60 from h60) (Sm_d hp) (by have := p.den_pos; omega)
  rw [qD_floor] at hD
  simp only [Fr.enc, iN_case p.floor, iN_case (rD p.num p.den)] at v1 n1 d1 hD ⊢
  simp [lf197, v1, vc_regionN, fillS, Tqf_mu, Tqf_fns]
  refine ⟨[], ?_⟩
  simp [n1, d1, hD, fillS, Tqf_mu, Tqf_fns]
theorem divInt_one (z : Int) : Rat.divInt z 1 = (z : Rat) := by
 rw [show (1 : Int) = ((1 : Nat) : Int) from rfl, Rat.divInt_ofNat]
 refine Rat.ext ?_ ?_
 ·rw [Rat.num_mkRat]; simp
 ·rw [Rat.den_mkRat]; simp
def sQWhole : List PVal → Option PVal
 | [.agg [.bool s, .lst xs]] => match decZ s xs with | some z => if zl z ≤ 64 then some (pairF (heldQ (z : Rat))) else none | none => none
 | _ => none
theorem sQWhole_num {z : Int} (h : zl z ≤ 64) : sQWhole [iN z] = some (pairF (heldQ (z : Rat))) := by
 simp only [sQWhole, iN, iP, decZ_num (show zl z ≤ 100000 by omega)]
 rw [if_pos h]
def Tqw : Tab := (Tab.none.with 161 (pureS sIOf)).with 160 (pureS sNew)
theorem Tqw_ok : TabOk Tryz.prog base Tqw := Tab.with_ok (Tab.with_ok Tab.none_ok iof_ok) qnew_ok
theorem Tqw_mu (f : FuncId) (a : List AVal) (H : Heap) : Tqw.mu f a H = none := (rfl)
theorem Tqw_fns : Tqw.fn 161 = pureS sIOf ∧ Tqw.fn 160 = pureS sNew := ⟨rfl, rfl⟩
theorem sIOf_one : sIOf [.int .i64 1] = some (iN 1) := sIOf_at (by decide) (by decide)
theorem zl_one : zl 1 = 1 := by unfold zl; exact len_one
theorem qwhole_ok : FnOk Tryz.prog base 198 (pureS sQWhole) := by
 refine pure_of_vc hmix Tqw_ok globNone low198 fun args x hs hf => ?_
 unfold sQWhole at hs
 split at hs
 case h_2 => cases hs
 rename_i s xs
 split at hs
 case h_2 => cases hs
 rename_i z hz
 obtain ⟨lz, rfl, rfl⟩ := decZ_some hz
 split at hs
 case isFalse => cases hs
 rename_i h64
 cases hs
 refine ⟨by simp [lf198], ?_⟩
 have N := sNew_num (z := z) (w := 1) h64 (by rw [zl_one]; omega) (by decide)
 rw [divInt_one] at N
 have o := sIOf_one
 obtain ⟨R, hR⟩ : ∃ R, R = heldQ (z : Rat) := ⟨_, rfl⟩
 rw [← hR] at N ⊢
 simp only [pairF, Fr.enc, iN_case z] at N ⊢
 simp [lf198, vc_regionW, fillS, Tqw_mu, Tqw_fns]
 refine ⟨[], ?_⟩
 simp [o, N, fillS, Tqw_mu, Tqw_fns]
def sAbove : List PVal → Option PVal
 | [a] => match decF a with | some x => if x.ok ∧ x.n.length ≤ 60 then some (pairF (heldQ ((x.q.floor + 1 : Int) : Rat))) else none | none => none
 | _ => none
theorem sAbove_num {q : Rat} (h : Sm 60 q) : sAbove [(ofQ q).enc] = some (pairF (heldQ ((q.floor + 1 : Int) : Rat))) := by
 simp only [sAbove, decF_enc (wf_ofQ q)]
 rw [if_pos ⟨ok_ofQ (Sm_mono h (by omega)), show (ofQ q).n.length ≤ 60 from h.1⟩, q_ofQ]
def sBelow : List PVal → Option PVal
 | [a] => match decF a with | some x => if x.ok ∧ x.n.length ≤ 60 then some (pairF (heldQ ((-((-x.q).floor + 1) : Int) : Rat))) else none | none => none
 | _ => none
theorem sBelow_num {q : Rat} (h : Sm 60 q) : sBelow [(ofQ q).enc] = some (pairF (heldQ ((-((-q).floor + 1) : Int) : Rat))) := by
 simp only [sBelow, decF_enc (wf_ofQ q)]
 rw [if_pos ⟨ok_ofQ (Sm_mono h (by omega)), show (ofQ q).n.length ≤ 60 from h.1⟩, q_ofQ]
def Tab1 : Tab := (((Tab.none.with 197 (pureS sFloor)).with 161 (pureS sIOf)).with 196 (pureS sIAdd)).with 198 (pureS sQWhole)
theorem Tab1_ok : TabOk Tryz.prog base Tab1 := Tab.with_ok (Tab.with_ok (Tab.with_ok (Tab.with_ok Tab.none_ok qfloor_ok) iof_ok) iadd_ok) qwhole_ok
theorem Tab1_mu (f : FuncId) (a : List AVal) (H : Heap) : Tab1.mu f a H = none := (rfl)
theorem Tab1_fns : Tab1.fn 197 = pureS sFloor ∧ Tab1.fn 161 = pureS sIOf ∧ Tab1.fn 196 = pureS sIAdd ∧ Tab1.fn 198 = pureS sQWhole := ⟨rfl, rfl, rfl, rfl⟩
theorem sIAdd_num {z w : Int} (hz : zl z ≤ 64) (hw : zl w ≤ 64) : sIAdd [iN z, iN w] = some (.tup [hN (z + w), .int .i64 (hE (z + w))]) := by
 have h := sIAdd_list (s := decide (z < 0)) (t := decide (w < 0)) (wf_limbs z.natAbs) (wf_limbs w.natAbs)
 rw [okI_num hz, okI_num hw, zL_num, zL_num] at h
 exact h
theorem qabove_ok : FnOk Tryz.prog base 169 (pureS sAbove) := by
 refine pure_of_vc hmix Tab1_ok globNone low169 fun args z hs hf => ?_
 unfold sAbove at hs
 split at hs
 case h_2 => cases hs
 rename_i v
 split at hs
 case h_2 => cases hs
 rename_i x hx
 obtain ⟨rfl, wx⟩ := decF_some hx
 split at hs
 case isFalse => cases hs
 rename_i hc
 cases hs
 obtain ⟨p, hp, rfl⟩ := Fr.ok_of hc.1
 have hp60 : Sm 64 p := hp
 refine ⟨by simp [lf169], ?_⟩
 have F : sFloor [(ofQ p).enc] = some (iN p.floor) := by
  simp only [sFloor, decF_enc (wf_ofQ p)]
  rw [if_pos hc.1, q_ofQ, if_pos hc.2]
 rw [q_ofQ]
 have o := sIOf_one
 have hl : zl p.floor ≤ 61 := by
  have h60 : len p.num.natAbs ≤ 60 := hc.2
  exact len_floor h60
 have A := sIAdd_num (z := p.floor) (w := 1) (by omega) (by rw [zl_one]; omega)
 have hl2 := zl_add (z := p.floor) (w := 1)
 rw [zl_one] at hl2
 have h64 : zl (p.floor + 1) ≤ 64 := by omega
 unfold hN hE at A
 rw [if_pos h64, if_pos h64] at A
 have W := sQWhole_num h64
 obtain ⟨R, hR⟩ : ∃ R, R = heldQ ((p.floor + 1 : Int) : Rat) := ⟨_, rfl⟩
 rw [← hR] at W ⊢
 simp only [pairF, Fr.enc, iN_case (p.floor + 1)] at F A W ⊢
 simp [lf169, F, o, A, W, fillS, Tab1_mu, Tab1_fns]
def Tblw : Tab := (Tab.none.with 169 (pureS sAbove)).with 140 (pureS (f1 negP))
theorem Tblw_ok : TabOk Tryz.prog base Tblw := Tab.with_ok (Tab.with_ok Tab.none_ok qabove_ok) qneg_ok
theorem Tblw_mu (f : FuncId) (a : List AVal) (H : Heap) : Tblw.mu f a H = none := (rfl)
theorem Tblw_fns : Tblw.fn 169 = pureS sAbove ∧ Tblw.fn 140 = pureS (f1 negP) := ⟨rfl, rfl⟩
theorem negP_num {q : Rat} (h : Sm 64 q) : f1 negP [(ofQ q).enc] = some (ofQ (-q)).enc := by
 rw [f1_at (wf_ofQ q)]
 unfold negP
 rw [negF_num h]
theorem Sm_above {k : Nat} {q : Rat} (h : len q.num.natAbs ≤ k) (hk : 1 ≤ k) : Sm (k + 2) ((q.floor + 1 : Int) : Rat) := by
 have h1 : zl q.floor ≤ k + 1 := len_floor h
 have h2 := zl_add (z := q.floor) (w := 1)
 rw [zl_one] at h2
 exact Sm_int (show zl (q.floor + 1) ≤ k + 2 by omega) (by omega)
theorem qbelow_ok : FnOk Tryz.prog base 170 (pureS sBelow) := by
 refine pure_of_vc hmix Tblw_ok globNone low170 fun args z hs hf => ?_
 unfold sBelow at hs
 split at hs
 case h_2 => cases hs
 rename_i v
 split at hs
 case h_2 => cases hs
 rename_i x hx
 obtain ⟨rfl, wx⟩ := decF_some hx
 split at hs
 case isFalse => cases hs
 rename_i hc
 cases hs
 obtain ⟨p, hp, rfl⟩ := Fr.ok_of hc.1
 have h60 : len p.num.natAbs ≤ 60 := hc.2
 refine ⟨by simp [lf170], ?_⟩
 rw [q_ofQ]
 have N1 := negP_num hp
 have hq : Sm 64 (-p) := Sm_neg hp
 have h60' : len (-p).num.natAbs ≤ 60 := by rw [Rat.neg_num, Int.natAbs_neg]; exact h60
 have A : sAbove [(ofQ (-p)).enc] = some (pairF (heldQ (((-p).floor + 1 : Int) : Rat))) := by
  simp only [sAbove, decF_enc (wf_ofQ (-p))]
  rw [if_pos ⟨ok_ofQ hq, show (ofQ (-p)).n.length ≤ 60 from h60'⟩, q_ofQ]
 have S : Sm 64 (((-p).floor + 1 : Int) : Rat) := Sm_mono (Sm_above h60' (by omega)) (by omega)
 have N2 := negP_num S
 rw [heldQ_ok S] at A
 rw [Rat.intCast_neg, heldQ_ok (Sm_neg S)]
 obtain ⟨m, hm⟩ : ∃ m : Rat, m = (((-p).floor + 1 : Int) : Rat) := ⟨_, rfl⟩
 rw [← hm] at A N2 ⊢
 simp only [pairF, Fr.enc] at N1 N2 A ⊢
 simp [lf170, N1, A, N2, fillS, Tblw_mu, Tblw_fns]
def betweenQ (a b : Rat) : Rat := if a < 0 ∧ 0 < b then 0 else if a < ((if a < 0 then -((-b).floor + 1) else a.floor + 1 : Int) : Rat) ∧ ((if a < 0 then -((-b).floor + 1) else a.floor + 1 : Int) : Rat) < b then ((if a < 0 then -((-b).floor + 1) else a.floor + 1 : Int) : Rat) else (a + b) / 2
def sBet : List PVal → Option PVal
 | [a, b] => match decF a, decF b with
  | some x, some y => if cmpF x y < 0 then (if x.n.length ≤ 60 ∧ y.n.length ≤ 60 then some (pairF (heldQ (betweenQ x.q y.q))) else none) else some (pairF (zF, 1))
  | _, _ => none
 | _ => none
theorem sBet_num {p q : Rat} (hp : Sm 60 p) (hq : Sm 60 q) (h : p < q) : sBet [(ofQ p).enc, (ofQ q).enc] = some (pairF (heldQ (betweenQ p q))) := by
 simp only [sBet, decF_enc (wf_ofQ p), decF_enc (wf_ofQ q), cmpF_num (Sm_mono hp (show 60 ≤ 64 by omega)) (Sm_mono hq (show 60 ≤ 64 by omega)), q_ofQ]
 rw [if_pos (cmpQ_neg_iff.2 h), if_pos ⟨hp.1, hq.1⟩]
def Tbw : Tab := ((((((((((((Tab.none.with 166 (pureS (f2 cmpP))).with 87 (pureS (f1 signP))).with 101 (pureS sQZero)).with 169 (pureS sAbove)).with 170 (pureS sBelow)).with 145 (pureS (f1 numF))).with 146 (pureS (f1 denF))).with 144 (pureS sWTimes)).with 143 (pureS sWPlus)).with 148 (pureS sTimes)).with 199 (pureS sLeft)).with 147 (pureS sLow))
theorem Tbw_ok : TabOk Tryz.prog base Tbw := Tab.with_ok (Tab.with_ok (Tab.with_ok (Tab.with_ok (Tab.with_ok (Tab.with_ok (Tab.with_ok (Tab.with_ok (Tab.with_ok (Tab.with_ok (Tab.with_ok (Tab.with_ok Tab.none_ok qcmp_ok) qsign_ok) qzero_ok) qabove_ok) qbelow_ok) qnum_ok) qden_ok) itimes_ok) iplus_ok) times_ok) left_ok) qlow_ok
theorem Tbw_mu (f : FuncId) (a : List AVal) (H : Heap) : Tbw.mu f a H = none := (rfl)
theorem Tbw_fns : Tbw.fn 166 = pureS (f2 cmpP) ∧ Tbw.fn 87 = pureS (f1 signP) ∧ Tbw.fn 101 = pureS sQZero ∧ Tbw.fn 169 = pureS sAbove ∧ Tbw.fn 170 = pureS sBelow ∧ Tbw.fn 145 = pureS (f1 numF) ∧ Tbw.fn 146 = pureS (f1 denF) ∧ Tbw.fn 144 = pureS sWTimes ∧ Tbw.fn 143 = pureS sWPlus ∧ Tbw.fn 148 = pureS sTimes ∧ Tbw.fn 199 = pureS sLeft ∧ Tbw.fn 147 = pureS sLow := ⟨rfl, rfl, rfl, rfl, rfl, rfl, rfl, rfl, rfl, rfl, rfl, rfl⟩
theorem cmpP_num {p q : Rat} (hp : Sm 64 p) (hq : Sm 64 q) : f2 cmpP [(ofQ p).enc, (ofQ q).enc] = some (.int .i64 (cmpQ p q)) := by
 rw [f2_at (wf_ofQ p) (wf_ofQ q)]
 unfold cmpP
 rw [cmpF_num hp hq]
theorem signP_num {p : Rat} (hp : Sm 64 p) : f1 signP [(ofQ p).enc] = some (.int .i64 (cmpQ p 0)) := by
 rw [f1_at (wf_ofQ p)]
 unfold signP
 rw [signF_num hp]
end Go.Proofs.YtepfpgnjpkcgmaaGreat

/-
 Fractions: what lies between two of them.
-/
namespace Go.Proofs.YtepfpgnjpkcgmaaGreat
open Go Go.Abs Go.Limbs
set_option maxRecDepth 20000
def nextZ (a b : Rat) : Int := if a < 0 then -((-b).floor + 1) else a.floor + 1
theorem betweenQ_eq (a b : Rat) : betweenQ a b = if a < 0 ∧ 0 < b then 0 else if a < (nextZ a b : Rat) ∧ (nextZ a b : Rat) < b then (nextZ a b : Rat) else (a + b) / 2 := rfl
end Go.Proofs.YtepfpgnjpkcgmaaGreat

/-
 rat: a number between two: the walk.
-/
namespace Go.Proofs.YtepfpgnjpkcgmaaGreat
open Go Go.Abs Go.Limbs
variable {base : Prot}
set_option maxRecDepth 20000
attribute [local irreducible] vc
attribute [local simp] pureS touchV freezeL fuel shiftV u64 au
theorem half_mk (p q : Rat) : mkRat (p.num * q.den + q.num * p.den) (p.den * q.den * 2) = (p + q) / 2 := by
 refine div_of_mul (by decide) ?_
 have h := Rat.mkRat_mul_mkRat (p.num * q.den + q.num * p.den) 2 (p.den * q.den * 2) 1
 rw [show mkRat 2 1 = (2 : Rat) from rfl] at h
 rw [h, Nat.mul_one, ← add_mk]
 exact Rat.mkRat_mul_right (a := 2) (by decide)
theorem Sm_zero (k : Nat) (hk : 1 ≤ k) : Sm k (0 : Rat) := by
 refine ⟨?_, ?_⟩
 ·rw [Rat.zero_num]; show len 0 ≤ _; rw [len_zero]; omega
 ·rw [Rat.zero_den, len_one]; omega
theorem qbetween_ok : FnOk Tryz.prog base 171 (pureS sBet) := by
 refine pure_of_vc hmix Tbw_ok globNone low171 fun args z hs hf => ?_
 unfold sBet at hs
 split at hs
 case h_2 => cases hs
 rename_i v w
 split at hs
 case h_2 => cases hs
 rename_i x y hx hy
 obtain ⟨rfl, wx⟩ := decF_some hx
 obtain ⟨rfl, wy⟩ := decF_some hy
 refine ⟨by simp [lf171], ?_⟩
 have hC : f2 cmpP [x.enc, y.enc] = some (.int .i64 (cmpF x y)) := f2_at wx wy
 split at hs
 case isFalse hc =>
  cases hs
  have hc' : 0 ≤ cmpF x y := by omega
  obtain ⟨k1, hk1⟩ : ∃ k, k = cmpF x y := ⟨_, rfl⟩
  rw [← hk1] at hC hc'
  simp only [Fr.enc] at hC ⊢
  simp [lf171, hC, hc', pairF, zF, Fr.enc, fillS, Tbw_mu, Tbw_fns]
 case isTrue hc =>
 split at hs
 case isFalse => cases hs
 rename_i hlen
 cases hs
 have hc' : ¬ 0 ≤ cmpF x y := by omega
 have hok : x.ok = true ∧ y.ok = true := by
  unfold cmpF at hc
  cases ox : x.ok <;> cases oy : y.ok <;> simp_all
 obtain ⟨p, hp, rfl⟩ := Fr.ok_of hok.1
 obtain ⟨q, hq, rfl⟩ := Fr.ok_of hok.2
 have hpq : p < q := by rw [cmpF_num hp hq] at hc; exact cmpQ_neg_iff.1 hc
 have hp60 : len p.num.natAbs ≤ 60 := hlen.1
 have hq60 : len q.num.natAbs ≤ 60 := hlen.2
 rw [q_ofQ, q_ofQ, betweenQ_eq]
 have S1 := signP_num hp
 have S2 := signP_num hq
 have Z := sQZero_nil
 have A : sAbove [(ofQ p).enc] = some (pairF (heldQ ((p.floor + 1 : Int) : Rat))) := by
  simp only [sAbove, decF_enc (wf_ofQ p)]
  rw [if_pos ⟨hok.1, hlen.1⟩, q_ofQ]
 have Bl : sBelow [(ofQ q).enc] = some (pairF (heldQ ((-((-q).floor + 1) : Int) : Rat))) := by
  simp only [sBelow, decF_enc (wf_ofQ q)]
  rw [if_pos ⟨hok.2, hlen.2⟩, q_ofQ]
 have SA : Sm 64 ((p.floor + 1 : Int) : Rat) := Sm_mono (Sm_above hp60 (by omega)) (by omega)
 have SB : Sm 64 ((-((-q).floor + 1) : Int) : Rat) := by
  rw [Rat.intCast_neg]
  exact Sm_neg (Sm_mono (Sm_above (by rw [Rat.neg_num, Int.natAbs_neg]; exact hq60) (by omega)) (by omega))
 rw [heldQ_ok SA] at A
 rw [heldQ_ok SB] at Bl
 have zp := Sm_z hp
 have zq := Sm_z hq
 have dp := Sm_d hp
 have dq := Sm_d hq
 have t1 := sWTimes_num (z := p.num) (w := q.den) (by omega) (by omega)
 have t2 := sWTimes_num (z := q.num) (w := p.den) (by omega) (by omega)
 have l1 := zl_mul (z := p.num) (w := q.den)
 have l2 := zl_mul (z := q.num) (w := p.den)
 have o := sWPlus_num (z := p.num * q.den) (w := q.num * p.den) (by omega) (by omega)
 have n1 := nF p
 have n2 := nF q
 have d1 := dF p
 have d2 := dF q
 have l3 := zl_add (z := p.num * q.den) (w := q.num * p.den)
 have hpd := hp.2
 have hqd := hq.2
 have dd := sTimes_num (a := p.den) (b := q.den) (by omega) (by omega)
 have l4 := len_mul p.den q.den
 have L2 := sLeft_num (a := p.den * q.den) (n := 1) (by omega) (by omega)
 rw [Nat.pow_one, show ((1 : Nat) : Int) = 1 from rfl] at L2
 have l5 := len_mul (p.den * q.den) 2
 have len2 : len 2 ≤ 1 := len_le (by decide)
 have lw := sLow_num (decide (p.num * q.den + q.num * p.den < 0)) (a := (p.num * q.den + q.num * p.den).natAbs) (b := p.den * q.den * 2) (by unfold zl at *; omega) (by omega) (Nat.mul_ne_zero (Nat.mul_ne_zero p.den_nz q.den_nz) (by decide))
 rw [zOf_sign, half_mk] at lw
 obtain ⟨w, hw⟩ : ∃ w, w = p.num * q.den + q.num * p.den := ⟨_, rfl⟩
 rw [← hw] at o lw
 obtain ⟨R, hR⟩ : ∃ R, R = heldQ ((p + q) / 2) := ⟨_, rfl⟩
 rw [← hR] at lw
 have LR : sLeft [.lst ((limbs (p.den * q.den)).map u64), .int .i64 1] = some (.lst ((limbs (p.den * q.den * 2)).map u64)) := L2
 have DD : sTimes [.lst ((ofQ p).d.map u64), .lst ((ofQ q).d.map u64)] = some (.lst ((limbs (p.den * q.den)).map u64)) := dd
 obtain ⟨k1, hk1⟩ : ∃ k, k = cmpF (ofQ p) (ofQ q) := ⟨_, rfl⟩
 rw [← hk1] at hC hc'
 obtain ⟨ma, hma⟩ : ∃ m : Rat, m = ((p.floor + 1 : Int) : Rat) := ⟨_, rfl⟩
 obtain ⟨mb, hmb⟩ : ∃ m : Rat, m = ((-((-q).floor + 1) : Int) : Rat) := ⟨_, rfl⟩
 have hn : (nextZ p q : Rat) = if p < 0 then mb else ma := by
  unfold nextZ
  split
  ·rw [hmb]
  ·rw [hma]
 rw [hn]
 rw [← hma] at A SA
 rw [← hmb] at Bl SB
 have CA1 := cmpP_num hp SA
 have CA2 := cmpP_num SA hq
 have CB1 := cmpP_num hp SB
 have CB2 := cmpP_num SB hq
 simp only [pairF, Fr.enc] at A Bl lw hC S1 S2 Z CA1 CA2 CB1 CB2 n1 n2 d1 d2
 rw [iN_case w] at o
 -- the last part: half of the sum
 by_cases hp0 : p < 0
 ·rw [cmpQ_lt hp0] at S1
  by_cases hq0 : 0 < q
  ·rw [cmpQ_gt hq0] at S2
   rw [if_pos ⟨hp0, hq0⟩, heldQ_ok (Sm_zero 64 (by omega))]
   simp only [pairF, Fr.enc]
   simp [lf171, hC, hc', S1, S2, Z, fillS, Tbw_mu, Tbw_fns]
  ·rw [if_neg (fun h => hq0 h.2)]
   have h2 : ¬ 0 < cmpQ q 0 := fun h => hq0 (cmpQ_pos_iff.1 h)
   obtain ⟨kq, hkq⟩ : ∃ k, k = cmpQ q 0 := ⟨_, rfl⟩
   rw [← hkq] at S2 h2
   rw [if_pos hp0]
   have e1 := cmpQ_neg_iff (p := p) (q := mb)
   have e2 := cmpQ_neg_iff (p := mb) (q := q)
   obtain ⟨c1, hc1⟩ : ∃ k, k = cmpQ p mb := ⟨_, rfl⟩
   obtain ⟨c2, hc2⟩ : ∃ k, k = cmpQ mb q := ⟨_, rfl⟩
   rw [← hc1] at CB1 e1
   rw [← hc2] at CB2 e2
   by_cases h3 : p < mb
   ·have h3' : c1 < 0 := e1.2 h3
    by_cases h4 : mb < q
    ·have h4' : c2 < 0 := e2.2 h4
     rw [if_pos ⟨h3, h4⟩, heldQ_ok SB]
     simp only [pairF, Fr.enc]
     simp [lf171, hC, hc', S1, S2, h2, A, Bl, CB1, CB2, h3', h4', fillS, Tbw_mu, Tbw_fns]
    ·have h4' : ¬ c2 < 0 := fun h => h4 (e2.1 h)
     rw [if_neg (fun h => h4 h.2), ← hR]
     simp only [pairF, Fr.enc]
     simp [lf171, hC, hc', S1, S2, h2, A, Bl, CB1, CB2, h3', h4', vc_regionW, fillS, Tbw_mu, Tbw_fns]
     refine ⟨[], ?_⟩
     simp [n1, n2, d1, d2, t1, t2, o, vc_regionW, fillS, Tbw_mu, Tbw_fns]
     refine ⟨fun k hk => by match k, hk with | 0, _ => rfl | 1, _ => rfl | 2, _ => rfl | 3, _ => rfl, [], ?_⟩
     simp [DD, LR, lw, fillS, Tbw_mu, Tbw_fns]
   ·have h3' : ¬ c1 < 0 := fun h => h3 (e1.1 h)
    rw [if_neg (fun h => h3 h.1), ← hR]
    simp only [pairF, Fr.enc]
    simp [lf171, hC, hc', S1, S2, h2, A, Bl, CB1, CB2, h3', vc_regionW, fillS, Tbw_mu, Tbw_fns]
    refine ⟨[], ?_⟩
    simp [n1, n2, d1, d2, t1, t2, o, vc_regionW, fillS, Tbw_mu, Tbw_fns]
    refine ⟨fun k hk => by match k, hk with | 0, _ => rfl | 1, _ => rfl | 2, _ => rfl | 3, _ => rfl, [], ?_⟩
    simp [DD, LR, lw, fillS, Tbw_mu, Tbw_fns]
 ·have h1 : ¬ cmpQ p 0 < 0 := fun h => hp0 (cmpQ_neg_iff.1 h)
  obtain ⟨kp, hkp⟩ : ∃ k, k = cmpQ p 0 := ⟨_, rfl⟩
  rw [← hkp] at S1 h1
  rw [if_neg (fun h => hp0 h.1), if_neg hp0]
  have e1 := cmpQ_neg_iff (p := p) (q := ma)
  have e2 := cmpQ_neg_iff (p := ma) (q := q)
  obtain ⟨c1, hc1⟩ : ∃ k, k = cmpQ p ma := ⟨_, rfl⟩
  obtain ⟨c2, hc2⟩ : ∃ k, k = cmpQ ma q := ⟨_, rfl⟩
  rw [← hc1] at CA1 e1
  rw [← hc2] at CA2 e2
  by_cases h3 : p < ma
  ·have h3' : c1 < 0 := e1.2 h3
   by_cases h4 : ma < q
   ·have h4' : c2 < 0 := e2.2 h4
    rw [if_pos ⟨h3, h4⟩, heldQ_ok SA]
    simp only [pairF, Fr.enc]
    simp [lf171, hC, hc', S1, S2, h1, A, Bl, CA1, CA2, h3', h4', fillS, Tbw_mu, Tbw_fns]
   ·have h4' : ¬ c2 < 0 := fun h => h4 (e2.1 h)
    rw [if_neg (fun h => h4 h.2), ← hR]
    simp only [pairF, Fr.enc]
    simp [lf171, hC, hc', S1, S2, h1, A, Bl, CA1, CA2, h3', h4', vc_regionW, fillS, Tbw_mu, Tbw_fns]
    refine ⟨[], ?_⟩
    simp [n1, n2, d1, d2, t1, t2, o, vc_regionW, fillS, Tbw_mu, Tbw_fns]
    refine ⟨fun k hk => by match k, hk with | 0, _ => rfl | 1, _ => rfl | 2, _ => rfl | 3, _ => rfl, [], ?_⟩
    simp [DD, LR, lw, fillS, Tbw_mu, Tbw_fns]
  ·have h3' : ¬ c1 < 0 := fun h => h3 (e1.1 h)
   rw [if_neg (fun h => h3 h.1), ← hR]
   simp only [pairF, Fr.enc]
   simp [lf171, hC, hc', S1, S2, h1, A, Bl, CA1, CA2, h3', vc_regionW, fillS, Tbw_mu, Tbw_fns]
   refine ⟨[], ?_⟩
   simp [n1, n2, d1, d2, t1, t2, o, vc_regionW, fillS, Tbw_mu, Tbw_fns]
   refine ⟨fun k hk => by match k, hk with | 0, _ => rfl | 1, _ => rfl | 2, _ => rfl | 3, _ => rfl, [], ?_⟩
   simp [DD, LR, lw, fillS, Tbw_mu, Tbw_fns]
end Go.Proofs.YtepfpgnjpkcgmaaGreat

/-
 rat: texts.
-/
namespace Go.Proofs.YtepfpgnjpkcgmaaGreat
open Go Go.Abs Go.Limbs
variable {base : Prot}
set_option maxRecDepth 20000
attribute [local irreducible] vc
attribute [local simp] pureS touchV freezeL fuel shiftV u64 au
end Go.Proofs.YtepfpgnjpkcgmaaGreat
