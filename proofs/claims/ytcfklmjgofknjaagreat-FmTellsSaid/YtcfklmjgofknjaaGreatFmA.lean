/-
  What fm and the reference do with bounds, on sums of fractions: both are one, and the lemmas are true: the plain law. No conditions beyond the lemmas' own hypotheses.
-/
import Derived.Test.YtcfklmjgofknjaaGreatAtomE
set_option linter.unusedSimpArgs false
set_option linter.unnecessarySimpa false
set_option linter.unusedVariables false
set_option linter.constructorNameAsVariable false

/-
 law23: what sums, multiples, solutions and atoms are, wherever they come out at all; sums at values.
-/
namespace Go.Proofs.YtcfklmjgofknjaaGreat
open Go Go.Abs Go.Limbs
set_option maxRecDepth 20000
theorem scaleF_zero {k : Rat} (hk : Sm 64 k) : ∀ {ps : QP}, SmP 64 ps → ∀ {r}, scaleF (ofQ k) (ps.map ofA) = some r → r = (mulQ k ps).map ofA ∧ SmP 64 (mulQ k ps)
 | [], _, r, h => by
  rw [List.map_nil, scaleF] at h
  cases h
  exact ⟨rfl, fun x hx => by cases hx⟩
 | x :: l, hs, r, h => by
  have hm : mulF (ofA x).c (ofQ k) = heldQ (x.1 * k) := mulF_num (hs x (by simp)) hk
  rw [List.map_cons, scaleF, hm] at h
  split at h
  ·rename_i h0
   obtain ⟨e1, e2⟩ := heldQ_zero h0
   rw [Option.map_eq_some_iff] at h
   obtain ⟨s, hs', rfl⟩ := h
   obtain ⟨i1, i2⟩ := scaleF_zero hk (fun y hy => hs y (by simp [hy])) hs'
   subst i1
   rw [e1]
   refine ⟨rfl, fun y hy => ?_⟩
   rcases List.mem_cons.1 hy with rfl | hy
   ·exact e2
   ·exact i2 y hy
  ·cases h
theorem scale_zero {P : Qo} {k : Rat} (hP : P.Is 64) (hk : Sm 64 k) (h : (scalePo (ofP P) (ofQ k)).2 = 0) : scalePo (ofP P) (ofQ k) = (ofP (scaleQ P k), 0) ∧ (scaleQ P k).Is 64 := by
 unfold scalePo at h ⊢
 rw [ok_ofP hP, ok_ofQ hk] at h ⊢
 have hm : mulF (ofP P).c (ofQ k) = heldQ (P.c * k) := mulF_num hP.sc hk
 rw [hm] at h ⊢
 simp only [Bool.and_self, if_true] at h ⊢
 split at h
 case isFalse => cases h
 rename_i h0
 obtain ⟨e1, e2⟩ := heldQ_zero h0
 rw [e1] at h ⊢
 rw [if_pos rfl]
 by_cases hz : k = 0
 ·rw [if_pos (ofQ_n.2 hz)]
  have e : scaleQ P k = ⟨[], P.c * k⟩ := by unfold scaleQ; rw [if_pos hz]
  rw [e]
  exact ⟨rfl, trivial, fun x hx => (by cases hx), e2⟩
 ·have hz' : ¬ (ofQ k).n = [] := fun e => hz (ofQ_n.1 e)
  rw [if_neg hz'] at h ⊢
  have e : scaleQ P k = ⟨mulQ k P.ps, P.c * k⟩ := by unfold scaleQ; rw [if_neg hz]
  rw [e]
  cases hs : scaleF (ofQ k) (ofP P).ps with
  | none => rw [hs] at h; cases h
  | some r =>
   obtain ⟨i1, i2⟩ := scaleF_zero hk hP.sp hs
   subst i1
   exact ⟨rfl, okQ_mul hz hP.ok, i2, e2⟩
theorem mergeF_zero : ∀ {l r : QP}, SmP 64 l → SmP 64 r → ∀ {m}, mergeF (l.map ofA) (r.map ofA) = some m → m = (mergeQ l r).map ofA ∧ SmP 64 (mergeQ l r)
 | [], r, _, hr, m, h => by
  rw [List.map_nil, merge_nil] at h
  cases h
  rw [mergeQ_nil]
  exact ⟨rfl, hr⟩
 | x :: l, [], hl, _, m, h => by
  rw [List.map_nil, List.map_cons, merge_nil2] at h
  cases h
  rw [mergeQ_nil2]
  exact ⟨rfl, hl⟩
 | x :: l, y :: r, hl, hr, m, h => by
  have l1 := hl x (by simp)
  have r1 := hr y (by simp)
  have l2 : SmP 64 l := fun z hz => hl z (by simp [hz])
  have r2 : SmP 64 r := fun z hz => hr z (by simp [hz])
  have cons : ∀ {z : Rat × Int} {t : QP}, Sm 64 z.1 → SmP 64 t → SmP 64 (z :: t) := fun hz ht w hw => by
   rcases List.mem_cons.1 hw with rfl | hw
   ·exact hz
   ·exact ht w hw
  by_cases h1 : x.2 < y.2
  ·rw [List.map_cons, List.map_cons, merge_lt h1, ← List.map_cons, Option.map_eq_some_iff] at h
   obtain ⟨s, hs, rfl⟩ := h
   obtain ⟨i1, i2⟩ := mergeF_zero l2 hr hs
   subst i1
   rw [mergeQ_lt h1]
   exact ⟨rfl, cons l1 i2⟩
  ·by_cases h2 : y.2 < x.2
   ·rw [List.map_cons, List.map_cons, merge_gt h2, ← List.map_cons, Option.map_eq_some_iff] at h
    obtain ⟨s, hs, rfl⟩ := h
    obtain ⟨i1, i2⟩ := mergeF_zero hl r2 hs
    subst i1
    rw [mergeQ_gt h2]
    exact ⟨rfl, cons r1 i2⟩
   ·have he : x.2 = y.2 := by omega
    have ha : addF (ofA x).c (ofA y).c = heldQ (x.1 + y.1) := addF_num l1 r1
    rw [List.map_cons, List.map_cons, merge_eq he, ha] at h
    split at h
    ·rename_i h0
     obtain ⟨e1, e2⟩ := heldQ_zero h0
     rw [e1, Option.map_eq_some_iff] at h
     obtain ⟨s, hs, rfl⟩ := h
     obtain ⟨i1, i2⟩ := mergeF_zero l2 r2 hs
     subst i1
     rw [mergeQ_eq he]
     by_cases h3 : x.1 + y.1 = 0
     ·rw [if_pos h3, if_pos (ofQ_n.2 h3)]
      exact ⟨rfl, i2⟩
     ·rw [if_neg h3, if_neg (fun e => h3 (ofQ_n.1 e))]
      exact ⟨rfl, cons e2 i2⟩
    ·cases h
termination_by l r => l.length + r.length
theorem add_zero {P Q : Qo} (hP : P.Is 64) (hQ : Q.Is 64) (h : (addPo (ofP P) (ofP Q)).2 = 0) : addPo (ofP P) (ofP Q) = (ofP (addQ P Q), 0) ∧ (addQ P Q).Is 64 := by
 unfold addPo at h ⊢
 rw [ok_ofP hP, ok_ofP hQ] at h ⊢
 have ha : addF (ofP P).c (ofP Q).c = heldQ (P.c + Q.c) := addF_num hP.sc hQ.sc
 rw [ha] at h ⊢
 simp only [Bool.and_self, if_true] at h ⊢
 split at h
 case isFalse => cases h
 rename_i h0
 obtain ⟨e1, e2⟩ := heldQ_zero h0
 rw [e1] at h ⊢
 rw [if_pos rfl]
 cases hs : mergeF (ofP P).ps (ofP Q).ps with
 | none => rw [hs] at h; cases h
 | some r =>
  obtain ⟨i1, i2⟩ := mergeF_zero hP.sp hQ.sp hs
  subst i1
  exact ⟨rfl, okQ_merge hP.ok hQ.ok, i2, e2⟩
theorem make_zero {k : Int} {P : Qo} (hP : P.Is 64) (hk : isSum (k3 k) = true) (h : (makeAt k (ofP P)).2.2 = 0) : makeAt k (ofP P) = (atQ (k3 k) (normQ (k3 k) P), decide (k = 4), 0) ∧ (normQ (k3 k) P).Is 64 := by
 obtain ⟨ps, d⟩ := P
 unfold makeAt at h ⊢
 rw [hk, ok_ofP hP] at h ⊢
 cases ps with
 | nil =>
  simp only [Bool.and_self, if_true, ofP, List.map_nil, normQ, atQ]
  rw [signF_num hP.sc, sgn_of]
  exact ⟨rfl, trivial, fun x hx => (by cases hx), Sm_mono (Sm_sgn _) (by decide)⟩
 | cons x r =>
  have h0 : x.1 ≠ 0 := hP.ok.2.1
  have hs : Sm 64 x.1 := hP.sp x (by simp)
  have hz := Sm_sz (k := k3 k) hs
  have hz0 := szQ_ne (k := k3 k) h0
  rw [size_of hs, quoF_num (Sm_mono sm1 (by decide)) hz hz0] at h ⊢
  have eps : (ofP ⟨x :: r, d⟩).ps = ofA x :: r.map ofA := rfl
  simp only [eps, Bool.and_self, if_true] at h ⊢
  split at h
  case isFalse => contradiction
  rename_i hq
  obtain ⟨e1, e2⟩ := heldQ_zero hq
  rw [e1] at h ⊢
  rw [if_pos rfl]
  dsimp only at h ⊢
  split at h
  case isFalse => contradiction
  rename_i hc
  obtain ⟨f1, f2⟩ := scale_zero hP e2 hc
  rw [f1, if_pos rfl]
  exact ⟨rfl, f2⟩
end Go.Proofs.YtcfklmjgofknjaaGreat

/-
 law23: literals as bounds: both texts' ways are one.
-/
namespace Go.Proofs.YtcfklmjgofknjaaGreat
open Go Go.Abs Go.Limbs
set_option maxRecDepth 20000
structure Lt where
 a : At
 n : Bool
def Lt.enc (x : Lt) : PVal := .agg [.int .i64 x.a.k, .lst (x.a.p.ps.map Pa.enc), .bool x.a.p.c.s, .lst (x.a.p.c.n.map u64), .lst (x.a.p.c.d.map u64), .int .i64 x.a.a, .int .i64 x.a.b, .bool x.n]
structure Sd where
 p : Po
 s : Bool
 e : Bool
def zSd : Sd := ⟨zPo, false, false⟩
def hasC (p : Po) (v : Int) : Bool := !decide (signF (coefPo p v) = 0)
def ltOf (x : Lt) (v : Int) : Sd × Bool :=
 if x.a.ok = true then
  (if x.a.k = 3 ∧ x.n = false then (⟨x.a.p, false, true⟩, hasC x.a.p v)
  else if x.a.k = 1 ∨ x.a.k = 2 then
   (if x.n = true then (if (notAt x.a).2 = true then (⟨(notAt x.a).1.p, decide ((notAt x.a).1.k = 2), false⟩, hasC (notAt x.a).1.p v) else (zSd, false))
   else (⟨x.a.p, decide (x.a.k = 2), false⟩, hasC x.a.p v))
  else (zSd, false))
 else (zSd, false)
def lowP (p : Po) (v : Int) : Bool := decide (signF (coefPo p v) < 0)
def boundL (x : Lt) (v : Int) : Bool × Bool × Nat :=
 if (ltOf x v).2 = true ∧ (ltOf x v).1.e = false then (lowP (ltOf x v).1.p v, (ltOf x v).1.s, 0) else (false, false, 1)
def turnL (s : Sd) (v : Int) (low : Bool) : Sd × Bool :=
 if lowP s.p v = low then (s, true)
 else if s.e = true then (⟨(scalePo s.p (ofQ (-1))).1, s.s, s.e⟩, decide ((scalePo s.p (ofQ (-1))).2 = 0)) else (s, false)
def firstL (x y : Sd) (v : Int) : Bool := (x.e && y.e) || ((!x.e && lowP x.p v) || (x.e && (!y.e && !lowP y.p v)))
def sidesL (a b : Lt) (v : Int) : Sd × Sd × Bool × Bool :=
 if (ltOf a v).2 = true ∧ (ltOf b v).2 = true then
  (if firstL (ltOf a v).1 (ltOf b v).1 v = true then ((turnL (ltOf a v).1 v true).1, (turnL (ltOf b v).1 v false).1, true, (turnL (ltOf a v).1 v true).2 && (turnL (ltOf b v).1 v false).2)
  else ((turnL (ltOf b v).1 v true).1, (turnL (ltOf a v).1 v false).1, false, (turnL (ltOf b v).1 v true).2 && (turnL (ltOf a v).1 v false).2))
 else (zSd, zSd, false, false)
def sumL (x : Lt) : Po × Bool × Bool :=
 if x.a.ok = true ∧ (x.a.k = 1 ∨ x.a.k = 2) then
  (if x.n = false then (x.a.p, decide (x.a.k = 2), true) else ((notAt x.a).1.p, decide ((notAt x.a).1.k = 2), (notAt x.a).2))
 else (zPo, false, false)
def boundR (x : Lt) (v : Int) : Bool × Bool × Nat :=
 if (sumL x).2.2 = true ∧ ¬ (coefPo (sumL x).1 v).n = [] then ((coefPo (sumL x).1 v).s, (sumL x).2.1, 0) else (false, false, 1)
def sideR (x : Lt) (v : Int) (low : Bool) : Po × Bool × Bool :=
 if x.a.ok = true ∧ x.a.k = 3 ∧ x.n = false then
  (if (coefPo x.a.p v).n = [] then (zPo, false, false)
  else if (coefPo x.a.p v).s = low then (x.a.p, false, true)
  else ((scalePo x.a.p (ofQ (-1))).1, false, decide ((scalePo x.a.p (ofQ (-1))).2 = 0)))
 else ((sumL x).1, (sumL x).2.1, (sumL x).2.2 && (!decide ((coefPo (sumL x).1 v).n = []) && decide ((coefPo (sumL x).1 v).s = low)))
def pairR (a b : Lt) (v : Int) : Bool × Bool :=
 if ((sideR a v true).2.2 && (sideR b v false).2.2) = true then (true, true) else (false, (sideR a v false).2.2 && (sideR b v true).2.2)
theorem held_neg {q : Rat} (h : Sm 64 q) : heldQ (q * -1) = (ofQ (q * -1), 0) := heldQ_ok (by rw [show q * -1 = -q by grind]; exact Sm_neg h)
theorem scaleF_m1 : ∀ {ps : QP}, SmP 64 ps → scaleF (ofQ (-1)) (ps.map ofA) = some ((mulQ (-1) ps).map ofA) ∧ SmP 64 (mulQ (-1) ps)
 | [], _ => ⟨rfl, fun x hx => (by cases hx)⟩
 | x :: r, h => by
  have hx := h x (by simp)
  obtain ⟨i1, i2⟩ := scaleF_m1 (ps := r) fun y hy => h y (by simp [hy])
  have hm : mulF (ofA x).c (ofQ (-1)) = (ofQ (x.1 * -1), 0) := by
   show mulF (ofQ x.1) (ofQ (-1)) = _
   rw [mulF_num hx Sm_m1, held_neg hx]
  constructor
  ·rw [List.map_cons, scaleF, hm, if_pos rfl, i1]
   rfl
  ·intro y hy
   rcases List.mem_cons.1 hy with rfl | hy
   ·show Sm 64 (x.1 * -1)
    rw [show x.1 * -1 = -x.1 by grind]
    exact Sm_neg hx
   ·exact i2 y hy
theorem scale_m1 {P : Qo} (hP : P.Is 64) : scalePo (ofP P) (ofQ (-1)) = (ofP (scaleQ P (-1)), 0) ∧ (scaleQ P (-1)).Is 64 := by
 have e : (scalePo (ofP P) (ofQ (-1))).2 = 0 := by
  unfold scalePo
  have hm : mulF (ofP P).c (ofQ (-1)) = (ofQ (P.c * -1), 0) := by
   show mulF (ofQ P.c) (ofQ (-1)) = _
   rw [mulF_num hP.sc Sm_m1, held_neg hP.sc]
  rw [ok_ofP hP, ok_ofQ Sm_m1, hm]
  simp only [Bool.and_self, if_true]
  split
  ·rfl
  ·rw [show (ofP P).ps = P.ps.map ofA from rfl, (scaleF_m1 hP.sp).1]; rfl
 exact scale_zero hP Sm_m1 e
theorem coef_view {P : Qo} (hP : P.Is 64) (v : Int) : hasC (ofP P) v = !decide (coefQ v P.ps = 0) ∧ lowP (ofP P) v = decide (coefQ v P.ps < 0) ∧ ((coefPo (ofP P) v).n = [] ↔ coefQ v P.ps = 0) ∧ (coefPo (ofP P) v).s = decide (coefQ v P.ps < 0) := by
 have hs := coef_sm v hP.sp
 unfold hasC lowP
 rw [coef_of hP, signF_num hs]
 refine ⟨by rw [decide_eq_decide.2 cmpQ_zero_iff], decide_eq_decide.2 cmpQ_neg_iff, ofQ_n, ?_⟩
 refine decide_eq_decide.2 ?_
 rw [← cmpQ_neg_iff, cmpQ_sgn]
 unfold sgnZ
 split
 ·omega
 ·split <;> omega
structure View (x : Lt) (s : Sd) (P : Qo) : Prop where
 is : P.Is 64
 eq : s.p = ofP P
 so : ∀ lk : Int → Fr, (holdsAt lk x.a).2 = 0 → ((holdsAt lk x.a).1 != x.n) = soF (if s.e = true then 3 else if s.s = true then 2 else 1) (cmpQ (valQ (fq lk) P) 0)
theorem not_view {x : At} (ho : x.ok = true) (hk : x.k = 1 ∨ x.k = 2) (h : (notAt x).2 = true) : ∃ N : Qo, N.Is 64 ∧ x.p = ofP N ∧ notAt x = (atQ (3 - x.k) (normQ (3 - x.k) (scaleQ N (-1))), true) ∧ (normQ (3 - x.k) (scaleQ N (-1))).Is 64 ∧ (scaleQ N (-1)).Is 64 := by
 have hs : isSum x.k = true := by rcases hk with e | e <;> rw [e] <;> rfl
 obtain ⟨N, hN, hp⟩ := po_of (ok_of_at ho hs)
 refine ⟨N, hN, hp, ?_⟩
 obtain ⟨s1, s2⟩ := scale_m1 hN
 have hc : (decide (x.k = 1) || decide (x.k = 2)) = true := by simpa using hk
 have e3 : k3 (3 - x.k) = 3 - x.k := by unfold k3; rw [if_neg (by omega)]
 have hs3 : isSum (k3 (3 - x.k)) = true := by rw [e3]; rcases hk with e | e <;> rw [e] <;> rfl
 unfold notAt at h ⊢
 rw [ho, hc, hp, s1] at h ⊢
 simp only [Bool.and_self, if_true] at h ⊢
 obtain ⟨m1, m2⟩ := make_zero s2 hs3 (of_decide_eq_true h)
 rw [m1, e3]
 rw [e3] at m2
 exact ⟨rfl, m2, s2⟩
theorem hasC_n {P : Qo} (hP : P.Is 64) (v : Int) : hasC (ofP P) v = !decide ((coefPo (ofP P) v).n = []) := by
 obtain ⟨h1, -, h3, -⟩ := coef_view hP v
 rw [h1, decide_eq_decide.2 h3]
theorem lowP_s {P : Qo} (hP : P.Is 64) (v : Int) : lowP (ofP P) v = (coefPo (ofP P) v).s := by
 obtain ⟨-, h2, -, h4⟩ := coef_view hP v
 rw [h2, h4]
theorem lit_cases (x : Lt) (v : Int) :
  ((ltOf x v).2 = false ∧ (∀ low, (sideR x v low).2.2 = false) ∧ (x.a.k = 3 ∧ x.n = false ∨ (sumL x).2.2 = false ∨ (coefPo (sumL x).1 v).n = []))
  ∨ ((ltOf x v).2 = true ∧ (ltOf x v).1.e = true ∧ (∀ low, (turnL (ltOf x v).1 v low).2 = true ∧ sideR x v low = ((turnL (ltOf x v).1 v low).1.p, (turnL (ltOf x v).1 v low).1.s, true)) ∧ x.a.k = 3 ∧ x.n = false)
  ∨ ((ltOf x v).2 = true ∧ (ltOf x v).1.e = false ∧ sumL x = ((ltOf x v).1.p, (ltOf x v).1.s, true) ∧ ¬ (coefPo (sumL x).1 v).n = [] ∧ (coefPo (sumL x).1 v).s = lowP (ltOf x v).1.p v ∧ (∀ low, sideR x v low = ((ltOf x v).1.p, (ltOf x v).1.s, decide (lowP (ltOf x v).1.p v = low)))) := by
 by_cases ho : x.a.ok = true
 ·by_cases h1 : x.a.k = 3 ∧ x.n = false
  ·have hs : isSum x.a.k = true := by rw [h1.1]; rfl
   obtain ⟨N, hN, hp⟩ := po_of (ok_of_at ho hs)
   have e : ltOf x v = (⟨x.a.p, false, true⟩, hasC x.a.p v) := by unfold ltOf; rw [if_pos ho, if_pos h1]
   have er : ∀ low, sideR x v low = (if (coefPo x.a.p v).n = [] then (zPo, false, false)
     else if (coefPo x.a.p v).s = low then (x.a.p, false, true)
     else ((scalePo x.a.p (ofQ (-1))).1, false, decide ((scalePo x.a.p (ofQ (-1))).2 = 0))) := fun low => by unfold sideR; rw [if_pos ⟨ho, h1⟩]
   rw [e]
   by_cases hn : (coefPo x.a.p v).n = []
   ·left
    refine ⟨?_, fun low => by rw [er, if_pos hn], .inl h1⟩
    show hasC x.a.p v = false
    rw [hp] at hn ⊢
    rw [hasC_n hN, hn]; rfl
   ·right; left
    refine ⟨?_, rfl, fun low => ?_, h1.1, h1.2⟩
    ·show hasC x.a.p v = true
     rw [hp] at hn ⊢
     rw [hasC_n hN, decide_eq_false hn]; rfl
    ·rw [er, if_neg hn]
     unfold turnL
     dsimp only
     have hl : lowP x.a.p v = (coefPo x.a.p v).s := by rw [hp]; exact lowP_s hN v
     rw [hl]
     split
     ·exact ⟨rfl, rfl⟩
     ·rw [if_pos rfl]
      have hm : (scalePo x.a.p (ofQ (-1))).2 = 0 := by rw [hp, (scale_m1 hN).1]
      dsimp only
      rw [decide_eq_true hm]
      exact ⟨rfl, rfl⟩
  ·have er : ∀ low, sideR x v low = ((sumL x).1, (sumL x).2.1, (sumL x).2.2 && (!decide ((coefPo (sumL x).1 v).n = []) && decide ((coefPo (sumL x).1 v).s = low))) := fun low => by
    unfold sideR
    rw [if_neg (fun h => h1 h.2)]
   by_cases h2 : x.a.k = 1 ∨ x.a.k = 2
   ·have hs : isSum x.a.k = true := by rcases h2 with e | e <;> rw [e] <;> rfl
    -- the sum, and that it may be
    have key : ((sumL x).2.2 = false ∧ (ltOf x v).2 = false) ∨ ∃ P : Qo, P.Is 64 ∧ (sumL x).2.2 = true ∧ (sumL x).1 = ofP P ∧ ltOf x v = (⟨(sumL x).1, (sumL x).2.1, false⟩, hasC (sumL x).1 v) := by
     unfold sumL ltOf
     rw [if_pos ho, if_neg h1, if_pos h2, if_pos ⟨ho, h2⟩]
     cases hn : x.n with
     | false =>
      right
      obtain ⟨N, hN, hp⟩ := po_of (ok_of_at ho hs)
      exact ⟨N, hN, rfl, hp, rfl⟩
     | true =>
      cases hq : (notAt x.a).2 with
      | false => left; exact ⟨rfl, rfl⟩
      | true =>
       right
       obtain ⟨N, hN, hp, e, i1, i2⟩ := not_view ho h2 hq
       refine ⟨_, i1, rfl, ?_, rfl⟩
       show (notAt x.a).1.p = _
       rw [e]; rfl
    rcases key with ⟨k1, k2⟩ | ⟨P, hP, k1, k2, k3⟩
    ·left
     exact ⟨k2, fun low => by rw [er, k1]; rfl, .inr (.inl k1)⟩
    ·by_cases hn : (coefPo (sumL x).1 v).n = []
     ·left
      refine ⟨?_, fun low => by rw [er, decide_eq_true hn]; simp, .inr (.inr hn)⟩
      rw [k3]
      show hasC (sumL x).1 v = false
      rw [k2] at hn ⊢
      rw [hasC_n hP, hn]; rfl
     ·right; right
      have hl : lowP (sumL x).1 v = (coefPo (sumL x).1 v).s := by rw [k2]; exact lowP_s hP v
      rw [k3]
      refine ⟨?_, rfl, ?_, hn, hl.symm, fun low => ?_⟩
      ·show hasC (sumL x).1 v = true
       rw [k2] at hn ⊢
       rw [hasC_n hP, decide_eq_false hn]; rfl
      ·show sumL x = ((sumL x).1, (sumL x).2.1, true)
       rw [← k1]
      ·rw [er, k1, decide_eq_false hn]
       show ((sumL x).1, (sumL x).2.1, _) = ((sumL x).1, (sumL x).2.1, decide (lowP (sumL x).1 v = low))
       rw [hl]; rfl
   ·left
    have e : (sumL x).2.2 = false := by unfold sumL; rw [if_neg (fun h => h2 h.2)]
    refine ⟨by unfold ltOf; rw [if_pos ho, if_neg h1, if_neg h2], fun low => by rw [er, e]; rfl, .inr (.inl e)⟩
 ·left
  have e : (sumL x).2.2 = false := by unfold sumL; rw [if_neg (fun h => ho h.1)]
  refine ⟨by unfold ltOf; rw [if_neg ho], fun low => ?_, .inr (.inl e)⟩
  unfold sideR
  rw [if_neg (fun h => ho h.1), e]; rfl
theorem bound_eq (x : Lt) (v : Int) : boundL x v = boundR x v := by
 unfold boundL boundR
 rcases lit_cases x v with ⟨h1, -, h3⟩ | ⟨h1, h2, -, h4, h5⟩ | ⟨h1, h2, h3, h4, h5, -⟩
 ·rw [h1, if_neg (fun h => by cases h.1), if_neg]
  rintro ⟨a, b⟩
  rcases h3 with ⟨h, _⟩ | h | h
  ·unfold sumL at a
   rw [if_neg (fun e => by omega)] at a
   cases a
  ·rw [h] at a; cases a
  ·exact b h
 ·rw [h2, if_neg (fun h => by cases h.2), if_neg]
  rintro ⟨a, _⟩
  unfold sumL at a
  rw [if_neg (fun e => by omega)] at a
  cases a
 ·rw [h1, h2, if_pos ⟨rfl, rfl⟩, if_pos ⟨by rw [h3], h4⟩, h5, h3]
end Go.Proofs.YtcfklmjgofknjaaGreat

/-
 law23: the lemmas of two and of three bounds; both texts' are one, and each is true.
-/
namespace Go.Proofs.YtcfklmjgofknjaaGreat
open Go Go.Abs Go.Limbs
set_option maxRecDepth 20000
def opp (x : Lt) : Lt := ⟨x.a, !x.n⟩
def kdOf (st : Bool) : Int := if st = true then 2 else 1
def twoC (a b : Lt) (q p : Po) (kd : Int) (v : Int) : List Lt × Nat :=
 if (scalePo p (negF (coefPo q v))).2 = 0 then
  (if (scalePo q (coefPo p v)).2 = 0 then
   (if (addPo (scalePo p (negF (coefPo q v))).1 (scalePo q (coefPo p v)).1).2 = 0 then
    (if (makeAt kd (addPo (scalePo p (negF (coefPo q v))).1 (scalePo q (coefPo p v)).1).1).2.2 = 0 then
     ([opp a, opp b, ⟨(makeAt kd (addPo (scalePo p (negF (coefPo q v))).1 (scalePo q (coefPo p v)).1).1).1, false⟩], 0)
    else ([], (makeAt kd (addPo (scalePo p (negF (coefPo q v))).1 (scalePo q (coefPo p v)).1).1).2.2))
   else ([], (addPo (scalePo p (negF (coefPo q v))).1 (scalePo q (coefPo p v)).1).2))
  else ([], (scalePo q (coefPo p v)).2))
 else ([], (scalePo p (negF (coefPo q v))).2)
def twoL (a b : Lt) (v : Int) : List Lt × Nat :=
 if (sidesL a b v).2.2.2 = true then twoC a b (sidesL a b v).1.p (sidesL a b v).2.1.p (kdOf ((sidesL a b v).1.s || (sidesL a b v).2.1.s)) v else ([], 1)
def twoR (a b : Lt) (v : Int) : List Lt × Nat :=
 if (pairR a b v).2 = true then
  (if (pairR a b v).1 = true then twoC a b (sideR a v true).1 (sideR b v false).1 (kdOf ((sideR b v false).2.1 || (sideR a v true).2.1)) v
  else twoC a b (sideR b v true).1 (sideR a v false).1 (kdOf ((sideR a v false).2.1 || (sideR b v true).2.1)) v)
 else ([], 1)
def lessC (p q : Po) : At × Nat :=
 if (scalePo q (ofQ (-1))).2 = 0 then
  (if (addPo p (scalePo q (ofQ (-1))).1).2 = 0 then ((makeAt 2 (addPo p (scalePo q (ofQ (-1))).1).1).1, (makeAt 2 (addPo p (scalePo q (ofQ (-1))).1).1).2.2)
  else (zAt, (addPo p (scalePo q (ofQ (-1))).1).2))
 else (zAt, (scalePo q (ofQ (-1))).2)
def threeC (a b c : Lt) (p q : Po) (v : Int) : List Lt × Nat :=
 if (solvePo p v).2 = 0 then
  (if (solvePo q v).2 = 0 then
   (if (solvePo c.a.p v).2 = 0 then
    (if (lessC (solvePo p v).1 (solvePo c.a.p v).1).2 = 0 then
     (if (lessC (solvePo c.a.p v).1 (solvePo q v).1).2 = 0 then
      ([opp a, opp b, opp c, ⟨(lessC (solvePo p v).1 (solvePo c.a.p v).1).1, false⟩, ⟨(lessC (solvePo c.a.p v).1 (solvePo q v).1).1, false⟩], 0)
     else ([], (lessC (solvePo c.a.p v).1 (solvePo q v).1).2))
    else ([], (lessC (solvePo p v).1 (solvePo c.a.p v).1).2))
   else ([], (solvePo c.a.p v).2))
  else ([], (solvePo q v).2))
 else ([], (solvePo p v).2)
def threeL (a b c : Lt) (v : Int) : List Lt × Nat :=
 if (sidesL a b v).2.2.2 = true ∧ (sidesL a b v).2.2.1 = true ∧ c.n = true ∧ c.a.k = 3 ∧ c.a.ok = true ∧ hasC c.a.p v = true then threeC a b c (sidesL a b v).1.p (sidesL a b v).2.1.p v else ([], 1)
def threeR (a b c : Lt) (v : Int) : List Lt × Nat :=
 if (sideR a v true).2.2 = true ∧ (sideR b v false).2.2 = true ∧ c.n = true ∧ c.a.ok = true ∧ c.a.k = 3 ∧ ¬ (coefPo c.a.p v).n = [] then threeC a b c (sideR a v true).1 (sideR b v false).1 v else ([], 1)
theorem turn_one {s : Sd} (h : s.e = false) (v : Int) (low : Bool) : turnL s v low = (s, decide (lowP s.p v = low)) := by
 unfold turnL
 rw [h]
 by_cases e : lowP s.p v = low
 ·rw [if_pos e, decide_eq_true e]
 ·rw [if_neg e, decide_eq_false e]; rfl
theorem sides_eq (a b : Lt) (v : Int) :
  (((sideR a v true).2.2 && (sideR b v false).2.2) = true ∧ (sidesL a b v).2.2.2 = true ∧ (sidesL a b v).2.2.1 = true ∧ (sidesL a b v).1.p = (sideR a v true).1 ∧ (sidesL a b v).1.s = (sideR a v true).2.1 ∧ (sidesL a b v).2.1.p = (sideR b v false).1 ∧ (sidesL a b v).2.1.s = (sideR b v false).2.1)
  ∨ (((sideR a v true).2.2 && (sideR b v false).2.2) = false ∧ ((sideR a v false).2.2 && (sideR b v true).2.2) = true ∧ (sidesL a b v).2.2.2 = true ∧ (sidesL a b v).2.2.1 = false ∧ (sidesL a b v).1.p = (sideR b v true).1 ∧ (sidesL a b v).1.s = (sideR b v true).2.1 ∧ (sidesL a b v).2.1.p = (sideR a v false).1 ∧ (sidesL a b v).2.1.s = (sideR a v false).2.1)
  ∨ (((sideR a v true).2.2 && (sideR b v false).2.2) = false ∧ ((sideR a v false).2.2 && (sideR b v true).2.2) = false ∧ (sidesL a b v).2.2.2 = false) := by
 unfold sidesL
 rcases lit_cases a v with ⟨a1, a2, -⟩ | ⟨a1, a2, a3, -⟩ | ⟨a1, a2, -, -, -, a3⟩
 ·right; right
  rw [a1, a2, a2, if_neg (fun h => by cases h.1)]
  exact ⟨rfl, rfl, rfl⟩
 ·rcases lit_cases b v with ⟨b1, b2, -⟩ | ⟨b1, b2, b3, -⟩ | ⟨b1, b2, -, -, -, b3⟩
  ·right; right
   rw [b1, b2, b2, if_neg (fun h => by cases h.2)]
   simp
  ·left
   obtain ⟨t1, t2⟩ := a3 true
   obtain ⟨u1, u2⟩ := b3 false
   rw [if_pos ⟨a1, b1⟩]
   unfold firstL
   rw [a2, b2, t2, u2]
   simp [t1, u1]
  ·obtain ⟨t1, t2⟩ := a3 true
   obtain ⟨u1, u2⟩ := a3 false
   rw [if_pos ⟨a1, b1⟩]
   unfold firstL
   rw [a2, b2, t2, u2, b3, b3, turn_one b2, turn_one b2]
   cases lowP (ltOf b v).1.p v <;> simp [t1, u1]
 ·rcases lit_cases b v with ⟨b1, b2, -⟩ | ⟨b1, b2, b3, -⟩ | ⟨b1, b2, -, -, -, b3⟩
  ·right; right
   rw [b1, b2, b2, if_neg (fun h => by cases h.2)]
   simp
  ·obtain ⟨t1, t2⟩ := b3 true
   obtain ⟨u1, u2⟩ := b3 false
   rw [if_pos ⟨a1, b1⟩]
   unfold firstL
   rw [a2, b2, t2, u2, a3, a3, turn_one a2, turn_one a2]
   cases lowP (ltOf a v).1.p v <;> simp [t1, u1]
  ·rw [if_pos ⟨a1, b1⟩]
   unfold firstL
   rw [a2, b2, a3, a3, b3, b3, turn_one a2, turn_one a2, turn_one b2, turn_one b2]
   cases lowP (ltOf a v).1.p v <;> cases lowP (ltOf b v).1.p v <;> simp
theorem two_eq (a b : Lt) (v : Int) : twoL a b v = twoR a b v := by
 unfold twoL twoR
 rcases sides_eq a b v with ⟨h1, h2, h3, h4, h5, h6, h7⟩ | ⟨h1, h2, h3, h4, h5, h6, h7, h8⟩ | ⟨h1, h2, h3⟩
 ·have e : pairR a b v = (true, true) := by unfold pairR; rw [if_pos h1]
  rw [e, if_pos h2, if_pos rfl, if_pos rfl, h4, h5, h6, h7, Bool.or_comm]
 ·have e : pairR a b v = (false, true) := by unfold pairR; rw [if_neg (by rw [h1]; simp), h2]
  rw [e, if_pos h3, if_pos rfl, if_neg (by simp), h5, h6, h7, h8, Bool.or_comm]
 ·have e : pairR a b v = (false, false) := by unfold pairR; rw [if_neg (by rw [h1]; simp), h2]
  rw [e, if_neg (by rw [h3]; simp), if_neg (by simp)]
theorem ite_iff {α : Type} {p q : Prop} [Decidable p] [Decidable q] (h : p ↔ q) (x y : α) : ite p x y = ite q x y := by
 by_cases hq : q
 ·rw [if_pos hq, if_pos (h.2 hq)]
 ·rw [if_neg hq, if_neg (fun e => hq (h.1 e))]
theorem three_eq (a b c : Lt) (v : Int) : threeL a b c v = threeR a b c v := by
 have hc : (c.a.k = 3 ∧ c.a.ok = true ∧ hasC c.a.p v = true) ↔ (c.a.ok = true ∧ c.a.k = 3 ∧ ¬ (coefPo c.a.p v).n = []) := by
  constructor
  ·rintro ⟨h1, h2, h3⟩
   refine ⟨h2, h1, ?_⟩
   obtain ⟨N, hN, hp⟩ := po_of (ok_of_at h2 (by rw [h1]; rfl))
   rw [hp] at h3 ⊢
   rw [hasC_n hN] at h3
   simpa using h3
  ·rintro ⟨h2, h1, h3⟩
   refine ⟨h1, h2, ?_⟩
   obtain ⟨N, hN, hp⟩ := po_of (ok_of_at h2 (by rw [h1]; rfl))
   rw [hp] at h3 ⊢
   rw [hasC_n hN]
   simpa using h3
 have hL : threeL a b c v = if (sidesL a b v).2.2.2 = true ∧ (sidesL a b v).2.2.1 = true ∧ c.n = true ∧ c.a.ok = true ∧ c.a.k = 3 ∧ ¬ (coefPo c.a.p v).n = [] then threeC a b c (sidesL a b v).1.p (sidesL a b v).2.1.p v else ([], 1) :=
  ite_iff (and_congr Iff.rfl (and_congr Iff.rfl (and_congr Iff.rfl hc))) _ _
 rw [hL]
 unfold threeR
 rcases sides_eq a b v with ⟨h1, h2, h3, h4, h5, h6, h7⟩ | ⟨h1, h2, h3, h4, h5, h6, h7, h8⟩ | ⟨h1, h2, h3⟩
 ·rw [Bool.and_eq_true] at h1
  rw [h2, h3, h4, h6, h1.1, h1.2]
 ·rw [h4, if_neg (fun h => by cases h.2.1), if_neg]
  rintro ⟨e1, e2, -⟩
  rw [e1, e2] at h1
  cases h1
 ·rw [h3, if_neg (fun h => by cases h.1), if_neg]
  rintro ⟨e1, e2, -⟩
  rw [e1, e2] at h1
  cases h1
structure Bnd (x : Lt) (s : Sd) (v : Int) (low : Bool) (P : Qo) : Prop where
 is : P.Is 64
 eq : s.p = ofP P
 ne : coefQ v P.ps ≠ 0
 lo : decide (coefQ v P.ps < 0) = low
 so : ∀ lk : Int → Fr, (holdsAt lk x.a).2 = 0 → ((holdsAt lk x.a).1 != x.n) = true → valQ (fq lk) P ≤ 0 ∧ (s.s = true → valQ (fq lk) P < 0)
end Go.Proofs.YtcfklmjgofknjaaGreat

/-
 law23: the lemma of three is true; what FmTrue asks.
-/
namespace Go.Proofs.YtcfklmjgofknjaaGreat
open Go Go.Abs Go.Limbs
set_option maxRecDepth 20000
end Go.Proofs.YtcfklmjgofknjaaGreat
