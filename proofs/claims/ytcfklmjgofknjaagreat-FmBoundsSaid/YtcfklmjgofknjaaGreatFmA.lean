/-
  What fm and the reference do with bounds, on sums of fractions: both are one, and the lemmas are true: the plain law. No conditions beyond the lemmas' own hypotheses.
-/
import Derived.Test.YtcfklmjgofknjaaGreatAtomE
set_option linter.unusedSimpArgs false
set_option linter.unnecessarySimpa false
set_option linter.unusedVariables false
set_option linter.constructorNameAsVariable false

/-
 law23: what sums, multiples, solutions and atoms are, wherever they come out at all; sums at values.
-/
namespace Go.Proofs.YtcfklmjgofknjaaGreat
open Go Go.Abs Go.Limbs
set_option maxRecDepth 20000
theorem scaleF_zero {k : Rat} (hk : Sm 64 k) : ∀ {ps : QP}, SmP 64 ps → ∀ {r}, scaleF (ofQ k) (ps.map ofA) = some r → r = (mulQ k ps).map ofA ∧ SmP 64 (mulQ k ps)
 | [], _, r, h => by
  rw [List.map_nil, scaleF] at h
  cases h
  exact ⟨rfl, fun x hx => by cases hx⟩
 | x :: l, hs, r, h => by
  have hm : mulF (ofA x).c (ofQ k) = heldQ (x.1 * k) := mulF_num (hs x (by simp)) hk
  rw [List.map_cons, scaleF, hm] at h
  split at h
  ·rename_i h0
   obtain ⟨e1, e2⟩ := heldQ_zero h0
   rw [Option.map_eq_some_iff] at h
   obtain ⟨s, hs', rfl⟩ := h
   obtain ⟨i1, i2⟩ := scaleF_zero hk (fun y hy => hs y (by simp [hy])) hs'
   subst i1
   rw [e1]
   refine ⟨rfl, fun y hy => ?_⟩
   rcases List.mem_cons.1 hy with rfl | hy
   ·exact e2
   ·exact i2 y hy
  ·cases h
theorem scale_zero {P : Qo} {k : Rat} (hP : P.Is 64) (hk : Sm 64 k) (h : (scalePo (ofP P) (ofQ k)).2 = 0) : scalePo (ofP P) (ofQ k) = (ofP (scaleQ P k), 0) ∧ (scaleQ P k).Is 64 := by
 unfold scalePo at h ⊢
 rw [ok_ofP hP, ok_ofQ hk] at h ⊢
 have hm : mulF (ofP P).c (ofQ k) = heldQ (P.c * k) := mulF_num hP.sc hk
 rw [hm] at h ⊢
 simp only [Bool.and_self, if_true] at h ⊢
 split at h
 case isFalse => cases h
 rename_i h0
 obtain ⟨e1, e2⟩ := heldQ_zero h0
 rw [e1] at h ⊢
 rw [if_pos rfl]
 by_cases hz : k = 0
 ·rw [if_pos (ofQ_n.2 hz)]
  have e : scaleQ P k = ⟨[], P.c * k⟩ := by unfold scaleQ; rw [if_pos hz]
  rw [e]
  exact ⟨rfl, trivial, fun x hx => (by cases hx), e2⟩
 ·have hz' : ¬ (ofQ k).n = [] := fun e => hz (ofQ_n.1 e)
  rw [if_neg hz'] at h ⊢
  have e : scaleQ P k = ⟨mulQ k P.ps, P.c * k⟩ := by unfold scaleQ; rw [if_neg hz]
  rw [e]
  cases hs : scaleF (ofQ k) (ofP P).ps with
  | none => rw [hs] at h; cases h
  | some r =>
   obtain ⟨i1, i2⟩ := scaleF_zero hk hP.sp hs
   subst i1
   exact ⟨rfl, okQ_mul hz hP.ok, i2, e2⟩
theorem mergeF_zero : ∀ {l r : QP}, SmP 64 l → SmP 64 r → ∀ {m}, mergeF (l.map ofA) (r.map ofA) = some m → m = (mergeQ l r).map ofA ∧ SmP 64 (mergeQ l r)
 | [], r, _, hr, m, h => by
  rw [List.map_nil, merge_nil] at h
  cases h
  rw [mergeQ_nil]
  exact ⟨rfl, hr⟩
 | x :: l, [], hl, _, m, h => by
  rw [List.map_nil, List.map_cons, merge_nil2] at h
  cases h
  rw [mergeQ_nil2]
  exact ⟨rfl, hl⟩
 | x :: l, y :: r, hl, hr, m, h => by
  have l1 := hl x (by simp)
  have r1 := hr y (by simp)
  have l2 : SmP 64 l := fun z hz => hl z (by simp [hz])
  have r2 : SmP 64 r := fun z hz => hr z (by simp [hz])
  have cons : ∀ {z : Rat × Int} {t : QP}, Sm 64 z.1 → SmP 64 t → SmP 64 (z :: t) := fun hz ht w hw => by
   rcases List.mem_cons.1 hw with rfl | hw
   ·exact hz
   ·exact ht w hw
  by_cases h1 : x.2 < y.2
  ·rw [List.map_cons, List.map_cons, merge_lt h1, ← List.map_cons, Option.map_eq_some_iff] at h
   obtain ⟨s, hs, rfl⟩ := h
   obtain ⟨i1, i2⟩ := mergeF_zero l2 hr hs
   subst i1
   rw [mergeQ_lt h1]
   exact ⟨rfl, cons l1 i2⟩
  ·by_cases h2 : y.2 < x.2
   ·rw [List.map_cons, List.map_cons, merge_gt h2, ← List.map_cons, Option.map_eq_some_iff] at h
    obtain ⟨s, hs, rfl⟩ := h
    obtain ⟨i1, i2⟩ := mergeF_zero hl r2 hs
    subst i1
    rw [mergeQ_gt h2]
    exact ⟨rfl, cons r1 i2⟩
   ·have he : x.2 = y.2 := by omega
    have ha : addF (ofA x).c (ofA y).c = heldQ (x.1 + y.1) := addF_num l1 r1
    rw [List.map_cons, List.map_cons, merge_eq he, ha] at h
    split at h
    ·rename_i h0
     obtain ⟨e1, e2⟩ := heldQ_zero h0
     rw [e1, Option.map_eq_some_iff] at h
     obtain ⟨s, hs, rfl⟩ := h
     obtain ⟨i1, i2⟩ := mergeF_zero l2 r2 hs
     subst i1
     rw [mergeQ_eq he]
     by_cases h3 : x.1 + y.1 = 0
     ·rw [if_pos h3, if_pos (ofQ_n.2 h3)]
      exact ⟨rfl, i2⟩
     ·rw [if_neg h3, if_neg (fun e => h3 (ofQ_n.1 e))]
      exact ⟨rfl, cons e2 i2⟩
    ·cases h
termination_by l r => l.length + r.length
theorem add_zero {P Q : Qo} (hP : P.Is 64) (hQ : Q.Is 64) (h : (addPo (ofP P) (ofP Q)).2 = 0) : addPo (ofP P) (ofP Q) = (ofP (addQ P Q), 0) ∧ (addQ P Q).Is 64 := by
 unfold addPo at h ⊢
 rw [ok_ofP hP, ok_ofP hQ] at h ⊢
 have ha : addF (ofP P).c (ofP Q).c = heldQ (P.c + Q.c) := addF_num hP.sc hQ.sc
 rw [ha] at h ⊢
 simp only [Bool.and_self, if_true] at h ⊢
 split at h
 case isFalse => cases h
 rename_i h0
 obtain ⟨e1, e2⟩ := heldQ_zero h0
 rw [e1] at h ⊢
 rw [if_pos rfl]
 cases hs : mergeF (ofP P).ps (ofP Q).ps with
 | none => rw [hs] at h; cases h
 | some r =>
  obtain ⟨i1, i2⟩ := mergeF_zero hP.sp hQ.sp hs
  subst i1
  exact ⟨rfl, okQ_merge hP.ok hQ.ok, i2, e2⟩
theorem make_zero {k : Int} {P : Qo} (hP : P.Is 64) (hk : isSum (k3 k) = true) (h : (makeAt k (ofP P)).2.2 = 0) : makeAt k (ofP P) = (atQ (k3 k) (normQ (k3 k) P), decide (k = 4), 0) ∧ (normQ (k3 k) P).Is 64 := by
 obtain ⟨ps, d⟩ := P
 unfold makeAt at h ⊢
 rw [hk, ok_ofP hP] at h ⊢
 cases ps with
 | nil =>
  simp only [Bool.and_self, if_true, ofP, List.map_nil, normQ, atQ]
  rw [signF_num hP.sc, sgn_of]
  exact ⟨rfl, trivial, fun x hx => (by cases hx), Sm_mono (Sm_sgn _) (by decide)⟩
 | cons x r =>
  have h0 : x.1 ≠ 0 := hP.ok.2.1
  have hs : Sm 64 x.1 := hP.sp x (by simp)
  have hz := Sm_sz (k := k3 k) hs
  have hz0 := szQ_ne (k := k3 k) h0
  rw [size_of hs, quoF_num (Sm_mono sm1 (by decide)) hz hz0] at h ⊢
  have eps : (ofP ⟨x :: r, d⟩).ps = ofA x :: r.map ofA := rfl
  simp only [eps, Bool.and_self, if_true] at h ⊢
  split at h
  case isFalse => contradiction
  rename_i hq
  obtain ⟨e1, e2⟩ := heldQ_zero hq
  rw [e1] at h ⊢
  rw [if_pos rfl]
  dsimp only at h ⊢
  split at h
  case isFalse => contradiction
  rename_i hc
  obtain ⟨f1, f2⟩ := scale_zero hP e2 hc
  rw [f1, if_pos rfl]
  exact ⟨rfl, f2⟩
def solveQ (P : Qo) (t : Int) : Qo := scaleQ (withoutQ P t) (-1 / coefQ t P.ps)
theorem solve_zero {P : Qo} {t : Int} (hP : P.Is 64) (hc : coefQ t P.ps ≠ 0) (h : (solvePo (ofP P) t).2 = 0) : solvePo (ofP P) t = (ofP (solveQ P t), 0) ∧ (solveQ P t).Is 64 := by
 unfold solvePo at h ⊢
 have hf : findF t (ofP P).ps = some (ofQ (coefQ t P.ps)) := by
  rcases find_of t P.ps with ⟨_, e⟩ | e
  ·exact absurd e hc
  ·exact e
 rw [hf] at h ⊢
 dsimp only at h ⊢
 rw [ok_ofP hP, if_pos rfl, quoF_num Sm_m1 (coef_sm t hP.sp) hc] at h ⊢
 split at h
 case isFalse => cases h
 rename_i hq
 obtain ⟨e1, e2⟩ := heldQ_zero hq
 rw [e1, without_of] at h ⊢
 rw [if_pos rfl]
 exact scale_zero (without_is hP t) e2 h
theorem sum_merge (f : Int → Rat) : ∀ (l r : QP) (s u : Rat), sumQ f (mergeQ l r) (s + u) = sumQ f l s + sumQ f r u
 | [], r, s, u => by
  rw [mergeQ_nil]
  show _ = s + sumQ f r u
  rw [Rat.add_comm s u, sumQ_add, Rat.add_comm]
 | x :: l, [], s, u => by
  rw [mergeQ_nil2, sumQ_add]
  rfl
 | x :: l, y :: r, s, u => by
  by_cases h1 : x.2 < y.2
  ·rw [mergeQ_lt h1]
   show sumQ f (mergeQ l (y :: r)) (s + u + x.1 * f x.2) = sumQ f l (s + x.1 * f x.2) + _
   rw [show s + u + x.1 * f x.2 = (s + x.1 * f x.2) + u by grind]
   exact sum_merge f l (y :: r) _ _
  ·by_cases h2 : y.2 < x.2
   ·rw [mergeQ_gt h2]
    show sumQ f (mergeQ (x :: l) r) (s + u + y.1 * f y.2) = _ + sumQ f r (u + y.1 * f y.2)
    rw [show s + u + y.1 * f y.2 = s + (u + y.1 * f y.2) by grind]
    exact sum_merge f (x :: l) r _ _
   ·have he : x.2 = y.2 := by omega
    rw [mergeQ_eq he]
    show _ = sumQ f l (s + x.1 * f x.2) + sumQ f r (u + y.1 * f y.2)
    rw [← sum_merge f l r]
    split
    ·rename_i h0
     rw [show s + x.1 * f x.2 + (u + y.1 * f y.2) = s + u + (x.1 + y.1) * f x.2 by rw [he]; grind, h0, Rat.zero_mul, Rat.add_zero]
    ·show sumQ f (mergeQ l r) (s + u + (x.1 + y.1) * f x.2) = _
     rw [show s + x.1 * f x.2 + (u + y.1 * f y.2) = s + u + (x.1 + y.1) * f x.2 by rw [he]; grind]
termination_by l r => l.length + r.length
theorem val_add (f : Int → Rat) (P Q : Qo) : valQ f (addQ P Q) = valQ f P + valQ f Q := sum_merge f P.ps Q.ps P.c Q.c
theorem coef_mul (t : Int) (k : Rat) : ∀ ps : QP, coefQ t (mulQ k ps) = coefQ t ps * k
 | [] => by show (0 : Rat) = 0 * k; rw [Rat.zero_mul]
 | x :: r => by
  show (if x.2 = t then x.1 * k else coefQ t (mulQ k r)) = (if x.2 = t then x.1 else coefQ t r) * k
  rw [coef_mul t k r]
  split <;> rfl
theorem coef_scale (t : Int) (P : Qo) (k : Rat) : coefQ t (scaleQ P k).ps = coefQ t P.ps * k := by
 unfold scaleQ
 by_cases h : k = 0
 ·rw [if_pos h]; show (0 : Rat) = _; rw [h, Rat.mul_zero]
 ·rw [if_neg h]; exact coef_mul t k P.ps
theorem coef_big {t : Int} : ∀ {ps : QP} {a : Int}, okQ a ps → t ≤ a → coefQ t ps = 0
 | [], _, _, _ => rfl
 | x :: r, a, h, ht => by
  have h1 := h.1
  unfold coefQ
  rw [if_neg (by omega)]
  exact coef_big h.2.2 (by omega)
theorem coef_merge (t : Int) : ∀ {l r : QP} {a : Int}, okQ a l → okQ a r → coefQ t (mergeQ l r) = coefQ t l + coefQ t r
 | [], r, a, _, _ => by rw [mergeQ_nil]; exact (Rat.zero_add _).symm
 | x :: l, [], a, _, _ => by rw [mergeQ_nil2]; exact (Rat.add_zero _).symm
 | x :: l, y :: r, a, hl, hr => by
  have l1 := hl.1
  have r1 := hr.1
  by_cases h1 : x.2 < y.2
  ·rw [mergeQ_lt h1]
   have hr' : okQ x.2 (y :: r) := ⟨h1, hr.2⟩
   show (if x.2 = t then x.1 else coefQ t (mergeQ l (y :: r))) = (if x.2 = t then x.1 else coefQ t l) + _
   rw [coef_merge t hl.2.2 hr']
   split
   ·rename_i e
    rw [coef_big hr' (by omega), Rat.add_zero]
   ·rfl
  ·by_cases h2 : y.2 < x.2
   ·rw [mergeQ_gt h2]
    have hl' : okQ y.2 (x :: l) := ⟨h2, hl.2⟩
    show (if y.2 = t then y.1 else coefQ t (mergeQ (x :: l) r)) = _ + (if y.2 = t then y.1 else coefQ t r)
    rw [coef_merge t hl' hr.2.2]
    split
    ·rename_i e
     rw [coef_big hl' (by omega), Rat.zero_add]
    ·rfl
   ·have he : x.2 = y.2 := by omega
    rw [mergeQ_eq he]
    have hr2 : okQ x.2 r := he ▸ hr.2.2
    show _ = (if x.2 = t then x.1 else coefQ t l) + (if y.2 = t then y.1 else coefQ t r)
    rw [← he]
    have ih := coef_merge t hl.2.2 hr2
    by_cases e : x.2 = t
    ·rw [if_pos e, if_pos e]
     split
     ·rename_i h0
      rw [ih, h0, coef_big hl.2.2 (by omega), coef_big hr2 (by omega), Rat.add_zero]
     ·show (if x.2 = t then x.1 + y.1 else _) = _
      rw [if_pos e]
    ·rw [if_neg e, if_neg e, ← ih]
     split
     ·rfl
     ·show (if x.2 = t then x.1 + y.1 else coefQ t (mergeQ l r)) = _
      rw [if_neg e]
termination_by l r => l.length + r.length
theorem coef_add (t : Int) {P Q : Qo} {j k : Nat} (hP : P.Is j) (hQ : Q.Is k) : coefQ t (addQ P Q).ps = coefQ t P.ps + coefQ t Q.ps := coef_merge t hP.ok hQ.ok
theorem coef_drop {t : Int} : ∀ {ps : QP} {a : Int}, okQ a ps → coefQ t (dropQ t ps) = 0
 | [], _, _ => rfl
 | x :: r, a, h => by
  unfold dropQ
  split
  ·rename_i e
   exact coef_big h.2.2 (by omega)
  ·rename_i e
   show (if x.2 = t then x.1 else coefQ t (dropQ t r)) = 0
   rw [if_neg e, coef_drop h.2.2]
theorem coef_norm (t : Int) (k : Int) {P : Qo} {m : Nat} (h : P.Is m) (h0 : coefQ t P.ps = 0) : coefQ t (normQ k P).ps = 0 := by
 unfold normQ
 split
 ·rfl
 ·rw [coef_scale, h0, Rat.zero_mul]
end Go.Proofs.YtcfklmjgofknjaaGreat

/-
 law23: literals as bounds: both texts' ways are one.
-/
namespace Go.Proofs.YtcfklmjgofknjaaGreat
open Go Go.Abs Go.Limbs
set_option maxRecDepth 20000
structure Lt where
 a : At
 n : Bool
def Lt.enc (x : Lt) : PVal := .agg [.int .i64 x.a.k, .lst (x.a.p.ps.map Pa.enc), .bool x.a.p.c.s, .lst (x.a.p.c.n.map u64), .lst (x.a.p.c.d.map u64), .int .i64 x.a.a, .int .i64 x.a.b, .bool x.n]
structure Sd where
 p : Po
 s : Bool
 e : Bool
def zSd : Sd := ⟨zPo, false, false⟩
def hasC (p : Po) (v : Int) : Bool := !decide (signF (coefPo p v) = 0)
def ltOf (x : Lt) (v : Int) : Sd × Bool :=
 if x.a.ok = true then
  (if x.a.k = 3 ∧ x.n = false then (⟨x.a.p, false, true⟩, hasC x.a.p v)
  else if x.a.k = 1 ∨ x.a.k = 2 then
   (if x.n = true then (if (notAt x.a).2 = true then (⟨(notAt x.a).1.p, decide ((notAt x.a).1.k = 2), false⟩, hasC (notAt x.a).1.p v) else (zSd, false))
   else (⟨x.a.p, decide (x.a.k = 2), false⟩, hasC x.a.p v))
  else (zSd, false))
 else (zSd, false)
def lowP (p : Po) (v : Int) : Bool := decide (signF (coefPo p v) < 0)
def boundL (x : Lt) (v : Int) : Bool × Bool × Nat :=
 if (ltOf x v).2 = true ∧ (ltOf x v).1.e = false then (lowP (ltOf x v).1.p v, (ltOf x v).1.s, 0) else (false, false, 1)
def turnL (s : Sd) (v : Int) (low : Bool) : Sd × Bool :=
 if lowP s.p v = low then (s, true)
 else if s.e = true then (⟨(scalePo s.p (ofQ (-1))).1, s.s, s.e⟩, decide ((scalePo s.p (ofQ (-1))).2 = 0)) else (s, false)
def firstL (x y : Sd) (v : Int) : Bool := (x.e && y.e) || ((!x.e && lowP x.p v) || (x.e && (!y.e && !lowP y.p v)))
def sidesL (a b : Lt) (v : Int) : Sd × Sd × Bool × Bool :=
 if (ltOf a v).2 = true ∧ (ltOf b v).2 = true then
  (if firstL (ltOf a v).1 (ltOf b v).1 v = true then ((turnL (ltOf a v).1 v true).1, (turnL (ltOf b v).1 v false).1, true, (turnL (ltOf a v).1 v true).2 && (turnL (ltOf b v).1 v false).2)
  else ((turnL (ltOf b v).1 v true).1, (turnL (ltOf a v).1 v false).1, false, (turnL (ltOf b v).1 v true).2 && (turnL (ltOf a v).1 v false).2))
 else (zSd, zSd, false, false)
theorem held_neg {q : Rat} (h : Sm 64 q) : heldQ (q * -1) = (ofQ (q * -1), 0) := heldQ_ok (by rw [show q * -1 = -q by grind]; exact Sm_neg h)
theorem scaleF_m1 : ∀ {ps : QP}, SmP 64 ps → scaleF (ofQ (-1)) (ps.map ofA) = some ((mulQ (-1) ps).map ofA) ∧ SmP 64 (mulQ (-1) ps)
 | [], _ => ⟨rfl, fun x hx => (by cases hx)⟩
 | x :: r, h => by
  have hx := h x (by simp)
  obtain ⟨i1, i2⟩ := scaleF_m1 (ps := r) fun y hy => h y (by simp [hy])
  have hm : mulF (ofA x).c (ofQ (-1)) = (ofQ (x.1 * -1), 0) := by
   show mulF (ofQ x.1) (ofQ (-1)) = _
   rw [mulF_num hx Sm_m1, held_neg hx]
  constructor
  ·rw [List.map_cons, scaleF, hm, if_pos rfl, i1]
   rfl
  ·intro y hy
   rcases List.mem_cons.1 hy with rfl | hy
   ·show Sm 64 (x.1 * -1)
    rw [show x.1 * -1 = -x.1 by grind]
    exact Sm_neg hx
   ·exact i2 y hy
theorem scale_m1 {P : Qo} (hP : P.Is 64) : scalePo (ofP P) (ofQ (-1)) = (ofP (scaleQ P (-1)), 0) ∧ (scaleQ P (-1)).Is 64 := by
 have e : (scalePo (ofP P) (ofQ (-1))).2 = 0 := by
  unfold scalePo
  have hm : mulF (ofP P).c (ofQ (-1)) = (ofQ (P.c * -1), 0) := by
   show mulF (ofQ P.c) (ofQ (-1)) = _
   rw [mulF_num hP.sc Sm_m1, held_neg hP.sc]
  rw [ok_ofP hP, ok_ofQ Sm_m1, hm]
  simp only [Bool.and_self, if_true]
  split
  ·rfl
  ·rw [show (ofP P).ps = P.ps.map ofA from rfl, (scaleF_m1 hP.sp).1]; rfl
 exact scale_zero hP Sm_m1 e
theorem coef_view {P : Qo} (hP : P.Is 64) (v : Int) : hasC (ofP P) v = !decide (coefQ v P.ps = 0) ∧ lowP (ofP P) v = decide (coefQ v P.ps < 0) ∧ ((coefPo (ofP P) v).n = [] ↔ coefQ v P.ps = 0) ∧ (coefPo (ofP P) v).s = decide (coefQ v P.ps < 0) := by
 have hs := coef_sm v hP.sp
 unfold hasC lowP
 rw [coef_of hP, signF_num hs]
 refine ⟨by rw [decide_eq_decide.2 cmpQ_zero_iff], decide_eq_decide.2 cmpQ_neg_iff, ofQ_n, ?_⟩
 refine decide_eq_decide.2 ?_
 rw [← cmpQ_neg_iff, cmpQ_sgn]
 unfold sgnZ
 split
 ·omega
 ·split <;> omega
structure View (x : Lt) (s : Sd) (P : Qo) : Prop where
 is : P.Is 64
 eq : s.p = ofP P
 so : ∀ lk : Int → Fr, (holdsAt lk x.a).2 = 0 → ((holdsAt lk x.a).1 != x.n) = soF (if s.e = true then 3 else if s.s = true then 2 else 1) (cmpQ (valQ (fq lk) P) 0)
theorem holds_val {lk : Int → Fr} {x : At} {N : Qo} (ho : x.ok = true) (hk : isSum x.k = true) (hp : x.p = ofP N) (hN : N.Is 64) (h : (holdsAt lk x).2 = 0) : (holdsAt lk x).1 = soF x.k (cmpQ (valQ (fq lk) N) 0) := by
 unfold holdsAt at h ⊢
 rw [ho, hk, hp] at h ⊢
 simp only [Bool.and_self, if_true] at h ⊢
 obtain ⟨e1, e2, -⟩ := value_q hN h
 rw [e1, signF_num e2]
 simp
theorem not_view {x : At} (ho : x.ok = true) (hk : x.k = 1 ∨ x.k = 2) (h : (notAt x).2 = true) : ∃ N : Qo, N.Is 64 ∧ x.p = ofP N ∧ notAt x = (atQ (3 - x.k) (normQ (3 - x.k) (scaleQ N (-1))), true) ∧ (normQ (3 - x.k) (scaleQ N (-1))).Is 64 ∧ (scaleQ N (-1)).Is 64 := by
 have hs : isSum x.k = true := by rcases hk with e | e <;> rw [e] <;> rfl
 obtain ⟨N, hN, hp⟩ := po_of (ok_of_at ho hs)
 refine ⟨N, hN, hp, ?_⟩
 obtain ⟨s1, s2⟩ := scale_m1 hN
 have hc : (decide (x.k = 1) || decide (x.k = 2)) = true := by simpa using hk
 have e3 : k3 (3 - x.k) = 3 - x.k := by unfold k3; rw [if_neg (by omega)]
 have hs3 : isSum (k3 (3 - x.k)) = true := by rw [e3]; rcases hk with e | e <;> rw [e] <;> rfl
 unfold notAt at h ⊢
 rw [ho, hc, hp, s1] at h ⊢
 simp only [Bool.and_self, if_true] at h ⊢
 obtain ⟨m1, m2⟩ := make_zero s2 hs3 (of_decide_eq_true h)
 rw [m1, e3]
 rw [e3] at m2
 exact ⟨rfl, m2, s2⟩
theorem so_not {k : Int} {a b : Rat} (hk : k = 1 ∨ k = 2) (h : SameSg (3 - k) b (a * -1)) : (soF k (cmpQ a 0) != true) = soF (3 - k) (cmpQ b 0) := by
 obtain ⟨h1, h2⟩ := h
 have h2 := h2 (by omega)
 have e1 : a * -1 = 0 ↔ a = 0 := by grind
 have e2 : a * -1 < 0 ↔ 0 < a := by grind
 rw [e1] at h1
 rw [e2] at h2
 rcases rat_tri a 0 with h | h | h
 ·have hb : 0 < b := by
   rcases rat_tri b 0 with g | g | g
   ·exact absurd (h2.1 g) (lt_asymm h)
   ·exact absurd (h1.1 g) (fun e => by rw [e] at h; exact lt_irr _ h)
   ·exact g
  rw [cmpQ_lt h, cmpQ_gt hb]
  rcases hk with rfl | rfl <;> rfl
 ·rw [h1.2 h, h, cmpQ_eq]
  rcases hk with rfl | rfl <;> rfl
 ·rw [cmpQ_gt h, cmpQ_lt (h2.2 h)]
  rcases hk with rfl | rfl <;> rfl
theorem of_view {x : Lt} {v : Int} (h : (ltOf x v).2 = true) : ∃ P : Qo, View x (ltOf x v).1 P ∧ coefQ v P.ps ≠ 0 := by
 unfold ltOf at h ⊢
 split at h
 case isFalse => cases h
 rename_i ho
 rw [if_pos ho]
 split at h
 ·rename_i h1
  rw [if_pos h1]
  have hs : isSum x.a.k = true := by rw [h1.1]; rfl
  obtain ⟨N, hN, hp⟩ := po_of (ok_of_at ho hs)
  refine ⟨N, ⟨hN, hp, fun lk hl => ?_⟩, ?_⟩
  ·rw [holds_val ho hs hp hN hl, h1.1, h1.2]
   simp
  ·rw [hp, (coef_view hN v).1] at h
   simpa using h
 ·rename_i h1
  rw [if_neg h1]
  split at h
  case isFalse => cases h
  rename_i h2
  rw [if_pos h2]
  have hs : isSum x.a.k = true := by rcases h2 with e | e <;> rw [e] <;> rfl
  split at h
  ·rename_i h3
   rw [if_pos h3]
   split at h
   case isFalse => cases h
   rename_i h4
   rw [if_pos h4]
   obtain ⟨N, hN, hp, e, i1, i2⟩ := not_view ho h2 h4
   rw [e] at h ⊢
   refine ⟨_, ⟨i1, rfl, fun lk hl => ?_⟩, ?_⟩
   ·rw [holds_val ho hs hp hN hl, h3, so_not h2 (b := valQ (fq lk) (normQ (3 - x.a.k) (scaleQ N (-1)))) (by rw [← val_scale (fq lk) (by decide)]; exact norm_sign _ _ i2)]
    have : (atQ (3 - x.a.k) (normQ (3 - x.a.k) (scaleQ N (-1)))).k = 3 - x.a.k := rfl
    simp only [this]
    rcases h2 with e | e <;> rw [e] <;> rfl
   ·have := (coef_view i1 v).1
    rw [show (atQ (3 - x.a.k) (normQ (3 - x.a.k) (scaleQ N (-1)))).p = ofP (normQ (3 - x.a.k) (scaleQ N (-1))) from rfl, this] at h
    simpa using h
  ·rename_i h3
   rw [if_neg h3]
   obtain ⟨N, hN, hp⟩ := po_of (ok_of_at ho hs)
   refine ⟨N, ⟨hN, hp, fun lk hl => ?_⟩, ?_⟩
   ·rw [holds_val ho hs hp hN hl, Bool.eq_false_iff.2 h3]
    rcases h2 with e | e <;> rw [e] <;> simp
   ·rw [hp, (coef_view hN v).1] at h
    simpa using h
end Go.Proofs.YtcfklmjgofknjaaGreat

/-
 law23: the lemmas of two and of three bounds; both texts' are one, and each is true.
-/
namespace Go.Proofs.YtcfklmjgofknjaaGreat
open Go Go.Abs Go.Limbs
set_option maxRecDepth 20000
def opp (x : Lt) : Lt := ⟨x.a, !x.n⟩
def kdOf (st : Bool) : Int := if st = true then 2 else 1
def twoC (a b : Lt) (q p : Po) (kd : Int) (v : Int) : List Lt × Nat :=
 if (scalePo p (negF (coefPo q v))).2 = 0 then
  (if (scalePo q (coefPo p v)).2 = 0 then
   (if (addPo (scalePo p (negF (coefPo q v))).1 (scalePo q (coefPo p v)).1).2 = 0 then
    (if (makeAt kd (addPo (scalePo p (negF (coefPo q v))).1 (scalePo q (coefPo p v)).1).1).2.2 = 0 then
     ([opp a, opp b, ⟨(makeAt kd (addPo (scalePo p (negF (coefPo q v))).1 (scalePo q (coefPo p v)).1).1).1, false⟩], 0)
    else ([], (makeAt kd (addPo (scalePo p (negF (coefPo q v))).1 (scalePo q (coefPo p v)).1).1).2.2))
   else ([], (addPo (scalePo p (negF (coefPo q v))).1 (scalePo q (coefPo p v)).1).2))
  else ([], (scalePo q (coefPo p v)).2))
 else ([], (scalePo p (negF (coefPo q v))).2)
def twoL (a b : Lt) (v : Int) : List Lt × Nat :=
 if (sidesL a b v).2.2.2 = true then twoC a b (sidesL a b v).1.p (sidesL a b v).2.1.p (kdOf ((sidesL a b v).1.s || (sidesL a b v).2.1.s)) v else ([], 1)
def lessC (p q : Po) : At × Nat :=
 if (scalePo q (ofQ (-1))).2 = 0 then
  (if (addPo p (scalePo q (ofQ (-1))).1).2 = 0 then ((makeAt 2 (addPo p (scalePo q (ofQ (-1))).1).1).1, (makeAt 2 (addPo p (scalePo q (ofQ (-1))).1).1).2.2)
  else (zAt, (addPo p (scalePo q (ofQ (-1))).1).2))
 else (zAt, (scalePo q (ofQ (-1))).2)
def threeC (a b c : Lt) (p q : Po) (v : Int) : List Lt × Nat :=
 if (solvePo p v).2 = 0 then
  (if (solvePo q v).2 = 0 then
   (if (solvePo c.a.p v).2 = 0 then
    (if (lessC (solvePo p v).1 (solvePo c.a.p v).1).2 = 0 then
     (if (lessC (solvePo c.a.p v).1 (solvePo q v).1).2 = 0 then
      ([opp a, opp b, opp c, ⟨(lessC (solvePo p v).1 (solvePo c.a.p v).1).1, false⟩, ⟨(lessC (solvePo c.a.p v).1 (solvePo q v).1).1, false⟩], 0)
     else ([], (lessC (solvePo c.a.p v).1 (solvePo q v).1).2))
    else ([], (lessC (solvePo p v).1 (solvePo c.a.p v).1).2))
   else ([], (solvePo c.a.p v).2))
  else ([], (solvePo q v).2))
 else ([], (solvePo p v).2)
def threeL (a b c : Lt) (v : Int) : List Lt × Nat :=
 if (sidesL a b v).2.2.2 = true ∧ (sidesL a b v).2.2.1 = true ∧ c.n = true ∧ c.a.k = 3 ∧ c.a.ok = true ∧ hasC c.a.p v = true then threeC a b c (sidesL a b v).1.p (sidesL a b v).2.1.p v else ([], 1)
theorem turn_one {s : Sd} (h : s.e = false) (v : Int) (low : Bool) : turnL s v low = (s, decide (lowP s.p v = low)) := by
 unfold turnL
 rw [h]
 by_cases e : lowP s.p v = low
 ·rw [if_pos e, decide_eq_true e]
 ·rw [if_neg e, decide_eq_false e]; rfl
structure Bnd (x : Lt) (s : Sd) (v : Int) (low : Bool) (P : Qo) : Prop where
 is : P.Is 64
 eq : s.p = ofP P
 ne : coefQ v P.ps ≠ 0
 lo : decide (coefQ v P.ps < 0) = low
 so : ∀ lk : Int → Fr, (holdsAt lk x.a).2 = 0 → ((holdsAt lk x.a).1 != x.n) = true → valQ (fq lk) P ≤ 0 ∧ (s.s = true → valQ (fq lk) P < 0)
theorem e_s {x : Lt} {v : Int} (h : (ltOf x v).1.e = true) : (ltOf x v).1.s = false := by
 unfold ltOf at h ⊢
 split
 ·rename_i h1
  rw [if_pos h1] at h
  split
  ·rfl
  ·rename_i h2
   rw [if_neg h2] at h
   split
   ·rename_i h3
    rw [if_pos h3] at h
    split
    ·rename_i h4
     rw [if_pos h4] at h
     split
     ·rename_i h5
      rw [if_pos h5] at h
      cases h
     ·rfl
    ·rename_i h4
     rw [if_neg h4] at h
     cases h
   ·rfl
 ·rfl
theorem turn_view {x : Lt} {v : Int} {low : Bool} (h : (ltOf x v).2 = true) (ht : (turnL (ltOf x v).1 v low).2 = true) : ∃ P, Bnd x (turnL (ltOf x v).1 v low).1 v low P := by
 obtain ⟨P, hV, h0⟩ := of_view h
 obtain ⟨i1, i2, i3⟩ := hV
 have hes := @e_s x v
 obtain ⟨s, hs⟩ : ∃ s, s = (ltOf x v).1 := ⟨_, rfl⟩
 rw [← hs] at ht i2 i3 hes ⊢
 unfold turnL at ht ⊢
 have hl : lowP s.p v = decide (coefQ v P.ps < 0) := by rw [i2]; exact (coef_view i1 v).2.1
 split at ht
 ·rename_i h1
  rw [if_pos h1]
  refine ⟨P, i1, i2, h0, by rw [← hl]; exact h1, fun lk g1 g2 => ?_⟩
  rw [i3 lk g1] at g2
  dsimp only
  cases he : s.e with
  | true =>
   rw [he] at g2
   rw [if_pos rfl] at g2
   have g3 : cmpQ (valQ (fq lk) P) 0 = 0 := by simpa [soF] using g2
   rw [cmpQ_zero_iff.1 g3]
   refine ⟨by decide, fun e => ?_⟩
   rw [hes he] at e
   cases e
  | false =>
   rw [he] at g2
   cases hst : s.s with
   | true =>
    rw [hst] at g2
    have g3 : cmpQ (valQ (fq lk) P) 0 < 0 := by simpa [soF] using g2
    have := cmpQ_neg_iff.1 g3
    exact ⟨Rat.le_of_lt this, fun _ => this⟩
   | false =>
    rw [hst] at g2
    have g3 : cmpQ (valQ (fq lk) P) 0 ≤ 0 := by simpa [soF] using g2
    refine ⟨?_, fun e => by cases e⟩
    have := cmpQ_pos_iff (p := valQ (fq lk) P) (q := 0)
    exact Rat.not_lt.1 fun e => by have := this.2 e; omega
 ·rename_i h1
  rw [if_neg h1]
  split at ht
  case isFalse => cases ht
  rename_i h2
  rw [if_pos h2]
  obtain ⟨m1, m2⟩ := scale_m1 i1
  rw [i2, m1]
  have hv : decide (coefQ v (scaleQ P (-1)).ps < 0) = low := by
   rw [coef_scale]
   rw [hl] at h1
   have e : coefQ v P.ps * -1 < 0 ↔ 0 < coefQ v P.ps := by grind
   rw [decide_eq_decide.2 e]
   rcases rat_tri (coefQ v P.ps) 0 with g | g | g
   ·rw [decide_eq_false (lt_asymm g)]
    rw [decide_eq_true g] at h1
    cases low
    ·rfl
    ·exact absurd rfl h1
   ·exact absurd g h0
   ·rw [decide_eq_true g]
    rw [decide_eq_false (lt_asymm g)] at h1
    cases low
    ·exact absurd rfl h1
    ·rfl
  refine ⟨scaleQ P (-1), m2, rfl, by rw [coef_scale]; grind, hv, fun lk g1 g2 => ?_⟩
  rw [i3 lk g1, h2, if_pos rfl] at g2
  have g3 : cmpQ (valQ (fq lk) P) 0 = 0 := by simpa [soF] using g2
  rw [val_scale (fq lk) (by decide), cmpQ_zero_iff.1 g3, Rat.zero_mul]
  refine ⟨by decide, fun e => ?_⟩
  rw [show (⟨ofP (scaleQ P (-1)), s.s, s.e⟩ : Sd).s = s.s from rfl, hes h2] at e
  cases e
theorem sides_view {a b : Lt} {v : Int} (h : (sidesL a b v).2.2.2 = true) : ∃ x y P Q, ((x = a ∧ y = b) ∨ (x = b ∧ y = a ∧ (sidesL a b v).2.2.1 = false)) ∧ Bnd x (sidesL a b v).1 v true P ∧ Bnd y (sidesL a b v).2.1 v false Q := by
 unfold sidesL at h ⊢
 split at h
 case isFalse => cases h
 rename_i h1
 rw [if_pos h1]
 split at h
 ·rename_i h2
  rw [if_pos h2]
  rw [Bool.and_eq_true] at h
  obtain ⟨P, hP⟩ := turn_view h1.1 h.1
  obtain ⟨Q, hQ⟩ := turn_view h1.2 h.2
  exact ⟨a, b, P, Q, .inl ⟨rfl, rfl⟩, hP, hQ⟩
 ·rename_i h2
  rw [if_neg h2]
  rw [Bool.and_eq_true] at h
  obtain ⟨P, hP⟩ := turn_view h1.2 h.1
  obtain ⟨Q, hQ⟩ := turn_view h1.1 h.2
  exact ⟨b, a, P, Q, .inr ⟨rfl, rfl, rfl⟩, hP, hQ⟩
theorem told_ok {lk : Int → Fr} {x : At} (h : (holdsAt lk x).2 = 0) : isSum x.k = true ∧ x.ok = true := by
 unfold holdsAt at h
 split at h
 ·rename_i h1
  simpa using h1
 ·cases h
theorem made_holds {lk : Int → Fr} {k : Int} {R : Qo} (hk : k = 1 ∨ k = 2) (hR : R.Is 64) (hN : (normQ k R).Is 64) (h : (holdsAt lk (atQ k (normQ k R))).2 = 0) : (holdsAt lk (atQ k (normQ k R))).1 = soF k (cmpQ (valQ (fq lk) R) 0) := by
 obtain ⟨o1, o2⟩ := told_ok h
 rw [holds_val o2 o1 rfl hN h]
 have hs := norm_sign (fq lk) k hR
 obtain ⟨s1, s2⟩ := hs
 have s2 := s2 (by omega)
 have e : cmpQ (valQ (fq lk) (normQ k R)) 0 = cmpQ (valQ (fq lk) R) 0 := by
  rcases rat_tri (valQ (fq lk) R) 0 with g | g | g
  ·rw [cmpQ_lt g, cmpQ_lt (s2.2 g)]
  ·rw [g, s1.2 g]
  ·rw [cmpQ_gt g]
   rcases rat_tri (valQ (fq lk) (normQ k R)) 0 with u | u | u
   ·exact absurd (s2.1 u) (lt_asymm g)
   ·exact absurd (s1.1 u) (fun e => by rw [e] at g; exact lt_irr _ g)
   ·exact cmpQ_gt u
 rw [e]
 rfl
theorem kd_is (st : Bool) : kdOf st = 1 ∨ kdOf st = 2 := by cases st <;> simp [kdOf]
theorem twoC_view {a b : Lt} {P Q : Qo} {kd : Int} {v : Int} (hk : kd = 1 ∨ kd = 2) (hP : P.Is 64) (hQ : Q.Is 64) (h : (twoC a b (ofP P) (ofP Q) kd v).2 = 0) :
  ∃ R : Qo, R = addQ (scaleQ Q (-coefQ v P.ps)) (scaleQ P (coefQ v Q.ps)) ∧ R.Is 64 ∧ (normQ kd R).Is 64 ∧ twoC a b (ofP P) (ofP Q) kd v = ([opp a, opp b, ⟨atQ kd (normQ kd R), false⟩], 0) := by
 have hc1 := coef_sm v hP.sp
 have hc2 := coef_sm v hQ.sp
 unfold twoC at h ⊢
 rw [coef_of hP, coef_of hQ, negF_num hc1] at h ⊢
 split at h
 case isFalse => contradiction
 rename_i h1
 obtain ⟨e1, f1⟩ := scale_zero hQ (Sm_neg hc1) h1
 rw [if_pos h1]
 rw [e1] at h ⊢
 split at h
 case isFalse => contradiction
 rename_i h2
 obtain ⟨e2, f2⟩ := scale_zero hP hc2 h2
 rw [if_pos h2]
 rw [e2] at h ⊢
 split at h
 case isFalse => contradiction
 rename_i h3
 obtain ⟨e3, f3⟩ := add_zero f1 f2 h3
 rw [if_pos h3]
 rw [e3] at h ⊢
 split at h
 case isFalse => contradiction
 rename_i h4
 have hk3 : k3 kd = kd := by rcases hk with rfl | rfl <;> rfl
 obtain ⟨e4, f4⟩ := make_zero f3 (by rw [hk3]; rcases hk with rfl | rfl <;> rfl) h4
 rw [if_pos h4]
 rw [e4, hk3]
 rw [hk3] at f4
 exact ⟨_, rfl, f3, f4, rfl⟩
theorem twoC_err {a b : Lt} {q p : Po} {kd : Int} {v : Int} (h : (twoC a b q p kd v).2 ≠ 0) : (twoC a b q p kd v).1 = [] := by
 unfold twoC at h ⊢
 split
 ·split
  ·split
   ·split
    ·rename_i h1 h2 h3 h4
     rw [if_pos h1, if_pos h2, if_pos h3, if_pos h4] at h
     exact absurd rfl h
    ·rfl
   ·rfl
  ·rfl
 ·rfl
theorem two_true {a b : Lt} {v : Int} (h : (twoL a b v).2 = 0) : ∃ m : Lt, (twoL a b v).1 = [opp a, opp b, m] ∧ ∀ lk : Int → Fr, (holdsAt lk a.a).2 = 0 → (holdsAt lk b.a).2 = 0 → (holdsAt lk m.a).2 = 0 → ((holdsAt lk a.a).1 != !a.n) = false → ((holdsAt lk b.a).1 != !b.n) = false → ((holdsAt lk m.a).1 != m.n) = true := by
 unfold twoL at h ⊢
 split at h
 case isFalse => cases h
 rename_i h1
 rw [if_pos h1]
 obtain ⟨x, y, P, Q, hxy, ⟨p1, p2, p3, p4, p5⟩, ⟨q1, q2, q3, q4, q5⟩⟩ := sides_view h1
 obtain ⟨st, hst⟩ : ∃ st, st = ((sidesL a b v).1.s || (sidesL a b v).2.1.s) := ⟨_, rfl⟩
 rw [← hst] at h ⊢
 rw [p2, q2] at h ⊢
 obtain ⟨R, hR, r1, r2, r3⟩ := twoC_view (kd_is st) p1 q1 h
 rw [r3]
 refine ⟨_, rfl, fun lk ta tb tm na nb => ?_⟩
 have hx : (holdsAt lk x.a).2 = 0 ∧ ((holdsAt lk x.a).1 != x.n) = true ∧ (holdsAt lk y.a).2 = 0 ∧ ((holdsAt lk y.a).1 != y.n) = true := by
  have ea : ((holdsAt lk a.a).1 != a.n) = true := by revert na; cases (holdsAt lk a.a).1 <;> cases a.n <;> decide
  have eb : ((holdsAt lk b.a).1 != b.n) = true := by revert nb; cases (holdsAt lk b.a).1 <;> cases b.n <;> decide
  rcases hxy with ⟨rfl, rfl⟩ | ⟨rfl, rfl, -⟩
  ·exact ⟨ta, ea, tb, eb⟩
  ·exact ⟨tb, eb, ta, ea⟩
 obtain ⟨u1, u2⟩ := p5 lk hx.1 hx.2.1
 obtain ⟨w1, w2⟩ := q5 lk hx.2.2.1 hx.2.2.2
 have c1 : coefQ v P.ps < 0 := of_decide_eq_true p4
 have c2 : 0 < coefQ v Q.ps := by
  have := of_decide_eq_false q4
  rcases rat_tri (coefQ v Q.ps) 0 with g | g | g
  ·exact absurd g this
  ·exact absurd g q3
  ·exact g
 have hv : valQ (fq lk) R = valQ (fq lk) Q * (-coefQ v P.ps) + valQ (fq lk) P * coefQ v Q.ps := by
  rw [hR, val_add, val_scale (fq lk) (by grind), val_scale (fq lk) q3]
 dsimp only at tm ⊢
 rw [made_holds (kd_is st) r1 r2 tm, hv]
 have g1 : 0 ≤ (-valQ (fq lk) Q) * (-coefQ v P.ps) := Rat.mul_nonneg (by grind) (by grind)
 have g2 : 0 ≤ (-valQ (fq lk) P) * coefQ v Q.ps := Rat.mul_nonneg (by grind) (by grind)
 cases hs : st with
 | false =>
  have : ¬ 0 < cmpQ (valQ (fq lk) Q * (-coefQ v P.ps) + valQ (fq lk) P * coefQ v Q.ps) 0 := fun e => by
   have := cmpQ_pos_iff.1 e
   grind
  simp [kdOf, soF]
  omega
 | true =>
  rw [hs] at hst
  have : cmpQ (valQ (fq lk) Q * (-coefQ v P.ps) + valQ (fq lk) P * coefQ v Q.ps) 0 < 0 := by
   refine cmpQ_neg_iff.2 ?_
   rcases Bool.or_eq_true_iff.1 hst.symm with e | e
   ·have g3 := Rat.mul_pos (show 0 < -valQ (fq lk) P by have := u2 e; grind) c2
    grind
   ·have g3 := Rat.mul_pos (show 0 < -valQ (fq lk) Q by have := w2 e; grind) (show 0 < -coefQ v P.ps by grind)
    grind
  simp [kdOf, soF, this]
end Go.Proofs.YtcfklmjgofknjaaGreat

/-
 law23: the lemma of three is true; what FmTrue asks.
-/
namespace Go.Proofs.YtcfklmjgofknjaaGreat
open Go Go.Abs Go.Limbs
set_option maxRecDepth 20000
theorem less_view {P Q : Qo} (hP : P.Is 64) (hQ : Q.Is 64) (h : (lessC (ofP P) (ofP Q)).2 = 0) :
  ∃ R : Qo, R = addQ P (scaleQ Q (-1)) ∧ R.Is 64 ∧ (normQ 2 R).Is 64 ∧ lessC (ofP P) (ofP Q) = (atQ 2 (normQ 2 R), 0) := by
 obtain ⟨m1, m2⟩ := scale_m1 hQ
 unfold lessC at h ⊢
 rw [m1, if_pos rfl] at h ⊢
 dsimp only at h ⊢
 split at h
 case isFalse => contradiction
 rename_i h2
 obtain ⟨e2, f2⟩ := add_zero hP m2 h2
 rw [if_pos h2]
 rw [e2] at h ⊢
 obtain ⟨e3, f3⟩ := make_zero f2 (by rfl) h
 rw [e3]
 exact ⟨_, rfl, f2, f3, rfl⟩
theorem threeC_err {a b c : Lt} {p q : Po} {v : Int} (h : (threeC a b c p q v).2 ≠ 0) : (threeC a b c p q v).1 = [] := by
 unfold threeC at h ⊢
 split
 ·rename_i h1
  rw [if_pos h1] at h
  split
  ·rename_i h2
   rw [if_pos h2] at h
   split
   ·rename_i h3
    rw [if_pos h3] at h
    split
    ·rename_i h4
     rw [if_pos h4] at h
     split
     ·rename_i h5
      rw [if_pos h5] at h
      exact absurd rfl h
     ·rfl
    ·rfl
   ·rfl
  ·rfl
 ·rfl
theorem threeC_view {a b c : Lt} {P Q W : Qo} {v : Int} (hP : P.Is 64) (hQ : Q.Is 64) (hW : W.Is 64) (cp : coefQ v P.ps ≠ 0) (cq : coefQ v Q.ps ≠ 0) (cw : coefQ v W.ps ≠ 0) (hc : c.a.p = ofP W) (h : (threeC a b c (ofP P) (ofP Q) v).2 = 0) :
  ∃ R S : Qo, R = addQ (solveQ P v) (scaleQ (solveQ W v) (-1)) ∧ S = addQ (solveQ W v) (scaleQ (solveQ Q v) (-1)) ∧ R.Is 64 ∧ (normQ 2 R).Is 64 ∧ S.Is 64 ∧ (normQ 2 S).Is 64 ∧
   threeC a b c (ofP P) (ofP Q) v = ([opp a, opp b, opp c, ⟨atQ 2 (normQ 2 R), false⟩, ⟨atQ 2 (normQ 2 S), false⟩], 0) := by
 unfold threeC at h ⊢
 rw [hc] at h ⊢
 split at h
 case isFalse => contradiction
 rename_i h1
 obtain ⟨e1, f1⟩ := solve_zero hP cp h1
 rw [if_pos h1]
 rw [e1] at h ⊢
 split at h
 case isFalse => contradiction
 rename_i h2
 obtain ⟨e2, f2⟩ := solve_zero hQ cq h2
 rw [if_pos h2]
 rw [e2] at h ⊢
 split at h
 case isFalse => contradiction
 rename_i h3
 obtain ⟨e3, f3⟩ := solve_zero hW cw h3
 rw [if_pos h3]
 rw [e3] at h ⊢
 split at h
 case isFalse => contradiction
 rename_i h4
 obtain ⟨R, hR, r1, r2, r3⟩ := less_view f1 f3 h4
 rw [if_pos h4]
 rw [r3] at h ⊢
 split at h
 case isFalse => contradiction
 rename_i h5
 obtain ⟨S, hS, s1, s2, s3⟩ := less_view f3 f2 h5
 rw [if_pos h5, s3]
 exact ⟨R, S, hR, hS, r1, r2, s1, s2, rfl⟩
theorem val_solve (f : Int → Rat) {P : Qo} {v : Int} {k : Nat} (hP : P.Is k) (hc : coefQ v P.ps ≠ 0) : valQ f P = coefQ v P.ps * (f v - valQ f (solveQ P v)) := by
 unfold solveQ
 have h0 : -1 / coefQ v P.ps ≠ 0 := by grind
 rw [val_scale f h0, val_split (f := f) (f' := f) (fun _ _ => rfl) hP (t := v)]
 grind
theorem val_opp (f : Int → Rat) (P : Qo) : valQ f (scaleQ P (-1)) = -valQ f P := by
 rw [val_scale f (by decide)]
 grind
theorem three_true {a b c : Lt} {v : Int} (h : (threeL a b c v).2 = 0) : ∃ x y : Lt, (threeL a b c v).1 = [opp a, opp b, opp c, x, y] ∧ ∀ lk : Int → Fr, (holdsAt lk a.a).2 = 0 → (holdsAt lk b.a).2 = 0 → (holdsAt lk c.a).2 = 0 → (holdsAt lk x.a).2 = 0 → (holdsAt lk y.a).2 = 0 →
  ((holdsAt lk a.a).1 != !a.n) = false → ((holdsAt lk b.a).1 != !b.n) = false → ((holdsAt lk c.a).1 != !c.n) = false → ((holdsAt lk x.a).1 != x.n) = false → ((holdsAt lk y.a).1 != y.n) = true := by
 unfold threeL at h ⊢
 split at h
 case isFalse => cases h
 rename_i h1
 rw [if_pos h1]
 obtain ⟨k1, k2, k3', k4, k5, k6⟩ := h1
 obtain ⟨x, y, P, Q, hxy, ⟨p1, p2, p3, p4, p5⟩, ⟨q1, q2, q3, q4, q5⟩⟩ := sides_view k1
 have hxy : x = a ∧ y = b := by
  rcases hxy with h | ⟨-, -, h⟩
  ·exact h
  ·rw [k2] at h; cases h
 obtain ⟨rfl, rfl⟩ := hxy
 have hs3 : isSum c.a.k = true := by rw [k4]; rfl
 obtain ⟨W, hW, hp⟩ := po_of (ok_of_at k5 hs3)
 have cw : coefQ v W.ps ≠ 0 := by
  rw [hp, (coef_view hW v).1] at k6
  simpa using k6
 rw [p2, q2] at h ⊢
 obtain ⟨R, S, hR, hS, r1, r2, s1, s2, e⟩ := threeC_view p1 q1 hW p3 q3 cw hp h
 rw [e]
 refine ⟨_, _, rfl, fun lk ta tb tc tx ty na nb nc nx => ?_⟩
 have ea : ((holdsAt lk x.a).1 != x.n) = true := by revert na; cases (holdsAt lk x.a).1 <;> cases x.n <;> decide
 have eb : ((holdsAt lk y.a).1 != y.n) = true := by revert nb; cases (holdsAt lk y.a).1 <;> cases y.n <;> decide
 obtain ⟨u1, -⟩ := p5 lk ta ea
 obtain ⟨w1, -⟩ := q5 lk tb eb
 dsimp only at tx ty nx ⊢
 rw [made_holds (.inr rfl) r1 r2 tx, hR, val_add, val_opp] at nx
 rw [made_holds (.inr rfl) s1 s2 ty, hS, val_add, val_opp]
 rw [holds_val k5 hs3 hp hW tc, k4, k3'] at nc
 have c1 : coefQ v P.ps < 0 := of_decide_eq_true p4
 have c2 : 0 < coefQ v Q.ps := by
  have := of_decide_eq_false q4
  rcases rat_tri (coefQ v Q.ps) 0 with g | g | g
  ·exact absurd g this
  ·exact absurd g q3
  ·exact g
 have nx' : ¬ valQ (fq lk) (solveQ P v) + -valQ (fq lk) (solveQ W v) < 0 := fun g => by
  have := cmpQ_neg_iff.2 g
  simp [soF, this] at nx
 have hne : valQ (fq lk) W ≠ 0 := fun g => by
  rw [g, cmpQ_eq] at nc
  simp [soF] at nc
 rw [val_solve (fq lk) p1 p3] at u1
 rw [val_solve (fq lk) q1 q3] at w1
 rw [val_solve (fq lk) hW cw] at hne
 obtain ⟨t, ht⟩ : ∃ t, t = fq lk v := ⟨_, rfl⟩
 obtain ⟨l, hl⟩ : ∃ l, l = valQ (fq lk) (solveQ P v) := ⟨_, rfl⟩
 obtain ⟨u, hu⟩ : ∃ u, u = valQ (fq lk) (solveQ Q v) := ⟨_, rfl⟩
 obtain ⟨w, hw⟩ : ∃ w, w = valQ (fq lk) (solveQ W v) := ⟨_, rfl⟩
 rw [← ht, ← hl] at u1
 rw [← ht, ← hu] at w1
 rw [← ht, ← hw] at hne
 rw [← hl, ← hw] at nx'
 rw [← hu, ← hw]
 -- l is at most t, t at most u
 have hlt : l ≤ t := by
  refine Rat.not_lt.1 fun g => ?_
  have := Rat.mul_pos (show 0 < -coefQ v P.ps by grind) (show 0 < l - t by grind)
  grind
 have hut : t ≤ u := by
  refine Rat.not_lt.1 fun g => ?_
  have := Rat.mul_pos c2 (show 0 < t - u by grind)
  grind
 have hwt : w ≠ t := fun g => by
  rw [g] at hne
  exact hne (by rw [Rat.sub_self, Rat.mul_zero])
 have : w + -u < 0 := by
  have : w ≤ l := by grind
  grind
 simp [soF, cmpQ_neg_iff.2 this]
def tru1 (lk : Int → Fr) (l : List Lt) : Bool := l.any fun x => ((holdsAt lk x.a).1 != x.n) || !decide ((holdsAt lk x.a).2 = 0)
theorem two_law (lk : Int → Fr) (a b : Lt) (v : Int) : ((twoL a b v).2 = 0 → tru1 lk (twoL a b v).1 = true ∧ (twoL a b v).1.length = 3) ∧ ((twoL a b v).2 ≠ 0 → (twoL a b v).1 = []) := by
 constructor
 ·intro h
  obtain ⟨m, e, hm⟩ := two_true h
  rw [e]
  refine ⟨?_, rfl⟩
  have hm := hm lk
  simp only [tru1, List.any_cons, List.any_nil, opp, Bool.or_false]
  by_cases h1 : (holdsAt lk a.a).2 = 0
  ·by_cases h2 : (holdsAt lk b.a).2 = 0
   ·by_cases h3 : (holdsAt lk m.a).2 = 0
    ·have hm := hm h1 h2 h3
     generalize ((holdsAt lk a.a).1 != !a.n) = A at hm ⊢
     generalize ((holdsAt lk b.a).1 != !b.n) = B at hm ⊢
     generalize ((holdsAt lk m.a).1 != m.n) = M at hm ⊢
     cases A <;> cases B <;> cases M <;> simp_all
    ·simp [h3]
   ·simp [h2]
  ·simp [h1]
 ·intro h
  unfold twoL at h ⊢
  split
  ·rename_i h1
   rw [if_pos h1] at h
   exact twoC_err h
  ·rfl
theorem three_law (lk : Int → Fr) (a b c : Lt) (v : Int) : ((threeL a b c v).2 = 0 → tru1 lk (threeL a b c v).1 = true ∧ (threeL a b c v).1.length = 5) ∧ ((threeL a b c v).2 ≠ 0 → (threeL a b c v).1 = []) := by
 constructor
 ·intro h
  obtain ⟨x, y, e, hm⟩ := three_true h
  rw [e]
  refine ⟨?_, rfl⟩
  have hm := hm lk
  simp only [tru1, List.any_cons, List.any_nil, opp, Bool.or_false]
  by_cases h1 : (holdsAt lk a.a).2 = 0
  ·by_cases h2 : (holdsAt lk b.a).2 = 0
   ·by_cases h3 : (holdsAt lk c.a).2 = 0
    ·by_cases h4 : (holdsAt lk x.a).2 = 0
     ·by_cases h5 : (holdsAt lk y.a).2 = 0
      ·have hm := hm h1 h2 h3 h4 h5
       generalize ((holdsAt lk a.a).1 != !a.n) = A at hm ⊢
       generalize ((holdsAt lk b.a).1 != !b.n) = B at hm ⊢
       generalize ((holdsAt lk c.a).1 != !c.n) = C at hm ⊢
       generalize ((holdsAt lk x.a).1 != x.n) = M at hm ⊢
       generalize ((holdsAt lk y.a).1 != y.n) = N at hm ⊢
       cases A <;> cases B <;> cases C <;> cases M <;> cases N <;> simp_all
      ·simp [h5]
     ·simp [h4]
    ·simp [h3]
   ·simp [h2]
  ·simp [h1]
 ·intro h
  unfold threeL at h ⊢
  split
  ·rename_i h1
   rw [if_pos h1] at h
   exact threeC_err h
  ·rfl
end Go.Proofs.YtcfklmjgofknjaaGreat
