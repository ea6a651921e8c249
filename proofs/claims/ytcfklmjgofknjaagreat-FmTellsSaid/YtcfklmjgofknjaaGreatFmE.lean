/-
  What the reference's functions of bounds compute, for sums of at most a thousand parts.
-/
import Derived.Test.YtcfklmjgofknjaaGreatFmD
set_option linter.unusedSimpArgs false
set_option linter.unnecessarySimpa false
set_option linter.unusedVariables false
set_option linter.constructorNameAsVariable false

/-
 What the reference's sum, Bound, side, pair and opposite compute.
-/
namespace Go.Proofs.YtcfklmjgofknjaaGreat
open Go Go.Abs Go.Limbs
variable {base : Prot}
set_option maxRecDepth 20000
attribute [local irreducible] vc
attribute [local simp] pureS touchV freezeL fuel shiftV u64 au
theorem keepX {l m : Heap} {n j : Nat} {e : Ent} (h : (l.take n).set j e = (m.take n).set j e) (k : Nat) (hk : k < n) (hj : ¬ k = j) : l[k]? = m[k]? := by
 have h1 : ((l.take n).set j e)[k]? = ((m.take n).set j e)[k]? := by rw [h]
 rw [List.getElem?_set_ne (by omega), List.getElem?_set_ne (by omega)] at h1
 rwa [List.getElem?_take, List.getElem?_take, if_pos hk, if_pos hk] at h1
def TrsM : Tab := (Tab.none.with 20 (pureS (h1 okAt))).with 82 (pureS (h1s notP))
theorem TrsM_ok : TabOk Tryz.prog base TrsM := Tab.with_ok (Tab.with_ok Tab.none_ok rvatom_ok) rnot_ok
theorem TrsM_mu (f : FuncId) (a : List AVal) (H : Heap) : TrsM.mu f a H = none := (rfl)
theorem TrsM_fns : TrsM.fn 20 = (pureS (h1 okAt)) ∧ TrsM.fn 82 = (pureS (h1s notP)) := ⟨rfl, rfl⟩
set_option maxHeartbeats 4000000 in
theorem rsum_ok : FnOk Tryz.prog base 41 (pureS (j1 sumPL)) := by
 refine pure_of_vc hmix TrsM_ok globNone low41 fun args z hs hf => ?_
 obtain ⟨⟨a, n⟩, wx, fx, rfl, rfl⟩ := j1_some hs
 have wx : a.p.wf := wx
 have fx : a.p.lit 1000 = true := fx
 refine ⟨by simp [lf41], ?_⟩
 have v1 : h1 okAt [a.enc] = some (.bool a.ok) := h1_at wx
 have v2 : h1s notP [a.enc] = some (.tup [(notAt a).1.enc, .bool (notAt a).2]) := h1s_at wx (lit_few fx (by decide))
 unfold sumPL triPo sumL
 dsimp only
 have ekn : ∀ m : Int, ((notAt a).1.k == m) = decide ((notAt a).1.k = m) := fun m => rfl
 generalize notAt a = N at v2 ekn ⊢
 obtain ⟨N, y⟩ := N
 obtain ⟨k, p, aa, ab⟩ := a
 generalize At.ok ⟨k, p, aa, ab⟩ = o at v1 ⊢
 dsimp only at v1 v2 ekn ⊢
 simp only [At.enc, Po.enc, Fr.enc, Lt.enc, zPo, zF, List.map_nil] at v1 v2 ⊢
 cases o with
 | false => simp [lf41, v1, fillS, TrsM_mu, TrsM_fns]
 | true =>
  by_cases k12 : k = 1 ∨ k = 2
  case neg =>
   have k1' : ¬ k = 1 := fun h => k12 (.inl h)
   have k2' : ¬ k = 2 := fun h => k12 (.inr h)
   have n1 : ((k : Int) != 1) = true := by simp; omega
   have n2 : ((k : Int) != 2) = true := by simp; omega
   simp [lf41, v1, n1, n2, k1', k2', fillS, TrsM_mu, TrsM_fns]
  cases n with
  | false =>
   rcases k12 with e | e <;> subst e
   all_goals
    simp [lf41, v1, TrsM_mu, TrsM_fns]
    rw [vc_regionW]
    refine ⟨[1], ?_⟩
    simp [fillS, TrsM_mu, TrsM_fns]
    exact keepX (e := default) rfl
  | true =>
   rcases k12 with e | e <;> subst e
   all_goals
    simp [lf41, v1, v2, TrsM_mu, TrsM_fns]
    rw [vc_regionW]
    refine ⟨[1], ?_⟩
    simp [ekn, fillS, TrsM_mu, TrsM_fns]
    exact keepX (e := default) rfl
def TrbM : Tab := (Tab.none.with 41 (pureS (j1 sumPL))).with 29 (pureS (gi coefP))
theorem TrbM_ok : TabOk Tryz.prog base TrbM := Tab.with_ok (Tab.with_ok Tab.none_ok rsum_ok) rcoef_ok
theorem TrbM_mu (f : FuncId) (a : List AVal) (H : Heap) : TrbM.mu f a H = none := (rfl)
theorem TrbM_fns : TrbM.fn 41 = (pureS (j1 sumPL)) ∧ TrbM.fn 29 = (pureS (gi coefP)) := ⟨rfl, rfl⟩
theorem rbound_ok : FnOk Tryz.prog base 14 (pureS (j1v fun x v => tripB (boundR x v))) := by
 refine pure_of_vc hmix TrbM_ok globNone low14 fun args z hs hf => ?_
 obtain ⟨x, v, wx, fx, rfl, rfl⟩ := j1v_some hs
 refine ⟨by simp [lf14], ?_⟩
 have v1 : j1 sumPL [x.enc] = some (.tup [(sumL x).1.enc, .bool (sumL x).2.1, .bool (sumL x).2.2]) := j1_at wx fx
 have wS := wf_sumL wx
 unfold tripB boundR
 generalize sumL x = S at v1 wS ⊢
 obtain ⟨p, s, ok⟩ := S
 dsimp only at v1 wS ⊢
 have v2 : gi coefP [p.enc, .int .i64 v] = some (coefPo p v).enc := gi_at wS
 generalize coefPo p v = c at v2 ⊢
 obtain ⟨cs, cn, cd⟩ := c
 simp only [Lt.enc, Po.enc, Fr.enc] at v1 v2 ⊢
 cases ok with
 | false => simp [lf14, v1, v2, TrbM_mu, TrbM_fns]
 | true =>
  cases cn with
  | nil => simp [lf14, v1, v2, TrbM_mu, TrbM_fns]
  | cons y r =>
   have hb : (((r.length : Int) + 1) == 0) = false := by rw [← Bool.not_eq_true, beq_iff_eq]; omega
   simp [lf14, v1, v2, hb, TrbM_mu, TrbM_fns]
def TrdM : Tab := ((((Tab.none.with 20 (pureS (h1 okAt))).with 29 (pureS (gi coefP))).with 31 (pureS sQOf)).with 52 (pureS (gks scaleP))).with 41 (pureS (j1 sumPL))
theorem TrdM_ok : TabOk Tryz.prog base TrdM := Tab.with_ok (Tab.with_ok (Tab.with_ok (Tab.with_ok (Tab.with_ok Tab.none_ok rvatom_ok) rcoef_ok) rofR_ok) rscale_ok) rsum_ok
theorem TrdM_mu (f : FuncId) (a : List AVal) (H : Heap) : TrdM.mu f a H = none := (rfl)
theorem TrdM_fns : TrdM.fn 20 = (pureS (h1 okAt)) ∧ TrdM.fn 29 = (pureS (gi coefP)) ∧ TrdM.fn 31 = (pureS sQOf) ∧ TrdM.fn 52 = (pureS (gks scaleP)) ∧ TrdM.fn 41 = (pureS (j1 sumPL)) := ⟨rfl, rfl, rfl, rfl, rfl⟩
set_option maxHeartbeats 4000000 in
theorem rside_ok : FnOk Tryz.prog base 50 (pureS (j1b sidePR)) := by
 refine pure_of_vc hmix TrdM_ok globNone low50 fun args z hs hf => ?_
 obtain ⟨⟨a, n⟩, v, low, wx, fx, rfl, rfl⟩ := j1b_some hs
 have wa : a.p.wf := wx
 have fa : a.p.lit 1000 = true := fx
 refine ⟨by simp [lf50], ?_⟩
 have v1 : h1 okAt [a.enc] = some (.bool a.ok) := h1_at wa
 have v2 : gi coefP [a.p.enc, .int .i64 v] = some (coefPo a.p v).enc := gi_at wa
 have om1 := ofR (n := -1) (d := 1) (by decide)
 rw [m1_eq] at om1
 have v3 : gks scaleP [a.p.enc, (ofQ (-1)).enc] = some (pairPo (scalePo a.p (ofQ (-1)))) := gks_at wa (wf_ofQ _) (lit_few fa (by decide))
 have v4 : j1 sumPL [(Lt.mk a n).enc] = some (.tup [(sumL ⟨a, n⟩).1.enc, .bool (sumL ⟨a, n⟩).2.1, .bool (sumL ⟨a, n⟩).2.2]) := j1_at wx fx
 have wS : (sumL ⟨a, n⟩).1.wf := wf_sumL wx
 unfold sidePR triPo sideR
 generalize sumL ⟨a, n⟩ = S at v4 wS ⊢
 obtain ⟨q, s, ok⟩ := S
 dsimp only at v4 wS ⊢
 have v5 : gi coefP [q.enc, .int .i64 v] = some (coefPo q v).enc := gi_at wS
 generalize coefPo q v = c5 at v5 ⊢
 generalize coefPo a.p v = c2 at v2 ⊢
 generalize scalePo a.p (ofQ (-1)) = M at v3 ⊢
 generalize ofQ (-1) = m1 at om1 v3
 obtain ⟨M, e⟩ := M
 obtain ⟨k, p, aa, ab⟩ := a
 generalize At.ok ⟨k, p, aa, ab⟩ = o at v1 ⊢
 obtain ⟨cs, cn, cd⟩ := c2
 obtain ⟨ds, dn, dd⟩ := c5
 unfold pairPo at v3
 dsimp only at v1 v2 v3 v4 ⊢
 have em : ((e : Int) == 0) = decide (e = 0) := by rw [Bool.eq_iff_iff]; simp
 simp only [At.enc, Po.enc, Fr.enc, Lt.enc, zPo, zF, List.map_nil] at om1 v1 v2 v3 v4 v5 ⊢
 by_cases hg : o = true ∧ k = 3 ∧ n = false
 ·rw [if_pos hg]
  obtain ⟨rfl, rfl, rfl⟩ := hg
  cases cn with
  | nil => simp [lf50, v1, v2, fillS, TrdM_mu, TrdM_fns]
  | cons x r =>
   have hb : (((r.length : Int) + 1) == 0) = false := by rw [← Bool.not_eq_true, beq_iff_eq]; omega
   by_cases hl : cs = low
   ·subst hl
    cases cs <;> simp [lf50, v1, v2, hb, fillS, TrdM_mu, TrdM_fns]
   ·have hl' : (cs == low) = false := by cases cs <;> cases low <;> simp_all
    cases cs <;> cases low <;> simp at hl hl'
    all_goals
     simp [lf50, v1, v2, hb, fillS, TrdM_mu, TrdM_fns]
     rw [vc_regionW]
     refine ⟨[], ?_⟩
     simp [om1, v3, em, fillS, TrdM_mu, TrdM_fns]
     all_goals exact keepT rfl
 ·rw [if_neg hg]
  have hgo : ∀ r : Prop, r → r := fun _ h => h
  by_cases hk : o = true ∧ k = 3
  ·obtain ⟨rfl, rfl⟩ := hk
   have : n = true := by cases n; exact absurd ⟨rfl, rfl, rfl⟩ hg; rfl
   subst this
   cases ok <;> cases dn <;> cases ds <;> cases low
   all_goals
    simp [lf50, v1, v4, v5, TrdM_mu, TrdM_fns]
    rw [vc_regionW]
    refine ⟨[1], ?_⟩
    simp [fillS, TrdM_mu, TrdM_fns]
    exact keepX (e := default) rfl
  ·have kb : o = true → ((k : Int) == 3) = false := fun ho => by
    have : ¬ k = 3 := fun h => hk ⟨ho, h⟩
    simp [this]
   cases o with
   | false =>
    clear kb hk hg hgo
    cases ok <;> cases dn <;> cases ds <;> cases low
    all_goals
     simp [lf50, v1, v4, v5, TrdM_mu, TrdM_fns]
     rw [vc_regionW]
     refine ⟨[1], ?_⟩
     simp [fillS, TrdM_mu, TrdM_fns]
     exact keepX (e := default) rfl
   | true =>
    have kb := kb rfl
    clear hk hg hgo
    cases ok <;> cases dn <;> cases ds <;> cases low
    all_goals
     simp [lf50, v1, v4, v5, kb, TrdM_mu, TrdM_fns]
     rw [vc_regionW]
     refine ⟨[1], ?_⟩
     simp [fillS, TrdM_mu, TrdM_fns]
     exact keepX (e := default) rfl
def TrpM : Tab := Tab.none.with 50 (pureS (j1b sidePR))
theorem TrpM_ok : TabOk Tryz.prog base TrpM := Tab.with_ok Tab.none_ok rside_ok
theorem TrpM_mu (f : FuncId) (a : List AVal) (H : Heap) : TrpM.mu f a H = none := (rfl)
theorem TrpM_fns : TrpM.fn 50 = (pureS (j1b sidePR)) := (rfl)
theorem rpair_ok : FnOk Tryz.prog base 49 (pureS (j2v pairPR)) := by
 refine pure_of_vc hmix TrpM_ok globNone low49 fun args z hs hf => ?_
 obtain ⟨a, b, v, wa, fa, wb, fb, rfl, rfl⟩ := j2v_some hs
 refine ⟨by simp [lf49], ?_⟩
 have v1 : j1b sidePR [a.enc, .int .i64 v, .bool true] = some (triPo (sideR a v true)) := j1b_at wa fa
 have v2 : j1b sidePR [b.enc, .int .i64 v, .bool false] = some (triPo (sideR b v false)) := j1b_at wb fb
 have v3 : j1b sidePR [a.enc, .int .i64 v, .bool false] = some (triPo (sideR a v false)) := j1b_at wa fa
 have v4 : j1b sidePR [b.enc, .int .i64 v, .bool true] = some (triPo (sideR b v true)) := j1b_at wb fb
 unfold pairPR pairR
 generalize sideR a v true = A at v1 ⊢
 generalize sideR b v false = B at v2 ⊢
 generalize sideR a v false = C at v3 ⊢
 generalize sideR b v true = D at v4 ⊢
 obtain ⟨p1, s1, o1⟩ := A
 obtain ⟨p2, s2, o2⟩ := B
 obtain ⟨p3, s3, o3⟩ := C
 obtain ⟨p4, s4, o4⟩ := D
 unfold triPo at v1 v2 v3 v4
 simp only [Lt.enc, Po.enc, Fr.enc] at v1 v2 v3 v4 ⊢
 cases o1 <;> cases o2 <;> cases o3 <;> simp [lf49, v1, v2, v3, v4, TrpM_mu, TrpM_fns]
theorem ropp_ok : FnOk Tryz.prog base 54 (pureS (j1 oppP)) := by
 refine pure_of_vc hmix Tab.none_ok globNone low54 fun args z hs hf => ?_
 obtain ⟨⟨a, n⟩, wx, fx, rfl, rfl⟩ := j1_some hs
 refine ⟨by simp [lf54], ?_⟩
 unfold oppP opp
 simp only [Lt.enc]
 cases n <;> simp [lf54]
end Go.Proofs.YtcfklmjgofknjaaGreat

/-
 What the reference's less, Two and Three compute.
-/
namespace Go.Proofs.YtcfklmjgofknjaaGreat
open Go Go.Abs Go.Limbs
variable {base : Prot}
set_option maxRecDepth 20000
attribute [local irreducible] vc
attribute [local simp] pureS touchV freezeL fuel shiftV u64 au
def TrlM : Tab := (((Tab.none.with 31 (pureS sQOf)).with 52 (pureS (gks scaleP))).with 53 (pureS (g2s addPP))).with 32 (pureS (ki makeP))
theorem TrlM_ok : TabOk Tryz.prog base TrlM := Tab.with_ok (Tab.with_ok (Tab.with_ok (Tab.with_ok Tab.none_ok rofR_ok) rscale_ok) raddP_ok) rmake_ok
theorem TrlM_mu (f : FuncId) (a : List AVal) (H : Heap) : TrlM.mu f a H = none := (rfl)
theorem TrlM_fns : TrlM.fn 31 = (pureS sQOf) ∧ TrlM.fn 52 = (pureS (gks scaleP)) ∧ TrlM.fn 53 = (pureS (g2s addPP)) ∧ TrlM.fn 32 = (pureS (ki makeP)) := ⟨rfl, rfl, rfl, rfl⟩
set_option maxHeartbeats 4000000 in
theorem rless_ok : FnOk Tryz.prog base 60 (pureS (g2l lessP)) := by
 refine pure_of_vc hmix TrlM_ok globNone low60 fun args z hs hf => ?_
 obtain ⟨p, q, wp, fp, wq, fq, rfl, rfl⟩ := g2l_some hs
 refine ⟨by simp [lf60], ?_⟩
 have om1 := ofR (n := -1) (d := 1) (by decide)
 rw [m1_eq] at om1
 have v1 : gks scaleP [q.enc, (ofQ (-1)).enc] = some (pairPo (scalePo q (ofQ (-1)))) := gks_at wq (wf_ofQ _) (lit_few fq (by decide))
 have wS := wf_scalePo q (ofQ (-1))
 have fS := lit_scale (k := ofQ (-1)) fq
 unfold lessP lessC
 generalize scalePo q (ofQ (-1)) = S at v1 wS fS ⊢
 generalize ofQ (-1) = m1 at om1 v1
 have v2 : g2s addPP [p.enc, S.1.enc] = some (pairPo (addPo p S.1)) := g2s_at wp wS (lit_few fp (by decide)) (lit_few fS (by decide))
 have wA := wf_addPo wp wS
 have fA := lit_add fp fS
 generalize addPo p S.1 = A at v2 wA fA ⊢
 have v3 : ki makeP [.int .i64 2, A.1.enc] = some (tripAt (makeAt 2 A.1)) := ki_at wA (lit_few fA (by decide))
 generalize makeAt 2 A.1 = M at v3 ⊢
 unfold pairPo at v1 v2
 unfold tripAt at v3
 obtain ⟨S, e1⟩ := S
 obtain ⟨A, e2⟩ := A
 obtain ⟨M, Mt, e3⟩ := M
 dsimp only at v1 v2 v3 ⊢
 simp only [At.enc, Lt.enc, Po.enc, Fr.enc, zAt, zPo, zF, List.map_nil] at om1 v1 v2 v3 ⊢
 simp [lf60, fillS, TrlM_mu, TrlM_fns]
 rw [vc_regionW]
 refine ⟨[], ?_⟩
 by_cases h1 : e1 = 0
 case neg =>
  have eb : ((e1 : Int) != 0) = true := by simp; omega
  have ec : ((e1 : Int) == 0) = false := by simp; omega
  simp [om1, v1, eb, ec, h1, fillS, TrlM_mu, TrlM_fns]
  all_goals exact keepT rfl
 subst h1
 by_cases h2 : e2 = 0
 case neg =>
  have eb : ((e2 : Int) != 0) = true := by simp; omega
  simp [om1, v1, v2, eb, h2, fillS, TrlM_mu, TrlM_fns]
  all_goals exact keepT rfl
 subst h2
 simp [om1, v1, v2, v3, fillS, TrlM_mu, TrlM_fns]
 all_goals exact keepT rfl
def TrtM : Tab := (((((((Tab.none.with 49 (pureS (j2v pairPR))).with 50 (pureS (j1b sidePR))).with 29 (pureS (gi coefP))).with 51 (pureS (f1 negP))).with 52 (pureS (gks scaleP))).with 53 (pureS (g2s addPP))).with 32 (pureS (ki makeP))).with 54 (pureS (j1 oppP))
theorem TrtM_ok : TabOk Tryz.prog base TrtM := Tab.with_ok (Tab.with_ok (Tab.with_ok (Tab.with_ok (Tab.with_ok (Tab.with_ok (Tab.with_ok (Tab.with_ok Tab.none_ok rpair_ok) rside_ok) rcoef_ok) rNeg_ok) rscale_ok) raddP_ok) rmake_ok) ropp_ok
theorem TrtM_mu (f : FuncId) (a : List AVal) (H : Heap) : TrtM.mu f a H = none := (rfl)
theorem TrtM_fns : TrtM.fn 49 = (pureS (j2v pairPR)) ∧ TrtM.fn 50 = (pureS (j1b sidePR)) ∧ TrtM.fn 29 = (pureS (gi coefP)) ∧ TrtM.fn 51 = (pureS (f1 negP)) ∧ TrtM.fn 52 = (pureS (gks scaleP)) ∧ TrtM.fn 53 = (pureS (g2s addPP)) ∧ TrtM.fn 32 = (pureS (ki makeP)) ∧ TrtM.fn 54 = (pureS (j1 oppP)) := ⟨rfl, rfl, rfl, rfl, rfl, rfl, rfl, rfl⟩
set_option maxHeartbeats 4000000 in
theorem rtwo_ok : FnOk Tryz.prog base 16 (pureS (j2v fun a b v => pairLs (twoR a b v))) := by
 refine pure_of_vc hmix TrtM_ok globNone low16 fun args z hs hf => ?_
 obtain ⟨a, b, v, wa, fa, wb, fb, rfl, rfl⟩ := j2v_some hs
 refine ⟨by simp [lf16], ?_⟩
 have v1 : j2v pairPR [a.enc, b.enc, .int .i64 v] = some (.tup [.bool (pairR a b v).1, .bool (pairR a b v).2]) := j2v_at wa fa wb fb
 have u1 : j1b sidePR [a.enc, .int .i64 v, .bool true] = some (triPo (sideR a v true)) := j1b_at wa fa
 have u2 : j1b sidePR [b.enc, .int .i64 v, .bool false] = some (triPo (sideR b v false)) := j1b_at wb fb
 have u3 : j1b sidePR [a.enc, .int .i64 v, .bool false] = some (triPo (sideR a v false)) := j1b_at wa fa
 have u4 : j1b sidePR [b.enc, .int .i64 v, .bool true] = some (triPo (sideR b v true)) := j1b_at wb fb
 have o1 : j1 oppP [a.enc] = some (opp a).enc := j1_at wa fa
 have o2 : j1 oppP [b.enc] = some (opp b).enc := j1_at wb fb
 unfold pairLs twoR
 -- what comes of a lower and an upper bound
 have key : ∀ (Q P : Po × Bool × Bool), Q.1.wf → P.1.wf → Q.1.lit 1000 = true → P.1.lit 1000 = true →
   (gi coefP [Q.1.enc, .int .i64 v] = some (coefPo Q.1 v).enc ∧ f1 negP [(coefPo Q.1 v).enc] = some (negF (coefPo Q.1 v)).enc ∧ gi coefP [P.1.enc, .int .i64 v] = some (coefPo P.1 v).enc ∧
   gks scaleP [P.1.enc, (negF (coefPo Q.1 v)).enc] = some (pairPo (scalePo P.1 (negF (coefPo Q.1 v)))) ∧ gks scaleP [Q.1.enc, (coefPo P.1 v).enc] = some (pairPo (scalePo Q.1 (coefPo P.1 v))) ∧
   g2s addPP [(scalePo P.1 (negF (coefPo Q.1 v))).1.enc, (scalePo Q.1 (coefPo P.1 v)).1.enc] = some (pairPo (addPo (scalePo P.1 (negF (coefPo Q.1 v))).1 (scalePo Q.1 (coefPo P.1 v)).1)) ∧
   ∀ kd : Int, ki makeP [.int .i64 kd, (addPo (scalePo P.1 (negF (coefPo Q.1 v))).1 (scalePo Q.1 (coefPo P.1 v)).1).1.enc] = some (tripAt (makeAt kd (addPo (scalePo P.1 (negF (coefPo Q.1 v))).1 (scalePo Q.1 (coefPo P.1 v)).1).1))) := by
  intro Q P wq wp fq fp
  have wA := wf_scalePo P.1 (negF (coefPo Q.1 v))
  have wB := wf_scalePo Q.1 (coefPo P.1 v)
  have fA := lit_scale (k := negF (coefPo Q.1 v)) fp
  have fB := lit_scale (k := coefPo P.1 v) fq
  have wC := wf_addPo wA wB
  have fC := lit_add fA fB
  exact ⟨gi_at wq, f1_at (wf_coefPo wq v), gi_at wp, gks_at wp (wf_negF _) (lit_few fp (by decide)), gks_at wq (wf_coefPo wp v) (lit_few fq (by decide)), g2s_at wA wB (lit_few fA (by decide)) (lit_few fB (by decide)), fun kd => ki_at wC (lit_few fC (by decide))⟩
 have key1 := key (sideR a v true) (sideR b v false) (wf_sideR wa v true) (wf_sideR wb v false) (lit_sideR fa v true) (lit_sideR fb v false)
 have key2 := key (sideR b v true) (sideR a v false) (wf_sideR wb v true) (wf_sideR wa v false) (lit_sideR fb v true) (lit_sideR fa v false)
 clear key
 generalize pairR a b v = PR at v1 ⊢
 obtain ⟨first, ok⟩ := PR
 generalize sideR a v true = A1 at u1 key1 ⊢
 generalize sideR b v false = B1 at u2 key1 ⊢
 generalize sideR b v true = A2 at u4 key2 ⊢
 generalize sideR a v false = B2 at u3 key2 ⊢
 cases ok with
 | false =>
  simp only [Lt.enc] at v1 ⊢
  simp [lf16, v1, TrtM_mu, TrtM_fns]
 | true =>
 cases first with
 | true =>
  obtain ⟨c1, c2, c3, c4, c5, c6, c7⟩ := key1
  obtain ⟨q, qs, qo⟩ := A1
  obtain ⟨p, ps, po⟩ := B1
  unfold triPo at u1 u2
  dsimp only at u1 u2 c1 c2 c3 c4 c5 c6 c7 ⊢
  unfold twoC
  generalize opp a = a' at o1 ⊢
  generalize opp b = b' at o2 ⊢
  generalize coefPo q v = d1 at c1 c2 c4 c6 c7 ⊢
  generalize coefPo p v = d2 at c3 c5 c6 c7 ⊢
  generalize negF d1 = d3 at c2 c4 c6 c7 ⊢
  generalize scalePo p d3 = A at c4 c6 c7 ⊢
  generalize scalePo q d2 = B at c5 c6 c7 ⊢
  generalize addPo A.1 B.1 = C at c6 c7 ⊢
  have c8 := c7 (kdOf (ps || qs))
  clear c7
  have kds : (ps = true ∧ kdOf (ps || qs) = 2) ∨ (ps = false ∧ qs = true ∧ kdOf (ps || qs) = 2) ∨ (ps = false ∧ qs = false ∧ kdOf (ps || qs) = 1) := by
   cases ps <;> cases qs <;> simp [kdOf]
  generalize kdOf (ps || qs) = kd at c8 kds ⊢
  generalize makeAt kd C.1 = M at c8 ⊢
  obtain ⟨A, e1⟩ := A
  obtain ⟨B, e2⟩ := B
  obtain ⟨C, e3⟩ := C
  obtain ⟨M, mt, e4⟩ := M
  unfold pairPo at c4 c5 c6
  unfold tripAt at c8
  dsimp only at c4 c5 c6 c8 ⊢
  simp only [At.enc, Lt.enc, Po.enc, Fr.enc] at v1 u1 u2 o1 o2 c1 c2 c3 c4 c5 c6 c8 ⊢
  simp [lf16, v1, u1, u2, TrtM_mu, TrtM_fns]
  rw [vc_regionN]
  refine ⟨[], ?_⟩
  simp [u1, u2, TrtM_mu, TrtM_fns]
  refine ⟨keepT rfl, ?_⟩
  rw [vc_regionW]
  refine ⟨[2], ?_⟩
  simp [u1, u2, TrtM_mu, TrtM_fns]
  refine ⟨keepX (e := default) rfl, ?_⟩
  rw [vc_regionN]
  refine ⟨[], ?_⟩
  by_cases h1 : e1 = 0
  case neg =>
   have eb : ((e1 : Int) != 0) = true := by simp; omega
   have ec : ((e1 : Int) == 0) = false := by simp; omega
   simp [c1, c2, c3, c4, eb, ec, h1, TrtM_mu, TrtM_fns]
  subst h1
  by_cases h2 : e2 = 0
  case neg =>
   have eb : ((e2 : Int) != 0) = true := by simp; omega
   have ec : ((e2 : Int) == 0) = false := by simp; omega
   simp [c1, c2, c3, c4, c5, eb, ec, h2, TrtM_mu, TrtM_fns]
  subst h2
  by_cases h3 : e3 = 0
  case neg =>
   have eb : ((e3 : Int) != 0) = true := by simp; omega
   simp [c1, c2, c3, c4, c5, c6, eb, h3, TrtM_mu, TrtM_fns]
  subst h3
  by_cases h4 : e4 = 0
  case neg =>
   have eb : ((e4 : Int) != 0) = true := by simp; omega
   rcases kds with ⟨rfl, rfl⟩ | ⟨rfl, rfl, rfl⟩ | ⟨rfl, rfl, rfl⟩
   all_goals
    simp [c1, c2, c3, c4, c5, c6, c8, eb, h4, TrtM_mu, TrtM_fns]
  subst h4
  rcases kds with ⟨rfl, rfl⟩ | ⟨rfl, rfl, rfl⟩ | ⟨rfl, rfl, rfl⟩
  all_goals
   simp [c1, c2, c3, c4, c5, c6, c8, TrtM_mu, TrtM_fns]
   rw [vc_regionW]
   refine ⟨[], ?_⟩
   simp [o1, o2, fillS, TrtM_mu, TrtM_fns]
   exact ⟨rfl, rfl, rfl⟩
 | false =>
  obtain ⟨c1, c2, c3, c4, c5, c6, c7⟩ := key2
  obtain ⟨q, qs, qo⟩ := A2
  obtain ⟨p, ps, po⟩ := B2
  unfold triPo at u4 u3
  dsimp only at u4 u3 c1 c2 c3 c4 c5 c6 c7 ⊢
  unfold twoC
  generalize opp a = a' at o1 ⊢
  generalize opp b = b' at o2 ⊢
  generalize coefPo q v = d1 at c1 c2 c4 c6 c7 ⊢
  generalize coefPo p v = d2 at c3 c5 c6 c7 ⊢
  generalize negF d1 = d3 at c2 c4 c6 c7 ⊢
  generalize scalePo p d3 = A at c4 c6 c7 ⊢
  generalize scalePo q d2 = B at c5 c6 c7 ⊢
  generalize addPo A.1 B.1 = C at c6 c7 ⊢
  have c8 := c7 (kdOf (ps || qs))
  clear c7
  have kds : (ps = true ∧ kdOf (ps || qs) = 2) ∨ (ps = false ∧ qs = true ∧ kdOf (ps || qs) = 2) ∨ (ps = false ∧ qs = false ∧ kdOf (ps || qs) = 1) := by
   cases ps <;> cases qs <;> simp [kdOf]
  generalize kdOf (ps || qs) = kd at c8 kds ⊢
  generalize makeAt kd C.1 = M at c8 ⊢
  obtain ⟨A, e1⟩ := A
  obtain ⟨B, e2⟩ := B
  obtain ⟨C, e3⟩ := C
  obtain ⟨M, mt, e4⟩ := M
  unfold pairPo at c4 c5 c6
  unfold tripAt at c8
  dsimp only at c4 c5 c6 c8 ⊢
  simp only [At.enc, Lt.enc, Po.enc, Fr.enc] at v1 u4 u3 o1 o2 c1 c2 c3 c4 c5 c6 c8 ⊢
  simp [lf16, v1, u4, u3, TrtM_mu, TrtM_fns]
  rw [vc_regionN]
  refine ⟨[], ?_⟩
  simp [u4, u3, TrtM_mu, TrtM_fns]
  refine ⟨keepT rfl, ?_⟩
  rw [vc_regionN]
  refine ⟨[], ?_⟩
  by_cases h1 : e1 = 0
  case neg =>
   have eb : ((e1 : Int) != 0) = true := by simp; omega
   have ec : ((e1 : Int) == 0) = false := by simp; omega
   simp [c1, c2, c3, c4, eb, ec, h1, TrtM_mu, TrtM_fns]
  subst h1
  by_cases h2 : e2 = 0
  case neg =>
   have eb : ((e2 : Int) != 0) = true := by simp; omega
   have ec : ((e2 : Int) == 0) = false := by simp; omega
   simp [c1, c2, c3, c4, c5, eb, ec, h2, TrtM_mu, TrtM_fns]
  subst h2
  by_cases h3 : e3 = 0
  case neg =>
   have eb : ((e3 : Int) != 0) = true := by simp; omega
   simp [c1, c2, c3, c4, c5, c6, eb, h3, TrtM_mu, TrtM_fns]
  subst h3
  by_cases h4 : e4 = 0
  case neg =>
   have eb : ((e4 : Int) != 0) = true := by simp; omega
   rcases kds with ⟨rfl, rfl⟩ | ⟨rfl, rfl, rfl⟩ | ⟨rfl, rfl, rfl⟩
   all_goals
    simp [c1, c2, c3, c4, c5, c6, c8, eb, h4, TrtM_mu, TrtM_fns]
  subst h4
  rcases kds with ⟨rfl, rfl⟩ | ⟨rfl, rfl, rfl⟩ | ⟨rfl, rfl, rfl⟩
  all_goals
   simp [c1, c2, c3, c4, c5, c6, c8, TrtM_mu, TrtM_fns]
   rw [vc_regionW]
   refine ⟨[], ?_⟩
   simp [o1, o2, fillS, TrtM_mu, TrtM_fns]
   exact ⟨rfl, rfl, rfl⟩
end Go.Proofs.YtcfklmjgofknjaaGreat

/-
 What the reference's Three computes.
-/
namespace Go.Proofs.YtcfklmjgofknjaaGreat
open Go Go.Abs Go.Limbs
variable {base : Prot}
set_option maxRecDepth 20000
attribute [local irreducible] vc
attribute [local simp] pureS touchV freezeL fuel shiftV u64 au
def Trth : Tab := (((((Tab.none.with 50 (pureS (j1b sidePR))).with 20 (pureS (h1 okAt))).with 29 (pureS (gi coefP))).with 59 (pureS (gis solveP))).with 60 (pureS (g2l lessP))).with 54 (pureS (j1 oppP))
theorem Trth_ok : TabOk Tryz.prog base Trth := Tab.with_ok (Tab.with_ok (Tab.with_ok (Tab.with_ok (Tab.with_ok (Tab.with_ok Tab.none_ok rside_ok) rvatom_ok) rcoef_ok) rsolve_ok) rless_ok) ropp_ok
theorem Trth_mu (f : FuncId) (a : List AVal) (H : Heap) : Trth.mu f a H = none := (rfl)
theorem Trth_fns : Trth.fn 50 = (pureS (j1b sidePR)) ∧ Trth.fn 20 = (pureS (h1 okAt)) ∧ Trth.fn 29 = (pureS (gi coefP)) ∧ Trth.fn 59 = (pureS (gis solveP)) ∧ Trth.fn 60 = (pureS (g2l lessP)) ∧ Trth.fn 54 = (pureS (j1 oppP)) := ⟨rfl, rfl, rfl, rfl, rfl, rfl⟩
set_option maxHeartbeats 4000000 in
theorem rthree_ok : FnOk Tryz.prog base 18 (pureS (j3v fun a b c v => pairLs (threeR a b c v))) := by
 refine pure_of_vc hmix Trth_ok globNone low18 fun args z hs hf => ?_
 obtain ⟨a, b, c, v, wa, fa, wb, fb, wc, fc, rfl, rfl⟩ := j3v_some hs
 refine ⟨by simp [lf18], ?_⟩
 have v1 : j1b sidePR [a.enc, .int .i64 v, .bool true] = some (triPo (sideR a v true)) := j1b_at wa fa
 have v2 : j1b sidePR [b.enc, .int .i64 v, .bool false] = some (triPo (sideR b v false)) := j1b_at wb fb
 have wp := wf_sideR wa v true
 have wq := wf_sideR wb v false
 have fp := lit_sideR fa v true
 have fq := lit_sideR fb v false
 unfold pairLs threeR
 generalize sideR a v true = A at v1 wp fp ⊢
 generalize sideR b v false = B at v2 wq fq ⊢
 obtain ⟨p, ps, po⟩ := A
 obtain ⟨q, qs, qo⟩ := B
 have wc' : c.a.p.wf := wc
 dsimp only at v1 v2 wp wq fp fq ⊢
 have u1 : h1 okAt [c.a.enc] = some (.bool c.a.ok) := h1_at wc'
 have u2 : gi coefP [c.a.p.enc, .int .i64 v] = some (coefPo c.a.p v).enc := gi_at wc'
 have s1 : gis solveP [p.enc, .int .i64 v] = some (pairPo (solvePo p v)) := gis_at wp (lit_few fp (by decide))
 have s2 : gis solveP [q.enc, .int .i64 v] = some (pairPo (solvePo q v)) := gis_at wq (lit_few fq (by decide))
 have s3 : gis solveP [c.a.p.enc, .int .i64 v] = some (pairPo (solvePo c.a.p v)) := gis_at wc' (lit_few fc (by decide))
 have wP := wf_solvePo p v
 have wQ := wf_solvePo q v
 have wW := wf_solvePo c.a.p v
 have fP := lit_solve (t := v) fp
 have fQ := lit_solve (t := v) fq
 have fW := lit_solve (t := v) (p := c.a.p) fc
 unfold threeC
 generalize solvePo p v = P at s1 wP fP ⊢
 generalize solvePo q v = Q at s2 wQ fQ ⊢
 generalize solvePo c.a.p v = W at s3 wW fW ⊢
 have l1 : g2l lessP [P.1.enc, W.1.enc] = some (.tup [(⟨(lessC P.1 W.1).1, false⟩ : Lt).enc, .int .i64 (lessC P.1 W.1).2]) := g2l_at wP fP wW fW
 have l2 : g2l lessP [W.1.enc, Q.1.enc] = some (.tup [(⟨(lessC W.1 Q.1).1, false⟩ : Lt).enc, .int .i64 (lessC W.1 Q.1).2]) := g2l_at wW fW wQ fQ
 generalize lessC P.1 W.1 = X at l1 ⊢
 generalize lessC W.1 Q.1 = Y at l2 ⊢
 have o1 : j1 oppP [a.enc] = some (opp a).enc := j1_at wa fa
 have o2 : j1 oppP [b.enc] = some (opp b).enc := j1_at wb fb
 have o3 : j1 oppP [c.enc] = some (opp c).enc := j1_at wc fc
 generalize opp a = a' at o1 ⊢
 generalize opp b = b' at o2 ⊢
 generalize opp c = c' at o3 ⊢
 obtain ⟨⟨ck, cp, ca, cb⟩, cn⟩ := c
 dsimp only at u1 u2 s3 o3 ⊢
 generalize At.ok ⟨ck, cp, ca, cb⟩ = cok at u1 ⊢
 generalize coefPo cp v = cc at u2 ⊢
 obtain ⟨cs, cnn, cd⟩ := cc
 dsimp only at u2 ⊢
 unfold triPo at v1 v2
 unfold pairPo at s1 s2 s3
 simp only [At.enc, Sd.enc, Lt.enc, Po.enc, Fr.enc] at v1 v2 u1 u2 s1 s2 s3 l1 l2 o1 o2 o3 ⊢
 cases po with
 | false => simp [lf18, v1, v2, Trth_mu, Trth_fns]
 | true =>
 cases qo with
 | false => simp [lf18, v1, v2, Trth_mu, Trth_fns]
 | true =>
 cases cn with
 | false => simp [lf18, v1, v2, Trth_mu, Trth_fns]
 | true =>
 cases cok with
 | false => simp [lf18, v1, v2, u1, Trth_mu, Trth_fns]
 | true =>
 by_cases hk : ck = 3
 case neg =>
  have kb : ((ck : Int) != 3) = true := by simp; omega
  simp [lf18, v1, v2, u1, kb, hk, Trth_mu, Trth_fns]
 subst hk
 cases cnn with
 | nil => simp [lf18, v1, v2, u1, u2, Trth_mu, Trth_fns]
 | cons y r =>
 have hb : (((r.length : Int) + 1) == 0) = false := by rw [← Bool.not_eq_true, beq_iff_eq]; omega
 obtain ⟨P, e1⟩ := P
 obtain ⟨Q, e2⟩ := Q
 obtain ⟨W, e3⟩ := W
 obtain ⟨X, e4⟩ := X
 obtain ⟨Y, e5⟩ := Y
 dsimp only at s1 s2 s3 l1 l2 ⊢
 by_cases h1 : e1 = 0
 case neg =>
  have eb : ((e1 : Int) != 0) = true := by simp; omega
  simp [lf18, v1, v2, u1, u2, hb, s1, eb, h1, Trth_mu, Trth_fns]
 subst h1
 by_cases h2 : e2 = 0
 case neg =>
  have eb : ((e2 : Int) != 0) = true := by simp; omega
  simp [lf18, v1, v2, u1, u2, hb, s1, s2, eb, h2, Trth_mu, Trth_fns]
 subst h2
 by_cases h3 : e3 = 0
 case neg =>
  have eb : ((e3 : Int) != 0) = true := by simp; omega
  simp [lf18, v1, v2, u1, u2, hb, s1, s2, s3, eb, h3, Trth_mu, Trth_fns]
 subst h3
 by_cases h4 : e4 = 0
 case neg =>
  have eb : ((e4 : Int) != 0) = true := by simp; omega
  simp [lf18, v1, v2, u1, u2, hb, s1, s2, s3, l1, eb, h4, Trth_mu, Trth_fns]
 subst h4
 by_cases h5 : e5 = 0
 case neg =>
  have eb : ((e5 : Int) != 0) = true := by simp; omega
  simp [lf18, v1, v2, u1, u2, hb, s1, s2, s3, l1, l2, eb, h5, Trth_mu, Trth_fns]
 subst h5
 simp [lf18, v1, v2, u1, u2, hb, s1, s2, s3, l1, l2, Trth_mu, Trth_fns]
 rw [vc_regionW]
 refine ⟨[], ?_⟩
 simp [o1, o2, o3, fillS, Trth_mu, Trth_fns]
 all_goals exact ⟨rfl, rfl, rfl, rfl, rfl⟩
end Go.Proofs.YtcfklmjgofknjaaGreat
