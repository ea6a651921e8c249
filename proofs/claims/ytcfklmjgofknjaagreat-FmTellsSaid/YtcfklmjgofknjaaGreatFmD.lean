/-
  What fm's functions compute, for sums of at most a thousand parts.
-/
import Derived.Test.YtcfklmjgofknjaaGreatFmC
import Derived.Test.YtcfklmjgofknjaaGreatFmL
set_option linter.unusedSimpArgs false
set_option linter.unnecessarySimpa false
set_option linter.unusedVariables false
set_option linter.constructorNameAsVariable false

/-
 What fm's small functions compute: a sum's negative, a literal's sum, whether it bounds from below.
-/
namespace Go.Proofs.YtcfklmjgofknjaaGreat
open Go Go.Abs Go.Limbs
variable {base : Prot}
set_option maxRecDepth 20000
attribute [local irreducible] vc
attribute [local simp] pureS touchV freezeL fuel shiftV u64 au
def Tmns : Tab := (Tab.none.with 95 (pureS sQOf)).with 43 (pureS (gks scaleP))
theorem Tmns_ok : TabOk Tryz.prog base Tmns := Tab.with_ok (Tab.with_ok Tab.none_ok qof_ok) scale_ok
theorem Tmns_mu (f : FuncId) (a : List AVal) (H : Heap) : Tmns.mu f a H = none := (rfl)
theorem Tmns_fns : Tmns.fn 95 = (pureS sQOf) ∧ Tmns.fn 43 = (pureS (gks scaleP)) := ⟨rfl, rfl⟩
theorem fminus_ok : FnOk Tryz.prog base 105 (pureS (g1s minusP)) := by
 refine pure_of_vc hmix Tmns_ok globNone low105 fun args z hs hf => ?_
 obtain ⟨p, wp, fp, rfl, rfl⟩ := g1s_some hs
 refine ⟨by simp [lf105], ?_⟩
 have om1 := ofR (n := -1) (d := 1) (by decide)
 rw [m1_eq] at om1
 have v2 : gks scaleP [p.enc, (ofQ (-1)).enc] = some (pairPo (scalePo p (ofQ (-1)))) := gks_at wp (wf_ofQ _) fp
 unfold minusP
 obtain ⟨s, hs'⟩ : ∃ s, s = scalePo p (ofQ (-1)) := ⟨_, rfl⟩
 rw [← hs'] at v2 ⊢
 obtain ⟨y, hy⟩ : ∃ y, y = ofQ (-1) := ⟨_, rfl⟩
 rw [← hy] at v2 om1
 unfold pairPo at v2 ⊢
 simp only [Po.enc, Fr.enc] at v2 om1 ⊢
 simp [lf105, Tmns_mu, Tmns_fns]
 rw [vc_regionW]
 refine ⟨[], ?_⟩
 simp [om1, v2, fillS, Tmns_mu, Tmns_fns]
 all_goals exact keepT rfl
def Tlow : Tab := (Tab.none.with 45 (pureS (gi coefP))).with 56 (pureS (f1 signP))
theorem Tlow_ok : TabOk Tryz.prog base Tlow := Tab.with_ok (Tab.with_ok Tab.none_ok lcoef_ok) qsign_ok
theorem Tlow_mu (f : FuncId) (a : List AVal) (H : Heap) : Tlow.mu f a H = none := (rfl)
theorem Tlow_fns : Tlow.fn 45 = (pureS (gi coefP)) ∧ Tlow.fn 56 = (pureS (f1 signP)) := ⟨rfl, rfl⟩
theorem flow_ok : FnOk Tryz.prog base 40 (pureS (s1v lowSP)) := by
 refine pure_of_vc hmix Tlow_ok globNone low40 fun args z hs hf => ?_
 obtain ⟨s, v, ws, rfl, rfl⟩ := s1v_some hs
 refine ⟨by simp [lf40], ?_⟩
 have v1 : gi coefP [s.p.enc, .int .i64 v] = some (coefPo s.p v).enc := gi_at ws
 have v3 : f1 signP [(coefPo s.p v).enc] = some (.int .i64 (signF (coefPo s.p v))) := f1_at (wf_coefPo ws v)
 unfold lowSP lowP
 obtain ⟨c, hc⟩ : ∃ c, c = coefPo s.p v := ⟨_, rfl⟩
 rw [← hc] at v1 v3 ⊢
 simp only [Sd.enc, Po.enc, Fr.enc] at v1 v3 ⊢
 simp [lf40, v1, v3, Tlow_mu, Tlow_fns]
def Tlt : Tab := (((Tab.none.with 55 (pureS (h1 okAt))).with 81 (pureS (h1s notP))).with 45 (pureS (gi coefP))).with 56 (pureS (f1 signP))
theorem Tlt_ok : TabOk Tryz.prog base Tlt := Tab.with_ok (Tab.with_ok (Tab.with_ok (Tab.with_ok Tab.none_ok avalid_ok) anot_ok) lcoef_ok) qsign_ok
theorem Tlt_mu (f : FuncId) (a : List AVal) (H : Heap) : Tlt.mu f a H = none := (rfl)
theorem Tlt_fns : Tlt.fn 55 = (pureS (h1 okAt)) ∧ Tlt.fn 81 = (pureS (h1s notP)) ∧ Tlt.fn 45 = (pureS (gi coefP)) ∧ Tlt.fn 56 = (pureS (f1 signP)) := ⟨rfl, rfl, rfl, rfl⟩
theorem hasC_neq (p : Po) (v : Int) : (signF (coefPo p v) != 0) = hasC p v := by
 unfold hasC
 rw [bne]
 rfl
set_option maxHeartbeats 4000000 in
theorem flit_ok : FnOk Tryz.prog base 39 (pureS (j1v ltOfP)) := by
 refine pure_of_vc hmix Tlt_ok globNone low39 fun args z hs hf => ?_
 obtain ⟨⟨a, n⟩, v, wx, fx, rfl, rfl⟩ := j1v_some hs
 have wx : a.p.wf := wx
 have fx : a.p.lit 1000 = true := fx
 refine ⟨by simp [lf39], ?_⟩
 have v1 : h1 okAt [a.enc] = some (.bool a.ok) := h1_at wx
 have v2 : h1s notP [a.enc] = some (.tup [(notAt a).1.enc, .bool (notAt a).2]) := h1s_at wx (lit_few fx (by decide))
 have wn := wf_notAt a
 have ek : ∀ m : Int, (a.k == m) = decide (a.k = m) := fun m => rfl
 have nk : ∀ m : Int, (a.k != m) = decide (a.k ≠ m) := fun m => by rw [bne, ek]; simp
 have c1 : gi coefP [a.p.enc, .int .i64 v] = some (coefPo a.p v).enc := gi_at wx
 have c2 : gi coefP [(notAt a).1.p.enc, .int .i64 v] = some (coefPo (notAt a).1.p v).enc := gi_at wn
 have s1 : f1 signP [(coefPo a.p v).enc] = some (.int .i64 (signF (coefPo a.p v))) := f1_at (wf_coefPo wx v)
 have s2 : f1 signP [(coefPo (notAt a).1.p v).enc] = some (.int .i64 (signF (coefPo (notAt a).1.p v))) := f1_at (wf_coefPo wn v)
 have b1 := hasC_neq a.p v
 have b2 := hasC_neq (notAt a).1.p v
 have ekn : ∀ m : Int, ((notAt a).1.k == m) = decide ((notAt a).1.k = m) := fun m => rfl
 unfold ltOfP ltOf
 dsimp only
 obtain ⟨N, hN⟩ : ∃ N, N = notAt a := ⟨_, rfl⟩
 rw [← hN] at v2 c2 s2 b2 ekn ⊢
 obtain ⟨o, ho⟩ : ∃ o, o = a.ok := ⟨_, rfl⟩
 rw [← ho] at v1 ⊢
 obtain ⟨h1', hh1⟩ : ∃ h, h = hasC a.p v := ⟨_, rfl⟩
 obtain ⟨h2', hh2⟩ : ∃ h, h = hasC N.1.p v := ⟨_, rfl⟩
 rw [← hh1] at b1 ⊢
 rw [← hh2] at b2 ⊢
 obtain ⟨q1, hq1⟩ : ∃ c, c = coefPo a.p v := ⟨_, rfl⟩
 obtain ⟨q2, hq2⟩ : ∃ c, c = coefPo N.1.p v := ⟨_, rfl⟩
 rw [← hq1] at c1 s1 b1
 rw [← hq2] at c2 s2 b2
 obtain ⟨y, hy⟩ : ∃ y, y = N.2 := ⟨_, rfl⟩
 rw [← hy] at v2 ⊢
 simp only [At.enc, Po.enc, Fr.enc, Lt.enc, Sd.enc, zSd, zPo, zF, List.map_nil] at v1 v2 c1 c2 s1 s2 ⊢
 obtain ⟨k, hk⟩ : ∃ k, k = a.k := ⟨_, rfl⟩
 rw [← hk] at v1 v2 ek nk ⊢
 cases o with
 | false => simp [lf39, v1, Tlt_mu, Tlt_fns]
 | true =>
  by_cases k3' : k = 3
  ·clear hk
   subst k3'
   cases n with
   | false =>
    simp [lf39, v1, Tlt_mu, Tlt_fns]
    rw [vc_regionW]
    refine ⟨[1], ?_⟩
    simp [c1, s1, b1, fillS, Tlt_mu, Tlt_fns]
    refine ⟨fun k hk h1 => ?_, ?_⟩
    ·have : k = 0 ∨ k = 2 := by omega
     rcases this with rfl | rfl <;> rfl
    ·rw [vc_regionW]
     refine ⟨[], ?_⟩
     simp [c1, s1, b1, fillS, Tlt_mu, Tlt_fns]
     all_goals first | exact keepT rfl | skip
   | true =>
    simp [lf39, v1, Tlt_mu, Tlt_fns]
  ·by_cases k12 : k = 1 ∨ k = 2
   ·cases n with
    | false =>
     have kd : ((k == 2) : Bool) = decide (k = 2) := rfl
     rcases k12 with e | e <;> subst e
     all_goals
      simp [lf39, v1, Tlt_mu, Tlt_fns]
      rw [vc_regionW]
      refine ⟨[1], ?_⟩
      simp [c1, s1, b1, fillS, Tlt_mu, Tlt_fns]
      refine ⟨fun k hk h1 => ?_, ?_⟩
      ·have : k = 0 ∨ k = 2 := by omega
       rcases this with rfl | rfl <;> rfl
      ·rw [vc_regionW]
       refine ⟨[], ?_⟩
       simp [c1, s1, b1, fillS, Tlt_mu, Tlt_fns]
       all_goals first | exact keepT rfl | skip
    | true =>
     have keyN : ∀ z : PVal, True := fun _ => trivial
     cases y with
     | false => rcases k12 with e | e <;> subst e <;> simp [lf39, v1, v2, Tlt_mu, Tlt_fns]
     | true =>
      rcases k12 with e | e <;> subst e
      all_goals
       simp [lf39, v1, v2, Tlt_mu, Tlt_fns]
       rw [vc_regionW]
       refine ⟨[1], ?_⟩
       simp [c2, s2, b2, ekn, fillS, Tlt_mu, Tlt_fns]
       refine ⟨fun k hk h1 => ?_, ?_⟩
       ·have : k = 0 ∨ k = 2 := by omega
        rcases this with rfl | rfl <;> rfl
       ·rw [vc_regionW]
        refine ⟨[], ?_⟩
        simp [c2, s2, b2, fillS, Tlt_mu, Tlt_fns]
        all_goals first | exact keepT rfl | skip
   ·have k1' : ¬ k = 1 := fun h => k12 (.inl h)
    have k2' : ¬ k = 2 := fun h => k12 (.inr h)
    cases n <;> simp [lf39, v1, ek, nk, k3', k1', k2', Tlt_mu, Tlt_fns]
end Go.Proofs.YtcfklmjgofknjaaGreat

/-
 What fm's Bound, turned and opposite compute.
-/
namespace Go.Proofs.YtcfklmjgofknjaaGreat
open Go Go.Abs Go.Limbs
variable {base : Prot}
set_option maxRecDepth 20000
attribute [local irreducible] vc
attribute [local simp] pureS touchV freezeL fuel shiftV u64 au
def Tbd : Tab := (Tab.none.with 39 (pureS (j1v ltOfP))).with 40 (pureS (s1v lowSP))
theorem Tbd_ok : TabOk Tryz.prog base Tbd := Tab.with_ok (Tab.with_ok Tab.none_ok flit_ok) flow_ok
theorem Tbd_mu (f : FuncId) (a : List AVal) (H : Heap) : Tbd.mu f a H = none := (rfl)
theorem Tbd_fns : Tbd.fn 39 = (pureS (j1v ltOfP)) ∧ Tbd.fn 40 = (pureS (s1v lowSP)) := ⟨rfl, rfl⟩
theorem fbound_ok : FnOk Tryz.prog base 13 (pureS (j1v boundPL)) := by
 refine pure_of_vc hmix Tbd_ok globNone low13 fun args z hs hf => ?_
 obtain ⟨x, v, wx, fx, rfl, rfl⟩ := j1v_some hs
 refine ⟨by simp [lf13], ?_⟩
 have v1 : j1v ltOfP [x.enc, .int .i64 v] = some (.tup [(ltOf x v).1.enc, .bool (ltOf x v).2]) := j1v_at wx fx
 have v2 : s1v lowSP [(ltOf x v).1.enc, .int .i64 v] = some (.bool (lowP (ltOf x v).1.p v)) := s1v_at (wf_ltOf wx v)
 unfold boundPL tripB boundL
 obtain ⟨R, hR⟩ : ∃ R, R = ltOf x v := ⟨_, rfl⟩
 rw [← hR] at v1 v2 ⊢
 obtain ⟨⟨p, st, ei⟩, ok⟩ := R
 dsimp only at v1 v2 ⊢
 obtain ⟨l, hl⟩ : ∃ l, l = lowP p v := ⟨_, rfl⟩
 rw [← hl] at v2 ⊢
 simp only [Lt.enc, Sd.enc] at v1 v2 ⊢
 cases ok <;> cases ei <;> simp [lf13, v1, v2, Tbd_mu, Tbd_fns]
def Ttn : Tab := (Tab.none.with 40 (pureS (s1v lowSP))).with 105 (pureS (g1s minusP))
theorem Ttn_ok : TabOk Tryz.prog base Ttn := Tab.with_ok (Tab.with_ok Tab.none_ok flow_ok) fminus_ok
theorem Ttn_mu (f : FuncId) (a : List AVal) (H : Heap) : Ttn.mu f a H = none := (rfl)
theorem Ttn_fns : Ttn.fn 40 = (pureS (s1v lowSP)) ∧ Ttn.fn 105 = (pureS (g1s minusP)) := ⟨rfl, rfl⟩
theorem fturn_ok : FnOk Tryz.prog base 83 (pureS (s1b turnP)) := by
 refine pure_of_vc hmix Ttn_ok globNone low83 fun args z hs hf => ?_
 obtain ⟨⟨p, st, ei⟩, v, low, ws, fs, rfl, rfl⟩ := s1b_some hs
 refine ⟨by simp [lf83], ?_⟩
 have v1 : s1v lowSP [(Sd.mk p st ei).enc, .int .i64 v] = some (.bool (lowP p v)) := s1v_at ws
 have v2 : g1s minusP [p.enc] = some (.tup [(scalePo p (ofQ (-1))).1.enc, .int .i64 (scalePo p (ofQ (-1))).2]) := g1s_at ws fs
 unfold turnP turnL
 dsimp only
 obtain ⟨l, hl⟩ : ∃ l, l = lowP p v := ⟨_, rfl⟩
 rw [← hl] at v1 ⊢
 obtain ⟨s, hs'⟩ : ∃ s, s = scalePo p (ofQ (-1)) := ⟨_, rfl⟩
 rw [← hs'] at v2 ⊢
 have em : ((s.2 : Int) == 0) = decide (s.2 = 0) := by rw [Bool.eq_iff_iff]; simp
 obtain ⟨u, hu⟩ : ∃ u, u = decide (s.2 = 0) := ⟨_, rfl⟩
 rw [← hu] at em ⊢
 simp only [Sd.enc, Po.enc, Fr.enc] at v1 v2 ⊢
 cases l <;> cases low <;> cases ei <;> simp [lf83, v1, v2, em, Ttn_mu, Ttn_fns]
end Go.Proofs.YtcfklmjgofknjaaGreat

/-
 What fm.sides computes: a lower and an upper bound, of two literals.
-/
namespace Go.Proofs.YtcfklmjgofknjaaGreat
open Go Go.Abs Go.Limbs
variable {base : Prot}
set_option maxRecDepth 20000
attribute [local irreducible] vc
attribute [local simp] pureS touchV freezeL fuel shiftV u64 au
def Tsd : Tab := ((Tab.none.with 39 (pureS (j1v ltOfP))).with 40 (pureS (s1v lowSP))).with 83 (pureS (s1b turnP))
theorem Tsd_ok : TabOk Tryz.prog base Tsd := Tab.with_ok (Tab.with_ok (Tab.with_ok Tab.none_ok flit_ok) flow_ok) fturn_ok
theorem Tsd_mu (f : FuncId) (a : List AVal) (H : Heap) : Tsd.mu f a H = none := (rfl)
theorem Tsd_fns : Tsd.fn 39 = (pureS (j1v ltOfP)) ∧ Tsd.fn 40 = (pureS (s1v lowSP)) ∧ Tsd.fn 83 = (pureS (s1b turnP)) := ⟨rfl, rfl, rfl⟩
set_option maxHeartbeats 4000000 in
theorem fsides_ok : FnOk Tryz.prog base 42 (pureS (j2v sidesP)) := by
 refine pure_of_vc hmix Tsd_ok globNone low42 fun args z hs hf => ?_
 obtain ⟨a, b, v, wa, fa, wb, fb, rfl, rfl⟩ := j2v_some hs
 refine ⟨by simp [lf42], ?_⟩
 have v1 : j1v ltOfP [a.enc, .int .i64 v] = some (.tup [(ltOf a v).1.enc, .bool (ltOf a v).2]) := j1v_at wa fa
 have v2 : j1v ltOfP [b.enc, .int .i64 v] = some (.tup [(ltOf b v).1.enc, .bool (ltOf b v).2]) := j1v_at wb fb
 have wR := wf_ltOf wa v
 have wS := wf_ltOf wb v
 have fR := lit_few (lit_ltOf fa v) (by decide)
 have fS := lit_few (lit_ltOf fb v) (by decide)
 unfold sidesP sidesL firstL
 obtain ⟨R, hR⟩ : ∃ R, R = ltOf a v := ⟨_, rfl⟩
 rw [← hR] at v1 wR fR ⊢
 obtain ⟨S, hS⟩ : ∃ S, S = ltOf b v := ⟨_, rfl⟩
 rw [← hS] at v2 wS fS ⊢
 obtain ⟨r, okr⟩ := R
 obtain ⟨s, oks⟩ := S
 dsimp only at v1 v2 wR wS fR fS ⊢
 have l1 : s1v lowSP [r.enc, .int .i64 v] = some (.bool (lowP r.p v)) := s1v_at wR
 have l2 : s1v lowSP [s.enc, .int .i64 v] = some (.bool (lowP s.p v)) := s1v_at wS
 have t1 : s1b turnP [r.enc, .int .i64 v, .bool true] = some (.tup [(turnL r v true).1.enc, .bool (turnL r v true).2]) := s1b_at wR fR
 have t2 : s1b turnP [r.enc, .int .i64 v, .bool false] = some (.tup [(turnL r v false).1.enc, .bool (turnL r v false).2]) := s1b_at wR fR
 have t3 : s1b turnP [s.enc, .int .i64 v, .bool true] = some (.tup [(turnL s v true).1.enc, .bool (turnL s v true).2]) := s1b_at wS fS
 have t4 : s1b turnP [s.enc, .int .i64 v, .bool false] = some (.tup [(turnL s v false).1.enc, .bool (turnL s v false).2]) := s1b_at wS fS
 generalize turnL r v true = A1 at t1 ⊢
 generalize turnL r v false = A2 at t2 ⊢
 generalize turnL s v true = A3 at t3 ⊢
 generalize turnL s v false = A4 at t4 ⊢
 generalize lowP r.p v = m1 at l1 ⊢
 generalize lowP s.p v = m2 at l2 ⊢
 obtain ⟨p, rs, re⟩ := r
 obtain ⟨q, ss, se⟩ := s
 simp only [Lt.enc, Sd.enc, zSd, zPo, zF, List.map_nil] at v1 v2 l1 l2 t1 t2 t3 t4 ⊢
 cases okr
 ·simp [lf42, v1, v2, Tsd_mu, Tsd_fns]
  rw [vc_regionW]
  refine ⟨[], ?_⟩
  simp [fillS, Tsd_mu, Tsd_fns]
  all_goals exact keepT rfl
 ·cases oks
  ·simp [lf42, v1, v2, Tsd_mu, Tsd_fns]
   rw [vc_regionW]
   refine ⟨[], ?_⟩
   simp [fillS, Tsd_mu, Tsd_fns]
   all_goals exact keepT rfl
  ·obtain ⟨d1, o1⟩ := A1
   obtain ⟨d3, o3⟩ := A3
   cases re <;> cases se <;> cases m1 <;> cases m2 <;> cases o1 <;> cases o3
   all_goals
    simp [lf42, v1, v2, l1, l2, t1, t2, t3, t4, Tsd_mu, Tsd_fns]
    rw [vc_regionW]
    refine ⟨[], ?_⟩
    simp [fillS, Tsd_mu, Tsd_fns]
    all_goals exact keepT rfl
end Go.Proofs.YtcfklmjgofknjaaGreat

/-
 What fm.opposite computes, of literals whose sums may be.
-/
namespace Go.Proofs.YtcfklmjgofknjaaGreat
open Go Go.Abs Go.Limbs
variable {base : Prot}
set_option maxRecDepth 20000
attribute [local irreducible] vc
attribute [local simp] pureS touchV freezeL fuel shiftV u64 au
def j1k (g : Lt → PVal) : List PVal → Option PVal
 | [a] => match litOf a with | some x => if x.a.p.ok = true then some (g x) else none | none => none
 | _ => none
theorem j1k_at {g : Lt → PVal} {x : Lt} (h : x.wf) (f : x.few = true) (o : x.a.p.ok = true) : j1k g [x.enc] = some (g x) := by simp only [j1k, litOf_enc h f, o, if_true]
theorem j1k_some {g : Lt → PVal} {args : List PVal} {z : PVal} (h : j1k g args = some z) : ∃ x : Lt, x.wf ∧ x.few = true ∧ x.a.p.ok = true ∧ args = [x.enc] ∧ z = g x := by
 unfold j1k at h
 split at h
 ·split at h
  ·rename_i x hx
   obtain ⟨rfl, w, f⟩ := litOf_some hx
   split at h
   ·cases h
    exact ⟨x, w, f, by assumption, rfl, rfl⟩
   ·cases h
  ·cases h
 ·cases h
def Topp : Tab := Tab.none.with 93 (pureS (g1v Po.enc))
theorem Topp_ok : TabOk Tryz.prog base Topp := Tab.with_ok Tab.none_ok lcopy_ok
theorem Topp_mu (f : FuncId) (a : List AVal) (H : Heap) : Topp.mu f a H = none := (rfl)
theorem Topp_fns : Topp.fn 93 = (pureS (g1v Po.enc)) := (rfl)
theorem fopp_ok : FnOk Tryz.prog base 48 (pureS (j1k oppP)) := by
 refine pure_of_vc hmix Topp_ok globNone low48 fun args z hs hf => ?_
 obtain ⟨⟨a, n⟩, wx, fx, ox, rfl, rfl⟩ := j1k_some hs
 refine ⟨by simp [lf48], ?_⟩
 have v1 : g1v Po.enc [a.p.enc] = some a.p.enc := g1v_at wx (lit_few fx (by decide)) ox
 unfold oppP opp
 simp only [Lt.enc, Po.enc, Fr.enc] at v1 ⊢
 cases n <;> simp [lf48, v1, Topp_mu, Topp_fns]
end Go.Proofs.YtcfklmjgofknjaaGreat

/-
 What fm.below computes: that one sum is below another one.
-/
namespace Go.Proofs.YtcfklmjgofknjaaGreat
open Go Go.Abs Go.Limbs
variable {base : Prot}
set_option maxRecDepth 20000
attribute [local irreducible] vc
attribute [local simp] pureS touchV freezeL fuel shiftV u64 au
def g2l (g : Po → Po → PVal) : List PVal → Option PVal
 | [a, b] => match decPo a, decPo b with | some p, some q => if p.lit 1000 = true ∧ q.lit 1000 = true then some (g p q) else none | _, _ => none
 | _ => none
theorem g2l_at {g : Po → Po → PVal} {p q : Po} (h : p.wf) (f : p.lit 1000 = true) (h' : q.wf) (f' : q.lit 1000 = true) : g2l g [p.enc, q.enc] = some (g p q) := by simp only [g2l, decPo_enc h, decPo_enc h', f, f', and_self, if_true]
theorem g2l_some {g : Po → Po → PVal} {args : List PVal} {z : PVal} (h : g2l g args = some z) : ∃ p q : Po, p.wf ∧ p.lit 1000 = true ∧ q.wf ∧ q.lit 1000 = true ∧ args = [p.enc, q.enc] ∧ z = g p q := by
 unfold g2l at h
 split at h
 ·split at h
  ·rename_i p q hp hq
   obtain ⟨rfl, w⟩ := decPo_some hp
   obtain ⟨rfl, w'⟩ := decPo_some hq
   split at h
   ·rename_i hc
    cases h
    exact ⟨p, q, w, hc.1, w', hc.2, rfl, rfl⟩
   ·cases h
  ·cases h
 ·cases h
def Tbl : Tab := ((Tab.none.with 105 (pureS (g1s minusP))).with 46 (pureS (g2s addPP))).with 47 (pureS (ki makeP))
theorem Tbl_ok : TabOk Tryz.prog base Tbl := Tab.with_ok (Tab.with_ok (Tab.with_ok Tab.none_ok fminus_ok) ladd_ok) amake_ok
theorem Tbl_mu (f : FuncId) (a : List AVal) (H : Heap) : Tbl.mu f a H = none := (rfl)
theorem Tbl_fns : Tbl.fn 105 = (pureS (g1s minusP)) ∧ Tbl.fn 46 = (pureS (g2s addPP)) ∧ Tbl.fn 47 = (pureS (ki makeP)) := ⟨rfl, rfl, rfl⟩
theorem fbelow_ok : FnOk Tryz.prog base 58 (pureS (g2l lessP)) := by
 refine pure_of_vc hmix Tbl_ok globNone low58 fun args z hs hf => ?_
 obtain ⟨p, q, wp, fp, wq, fq, rfl, rfl⟩ := g2l_some hs
 refine ⟨by simp [lf58], ?_⟩
 have v1 : g1s minusP [q.enc] = some (pairPo (scalePo q (ofQ (-1)))) := g1s_at wq (lit_few fq (by decide))
 have wS := wf_scalePo q (ofQ (-1))
 have fS := lit_scale (k := ofQ (-1)) fq
 unfold lessP lessC
 obtain ⟨S, hS⟩ : ∃ S, S = scalePo q (ofQ (-1)) := ⟨_, rfl⟩
 rw [← hS] at v1 wS fS ⊢
 have v2 : g2s addPP [p.enc, S.1.enc] = some (pairPo (addPo p S.1)) := g2s_at wp wS (lit_few fp (by decide)) (lit_few fS (by decide))
 have wA := wf_addPo wp wS
 have fA := lit_add fp fS
 obtain ⟨A, hA⟩ : ∃ A, A = addPo p S.1 := ⟨_, rfl⟩
 rw [← hA] at v2 wA fA ⊢
 have v3 : ki makeP [.int .i64 2, A.1.enc] = some (tripAt (makeAt 2 A.1)) := ki_at wA (lit_few fA (by decide))
 obtain ⟨M, hM⟩ : ∃ M, M = makeAt 2 A.1 := ⟨_, rfl⟩
 rw [← hM] at v3 ⊢
 unfold pairPo at v1 v2
 unfold tripAt at v3
 simp only [At.enc, Lt.enc, Po.enc, Fr.enc] at v1 v2 v3 ⊢
 by_cases e1 : S.2 = 0
 ·by_cases e2 : A.2 = 0
  ·rw [e1] at v1
   rw [e2] at v2
   simp [lf58, v1, v2, v3, e1, e2, Tbl_mu, Tbl_fns]
  ·rw [e1] at v1
   have eb : ((A.2 : Int) != 0) = true := by simp; omega
   simp [lf58, v1, v2, e1, e2, eb, zAt, zPo, zF, Tbl_mu, Tbl_fns]
 ·have eb : ((S.2 : Int) != 0) = true := by simp; omega
  simp [lf58, v1, e1, eb, zAt, zPo, zF, Tbl_mu, Tbl_fns]
end Go.Proofs.YtcfklmjgofknjaaGreat

/-
 What fm.Two computes: the lemma of two bounds.
-/
namespace Go.Proofs.YtcfklmjgofknjaaGreat
open Go Go.Abs Go.Limbs
variable {base : Prot}
set_option maxRecDepth 20000
attribute [local irreducible] vc
attribute [local simp] pureS touchV freezeL fuel shiftV u64 au
theorem lt_okp {x : Lt} {v : Int} (h : (ltOf x v).2 = true) : x.a.p.ok = true := by
 unfold ltOf at h
 split at h
 case isFalse => cases h
 rename_i ho
 split at h
 ·rename_i h1; exact ok_of_at ho (by rw [h1.1]; rfl)
 ·split at h
  case isFalse => cases h
  rename_i h2
  exact ok_of_at ho (by rcases h2 with e | e <;> rw [e] <;> rfl)
theorem sides_okp {a b : Lt} {v : Int} (h : (sidesL a b v).2.2.2 = true) : a.a.p.ok = true ∧ b.a.p.ok = true := by
 unfold sidesL at h
 split at h
 case isFalse => cases h
 rename_i h1
 exact ⟨lt_okp h1.1, lt_okp h1.2⟩
def Ttw : Tab := ((((((Tab.none.with 42 (pureS (j2v sidesP))).with 45 (pureS (gi coefP))).with 44 (pureS (f1 negP))).with 43 (pureS (gks scaleP))).with 46 (pureS (g2s addPP))).with 47 (pureS (ki makeP))).with 48 (pureS (j1k oppP))
theorem Ttw_ok : TabOk Tryz.prog base Ttw := Tab.with_ok (Tab.with_ok (Tab.with_ok (Tab.with_ok (Tab.with_ok (Tab.with_ok (Tab.with_ok Tab.none_ok fsides_ok) lcoef_ok) qneg_ok) scale_ok) ladd_ok) amake_ok) fopp_ok
theorem Ttw_mu (f : FuncId) (a : List AVal) (H : Heap) : Ttw.mu f a H = none := (rfl)
theorem Ttw_fns : Ttw.fn 42 = (pureS (j2v sidesP)) ∧ Ttw.fn 45 = (pureS (gi coefP)) ∧ Ttw.fn 44 = (pureS (f1 negP)) ∧ Ttw.fn 43 = (pureS (gks scaleP)) ∧ Ttw.fn 46 = (pureS (g2s addPP)) ∧ Ttw.fn 47 = (pureS (ki makeP)) ∧ Ttw.fn 48 = (pureS (j1k oppP)) := ⟨rfl, rfl, rfl, rfl, rfl, rfl, rfl⟩
set_option maxHeartbeats 4000000 in
theorem ftwo_ok : FnOk Tryz.prog base 15 (pureS (j2v twoP)) := by
 refine pure_of_vc hmix Ttw_ok globNone low15 fun args z hs hf => ?_
 obtain ⟨a, b, v, wa, fa, wb, fb, rfl, rfl⟩ := j2v_some hs
 refine ⟨by simp [lf15], ?_⟩
 have v1 : j2v sidesP [a.enc, b.enc, .int .i64 v] = some (.tup [(sidesL a b v).1.enc, (sidesL a b v).2.1.enc, .bool (sidesL a b v).2.2.1, .bool (sidesL a b v).2.2.2]) := j2v_at wa fa wb fb
 have w0 := wf_sidesL wa wb v
 have f0 := lit_sidesL fa fb v
 have k0 : (sidesL a b v).2.2.2 = true → a.a.p.ok = true ∧ b.a.p.ok = true := sides_okp
 unfold twoP pairLs twoL
 generalize sidesL a b v = S at v1 w0 f0 k0 ⊢
 obtain ⟨⟨q, qs, qe⟩, ⟨p, ps, pe⟩, first, ok⟩ := S
 obtain ⟨wq, wp⟩ := w0
 obtain ⟨fq, fp⟩ := f0
 have wq : q.wf := wq
 have wp : p.wf := wp
 dsimp only at v1 fq fp k0 ⊢
 have v2 : gi coefP [q.enc, .int .i64 v] = some (coefPo q v).enc := gi_at wq
 have v3 : f1 negP [(coefPo q v).enc] = some (negF (coefPo q v)).enc := f1_at (wf_coefPo wq v)
 have v4 : gks scaleP [p.enc, (negF (coefPo q v)).enc] = some (pairPo (scalePo p (negF (coefPo q v)))) := gks_at wp (wf_negF _) (lit_few fp (by decide))
 have v5 : gi coefP [p.enc, .int .i64 v] = some (coefPo p v).enc := gi_at wp
 have v6 : gks scaleP [q.enc, (coefPo p v).enc] = some (pairPo (scalePo q (coefPo p v))) := gks_at wq (wf_coefPo wp v) (lit_few fq (by decide))
 have wA := wf_scalePo p (negF (coefPo q v))
 have wB := wf_scalePo q (coefPo p v)
 have fA := lit_scale (k := negF (coefPo q v)) fp
 have fB := lit_scale (k := coefPo p v) fq
 unfold twoC
 generalize scalePo p (negF (coefPo q v)) = A at v4 wA fA ⊢
 generalize scalePo q (coefPo p v) = B at v6 wB fB ⊢
 have v7 : g2s addPP [A.1.enc, B.1.enc] = some (pairPo (addPo A.1 B.1)) := g2s_at wA wB (lit_few fA (by decide)) (lit_few fB (by decide))
 have wC := wf_addPo wA wB
 have fC := lit_add fA fB
 generalize addPo A.1 B.1 = C at v7 wC fC ⊢
 have v8 : ki makeP [.int .i64 (kdOf (qs || ps)), C.1.enc] = some (tripAt (makeAt (kdOf (qs || ps)) C.1)) := ki_at wC (lit_few fC (by decide))
 have o1 : ok = true → j1k oppP [a.enc] = some (opp a).enc := fun h => j1k_at wa fa (k0 h).1
 have o2 : ok = true → j1k oppP [b.enc] = some (opp b).enc := fun h => j1k_at wb fb (k0 h).2
 have hkd : kdOf (qs || ps) = if qs = true then 2 else if ps = true then 2 else 1 := by cases qs <;> cases ps <;> rfl
 generalize kdOf (qs || ps) = kd at v8 hkd ⊢
 generalize makeAt kd C.1 = M at v8 ⊢
 generalize coefPo q v = c1 at v2 v3 v4 ⊢
 generalize negF c1 = c2 at v3 v4 ⊢
 generalize coefPo p v = c3 at v5 v6 ⊢
 unfold pairPo at v4 v6 v7
 unfold tripAt at v8
 obtain ⟨M, Mt, Me⟩ := M
 generalize opp a = a' at o1 ⊢
 generalize opp b = b' at o2 ⊢
 simp only [At.enc, Sd.enc, Lt.enc, Po.enc, Fr.enc] at v1 v2 v3 v4 v5 v6 v7 v8 o1 o2 ⊢
 cases ok with
 | false => simp [lf15, v1, Ttw_mu, Ttw_fns]
 | true =>
  have o1 := o1 rfl
  have o2 := o2 rfl
  obtain ⟨A, e1⟩ := A
  obtain ⟨B, e2⟩ := B
  obtain ⟨C, e3⟩ := C
  dsimp only at v4 v6 v7 v8 wA wB wC fA fB fC ⊢
  simp [lf15, v1, Ttw_mu, Ttw_fns]
  rw [vc_regionW]
  refine ⟨[], ?_⟩
  by_cases h1 : e1 = 0
  case neg =>
   have eb : ((e1 : Int) != 0) = true := by simp; omega
   simp [v2, v3, v4, eb, h1, fillS, Ttw_mu, Ttw_fns]
   exact keepT rfl
  subst h1
  simp [v2, v3, v4, fillS, Ttw_mu, Ttw_fns]
  refine ⟨keepT rfl, ?_⟩
  rw [vc_regionW]
  refine ⟨[], ?_⟩
  by_cases h2 : e2 = 0
  case neg =>
   have eb : ((e2 : Int) != 0) = true := by simp; omega
   simp [v5, v6, eb, h2, fillS, Ttw_mu, Ttw_fns]
   exact keepT rfl
  subst h2
  by_cases h3 : e3 = 0
  case neg =>
   have eb : ((e3 : Int) != 0) = true := by simp; omega
   simp [v5, v6, v7, eb, h3, fillS, Ttw_mu, Ttw_fns]
   exact keepT rfl
  subst h3
  have kds : (qs = true ∧ kd = 2) ∨ (qs = false ∧ ps = true ∧ kd = 2) ∨ (qs = false ∧ ps = false ∧ kd = 1) := by
   rw [hkd]
   cases qs <;> cases ps <;> simp
  by_cases h4 : Me = 0
  case neg =>
   have eb : ((Me : Int) != 0) = true := by simp; omega
   rcases kds with ⟨rfl, rfl⟩ | ⟨rfl, rfl, rfl⟩ | ⟨rfl, rfl, rfl⟩
   all_goals
    simp [v5, v6, v7, v8, eb, h4, fillS, Ttw_mu, Ttw_fns]
    exact keepT rfl
  subst h4
  rcases kds with ⟨rfl, rfl⟩ | ⟨rfl, rfl, rfl⟩ | ⟨rfl, rfl, rfl⟩
  all_goals
   simp [v5, v6, v7, v8, fillS, Ttw_mu, Ttw_fns]
   refine ⟨keepT rfl, ?_⟩
   rw [vc_regionW]
   refine ⟨[], ?_⟩
   simp [o1, o2, fillS, Ttw_mu, Ttw_fns]
   exact ⟨rfl, rfl, rfl⟩
end Go.Proofs.YtcfklmjgofknjaaGreat

/-
 What fm.Three computes: the lemma of three bounds.
-/
namespace Go.Proofs.YtcfklmjgofknjaaGreat
open Go Go.Abs Go.Limbs
variable {base : Prot}
set_option maxRecDepth 20000
attribute [local irreducible] vc
attribute [local simp] pureS touchV freezeL fuel shiftV u64 au
theorem snoc6 {a b c d e f : Ent} {ex s : Heap} (k : Nat) (hk : k < ex.length + 1 + 1 + 1 + 1 + 1 + 1) : (a :: b :: c :: d :: e :: f :: (ex ++ s))[k]? = (a :: b :: c :: d :: e :: f :: ex)[k]? := by
 rw [show a :: b :: c :: d :: e :: f :: (ex ++ s) = (a :: b :: c :: d :: e :: f :: ex) ++ s from rfl, List.getElem?_append_left (by simpa using hk)]
theorem snoc6' {a b c d e f g : Ent} {ex s : Heap} (k : Nat) (hk : k < ex.length + 1 + 1 + 1 + 1 + 1 + 1 + 1) : (a :: b :: c :: d :: e :: f :: (ex ++ g :: s))[k]? = (a :: b :: c :: d :: e :: f :: (ex ++ [g]))[k]? := by
 rw [show a :: b :: c :: d :: e :: f :: (ex ++ g :: s) = (a :: b :: c :: d :: e :: f :: (ex ++ [g])) ++ s by simp, List.getElem?_append_left (by simpa using hk)]
def Tth : Tab := ((((((Tab.none.with 42 (pureS (j2v sidesP))).with 55 (pureS (h1 okAt))).with 45 (pureS (gi coefP))).with 56 (pureS (f1 signP))).with 57 (pureS (gis solveP))).with 58 (pureS (g2l lessP))).with 48 (pureS (j1k oppP))
theorem Tth_ok : TabOk Tryz.prog base Tth := Tab.with_ok (Tab.with_ok (Tab.with_ok (Tab.with_ok (Tab.with_ok (Tab.with_ok (Tab.with_ok Tab.none_ok fsides_ok) avalid_ok) lcoef_ok) qsign_ok) solve_ok) fbelow_ok) fopp_ok
theorem Tth_mu (f : FuncId) (a : List AVal) (H : Heap) : Tth.mu f a H = none := (rfl)
theorem Tth_fns : Tth.fn 42 = (pureS (j2v sidesP)) ∧ Tth.fn 55 = (pureS (h1 okAt)) ∧ Tth.fn 45 = (pureS (gi coefP)) ∧ Tth.fn 56 = (pureS (f1 signP)) ∧ Tth.fn 57 = (pureS (gis solveP)) ∧ Tth.fn 58 = (pureS (g2l lessP)) ∧ Tth.fn 48 = (pureS (j1k oppP)) := ⟨rfl, rfl, rfl, rfl, rfl, rfl, rfl⟩
set_option maxHeartbeats 4000000 in
theorem fthree_ok : FnOk Tryz.prog base 17 (pureS (j3v threeP)) := by
 refine pure_of_vc hmix Tth_ok globNone low17 fun args z hs hf => ?_
 obtain ⟨a, b, c, v, wa, fa, wb, fb, wc, fc, rfl, rfl⟩ := j3v_some hs
 refine ⟨by simp [lf17], ?_⟩
 have v1 : j2v sidesP [a.enc, b.enc, .int .i64 v] = some (.tup [(sidesL a b v).1.enc, (sidesL a b v).2.1.enc, .bool (sidesL a b v).2.2.1, .bool (sidesL a b v).2.2.2]) := j2v_at wa fa wb fb
 have w0 := wf_sidesL wa wb v
 have f0 := lit_sidesL fa fb v
 have k0 : (sidesL a b v).2.2.2 = true → a.a.p.ok = true ∧ b.a.p.ok = true := sides_okp
 have kc : c.a.ok = true → c.a.k = 3 → c.a.p.ok = true := fun h e => ok_of_at h (by rw [e]; rfl)
 unfold threeP pairLs threeL
 generalize sidesL a b v = S at v1 w0 f0 k0 ⊢
 obtain ⟨⟨p, ps, pe⟩, ⟨q, qs, qe⟩, first, ok⟩ := S
 obtain ⟨wp, wq⟩ := w0
 obtain ⟨fp, fq⟩ := f0
 have wp : p.wf := wp
 have wq : q.wf := wq
 have wc' : c.a.p.wf := wc
 dsimp only at v1 fp fq k0 ⊢
 have u1 : h1 okAt [c.a.enc] = some (.bool c.a.ok) := h1_at wc'
 have u2 : gi coefP [c.a.p.enc, .int .i64 v] = some (coefPo c.a.p v).enc := gi_at wc'
 have u3 : f1 signP [(coefPo c.a.p v).enc] = some (.int .i64 (signF (coefPo c.a.p v))) := f1_at (wf_coefPo wc' v)
 have bC := hasC_neq c.a.p v
 have s1 : gis solveP [p.enc, .int .i64 v] = some (pairPo (solvePo p v)) := gis_at wp (lit_few fp (by decide))
 have s2 : gis solveP [q.enc, .int .i64 v] = some (pairPo (solvePo q v)) := gis_at wq (lit_few fq (by decide))
 have s3 : gis solveP [c.a.p.enc, .int .i64 v] = some (pairPo (solvePo c.a.p v)) := gis_at wc' (lit_few fc (by decide))
 have wP := wf_solvePo p v
 have wQ := wf_solvePo q v
 have wW := wf_solvePo c.a.p v
 have fP := lit_solve (t := v) fp
 have fQ := lit_solve (t := v) fq
 have fW := lit_solve (t := v) (p := c.a.p) fc
 unfold threeC
 generalize solvePo p v = P at s1 wP fP ⊢
 generalize solvePo q v = Q at s2 wQ fQ ⊢
 generalize solvePo c.a.p v = W at s3 wW fW ⊢
 have l1 : g2l lessP [P.1.enc, W.1.enc] = some (.tup [(⟨(lessC P.1 W.1).1, false⟩ : Lt).enc, .int .i64 (lessC P.1 W.1).2]) := g2l_at wP fP wW fW
 have l2 : g2l lessP [W.1.enc, Q.1.enc] = some (.tup [(⟨(lessC W.1 Q.1).1, false⟩ : Lt).enc, .int .i64 (lessC W.1 Q.1).2]) := g2l_at wW fW wQ fQ
 generalize lessC P.1 W.1 = X at l1 ⊢
 generalize lessC W.1 Q.1 = Y at l2 ⊢
 have o1 : ok = true → j1k oppP [a.enc] = some (opp a).enc := fun h => j1k_at wa fa (k0 h).1
 have o2 : ok = true → j1k oppP [b.enc] = some (opp b).enc := fun h => j1k_at wb fb (k0 h).2
 have o3 : c.a.ok = true → c.a.k = 3 → j1k oppP [c.enc] = some (opp c).enc := fun h e => j1k_at wc fc (kc h e)
 generalize opp a = a' at o1 ⊢
 generalize opp b = b' at o2 ⊢
 generalize opp c = c' at o3 ⊢
 obtain ⟨⟨ck, cp, ca, cb⟩, cn⟩ := c
 dsimp only at u1 u2 u3 bC s3 o3 ⊢
 generalize At.ok ⟨ck, cp, ca, cb⟩ = cok at u1 o3 ⊢
 generalize coefPo cp v = cc at u2 u3 bC
 have bC' : (signF cc = 0) ↔ hasC cp v = false := by rw [← bC]; simp
 generalize hasC cp v = hc at bC bC' ⊢
 unfold pairPo at s1 s2 s3
 simp only [At.enc, Sd.enc, Lt.enc, Po.enc, Fr.enc] at v1 u1 u2 u3 s1 s2 s3 l1 l2 o1 o2 o3 ⊢
 by_cases hgood : ok = true ∧ first = true ∧ cn = true ∧ ck = 3 ∧ cok = true ∧ hc = true
 case neg =>
  rw [if_neg hgood]
  cases ok with
  | false => simp [lf17, v1, Tth_mu, Tth_fns]
  | true =>
  cases first with
  | false => simp [lf17, v1, Tth_mu, Tth_fns]
  | true =>
  cases cn with
  | false => simp [lf17, v1, Tth_mu, Tth_fns]
  | true =>
  by_cases hk : ck = 3
  case neg =>
   have kb : ((ck : Int) != 3) = true := by simp; omega
   simp [lf17, v1, kb, Tth_mu, Tth_fns]
  subst hk
  cases cok with
  | false => simp [lf17, v1, u1, Tth_mu, Tth_fns]
  | true =>
  cases hc with
  | false =>
   have s0 := bC'.2 rfl
   have sb : ((signF cc : Int) == 0) = true := by rw [s0]; rfl
   simp [lf17, v1, u1, u2, u3, sb, Tth_mu, Tth_fns]
  | true => exact absurd ⟨rfl, rfl, rfl, rfl, rfl, rfl⟩ hgood
 rw [if_pos hgood]
 obtain ⟨rfl, rfl, rfl, rfl, rfl, rfl⟩ := hgood
 have o1 := o1 rfl
 have o2 := o2 rfl
 have o3 := o3 rfl rfl
 have sb : ((signF cc : Int) == 0) = false := by
  rw [← Bool.not_eq_true, beq_iff_eq, bC']; simp
 obtain ⟨P, e1⟩ := P
 obtain ⟨Q, e2⟩ := Q
 obtain ⟨W, e3⟩ := W
 dsimp only at s1 s2 s3 l1 l2 wP wQ wW fP fQ fW ⊢
 obtain ⟨r, hr⟩ : ∃ r : List Lt × Nat, r = (if e1 = 0 then (if e2 = 0 then (if e3 = 0 then (if X.2 = 0 then (if Y.2 = 0 then ([a', b', c', ⟨X.1, false⟩, ⟨Y.1, false⟩], 0) else ([], Y.2)) else ([], X.2)) else ([], e3)) else ([], e2)) else ([], e1)) := ⟨_, rfl⟩
 rw [← hr]
 simp [lf17, v1, u1, u2, u3, sb, fillS, Tth_mu, Tth_fns]
 -- the three sums, and what they are solved to
 obtain ⟨L, hL⟩ : ∃ L : List Po, L = [p, q, cp] := ⟨_, rfl⟩
 obtain ⟨R, hR⟩ : ∃ R : List (Po × Nat), R = [(P, e1), (Q, e2), (W, e3)] := ⟨_, rfl⟩
 have hsol : ∀ (i : Nat) (y : Po) (s : Po × Nat), L[i]? = some y → R[i]? = some s → gis solveP [y.enc, .int .i64 v] = some (.tup [s.1.enc, .int .i64 s.2]) := fun i y s hy hs => by
  rw [hL] at hy
  rw [hR] at hs
  rcases i with _ | _ | _ | i
  ·cases hy; cases hs; exact s1
  ·cases hy; cases hs; exact s2
  ·cases hy; cases hs; exact s3
  ·simp at hy
 have hbad : ∀ (i : Nat) (s : Po × Nat), R[i]? = some s → (∀ (j : Nat) (u : Po × Nat), j < i → R[j]? = some u → u.2 = 0) → s.2 ≠ 0 → r = ([], s.2) := fun i s hs hz hn => by
  rw [hR] at hs hz
  rcases i with _ | _ | _ | i
  ·cases hs
   rw [hr, if_neg hn]
  ·cases hs
   have z1 : e1 = 0 := hz 0 _ (by omega) rfl
   rw [hr, if_pos z1, if_neg hn]
  ·cases hs
   have z1 : e1 = 0 := hz 0 _ (by omega) rfl
   have z2 : e2 = 0 := hz 1 _ (by omega) rfl
   rw [hr, if_pos z1, if_pos z2, if_neg hn]
  ·simp at hs
 have hgood : (∀ (j : Nat) (u : Po × Nat), j < 3 → R[j]? = some u → u.2 = 0) → r = (if X.2 = 0 then (if Y.2 = 0 then ([a', b', c', ⟨X.1, false⟩, ⟨Y.1, false⟩], 0) else ([], Y.2)) else ([], X.2)) := fun hz => by
  rw [hR] at hz
  have z1 : e1 = 0 := hz 0 _ (by omega) rfl
  have z2 : e2 = 0 := hz 1 _ (by omega) rfl
  have z3 : e3 = 0 := hz 2 _ (by omega) rfl
  rw [hr, if_pos z1, if_pos z2, if_pos z3]
 have hE : ∀ (i : Nat) (y : Po), L[i]? = some y → ([AVal.p p.enc, AVal.p q.enc, AVal.p cp.enc] : List AVal)[i]? = some (.p y.enc) := fun i y hy => by
  rw [hL] at hy
  rcases i with _ | _ | _ | i
  ·cases hy; rfl
  ·cases hy; rfl
  ·cases hy; rfl
  ·simp at hy
 have hL3 : L.length = 3 := by rw [hL]; rfl
 have hR3 : R.length = 3 := by rw [hR]; rfl
 simp only [Po.enc, Fr.enc] at hE
 simp only [lf17_B0, vc_block]
 obtain ⟨E0, hE0⟩ : ∃ E : Ent, E = ⟨8, 0, false, [.p a.enc], 31⟩ := ⟨_, rfl⟩
 obtain ⟨E1, hE1⟩ : ∃ E : Ent, E = ⟨8, 0, false, [.p b.enc], 31⟩ := ⟨_, rfl⟩
 obtain ⟨E2, hE2⟩ : ∃ E : Ent, E = ⟨8, 0, false, [.p (Lt.mk ⟨3, cp, ca, cb⟩ true).enc], 31⟩ := ⟨_, rfl⟩
 obtain ⟨E3, hE3⟩ : ∃ E : Ent, E = ⟨6, 0, false, [.p (Sd.mk p ps pe).enc], 83⟩ := ⟨_, rfl⟩
 obtain ⟨E4, hE4⟩ : ∃ E : Ent, E = ⟨6, 0, false, [.p (Sd.mk q qs qe).enc], 83⟩ := ⟨_, rfl⟩
 refine loop_ind (fun fr H => ∃ (i : Nat) (ex : Heap), H = E0 :: E1 :: E2 :: E3 :: E4 :: ⟨4, 0, false, [.p p.enc, .p q.enc, .p cp.enc], 27⟩ :: ex ∧
   i ≤ 3 ∧ (∀ (j : Nat) (u : Po × Nat), j < i → R[j]? = some u → u.2 = 0) ∧ Grown 6 4 27 ((R.take i).map (fun s => s.1.enc)) (fr 14) ex ∧
   fr 3 = .p (.int .i64 v) ∧ fr 4 = .optr 0 0 0 0 ∧ fr 5 = .optr 1 0 0 0 ∧ fr 6 = .optr 2 0 0 0 ∧ fr 70 = .own 5 0 3 0 ∧ fr 71 = .p (.int .i64 3) ∧ fr 72 = .p (.int .i64 i)) (fun fr _ => 3 - ivar (fr 72))
  ⟨0, [], by rw [hE0, hE1, hE2, hE3, hE4]; simp [Lt.enc, Sd.enc, Po.enc, Fr.enc], by omega, fun j u h => by omega, by simp; exact .nil _ _ _ _, by simp, by simp, by simp, by simp, by simp, by simp, by simp⟩ ?_
 rintro fr H ⟨i, ex, rfl, hi, hz, hg, f3, f4, f5, f6, f70, f71, f72⟩
 by_cases h1 : i < 3
 ·obtain ⟨y, hy⟩ : ∃ y, L[i]? = some y := ⟨_, List.getElem?_eq_getElem (by omega)⟩
  obtain ⟨s, hs⟩ : ∃ s, R[i]? = some s := ⟨_, List.getElem?_eq_getElem (by omega)⟩
  have k1 := hsol i y s hy hs
  have k2 := hbad i s hs hz
  have k3' := getE (hE i y hy)
  have hw := wrap_succ (i := i) (by omega)
  have htk := take_succ_get hs
  have h1I : (i : Int) < 3 := by omega
  obtain ⟨s, e⟩ := s
  dsimp only at k1 k2 htk
  simp only [Po.enc, Fr.enc] at k1
  by_cases he : e = 0
  case neg =>
   have eb : ((e : Int) != 0) = true := by simp; omega
   have hrr := k2 he
   simp [f3, f4, f5, f6, f70, f71, f72, h1, h1I, k3', k1, eb, hrr, Po.enc, Fr.enc, getA, getA0, setA, setA0, Tth_mu, Tth_fns]
  subst he
  obtain ⟨k', v', ex', happ, hg'⟩ := (hg.more [⟨4, 0, false, [.p y.enc], 27⟩, ⟨4, 0, false, [.p s.enc], 27⟩, ⟨4, 0, false, [.p s.enc], 27⟩]).app
    (pre := [E0, E1, E2, E3, E4, ⟨4, 0, false, [.p p.enc, .p q.enc, .p cp.enc], 27⟩]) rfl (y := s.enc) rfl rfl (by omega) (bytes := 80) (by simp; omega) (by have := maxLen_ge; simp; omega)
  simp only [Po.enc, Fr.enc, List.cons_append, List.nil_append, List.length_map] at happ
  simp [f3, f4, f5, f6, f70, f71, f72, h1, h1I, k3', k1, hw, ivar, fillS, -appV, happ, Po.enc, Fr.enc, getA, getA0, setA, setA0, Tth_mu, Tth_fns]
  refine ⟨⟨i + 1, by omega, fun j x u hj hu => ?_, ?_, by omega⟩, by omega⟩
  ·by_cases hji : j = i
   ·subst hji
    rw [hs] at hu
    cases hu
    rfl
   ·exact hz j (x, u) (by omega) hu
  ·have e : (R.map fun s => s.1.enc).take (i + 1) = (R.take i).map (fun s => s.1.enc) ++ [s.enc] := by rw [← List.map_take, htk, List.map_append]; rfl
   simp only [Po.enc, Fr.enc] at e
   rw [e]
   simpa [Po.enc, Fr.enc] using hg'
 ·have hi3 : i = 3 := by omega
  subst hi3
  rw [show R.take 3 = R from List.take_of_length_le (by omega), hR] at hg
  have hrr := hgood hz
  clear hgood hbad hsol hE hr hz
  rcases hg with ⟨he, -⟩ | ⟨j, v', h14, hj⟩
  ·simp at he
  simp only [List.map_cons, List.map_nil, List.length_cons, List.length_nil, Nat.zero_add] at h14 hj
  rw [Nat.add_comm] at h14
  have hjl : j < ex.length := (List.getElem?_eq_some_iff.1 hj).1
  simp only [Po.enc, Fr.enc] at hj
  have hjr : ∀ r : Heap, (ex ++ r)[j]? = some ⟨4, v', false, [.p (.agg [.lst (P.ps.map Pa.enc), .bool P.c.s, .lst (P.c.n.map u64), .lst (P.c.d.map u64)]), .p (.agg [.lst (Q.ps.map Pa.enc), .bool Q.c.s, .lst (Q.c.n.map u64), .lst (Q.c.d.map u64)]), .p (.agg [.lst (W.ps.map Pa.enc), .bool W.c.s, .lst (W.c.n.map u64), .lst (W.c.d.map u64)])], 27⟩ := fun r => by
   rw [List.getElem?_append_left hjl, hj]
  rw [hE0, hE1, hE2, hE3, hE4]
  clear hE0 hE1 hE2 hE3 hE4
  obtain ⟨X, ex0⟩ := X
  obtain ⟨Y, ey0⟩ := Y
  dsimp only at l1 l2 hrr
  simp [f3, f4, f5, f6, f70, f71, f72, Tth_mu, Tth_fns]
  rw [vc_regionW]
  refine ⟨[], ?_⟩
  by_cases hx : ex0 = 0
  case neg =>
   rw [if_neg hx] at hrr
   have eb : ((ex0 : Int) != 0) = true := by simp; omega
   simp [h14, hj, l1, hrr, eb, getA, getA0, setA, setA0, fillS, Tth_mu, Tth_fns]
   exact ⟨hjl, snoc6⟩
  subst hx
  rw [if_pos rfl] at hrr
  simp [f3, f4, f5, f6, h14, hj, hjr, l1, getA, getA0, setA, setA0, fillS, Tth_mu, Tth_fns]
  refine ⟨hjl, snoc6, ?_⟩
  rw [vc_regionW]
  refine ⟨[], ?_⟩
  by_cases hy : ey0 = 0
  case neg =>
   rw [if_neg hy] at hrr
   have eb : ((ey0 : Int) != 0) = true := by simp; omega
   simp [f3, f4, f5, f6, h14, hj, hjr, l2, hrr, eb, getA, getA0, setA, setA0, fillS, Tth_mu, Tth_fns]
   exact ⟨by omega, snoc6'⟩
  subst hy
  rw [if_pos rfl] at hrr
  simp [f3, f4, f5, f6, h14, hj, hjr, l2, getA, getA0, setA, setA0, fillS, Tth_mu, Tth_fns]
  refine ⟨by omega, snoc6', ?_⟩
  rw [vc_regionW]
  refine ⟨[], ?_⟩
  simp [f3, f4, f5, f6, o1, o2, o3, hrr, Lt.enc, getA, getA0, setA, setA0, fillS, Tth_mu, Tth_fns]
  all_goals first | exact ⟨rfl, rfl, rfl, rfl, rfl⟩ | skip
end Go.Proofs.YtcfklmjgofknjaaGreat

/-
 What fm.Valid and fm.Weak compute; the reference's SameLits, and which clauses are looked at.
-/
namespace Go.Proofs.YtcfklmjgofknjaaGreat
open Go Go.Abs Go.Limbs
variable {base : Prot}
set_option maxRecDepth 20000
attribute [local irreducible] vc
attribute [local simp] pureS touchV freezeL fuel shiftV u64 au
def wfLs (l : List Lt) : Prop := ∀ x ∈ l, x.wf
def decLs : List PVal → Option (List Lt)
 | [] => some []
 | v :: r => match decLt v, decLs r with | some x, some l => some (x :: l) | _, _ => none
theorem decLs_enc : ∀ {l : List Lt}, wfLs l → decLs (l.map Lt.enc) = some l
 | [], _ => rfl
 | x :: r, h => by
  have h1 : x.wf := h x (by simp)
  have h2 := decLs_enc (l := r) fun y hy => h y (by simp [hy])
  simp only [List.map_cons, decLs, decLt_enc h1, h2]
theorem decLs_some : ∀ {vs : List PVal} {l : List Lt}, decLs vs = some l → vs = l.map Lt.enc ∧ wfLs l
 | [], l, h => by cases h; exact ⟨rfl, fun x hx => by cases hx⟩
 | v :: r, l, h => by
  unfold decLs at h
  split at h
  ·rename_i x m hx hm
   cases h
   obtain ⟨rfl, w⟩ := decLt_some hx
   obtain ⟨rfl, w'⟩ := decLs_some hm
   exact ⟨rfl, fun y hy => by rcases List.mem_cons.1 hy with rfl | hy; exact w; exact w' y hy⟩
  ·cases h
def jl (g : List Lt → PVal) : List PVal → Option PVal
 | [.lst vs] => match decLs vs with | some l => some (g l) | none => none
 | _ => none
theorem jl_at {g : List Lt → PVal} {l : List Lt} (h : wfLs l) : jl g [.lst (l.map Lt.enc)] = some (g l) := by simp only [jl, decLs_enc h]
theorem jl_some {g : List Lt → PVal} {args : List PVal} {z : PVal} (h : jl g args = some z) : ∃ l : List Lt, wfLs l ∧ args = [.lst (l.map Lt.enc)] ∧ z = g l := by
 unfold jl at h
 split at h
 ·split at h
  ·rename_i l hl
   obtain ⟨rfl, w⟩ := decLs_some hl
   cases h
   exact ⟨l, w, rfl, rfl⟩
  ·cases h
 ·cases h
def sV1 : List PVal → Option PVal
 | [a] => match decLt a with | some x => some (.bool (!x.a.ok)) | none => none
 | _ => none
theorem sV1_at {x : Lt} (h : x.wf) : sV1 [x.enc] = some (.bool (!x.a.ok)) := by simp only [sV1, decLt_enc h]
def Tv1 : Tab := Tab.none.with 55 (pureS (h1 okAt))
theorem Tv1_ok : TabOk Tryz.prog base Tv1 := Tab.with_ok Tab.none_ok avalid_ok
theorem Tv1_mu (f : FuncId) (a : List AVal) (H : Heap) : Tv1.mu f a H = none := (rfl)
theorem Tv1_fns : Tv1.fn 55 = (pureS (h1 okAt)) := (rfl)
theorem fv1_ok : FnOk Tryz.prog base 69 (pureS sV1) := by
 refine pure_of_vc hmix Tv1_ok globNone low69 fun args z hs hf => ?_
 unfold sV1 at hs
 split at hs
 case h_2 => cases hs
 split at hs
 case h_2 => cases hs
 rename_i x hx
 obtain ⟨rfl, wx⟩ := decLt_some hx
 cases hs
 refine ⟨by simp [lf69], ?_⟩
 have u1 : h1 okAt [x.a.enc] = some (.bool x.a.ok) := h1_at wx
 simp only [At.enc, Lt.enc] at u1 ⊢
 simp [lf69, u1, Tv1_mu, Tv1_fns]
def badI : List Lt → Option Nat
 | [] => none
 | x :: r => if x.a.ok = true then (match badI r with | some k => some (k + 1) | none => none) else some 0
theorem badI_step {l : List Lt} {i : Nat} {x : Lt} (hx : l[i]? = some x) : badI (l.drop i) = if x.a.ok = true then (match badI (l.drop (i + 1)) with | some k => some (k + 1) | none => none) else some 0 := by
 have hi := (List.getElem?_eq_some_iff.1 hx).1
 rw [List.drop_eq_getElem_cons hi, getE hx]
 rfl
theorem badI_all : ∀ l : List Lt, badI l = none ↔ validLs l = true
 | [] => by simp [badI, validLs]
 | x :: r => by
  have := badI_all r
  unfold badI
  unfold validLs at this ⊢
  rw [List.all_cons]
  cases x.a.ok with
  | false => simp
  | true =>
   rw [if_pos rfl, Bool.true_and, ← this]
   cases badI r <;> simp
def sIx : List PVal → Option PVal
 | [.lst vs, .clo 69 []] => match decLs vs with | some l => some (.int .i64 (match badI l with | some i => (i : Int) | none => -1)) | none => none
 | _ => none
theorem sIx_at {l : List Lt} (h : wfLs l) : sIx [.lst (l.map Lt.enc), .clo 69 []] = some (.int .i64 (match badI l with | some i => (i : Int) | none => -1)) := by simp only [sIx, decLs_enc h]
def TixM : Tab := Tab.none.with 69 (pureS sV1)
theorem TixM_ok : TabOk Tryz.prog base TixM := Tab.with_ok Tab.none_ok fv1_ok
theorem TixM_mu (f : FuncId) (a : List AVal) (H : Heap) : TixM.mu f a H = none := (rfl)
theorem TixM_fns : TixM.fn 69 = (pureS sV1) := (rfl)
theorem fix_ok : FnOk Tryz.prog base 110 (pureS sIx) := by
 refine pure_of_vc hmix TixM_ok globNone low110 fun args z hs hf => ?_
 unfold sIx at hs
 split at hs
 case h_2 => cases hs
 rename_i vs
 split at hs
 case h_2 => cases hs
 rename_i l hl
 obtain ⟨rfl, wl⟩ := decLs_some hl
 cases hs
 have hlen := (hf (.lst (l.map Lt.enc)) (by simp)).lst.1
 unfold maxLen at hlen
 simp only [List.length_map] at hlen
 refine ⟨by simp [lf110], ?_⟩
 simp [lf110]
 simp only [lf110_B0, vc_block]
 refine loop_ind (fun fr H => ∃ i : Nat, H = [] ∧ i ≤ l.length ∧ fr 0 = .p (.lst (l.map Lt.enc)) ∧ fr 1 = .p (.clo 69 []) ∧ fr 7 = .p (.int .i64 l.length) ∧ fr 8 = .p (.int .i64 i) ∧ badI l = (match badI (l.drop i) with | some k => some (k + i) | none => none)) (fun fr _ => l.length - ivar (fr 8)) ⟨0, rfl, by omega, by simp, by simp, by simp, by simp, by simp; cases badI l <;> rfl⟩ ?_
 rintro fr H ⟨i, rfl, hi, f0, f1', f7, f8, hp⟩
 by_cases h : i < l.length
 ·obtain ⟨x, hx⟩ : ∃ x, l[i]? = some x := ⟨_, List.getElem?_eq_getElem h⟩
  have wx : x.wf := wl x (List.mem_of_getElem? hx)
  have hc := sV1_at wx
  have hxe := getE hx
  rw [badI_step hx] at hp
  simp only [Lt.enc] at hc
  cases ht : x.a.ok with
  | false =>
   rw [ht] at hc hp
   rw [if_neg (by simp)] at hp
   simp only [Nat.zero_add] at hp
   rw [hp]
   simp [f0, f1', f7, f8, h, hxe, Lt.enc, hc, TixM_mu, TixM_fns]
  | true =>
   rw [ht] at hc hp
   rw [if_pos rfl] at hp
   simp [f0, f1', f7, f8, h, hxe, Lt.enc, hc, wrap_succ (i := i) (by omega), ivar, TixM_mu, TixM_fns]
   refine ⟨⟨i + 1, by omega, rfl, ?_⟩, by omega⟩
   rw [hp]
   cases badI (l.drop (i + 1)) with
   | none => rfl
   | some k => simp only [Option.some.injEq]; omega
 ·have hil : i = l.length := by omega
  subst hil
  rw [List.drop_length] at hp
  simp only [badI] at hp
  rw [hp]
  simp [f0, f1', f7, f8]
def sCt : List PVal → Option PVal
 | [.lst vs, .clo 69 []] => match decLs vs with | some l => some (.bool (!validLs l)) | none => none
 | _ => none
theorem sCt_at {l : List Lt} (h : wfLs l) : sCt [.lst (l.map Lt.enc), .clo 69 []] = some (.bool (!validLs l)) := by simp only [sCt, decLs_enc h]
def TctM : Tab := Tab.none.with 110 (pureS sIx)
theorem TctM_ok : TabOk Tryz.prog base TctM := Tab.with_ok Tab.none_ok fix_ok
theorem TctM_mu (f : FuncId) (a : List AVal) (H : Heap) : TctM.mu f a H = none := (rfl)
theorem TctM_fns : TctM.fn 110 = (pureS sIx) := (rfl)
theorem fct_ok : FnOk Tryz.prog base 68 (pureS sCt) := by
 refine pure_of_vc hmix TctM_ok globNone low68 fun args z hs hf => ?_
 unfold sCt at hs
 split at hs
 case h_2 => cases hs
 rename_i vs
 split at hs
 case h_2 => cases hs
 rename_i l hl
 obtain ⟨rfl, wl⟩ := decLs_some hl
 cases hs
 refine ⟨by simp [lf68], ?_⟩
 have u1 := sIx_at wl
 have hb := badI_all l
 cases h : badI l with
 | none =>
  rw [h] at u1 hb
  rw [hb.1 rfl]
  simp [lf68, u1, TctM_mu, TctM_fns]
 | some k =>
  rw [h] at u1 hb
  have : validLs l = false := by
   cases hv : validLs l with
   | false => rfl
   | true => have := hb.2 hv; cases this
  rw [this]
  have hk : (0 : Int) ≤ k := by omega
  simp [lf68, u1, hk, TctM_mu, TctM_fns]
def validLP (l : List Lt) : PVal := .bool (validLs l)
def Tvd : Tab := Tab.none.with 68 (pureS sCt)
theorem Tvd_ok : TabOk Tryz.prog base Tvd := Tab.with_ok Tab.none_ok fct_ok
theorem Tvd_mu (f : FuncId) (a : List AVal) (H : Heap) : Tvd.mu f a H = none := (rfl)
theorem Tvd_fns : Tvd.fn 68 = (pureS sCt) := (rfl)
theorem fvalidL_ok : FnOk Tryz.prog base 26 (pureS (jl validLP)) := by
 refine pure_of_vc hmix Tvd_ok globNone low26 fun args z hs hf => ?_
 obtain ⟨l, wl, rfl, rfl⟩ := jl_some hs
 refine ⟨by simp [lf26], ?_⟩
 have u1 := sCt_at wl
 unfold validLP
 simp [lf26, u1, Tvd_mu, Tvd_fns]
def fewLs (l : List Lt) : Bool := l.all fun x => x.few
def sWeak (L : Lk) : List PVal → Option PVal
 | [.lst vs, c] => match decLs vs with
  | some l => if fewLs l = true then (match L c zPo with | some lk => some (holdsPr (weakL lk l true)) | none => none) else none
  | none => none
 | _ => none
theorem sWeak_at {L : Lk} {l : List Lt} {c : PVal} {lk : Int → Fr} (h : wfLs l) (f : fewLs l = true) (hl : L c zPo = some lk) : sWeak L [.lst (l.map Lt.enc), c] = some (holdsPr (weakL lk l true)) := by simp only [sWeak, decLs_enc h, f, if_true, hl]
def Twk (L : Lk) : Tab := Tab.none.with 66 (pureS (sHolds L))
theorem Twk_mu (L : Lk) (f : FuncId) (a : List AVal) (H : Heap) : (Twk L).mu f a H = none := (rfl)
theorem Twk_fns (L : Lk) : (Twk L).fn 66 = (pureS (sHolds L)) := (rfl)
theorem weakL_step {lk : Int → Fr} {l : List Lt} {i : Nat} {x : Lt} {w : Bool} (hx : l[i]? = some x) : weakL lk (l.drop i) w = if (holdsAt lk x.a).2 = 0 then weakL lk (l.drop (i + 1)) (w && decide ((holdsAt lk x.a).1 = x.n)) else (false, (holdsAt lk x.a).2) := by
 have hi := (List.getElem?_eq_some_iff.1 hx).1
 rw [List.drop_eq_getElem_cons hi, getE hx]
 rfl
set_option maxHeartbeats 4000000 in
theorem fweak_ok {L : Lk} (hh : FnOk Tryz.prog base 66 (pureS (sHolds L))) (hc : ∀ c p, L c p = L c zPo) : FnOk Tryz.prog base 23 (pureS (sWeak L)) := by
 refine pure_of_vc (T := Twk L) hmix (Tab.with_ok Tab.none_ok hh) globNone low23 fun args z hs hf => ?_
 unfold sWeak at hs
 split at hs
 case h_2 => cases hs
 rename_i vs c
 split at hs
 case h_2 => cases hs
 rename_i l hl
 obtain ⟨rfl, wl⟩ := decLs_some hl
 split at hs
 case isFalse => cases hs
 rename_i fl
 split at hs
 case h_2 => cases hs
 rename_i lk hlk
 cases hs
 have hlen := (hf (.lst (l.map Lt.enc)) (by simp)).lst.1
 unfold maxLen at hlen
 simp only [List.length_map] at hlen
 refine ⟨by simp [lf23], ?_⟩
 unfold holdsPr
 obtain ⟨r, hr⟩ : ∃ r, r = weakL lk l true := ⟨_, rfl⟩
 rw [← hr]
 simp [lf23]
 simp only [lf23_B0, vc_block]
 refine loop_ind (fun fr H => ∃ (i : Nat) (w : Bool), i ≤ l.length ∧ fr 1 = .p c ∧ fr 6 = .p (.bool w) ∧ fr 11 = .p (.lst (l.map Lt.enc)) ∧ fr 12 = .p (.int .i64 l.length) ∧ fr 13 = .p (.int .i64 i) ∧ r = weakL lk (l.drop i) w) (fun fr _ => l.length - ivar (fr 13)) ⟨0, true, by omega, by simp, by simp, by simp, by simp, by simp, hr⟩ ?_
 rintro fr H ⟨i, w, hi, f1', f6, f11, f12, f13, hw⟩
 by_cases h : i < l.length
 ·obtain ⟨x, hx⟩ : ∃ x, l[i]? = some x := ⟨_, List.getElem?_eq_getElem h⟩
  have wx : x.wf := wl x (List.mem_of_getElem? hx)
  have fx : x.few = true := List.all_eq_true.1 fl x (List.mem_of_getElem? hx)
  have hxe := getE hx
  have u1 : sHolds L [x.a.enc, c] = some (holdsPr (holdsAt lk x.a)) := sHolds_at wx (lit_few fx (by decide)) (by rw [hc]; exact hlk)
  rw [weakL_step hx] at hw
  generalize holdsAt lk x.a = d at u1 hw
  obtain ⟨is, e⟩ := d
  obtain ⟨a, n⟩ := x
  unfold holdsPr at u1
  dsimp only at u1 hw
  simp only [At.enc] at u1
  by_cases he : e = 0
  case neg =>
   rw [if_neg he] at hw
   have eb : ((e : Int) != 0) = true := by simp; omega
   simp [f1', f6, f11, f12, f13, h, hxe, Lt.enc, u1, eb, hw, getA, getA0, setA, setA0, Twk_mu, Twk_fns]
  subst he
  rw [if_pos rfl] at hw
  have hwr := wrap_succ (i := i) (by omega)
  cases w with
  | false =>
   simp [f1', f6, f11, f12, f13, h, hxe, Lt.enc, u1, hwr, ivar, getA, getA0, setA, setA0, Twk_mu, Twk_fns]
   exact ⟨⟨i + 1, by omega, rfl, by simpa using hw⟩, by omega⟩
  | true =>
   cases is <;> cases n
   all_goals
    simp [f1', f6, f11, f12, f13, h, hxe, Lt.enc, u1, hwr, ivar, getA, getA0, setA, setA0, Twk_mu, Twk_fns]
    exact ⟨⟨i + 1, by omega, rfl, by simpa using hw⟩, by omega⟩
 ·have hil : i = l.length := by omega
  subst hil
  rw [List.drop_length] at hw
  simp only [weakL] at hw
  rw [hw]
  simp [f1', f6, f11, f12, f13]
instance : DecidableEq Lt := fun x y => if h : x.a = y.a ∧ x.n = y.n then .isTrue (by cases x; cases y; obtain ⟨a, b⟩ := h; simp_all) else .isFalse (fun e => h (by rw [e]; exact ⟨rfl, rfl⟩))
def sSameL : List PVal → Option PVal
 | [.lst vs, .lst ws] => match decLs vs, decLs ws with | some l, some m => if l = m then some (.bool true) else none | _, _ => none
 | _ => none
theorem sSameL_at {l : List Lt} (h : wfLs l) : sSameL [.lst (l.map Lt.enc), .lst (l.map Lt.enc)] = some (.bool true) := by simp only [sSameL, decLs_enc h, if_true]
def TslM : Tab := Tab.none.with 33 (pureS (h2 sameAt))
theorem TslM_ok : TabOk Tryz.prog base TslM := Tab.with_ok Tab.none_ok rsamea_ok
theorem TslM_mu (f : FuncId) (a : List AVal) (H : Heap) : TslM.mu f a H = none := (rfl)
theorem TslM_fns : TslM.fn 33 = (pureS (h2 sameAt)) := (rfl)
theorem rsamel_ok : FnOk Tryz.prog base 19 (pureS sSameL) := by
 refine pure_of_vc hmix TslM_ok globNone low19 fun args z hs hf => ?_
 unfold sSameL at hs
 split at hs
 case h_2 => cases hs
 split at hs
 case h_2 => cases hs
 rename_i l m hl hm
 obtain ⟨rfl, wl⟩ := decLs_some hl
 obtain ⟨rfl, wm⟩ := decLs_some hm
 split at hs
 case isFalse => cases hs
 rename_i e
 subst e
 cases hs
 have hlen := (hf (.lst (l.map Lt.enc)) (by simp)).lst.1
 unfold maxLen at hlen
 simp only [List.length_map] at hlen
 refine ⟨by simp [lf19], ?_⟩
 simp [lf19]
 simp only [lf19_B0, vc_block]
 refine loop_ind (fun fr H => ∃ i : Nat, H = [] ∧ i ≤ l.length ∧ fr 0 = .p (.lst (l.map Lt.enc)) ∧ fr 1 = .p (.lst (l.map Lt.enc)) ∧ fr 5 = .p (.int .i64 i)) (fun fr _ => l.length - ivar (fr 5)) ⟨0, rfl, by omega, by simp, by simp, by simp⟩ ?_
 rintro fr H ⟨i, rfl, hi, f0, f1', f5⟩
 by_cases h : i < l.length
 ·obtain ⟨x, hx⟩ : ∃ x, l[i]? = some x := ⟨_, List.getElem?_eq_getElem h⟩
  have wx : x.a.p.wf := wl x (List.mem_of_getElem? hx)
  have hxe := getE hx
  have u1 : h2 sameAt [x.a.enc, x.a.enc] = some (.bool true) := sameAt_self wx
  simp only [At.enc] at u1
  have hwr := wrap_succ (i := i) (by omega)
  simp [f0, f1', f5, h, hxe, Lt.enc, u1, hwr, ivar, TslM_mu, TslM_fns]
  exact ⟨⟨i + 1, by omega, rfl⟩, by omega⟩
 ·have hil : i = l.length := by omega
  subst hil
  simp [f0, f1', f5]
def fewA1 (x : Lt) : Bool := fewPo x.a.p
def fewLits (l : List Lt) : Bool := (l.take 12).all fewA1 && decide (l.length ≤ 10)
def fewLitsP (l : List Lt) : PVal := .bool (fewLits l)
def TalM : Tab := Tab.none.with 9 (pureS (h1 fewAt))
theorem TalM_ok : TabOk Tryz.prog base TalM := Tab.with_ok Tab.none_ok aatom_ok
theorem TalM_mu (f : FuncId) (a : List AVal) (H : Heap) : TalM.mu f a H = none := (rfl)
theorem TalM_fns : TalM.fn 9 = (pureS (h1 fewAt)) := (rfl)
theorem alits_ok : FnOk Tryz.prog base 10 (pureS (jl fewLitsP)) := by
 refine pure_of_vc hmix TalM_ok globNone low10 fun args z hs hf => ?_
 obtain ⟨l, wl, rfl, rfl⟩ := jl_some hs
 refine ⟨by simp [lf10], ?_⟩
 unfold fewLitsP
 obtain ⟨r, hr⟩ : ∃ r, r = fewLits l := ⟨_, rfl⟩
 rw [← hr]
 simp [lf10]
 simp only [lf10_B0, vc_block]
 refine loop_ind (fun fr H => ∃ i : Nat, H = [] ∧ i ≤ l.length ∧ i ≤ 12 ∧ (l.take i).all fewA1 = true ∧ fr 0 = .p (.lst (l.map Lt.enc)) ∧ fr 3 = .p (.int .i64 i)) (fun fr _ => 12 - ivar (fr 3)) ⟨0, rfl, by omega, by omega, by simp, by simp, by simp⟩ ?_
 rintro fr H ⟨i, rfl, hi, hi20, hall, f0, f3⟩
 by_cases hlt : i < l.length ∧ i < 12
 ·obtain ⟨h1', h2⟩ := hlt
  have h2I : (i : Int) < 12 := by omega
  obtain ⟨b, hb⟩ : ∃ b, l[i]? = some b := ⟨_, List.getElem?_eq_getElem h1'⟩
  have hbe := getE hb
  have hw := wrap_succ (i := i) (by omega)
  have htk := take_succ_get hb
  have wb : b.a.p.wf := wl b (List.mem_of_getElem? hb)
  have hcx : h1 fewAt [b.a.enc] = some (.bool (fewA1 b)) := h1_at wb
  simp only [At.enc] at hcx
  cases hf1 : fewA1 b with
  | false =>
   rw [hf1] at hcx
   have : r = false := by
    rw [hr]
    unfold fewLits
    have : (l.take 12).all fewA1 = false := by
     cases h : (l.take 12).all fewA1 with
     | false => rfl
     | true =>
      have := List.all_eq_true.1 h b (List.mem_of_getElem? (show (l.take 12)[i]? = some b by rw [List.getElem?_take, if_pos h2]; exact hb))
      rw [hf1] at this
      cases this
    rw [this]; rfl
   simp [f0, f3, h1', h2I, hbe, Lt.enc, hcx, this, TalM_mu, TalM_fns]
  | true =>
   rw [hf1] at hcx
   simp [f0, f3, h1', h2I, hbe, Lt.enc, hcx, hw, ivar, TalM_mu, TalM_fns]
   exact ⟨⟨i + 1, by omega, by omega, by
    have : (l.take (i + 1)).all fewA1 = true := by rw [htk, List.all_append, hall]; simp [hf1]
    simpa using this, by omega⟩, by omega⟩
 ·have hval : r = decide (l.length ≤ 10) := by
   rw [hr]
   unfold fewLits
   by_cases h1' : i < l.length
   ·have hi12 : i = 12 := by omega
    subst hi12
    rw [hall]; rfl
   ·have hil : i = l.length := by omega
    rw [List.take_of_length_le (by omega)] at hall ⊢
    rw [hall]; rfl
  by_cases h1' : i < l.length
  ·have h2I : ¬ (i : Int) < 12 := by omega
   have h3I : ¬ (l.length : Int) ≤ 10 := by omega
   have h3 : ¬ l.length ≤ 10 := by omega
   rw [decide_eq_false h3] at hval
   simp [f0, f3, h1', h2I, h3I, hval]
  ·by_cases h3 : l.length ≤ 10
   ·have h3I : (l.length : Int) ≤ 10 := by omega
    rw [decide_eq_true h3] at hval
    simp [f0, f3, h1', h3I, hval]
   ·have h3I : ¬ (l.length : Int) ≤ 10 := by omega
    rw [decide_eq_false h3] at hval
    simp [f0, f3, h1', h3I, hval]
theorem few_lit {x : Lt} (h : fewPo x.a.p = true) : x.few = true := by
 unfold fewPo at h
 rw [Bool.and_eq_true, Bool.and_eq_true] at h
 have := of_decide_eq_true h.1.2
 exact decide_eq_true (by omega)
theorem few_lits {l : List Lt} (h : fewLits l = true) : fewLs l = true ∧ l.length ≤ 10 := by
 unfold fewLits at h
 rw [Bool.and_eq_true] at h
 have hl := of_decide_eq_true h.2
 have ha := h.1
 rw [List.take_of_length_le (by omega)] at ha
 exact ⟨List.all_eq_true.2 fun x hx => few_lit (List.all_eq_true.1 ha x hx), hl⟩
end Go.Proofs.YtcfklmjgofknjaaGreat
