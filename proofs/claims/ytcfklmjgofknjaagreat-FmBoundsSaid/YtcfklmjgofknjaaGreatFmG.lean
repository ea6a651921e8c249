/-
  FmTrue answers true on all values. No conditions.
-/
import Derived.Test.YtcfklmjgofknjaaGreatFmF
set_option linter.unusedSimpArgs false
set_option linter.unnecessarySimpa false
set_option linter.unusedVariables false
set_option linter.constructorNameAsVariable false

/-
 law23: FmTells and FmTrue answer true.
-/
namespace Go.Proofs.YtcfklmjgofknjaaGreat
open Go Go.Abs Go.Limbs
variable {base : Prot}
set_option maxRecDepth 20000
attribute [local irreducible] vc
attribute [local simp] pureS touchV freezeL fuel shiftV u64 au
theorem wf_lessC (p q : Po) : (lessC p q).1.p.wf := by
 unfold lessC
 split
 ·split
  ·exact wf_makeAt
  ·exact wf_zPo
 ·exact wf_zPo
theorem lit_lessC {p q : Po} {n m : Nat} (hp : p.lit n = true) (hq : q.lit m = true) : (lessC p q).1.p.lit (n + m) = true := by
 unfold lessC
 split
 ·split
  ·exact lit_make (lit_add hp (lit_scale hq))
  ·exact lit_zPo _
 ·exact lit_zPo _
theorem wfLs_nil : wfLs [] := fun x hx => by cases hx
theorem wf_twoL {a b : Lt} (wa : a.wf) (wb : b.wf) (v : Int) : wfLs (twoL a b v).1 := by
 unfold twoL twoC
 split
 ·split
  ·split
   ·split
    ·split
     ·intro x hx
      simp only [List.mem_cons, List.not_mem_nil, or_false] at hx
      rcases hx with rfl | rfl | rfl
      ·exact wa
      ·exact wb
      ·exact wf_makeAt
     ·exact wfLs_nil
    ·exact wfLs_nil
   ·exact wfLs_nil
  ·exact wfLs_nil
 ·exact wfLs_nil
theorem few_twoL {a b : Lt} (fa : a.a.p.lit 10 = true) (fb : b.a.p.lit 10 = true) (v : Int) : fewLs (twoL a b v).1 = true := by
 have f0 := lit_sidesL fa fb v
 unfold twoL twoC
 split
 ·split
  ·split
   ·split
    ·split
     ·refine List.all_eq_true.2 fun x hx => ?_
      simp only [List.mem_cons, List.not_mem_nil, or_false] at hx
      rcases hx with rfl | rfl | rfl
      ·exact lit_mono fa (by decide)
      ·exact lit_mono fb (by decide)
      ·exact lit_mono (lit_make (lit_add (lit_scale f0.2) (lit_scale f0.1))) (by decide)
     ·rfl
    ·rfl
   ·rfl
  ·rfl
 ·rfl
theorem wf_threeL {a b c : Lt} (wa : a.wf) (wb : b.wf) (wc : c.wf) (v : Int) : wfLs (threeL a b c v).1 := by
 unfold threeL threeC
 split
 ·split
  ·split
   ·split
    ·split
     ·split
      ·intro x hx
       simp only [List.mem_cons, List.not_mem_nil, or_false] at hx
       rcases hx with rfl | rfl | rfl | rfl | rfl
       ·exact wa
       ·exact wb
       ·exact wc
       ·exact wf_lessC _ _
       ·exact wf_lessC _ _
      ·exact wfLs_nil
     ·exact wfLs_nil
    ·exact wfLs_nil
   ·exact wfLs_nil
  ·exact wfLs_nil
 ·exact wfLs_nil
theorem few_threeL {a b c : Lt} (fa : a.a.p.lit 10 = true) (fb : b.a.p.lit 10 = true) (fc : c.a.p.lit 10 = true) (v : Int) : fewLs (threeL a b c v).1 = true := by
 have f0 := lit_sidesL fa fb v
 unfold threeL threeC
 split
 ·split
  ·split
   ·split
    ·split
     ·split
      ·refine List.all_eq_true.2 fun x hx => ?_
       simp only [List.mem_cons, List.not_mem_nil, or_false] at hx
       rcases hx with rfl | rfl | rfl | rfl | rfl
       ·exact lit_mono fa (by decide)
       ·exact lit_mono fb (by decide)
       ·exact lit_mono fc (by decide)
       ·exact lit_mono (lit_lessC (lit_solve f0.1) (lit_solve fc)) (by decide)
       ·exact lit_mono (lit_lessC (lit_solve fc) (lit_solve f0.2)) (by decide)
      ·rfl
     ·rfl
    ·rfl
   ·rfl
  ·rfl
 ·rfl
theorem fewPo_lit {p : Po} (h : fewPo p = true) : p.lit 10 = true := by
 unfold fewPo at h
 rw [Bool.and_eq_true, Bool.and_eq_true] at h
 exact h.1.2
def Tm23u : Tab := ((((((Tab.none.with 9 (pureS (h1 fewAt))).with 11 (pureS sFewB23)).with 22 (pureS sBinds23)).with 12 (pureS sAwk)).with 15 (pureS (j2v twoP))).with 17 (pureS (j3v threeP))).with 27 (pureS sTru)
theorem Tm23u_ok : TabOk Tryz.prog base Tm23u := Tab.with_ok (Tab.with_ok (Tab.with_ok (Tab.with_ok (Tab.with_ok (Tab.with_ok (Tab.with_ok Tab.none_ok aatom_ok) fewB23_ok) binds23_ok) awake23_ok) ftwo_ok) fthree_ok) tru23_ok
theorem Tm23u_mu (f : FuncId) (a : List AVal) (H : Heap) : Tm23u.mu f a H = none := (rfl)
theorem Tm23u_fns : Tm23u.fn 9 = (pureS (h1 fewAt)) ∧ Tm23u.fn 11 = (pureS sFewB23) ∧ Tm23u.fn 22 = (pureS sBinds23) ∧ Tm23u.fn 12 = (pureS sAwk) ∧ Tm23u.fn 15 = (pureS (j2v twoP)) ∧ Tm23u.fn 17 = (pureS (j3v threeP)) ∧ Tm23u.fn 27 = (pureS sTru) := ⟨rfl, rfl, rfl, rfl, rfl, rfl, rfl⟩
def sLaw23u : List PVal → Option PVal
 | [a, b, c, .int .i64 _, .lst bs] => match decLt a, decLt b, decLt c, decBs bs with | some _, some _, some _, some _ => some (.bool true) | _, _, _, _ => none
 | _ => none
theorem sLaw23u_at {x y z : Lt} {v : Int} {l : List Bd} (wx : x.wf) (wy : y.wf) (wz : z.wf) (wl : wfB l) : sLaw23u [x.enc, y.enc, z.enc, .int .i64 v, .lst (l.map Bd.enc)] = some (.bool true) := by
 simp only [sLaw23u, decLt_enc wx, decLt_enc wy, decLt_enc wz, decBs_enc wl]
set_option maxHeartbeats 4000000 in
theorem fmTrue_ok : FnOk Tryz.prog base 4 (pureS sLaw23u) := by
 refine pure_of_vc hmix Tm23u_ok globNone low4 fun args z hs hf => ?_
 unfold sLaw23u at hs
 split at hs
 case h_2 => cases hs
 rename_i va vb vc' v vs
 split at hs
 case h_2 => cases hs
 rename_i a b c l ha hb hc hl
 obtain ⟨rfl, wa⟩ := decLt_some ha
 obtain ⟨rfl, wb⟩ := decLt_some hb
 obtain ⟨rfl, wc⟩ := decLt_some hc
 obtain ⟨rfl, wl⟩ := decBs_some hl
 cases hs
 refine ⟨by simp [lf4], ?_⟩
 have aw := sAwk_nil
 have g1' : h1 fewAt [a.a.enc] = some (.bool (fewPo a.a.p)) := h1_at wa
 have g2' : h1 fewAt [b.a.enc] = some (.bool (fewPo b.a.p)) := h1_at wb
 have g3' : h1 fewAt [c.a.enc] = some (.bool (fewPo c.a.p)) := h1_at wc
 have g4' := sFewB23_at wl
 have t1 : fewPo a.a.p = true → fewPo b.a.p = true → j2v twoP [a.enc, b.enc, .int .i64 v] = some (pairLs (twoL a b v)) := fun h h' => j2v_at wa (few_lit h) wb (few_lit h')
 have t2 : fewPo a.a.p = true → fewPo b.a.p = true → fewPo c.a.p = true → j3v threeP [a.enc, b.enc, c.enc, .int .i64 v] = some (pairLs (threeL a b c v)) := fun h h' h2 => j3v_at wa (few_lit h) wb (few_lit h') wc (few_lit h2)
 have q1 : fewBV l = true → sBinds23 [.lst (l.map Bd.enc)] = some (.lst (l.map Bd.enc)) := fun h => sBinds23_at wl (fewBV_len h)
 have q2 : fewPo a.a.p = true → fewPo b.a.p = true → sTru [.lst ((twoL a b v).1.map Lt.enc), .lst (l.map Bd.enc)] = some (.bool (tru1 (lookB l) (twoL a b v).1)) := fun h h' => sTru_at (wf_twoL wa wb v) (few_twoL (fewPo_lit h) (fewPo_lit h') v) wl
 have q3 : fewPo a.a.p = true → fewPo b.a.p = true → fewPo c.a.p = true → sTru [.lst ((threeL a b c v).1.map Lt.enc), .lst (l.map Bd.enc)] = some (.bool (tru1 (lookB l) (threeL a b c v).1)) := fun h h' h2 => sTru_at (wf_threeL wa wb wc v) (few_threeL (fewPo_lit h) (fewPo_lit h') (fewPo_lit h2) v) wl
 have e1 := two_law (lookB l) a b v
 have e2 := three_law (lookB l) a b c v
 generalize twoL a b v = T2 at t1 q2 e1
 generalize threeL a b c v = T3 at t2 q3 e2
 obtain ⟨k2, n2⟩ := T2
 obtain ⟨k3', n3⟩ := T3
 dsimp only at q2 q3 e1 e2
 unfold pairLs at t1 t2
 dsimp only at t1 t2
 obtain ⟨⟨ak, ap, aa, ab⟩, an⟩ := a
 obtain ⟨⟨bk, bp, ba, bb⟩, bn⟩ := b
 obtain ⟨⟨ck, cp, ca, cb⟩, cn⟩ := c
 dsimp only at g1' g2' g3' t1 t2 q2 q3
 generalize fewPo ap = f1' at g1' t1 t2 q2 q3
 generalize fewPo bp = f2' at g2' t1 t2 q2 q3
 generalize fewPo cp = f3' at g3' t2 q3
 generalize fewBV l = f4' at g4' q1
 simp only [At.enc, Lt.enc] at g1' g2' g3' t1 t2 ⊢
 cases f1' with
 | false => simp [lf4, g1', aw, Tm23u_mu, Tm23u_fns]
 | true =>
 cases f2' with
 | false => simp [lf4, g1', g2', aw, Tm23u_mu, Tm23u_fns]
 | true =>
 cases f3' with
 | false => simp [lf4, g1', g2', g3', aw, Tm23u_mu, Tm23u_fns]
 | true =>
 cases f4' with
 | false => simp [lf4, g1', g2', g3', g4', aw, Tm23u_mu, Tm23u_fns]
 | true =>
 have t1 := t1 rfl rfl
 have t2 := t2 rfl rfl rfl
 have q1 := q1 rfl
 have q2 := q2 rfl rfl
 have q3 := q3 rfl rfl rfl
 by_cases h2 : n2 = 0
 ·subst h2
  obtain ⟨u1, u2⟩ := e1.1 rfl
  rw [u1] at q2
  by_cases h3 : n3 = 0
  ·subst h3
   obtain ⟨w1, w2⟩ := e2.1 rfl
   rw [w1] at q3
   simp [lf4, g1', g2', g3', g4', aw, t1, t2, q1, q2, q3, u2, w2, Tm23u_mu, Tm23u_fns]
  ·have w3 := e2.2 h3
   subst w3
   have eb : ((n3 : Int) == 0) = false := by simp; omega
   have ec : ((n3 : Int) != 0) = true := by simp; omega
   simp [lf4, g1', g2', g3', g4', aw, t1, t2, q1, q2, u2, eb, ec, Tm23u_mu, Tm23u_fns]
 ·have u3 := e1.2 h2
  subst u3
  have fb : ((n2 : Int) == 0) = false := by simp; omega
  have fc : ((n2 : Int) != 0) = true := by simp; omega
  by_cases h3 : n3 = 0
  ·subst h3
   obtain ⟨w1, w2⟩ := e2.1 rfl
   rw [w1] at q3
   simp [lf4, g1', g2', g3', g4', aw, t1, t2, q1, q3, w2, fb, fc, Tm23u_mu, Tm23u_fns]
  ·have w3 := e2.2 h3
   subst w3
   have eb : ((n3 : Int) == 0) = false := by simp; omega
   have ec : ((n3 : Int) != 0) = true := by simp; omega
   simp [lf4, g1', g2', g3', g4', aw, t1, t2, q1, fb, fc, eb, ec, Tm23u_mu, Tm23u_fns]
end Go.Proofs.YtcfklmjgofknjaaGreat
