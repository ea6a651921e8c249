/-
  FeasTells and FeasOf answer true on all values. No conditions.
-/
import Derived.Test.YtepfpgnjpkcgmaaGreatFeasF
set_option linter.unusedSimpArgs false
set_option linter.unnecessarySimpa false
set_option linter.unusedVariables false
set_option linter.constructorNameAsVariable false

/-
 law22: FeasTells and FeasOf answer true.
-/
namespace Go.Proofs.YtepfpgnjpkcgmaaGreat
open Go Go.Abs Go.Limbs
variable {base : Prot}
set_option maxRecDepth 20000
attribute [local irreducible] vc
attribute [local simp] pureS touchV freezeL fuel shiftV u64 au
theorem tiny_few {l : List Sp} (h : fewS22 l = true) : tinyL l = true ∧ l.length ≤ 10 := by
 unfold fewS22 at h
 rw [Bool.and_eq_true] at h
 have hl := of_decide_eq_true h.2
 have ha := h.1
 rw [List.take_of_length_le (by omega)] at ha
 refine ⟨?_, hl⟩
 unfold tinyL
 rw [Bool.and_eq_true]
 refine ⟨decide_eq_true (by omega), List.all_eq_true.2 fun x hx => ?_⟩
 have := List.all_eq_true.1 ha x hx
 unfold fewSp fewF1 at this
 unfold tinySp tinyF
 simp only [Bool.and_eq_true, decide_eq_true_eq] at this ⊢
 omega
theorem same_self (l : List Sp) (w : wfSs l) : ss2 sameSs [.lst (l.map Sp.enc), .lst (l.map Sp.enc)] = some (.bool true) := by
 rw [ss2_at w w]; unfold sameSs; rw [decide_eq_true rfl]
theorem wf_insideS {x : Sp} (w : x.wf) : (insideS x).1.wf := by
 unfold insideS
 split
 ·exact wf_ofQ _
 split
 ·exact w.1
 split
 ·exact w.2
 split
 ·exact wf_heldQ _
 split
 ·exact wf_heldQ _
 ·exact wf_heldQ _
theorem wf_pickS {l : List Sp} {k : Int} (w : wfSs l) : (pickS l k).1.wf := by
 unfold pickS
 split
 ·exact wf_zF
 ·split
  ·rename_i x hx; exact wf_insideS (w x (List.mem_of_getElem? hx))
  ·exact wf_zF
def Tl22t : Tab := ((((((((((((((((((((Tab.none.with 56 (pureS (s1 few22P))).with 14 (pureS (f1 fewP1))).with 57 (pureS sAwk)).with 58 (pureS sPick)).with 59 (pureS sPick)).with 60 (pureS (s1 validS))).with 61 (pureS (s1 validS))).with 63 (pureS (ks2 100000 meetP))).with 64 (pureS (ks2 1000 meetP))).with 65 (pureS (ks2 1000 joinP))).with 66 (pureS (ks2 900 joinP))).with 67 (pureS (ks1 100000 otherP))).with 68 (pureS (ks1 100000 otherP))).with 69 (pureS (s1x hasP))).with 70 (pureS (s1x hasP))).with 71 (pureS (f1 pointP))).with 72 (pureS (f1 pointP))).with 73 (pureS sAll)).with 74 (pureS sAll)).with 62 (pureS (ss2 sameSs))).with 29 (pureS (f2 sameP))
theorem Tl22t_ok : TabOk Tryz.prog base Tl22t := Tab.with_ok (Tab.with_ok (Tab.with_ok (Tab.with_ok (Tab.with_ok (Tab.with_ok (Tab.with_ok (Tab.with_ok (Tab.with_ok (Tab.with_ok (Tab.with_ok (Tab.with_ok (Tab.with_ok (Tab.with_ok (Tab.with_ok (Tab.with_ok (Tab.with_ok (Tab.with_ok (Tab.with_ok (Tab.with_ok (Tab.with_ok Tab.none_ok few22_ok) arat_ok) awake22_ok) fpick_ok) rpick_ok) fvalid_ok) rfvalid_ok) fmeet_ok) rmeet_ok) fjoin_ok) rjoin_ok) fother_ok) rother_ok) fhas_ok) rhas_ok) fpoint_ok) rpoint_ok) fall_ok) rall_ok) rsamesp_ok) rsame_ok
theorem Tl22t_mu (f : FuncId) (a : List AVal) (H : Heap) : Tl22t.mu f a H = none := (rfl)
theorem Tl22t_fns : Tl22t.fn 56 = (pureS (s1 few22P)) ∧ Tl22t.fn 14 = (pureS (f1 fewP1)) ∧ Tl22t.fn 57 = (pureS sAwk) ∧ Tl22t.fn 58 = (pureS sPick) ∧ Tl22t.fn 59 = (pureS sPick) ∧ Tl22t.fn 60 = (pureS (s1 validS)) ∧ Tl22t.fn 61 = (pureS (s1 validS)) ∧ Tl22t.fn 63 = (pureS (ks2 100000 meetP)) ∧ Tl22t.fn 64 = (pureS (ks2 1000 meetP)) ∧ Tl22t.fn 65 = (pureS (ks2 1000 joinP)) ∧ Tl22t.fn 66 = (pureS (ks2 900 joinP)) ∧ Tl22t.fn 67 = (pureS (ks1 100000 otherP)) ∧ Tl22t.fn 68 = (pureS (ks1 100000 otherP)) ∧ Tl22t.fn 69 = (pureS (s1x hasP)) ∧ Tl22t.fn 70 = (pureS (s1x hasP)) ∧ Tl22t.fn 71 = (pureS (f1 pointP)) ∧ Tl22t.fn 72 = (pureS (f1 pointP)) ∧ Tl22t.fn 73 = (pureS sAll) ∧ Tl22t.fn 74 = (pureS sAll) ∧ Tl22t.fn 62 = (pureS (ss2 sameSs)) ∧ Tl22t.fn 29 = (pureS (f2 sameP)) := ⟨rfl, rfl, rfl, rfl, rfl, rfl, rfl, rfl, rfl, rfl, rfl, rfl, rfl, rfl, rfl, rfl, rfl, rfl, rfl, rfl, rfl⟩
def sLaw22t : List PVal → Option PVal
 | [.lst vs, .lst ws, a, .int .i64 _] => match decSs vs, decSs ws, decF a with | some _, some _, some _ => some (.bool true) | _, _, _ => none
 | _ => none
theorem sLaw22t_at {s u : List Sp} {x : Fr} {k : Int} (ws : wfSs s) (wu : wfSs u) (wx : x.wf) : sLaw22t [.lst (s.map Sp.enc), .lst (u.map Sp.enc), x.enc, .int .i64 k] = some (.bool true) := by
 simp only [sLaw22t, decSs_enc ws, decSs_enc wu, decF_enc wx]
set_option maxHeartbeats 4000000 in
theorem feasTells_ok : FnOk Tryz.prog base 7 (pureS sLaw22t) := by
 refine pure_of_vc hmix Tl22t_ok globNone low7 fun args z hs hf => ?_
 unfold sLaw22t at hs
 split at hs
 case h_2 => cases hs
 rename_i vs ws a k
 split at hs
 case h_2 => cases hs
 rename_i s u x hs1 hu1 hx1
 obtain ⟨rfl, ws⟩ := decSs_some hs1
 obtain ⟨rfl, wu⟩ := decSs_some hu1
 obtain ⟨rfl, wx⟩ := decF_some hx1
 cases hs
 refine ⟨by simp [lf7], ?_⟩
 have aw := sAwk_nil
 have q1 : s1 few22P [.lst (s.map Sp.enc)] = some (.bool (fewS22 s)) := s1_at ws
 have q2 : s1 few22P [.lst (u.map Sp.enc)] = some (.bool (fewS22 u)) := s1_at wu
 have q3 : f1 fewP1 [x.enc] = some (.bool (fewF1 x)) := f1_at wx
 cases h1 : fewS22 s with
 | false => rw [h1] at q1; simp only [Fr.enc]; simp [lf7, q1, aw, fillS, Tl22t_mu, Tl22t_fns]
 | true =>
 rw [h1] at q1
 cases h2 : fewS22 u with
 | false => rw [h2] at q2; simp only [Fr.enc]; simp [lf7, q1, q2, aw, fillS, Tl22t_mu, Tl22t_fns]
 | true =>
 rw [h2] at q2
 cases h3 : fewF1 x with
 | false => rw [h3] at q3; simp only [Fr.enc] at q3 ⊢; simp [lf7, q1, q2, q3, aw, fillS, Tl22t_mu, Tl22t_fns]
 | true =>
 rw [h3] at q3
 obtain ⟨t1, l1⟩ := tiny_few h1
 obtain ⟨t2, l2⟩ := tiny_few h2
 have p1 := sPick_at (k := k) ws t1
 have wp := wf_pickS (k := k) ws
 have p2 : f2 sameP [(pickS s k).1.enc, (pickS s k).1.enc] = some (.bool true) := by rw [f2_at wp wp, sameP_dec, decide_eq_true rfl]
 have v1 : s1 validS [.lst (s.map Sp.enc)] = some (.bool (validP none s)) := s1_at ws
 have m1 : ks2 100000 meetP [.lst (s.map Sp.enc), .lst (u.map Sp.enc)] = some (.lst ((meetL s u).map Sp.enc)) := ks2_at ws wu (decide_eq_true (by omega)) (decide_eq_true (by omega))
 have m2 : ks2 1000 meetP [.lst (s.map Sp.enc), .lst (u.map Sp.enc)] = some (.lst ((meetL s u).map Sp.enc)) := ks2_at ws wu (decide_eq_true (by omega)) (decide_eq_true (by omega))
 have m3 := same_self _ (wf_meetL ws wu)
 have j1 : ks2 1000 joinP [.lst (s.map Sp.enc), .lst (u.map Sp.enc)] = some (.lst ((joinL s u).map Sp.enc)) := ks2_at ws wu (decide_eq_true (by omega)) (decide_eq_true (by omega))
 have j2 : ks2 900 joinP [.lst (s.map Sp.enc), .lst (u.map Sp.enc)] = some (.lst ((joinL s u).map Sp.enc)) := ks2_at ws wu (decide_eq_true (by omega)) (decide_eq_true (by omega))
 have j3 := same_self _ (wf_joinL ws wu)
 have o1 : ks1 100000 otherP [.lst (s.map Sp.enc)] = some (.lst ((otherL s).map Sp.enc)) := ks1_at ws (decide_eq_true (by omega))
 have o3 := same_self _ (wf_otherL ws)
 have a1 : s1x hasP [.lst (s.map Sp.enc), x.enc] = some (.bool (hasS s x)) := s1x_at ws wx
 have i1 : f1 pointP [x.enc] = some (.lst ((pointS x).map Sp.enc)) := f1_at wx
 have i3 := same_self _ (wf_pointS wx)
 have e1 : sAll [] = some (.lst ([allSp].map Sp.enc)) := rfl
 have e3 := same_self [allSp] (by intro y hy; rw [List.mem_singleton] at hy; subst hy; exact ⟨wf_zF, wf_zF⟩)
 obtain ⟨PK, hPK⟩ : ∃ r, r = pickS s k := ⟨_, rfl⟩
 obtain ⟨M, hM⟩ : ∃ r, r = (meetL s u).map Sp.enc := ⟨_, rfl⟩
 obtain ⟨J, hJ⟩ : ∃ r, r = (joinL s u).map Sp.enc := ⟨_, rfl⟩
 obtain ⟨O, hO⟩ : ∃ r, r = (otherL s).map Sp.enc := ⟨_, rfl⟩
 obtain ⟨I, hI⟩ : ∃ r, r = (pointS x).map Sp.enc := ⟨_, rfl⟩
 obtain ⟨E, hE⟩ : ∃ r, r = [allSp].map Sp.enc := ⟨_, rfl⟩
 rw [← hPK] at p1 p2
 rw [← hM] at m1 m2 m3
 rw [← hJ] at j1 j2 j3
 rw [← hO] at o1 o3
 rw [← hI] at i1 i3
 rw [← hE] at e1 e3
 simp only [pairF, Fr.enc] at q3 p1 p2 a1 i1 ⊢
 clear hPK hM hJ hO hI hE hf h1 h2 h3
 simp [lf7, q1, q2, q3, aw, p1, p2, v1, m1, m2, m3, j1, j2, j3, o1, o3, a1, i1, i3, e1, e3, fillS, Tl22t_mu, Tl22t_fns]
end Go.Proofs.YtepfpgnjpkcgmaaGreat
