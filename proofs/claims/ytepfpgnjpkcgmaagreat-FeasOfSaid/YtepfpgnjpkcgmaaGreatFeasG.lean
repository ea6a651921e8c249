/-
  FeasTells and FeasOf answer true on all values. No conditions.
-/
import Derived.Test.YtepfpgnjpkcgmaaGreatFeasF
set_option linter.unusedSimpArgs false
set_option linter.unnecessarySimpa false
set_option linter.unusedVariables false
set_option linter.constructorNameAsVariable false

/-
 law22: FeasTells and FeasOf answer true.
-/
namespace Go.Proofs.YtepfpgnjpkcgmaaGreat
open Go Go.Abs Go.Limbs
variable {base : Prot}
set_option maxRecDepth 20000
attribute [local irreducible] vc
attribute [local simp] pureS touchV freezeL fuel shiftV u64 au
theorem same_self (l : List Sp) (w : wfSs l) : ss2 sameSs [.lst (l.map Sp.enc), .lst (l.map Sp.enc)] = some (.bool true) := by
 rw [ss2_at w w]; unfold sameSs; rw [decide_eq_true rfl]
def Tl22o : Tab := ((((((Tab.none.with 35 (pureS (h1 fewAt))).with 75 (pureS sFewB22)).with 78 (pureS sBinds22)).with 57 (pureS sAwk)).with 76 (pureS (sOfA L22))).with 79 (pureS sROfA)).with 62 (pureS (ss2 sameSs))
theorem Tl22o_ok : TabOk Tryz.prog base Tl22o := Tab.with_ok (Tab.with_ok (Tab.with_ok (Tab.with_ok (Tab.with_ok (Tab.with_ok (Tab.with_ok Tab.none_ok aatom_ok) fewB22_ok) binds22_ok) awake22_ok) of22_ok) rof_ok) rsamesp_ok
theorem Tl22o_mu (f : FuncId) (a : List AVal) (H : Heap) : Tl22o.mu f a H = none := (rfl)
theorem Tl22o_fns : Tl22o.fn 35 = (pureS (h1 fewAt)) ∧ Tl22o.fn 75 = (pureS sFewB22) ∧ Tl22o.fn 78 = (pureS sBinds22) ∧ Tl22o.fn 57 = (pureS sAwk) ∧ Tl22o.fn 76 = (pureS (sOfA L22)) ∧ Tl22o.fn 79 = (pureS sROfA) ∧ Tl22o.fn 62 = (pureS (ss2 sameSs)) := ⟨rfl, rfl, rfl, rfl, rfl, rfl, rfl⟩
def sLaw22o : List PVal → Option PVal
 | [a, .bool _, .int .i64 _, .lst bs] => match decAt a, decBs bs with | some _, some _ => some (.bool true) | _, _ => none
 | _ => none
theorem sLaw22o_at {x : At} {nt : Bool} {v : Int} {l : List Bd} (wx : x.p.wf) (wl : wfB l) : sLaw22o [x.enc, .bool nt, .int .i64 v, .lst (l.map Bd.enc)] = some (.bool true) := by
 simp only [sLaw22o, decAt_enc wx, decBs_enc wl]
theorem wf_turnS {nt : Bool} {s : List Sp} (h : wfSs s) : wfSs (turnS nt s) := by
 unfold turnS
 split
 ·exact wf_otherL h
 ·exact h
theorem wf_ofAt {lk : Int → Fr} {x : At} {nt : Bool} {v : Int} : wfSs (ofAt lk x nt v).1 := by
 have hn : wfSs [] := fun y hy => by cases hy
 unfold ofAt
 split
 ·split
  ·split
   ·exact wf_turnS (wf_cutS (wf_quoF _ _))
   ·exact hn
  ·exact hn
 ·exact hn
theorem few_of_at {x : At} (h : fewPo x.p = true) : x.p.few = true := by
 unfold fewPo at h
 simp only [Bool.and_eq_true, decide_eq_true_eq] at h
 exact decide_eq_true (by omega)
theorem len_of_few {l : List Bd} (h : fewB l = true) : l.length ≤ 12 := by
 unfold fewB at h
 rw [Bool.and_eq_true] at h
 exact of_decide_eq_true h.2
set_option maxHeartbeats 4000000 in
theorem feasOf_ok : FnOk Tryz.prog base 8 (pureS sLaw22o) := by
 refine pure_of_vc hmix Tl22o_ok globNone low8 fun args z hs hf => ?_
 unfold sLaw22o at hs
 split at hs
 case h_2 => cases hs
 rename_i a nt v bs
 split at hs
 case h_2 => cases hs
 rename_i x l hx hbs
 obtain ⟨rfl, wx⟩ := decAt_some hx
 obtain ⟨rfl, wl⟩ := decBs_some hbs
 cases hs
 refine ⟨by simp [lf8], ?_⟩
 have aw := sAwk_nil
 have q1 : h1 fewAt [x.enc] = some (.bool (fewPo x.p)) := h1_at wx
 have q2 := sFewB22_at wl
 cases hf1 : fewPo x.p with
 | false => rw [hf1] at q1; simp only [At.enc, Po.enc] at q1 ⊢; simp [lf8, q1, aw, fillS, Tl22o_mu, Tl22o_fns]
 | true =>
 rw [hf1] at q1
 cases hf2 : fewB l with
 | false => rw [hf2] at q2; simp only [At.enc, Po.enc] at q1 ⊢; simp [lf8, q1, q2, aw, fillS, Tl22o_mu, Tl22o_fns]
 | true =>
 rw [hf2] at q2
 have hl := len_of_few hf2
 have b1 := sBinds22_at wl (by omega)
 have c1 := sOfA_at (L := L22) (nt := nt) (v := v) wx (few_of_at hf1) (L22_at wl (by omega))
 have c2 := sROfA_at (nt := nt) (v := v) wx (few_of_at hf1) wl
 have c3 := same_self _ (wf_ofAt (lk := lookB l) (x := x) (nt := nt) (v := v))
 obtain ⟨R, hR⟩ : ∃ R, R = ofAt (lookB l) x nt v := ⟨_, rfl⟩
 rw [← hR] at c1 c2 c3
 obtain ⟨S, hS⟩ : ∃ S, S = R.1.map Sp.enc := ⟨_, rfl⟩
 unfold pairSs at c1 c2
 rw [← hS] at c1 c2 c3
 simp only [At.enc, Po.enc] at q1 c1 c2 ⊢
 simp [lf8, q1, q2, aw, b1, c1, c2, c3, mkClo, fillS, freeze1, Tl22o_mu, Tl22o_fns]
end Go.Proofs.YtepfpgnjpkcgmaaGreat
