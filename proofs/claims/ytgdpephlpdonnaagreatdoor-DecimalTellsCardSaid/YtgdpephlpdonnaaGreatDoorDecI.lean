/-
  DecimalTells answers true on all values. No conditions.
-/
import Derived.Test.YtgdpephlpdonnaaGreatDoorDecH
set_option linter.unusedSimpArgs false
set_option linter.unusedVariables false
set_option linter.constructorNameAsVariable false

/-
  DecimalTells answers true.
-/
namespace Go.Proofs.YtgdpephlpdonnaaGreatDoor
open Go Go.Abs Go.Limbs
set_option maxRecDepth 20000
attribute [local irreducible] vc
attribute [local simp] pureS touchV freezeL fuel shiftV u64 au
def Tdt : Tab := (((Tl4a.with 6 (pureS sAwake4)).with 8 (pureS sPDec)).with 10 (pureS (f1 exactP))).with 13 (pureS (f1 showF))
theorem Tdt_ok : TabOk Tryz.prog base2 Tdt := Tab.with_ok (Tab.with_ok (Tab.with_ok (Tab.with_ok Tl4a_ok awake4_ok) rpdec_ok) rexact_ok) rshow_ok
theorem Tdt_mu (f : FuncId) (a : List AVal) (H : Heap) : Tdt.mu f a H = none := (rfl)
theorem Tdt_fns : Tdt.fn 6 = pureS sAwake4 ∧ Tdt.fn 8 = pureS sPDec ∧ Tdt.fn 10 = pureS (f1 exactP) ∧ Tdt.fn 13 = pureS (f1 showF) ∧ Tdt.fn 11 = pureS (f2 sameP) ∧ Tdt.fn 7 = pureS sDParse ∧ Tdt.fn 9 = pureS (f1 exactP) ∧ Tdt.fn 12 = pureS (f1 showF) := ⟨rfl, rfl, rfl, rfl, rfl, rfl, rfl, rfl⟩
def sLawSR : List PVal → Option PVal
  | [.str _, a] => match decF a with | some _ => some (.bool true) | none => none
  | _ => none
theorem sLawSR_at (s : List UInt8) {x : Fr} (h : x.wf) : sLawSR [.str s, x.enc] = some (.bool true) := by simp only [sLawSR, decF_enc h]
theorem wf_parseD (s : List UInt8) : (parseD s).1.wf := by
  have hz : zF.wf := ⟨Wf.nil, Wf.nil⟩
  unfold parseD
  split
  · split
    · exact wf_heldQ _
    · exact hz
  · exact hz
theorem tells4_ok : FnOk Tryz.prog base2 3 (pureS sLawSR) := by
  refine pure_of_vc hmix Tdt_ok globNone low3 fun args z hs hf => ?_
  unfold sLawSR at hs
  split at hs
  case h_2 => cases hs
  rename_i s v
  split at hs
  case h_2 => cases hs
  rename_i x hx
  obtain ⟨rfl, wx⟩ := decF_some hx
  cases hs
  refine ⟨by simp [lf3], ?_⟩
  have aw := sAwake4_nil
  simp only [Fr.enc]
  by_cases hl : s.length ≤ 300
  case neg =>
    have hlI : (300 : Int) < s.length := by omega
    simp [lf3, hl, hlI, aw, fillS, Tdt_mu, Tdt_fns]
  have hlI : ¬ (300 : Int) < s.length := by omega
  by_cases hn : x.n.length ≤ 8
  case neg =>
    have hnI : (8 : Int) < x.n.length := by omega
    simp [lf3, hl, hlI, hn, hnI, aw, fillS, Tdt_mu, Tdt_fns]
  have hnI : ¬ (8 : Int) < x.n.length := by omega
  by_cases hd : x.d.length ≤ 8
  case neg =>
    have hdI : (8 : Int) < x.d.length := by omega
    simp [lf3, hl, hlI, hn, hnI, hd, hdI, aw, fillS, Tdt_mu, Tdt_fns]
  have hdI : ¬ (8 : Int) < x.d.length := by omega
  have P1 := sDParse_at (s := s) (by omega)
  have P2 := sPDec_at (s := s) hl
  rw [← parse_eq (s := s) (by omega)] at P2
  have S1 := sameP_wf (wf_parseD s)
  have X : f1 exactP [x.enc] = some (.tup [.str (exactF x).1, .bool (exactF x).2]) := f1_at wx
  have W : f1 showF [x.enc] = some (.str (if x.ok then showQ x.q else [])) := f1_at wx
  obtain ⟨y, hy⟩ : ∃ y, y = parseD s := ⟨_, rfl⟩
  rw [← hy] at P1 P2 S1
  obtain ⟨t, ht⟩ : ∃ t, t = (exactF x).1 := ⟨_, rfl⟩
  obtain ⟨b, hb⟩ : ∃ t, t = (exactF x).2 := ⟨_, rfl⟩
  rw [← ht, ← hb] at X
  obtain ⟨w, hw⟩ : ∃ w, w = (if x.ok then showQ x.q else []) := ⟨_, rfl⟩
  rw [← hw] at W
  simp only [pairF, Fr.enc] at P1 P2 S1 X W
  cases b <;> simp [lf3, hl, hlI, hn, hnI, hd, hdI, P1, P2, S1, X, W, binS, aw, fillS, Tdt_mu, Tdt_fns]
end Go.Proofs.YtgdpephlpdonnaaGreatDoor
