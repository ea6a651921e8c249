/-
  FmTrue answers true on all values. No conditions.
-/
import Derived.Test.YtcfklmjgofknjaaGreatFmF
set_option linter.unusedSimpArgs false
set_option linter.unnecessarySimpa false
set_option linter.unusedVariables false
set_option linter.constructorNameAsVariable false

/-
 law23: FmTells and FmTrue answer true.
-/
namespace Go.Proofs.YtcfklmjgofknjaaGreat
open Go Go.Abs Go.Limbs
variable {base : Prot}
set_option maxRecDepth 20000
attribute [local irreducible] vc
attribute [local simp] pureS touchV freezeL fuel shiftV u64 au
theorem wf_lessC (p q : Po) : (lessC p q).1.p.wf := by
 unfold lessC
 split
 ·split
  ·exact wf_makeAt
  ·exact wf_zPo
 ·exact wf_zPo
theorem wfLs_nil : wfLs [] := fun x hx => by cases hx
theorem wf_twoL {a b : Lt} (wa : a.wf) (wb : b.wf) (v : Int) : wfLs (twoL a b v).1 := by
 unfold twoL twoC
 split
 ·split
  ·split
   ·split
    ·split
     ·intro x hx
      simp only [List.mem_cons, List.not_mem_nil, or_false] at hx
      rcases hx with rfl | rfl | rfl
      ·exact wa
      ·exact wb
      ·exact wf_makeAt
     ·exact wfLs_nil
    ·exact wfLs_nil
   ·exact wfLs_nil
  ·exact wfLs_nil
 ·exact wfLs_nil
theorem wf_threeL {a b c : Lt} (wa : a.wf) (wb : b.wf) (wc : c.wf) (v : Int) : wfLs (threeL a b c v).1 := by
 unfold threeL threeC
 split
 ·split
  ·split
   ·split
    ·split
     ·split
      ·intro x hx
       simp only [List.mem_cons, List.not_mem_nil, or_false] at hx
       rcases hx with rfl | rfl | rfl | rfl | rfl
       ·exact wa
       ·exact wb
       ·exact wc
       ·exact wf_lessC _ _
       ·exact wf_lessC _ _
      ·exact wfLs_nil
     ·exact wfLs_nil
    ·exact wfLs_nil
   ·exact wfLs_nil
  ·exact wfLs_nil
 ·exact wfLs_nil
end Go.Proofs.YtcfklmjgofknjaaGreat
