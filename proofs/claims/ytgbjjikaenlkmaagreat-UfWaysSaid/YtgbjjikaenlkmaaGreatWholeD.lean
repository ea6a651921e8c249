/-
  What the reference's functions of whole numbers compute. No conditions beyond the lemmas' own hypotheses.
-/
import Derived.Test.YtgbjjikaenlkmaaGreatWholeIB
import Derived.Test.YtgbjjikaenlkmaaGreatRefO
set_option linter.unusedSimpArgs false
set_option linter.unnecessarySimpa false
set_option linter.unusedVariables false
set_option linter.constructorNameAsVariable false

/-
 The reference's whole numbers.
-/
namespace Go.Proofs.YtgbjjikaenlkmaaGreat
open Go Go.Abs Go.Limbs
variable {base : Prot}
set_option maxRecDepth 20000
attribute [local irreducible] vc
attribute [local simp] pureS touchV freezeL fuel shiftV u64 au
def Rv : Tab := Tab.none.with 102 (pureS sValid)
theorem Rv_ok : TabOk Tryz.prog base Rv := Tab.with_ok Tab.none_ok rvalid_ok
theorem Rv_mu (f : FuncId) (a : List AVal) (H : Heap) : Rv.mu f a H = none := (rfl)
theorem Rv_fn : Rv.fn 102 = pureS sValid := (rfl)
theorem rivalid_ok : FnOk Tryz.prog base 63 (pureS sIV) := by
 refine pure_of_vc hmix Rv_ok globNone low63 fun args z hs hf => ?_
 unfold sIV at hs
 split at hs
 case h_2 => cases hs
 rename_i s xs
 split at hs
 case h_2 => cases hs
 rename_i l hd
 obtain ⟨rfl, wl⟩ := decU_some hd
 cases hs
 refine ⟨by simp [lf63], ?_⟩
 have hv := sValid_list wl
 unfold okI
 cases ho : okL l with
 | false => rw [ho] at hv; simp [lf63, hv, Rv_mu, Rv_fn]
 | true =>
  rw [ho] at hv
  cases s with
  | false => simp [lf63, hv, Rv_mu, Rv_fn]
  | true => simp [lf63, hv, Rv_mu, Rv_fn]
theorem riwide_ok : FnOk Tryz.prog base 65 (pureS sWide) := by
 refine pure_of_vc hmix Tab.none_ok globNone low65 fun args z hs hf => ?_
 unfold sWide at hs
 split at hs
 case h_2 => cases hs
 rename_i s xs
 split at hs
 case h_2 => cases hs
 rename_i l hd
 obtain ⟨rfl, wl⟩ := decU_some hd
 cases hs
 refine ⟨by simp [lf65], ?_⟩
 cases s with
 | false => simp [lf65, iP, fillS]
 | true => simp [lf65, iP, fillS]
def Rof : Tab := (Tab.none.with 66 (pureS sTrim)).with 65 (pureS sWide)
theorem Rof_ok : TabOk Tryz.prog base Rof := Tab.with_ok (Tab.with_ok Tab.none_ok rtrim_ok) riwide_ok
theorem Rof_mu (f : FuncId) (a : List AVal) (H : Heap) : Rof.mu f a H = none := (rfl)
theorem Rof_fns : Rof.fn 66 = pureS sTrim ∧ Rof.fn 65 = pureS sWide := ⟨rfl, rfl⟩
theorem riof_ok : FnOk Tryz.prog base 38 (pureS sIOf) := by
 refine pure_of_vc hmix Rof_ok globNone low38 fun args z hs hf => ?_
 unfold sIOf at hs
 split at hs
 case h_2 => cases hs
 rename_i n
 split at hs
 case isFalse => cases hs
 rename_i hc
 cases hs
 refine ⟨by simp [lf38], ?_⟩
 obtain ⟨m, hm⟩ : ∃ m, m = n.natAbs := ⟨_, rfl⟩
 have hmB : m < B := by rw [B_lit]; omega
 have ht := sTrim_map (l := [m]) (Wf.cons hmB Wf.nil) (by simp)
 rw [show val [m] = m from by simp [val]] at ht
 simp only [List.map_cons, List.map_nil, u64] at ht
 obtain ⟨b1, l1, hbl1, wl1, hW⟩ := sWide_num (decide (n < 0)) m
 rw [hm, zOf_sign] at hbl1
 rw [hbl1]
 by_cases h0 : n < 0
 ·have w1 : IntKind.u64.wrap n = n + 18446744073709551616 := by rw [IntKind.wrap_u64]; omega
  have w2 : IntKind.u64.wrap (-(n + 18446744073709551616)) = (m : Int) := by rw [IntKind.wrap_u64]; omega
  simp only [h0, decide_true] at hW
  simp [lf38, h0, w1, w2, ht, hW, iP, fillS, freeze1, Rof_mu, Rof_fns]
 ·have w1 : IntKind.u64.wrap n = (m : Int) := by rw [IntKind.wrap_u64]; omega
  simp only [h0, decide_false] at hW
  simp [lf38, h0, w1, ht, hW, iP, fillS, freeze1, Rof_mu, Rof_fns]
end Go.Proofs.YtgbjjikaenlkmaaGreat
