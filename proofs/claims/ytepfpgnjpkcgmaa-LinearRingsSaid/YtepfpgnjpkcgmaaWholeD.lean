/-
  What the reference's functions of whole numbers compute. No conditions beyond the lemmas' own hypotheses.
-/
import Derived.Test.YtepfpgnjpkcgmaaWholeIB
import Derived.Test.YtepfpgnjpkcgmaaRefO
set_option linter.unusedSimpArgs false
set_option linter.unnecessarySimpa false
set_option linter.unusedVariables false
set_option linter.constructorNameAsVariable false

/-
  The reference's whole numbers.
-/
namespace Go.Proofs.Ytepfpgnjpkcgmaa
open Go Go.Abs Go.Limbs
variable {base : Prot}
set_option maxRecDepth 20000
attribute [local irreducible] vc
attribute [local simp] pureS touchV freezeL fuel shiftV u64 au
def Rv : Tab := Tab.none.with 15 (pureS sValid)
theorem Rv_ok : TabOk Try.prog base Rv := Tab.with_ok Tab.none_ok rvalid_ok
theorem Rv_mu (f : FuncId) (a : List AVal) (H : Heap) : Rv.mu f a H = none := (rfl)
theorem Rv_fn : Rv.fn 15 = pureS sValid := (rfl)
theorem rivalid_ok : FnOk Try.prog base 54 (pureS sIV) := by
  refine pure_of_vc hmix Rv_ok globNone low54 fun args z hs hf => ?_
  unfold sIV at hs
  split at hs
  case h_2 => cases hs
  rename_i s xs
  split at hs
  case h_2 => cases hs
  rename_i l hd
  obtain ⟨rfl, wl⟩ := decU_some hd
  cases hs
  refine ⟨by simp [lf54], ?_⟩
  have hv := sValid_list wl
  unfold okI
  cases ho : okL l with
  | false => rw [ho] at hv; simp [lf54, hv, Rv_mu, Rv_fn]
  | true =>
    rw [ho] at hv
    cases s with
    | false => simp [lf54, hv, Rv_mu, Rv_fn]
    | true => simp [lf54, hv, Rv_mu, Rv_fn]
theorem riwide_ok : FnOk Try.prog base 56 (pureS sWide) := by
  refine pure_of_vc hmix Tab.none_ok globNone low56 fun args z hs hf => ?_
  unfold sWide at hs
  split at hs
  case h_2 => cases hs
  rename_i s xs
  split at hs
  case h_2 => cases hs
  rename_i l hd
  obtain ⟨rfl, wl⟩ := decU_some hd
  cases hs
  refine ⟨by simp [lf56], ?_⟩
  cases s with
  | false => simp [lf56, iP, fillS]
  | true => simp [lf56, iP, fillS]
def Ro : Tab := (((Tab.none.with 16 (pureS sOrder)).with 62 (pureS sMinus)).with 80 (pureS sTimes)).with 56 (pureS sWide)
theorem Ro_ok : TabOk Try.prog base Ro := Tab.with_ok (Tab.with_ok (Tab.with_ok (Tab.with_ok Tab.none_ok rcmp_ok) rsub_ok) rmul_ok) riwide_ok
theorem Ro_mu (f : FuncId) (a : List AVal) (H : Heap) : Ro.mu f a H = none := (rfl)
theorem Ro_fns : Ro.fn 16 = pureS sOrder ∧ Ro.fn 62 = pureS sMinus ∧ Ro.fn 80 = pureS sTimes ∧ Ro.fn 56 = pureS sWide := ⟨rfl, rfl, rfl, rfl⟩
theorem ricmp_ok : FnOk Try.prog base 79 (pureS sWOrd) := by
  refine pure_of_vc hmix Ro_ok globNone low79 fun args z hs hf => ?_
  unfold sWOrd at hs
  split at hs
  case h_2 => cases hs
  rename_i s xs t ys
  split at hs
  case h_2 => cases hs
  rename_i z w hz hw
  cases hs
  obtain ⟨lz, rfl, rfl⟩ := decZ_some hz
  obtain ⟨lw, rfl, rfl⟩ := decZ_some hw
  refine ⟨by simp [lf79], ?_⟩
  have h1 := sOrder_num lz lw
  by_cases hz0 : z < 0
  · by_cases hw0 : w < 0
    · have hn : cmpZ z w = -cmpI z.natAbs w.natAbs := by
        unfold cmpI cmpZ
        by_cases h : z < w
        · rw [if_pos h, if_neg (by omega), if_neg (by omega)]
        · rw [if_neg h]
          by_cases h2 : z = w
          · rw [if_pos h2, if_neg (by omega), if_pos (by omega)]; rfl
          · rw [if_neg h2, if_pos (by omega)]; rfl
      have hcc : cmpI z.natAbs w.natAbs = -1 ∨ cmpI z.natAbs w.natAbs = 0 ∨ cmpI z.natAbs w.natAbs = 1 := by
        unfold cmpI
        split
        · exact .inl rfl
        · split
          · exact .inr (.inl rfl)
          · exact .inr (.inr rfl)
      obtain ⟨c, hc⟩ : ∃ c, c = cmpI z.natAbs w.natAbs := ⟨_, rfl⟩
      rw [← hc] at h1 hn hcc
      have hw' : IntKind.i64.wrap (-c) = -c := IntWalk.i64_in _ (by omega)
      simp [lf79, hz0, hw0, h1, hn, hw', Ro_mu, Ro_fns]
    · have : cmpZ z w = -1 := if_pos (by omega)
      simp [lf79, hz0, hw0, this, Ro_mu, Ro_fns]
  · by_cases hw0 : w < 0
    · have : cmpZ z w = 1 := by unfold cmpZ; rw [if_neg (by omega), if_neg (by omega)]
      simp [lf79, hz0, hw0, this, Ro_mu, Ro_fns]
    · rw [cmpZ_pos hz0 hw0] at h1
      simp [lf79, hz0, hw0, h1, Ro_mu, Ro_fns]
def Rof : Tab := (Tab.none.with 57 (pureS sTrim)).with 56 (pureS sWide)
theorem Rof_ok : TabOk Try.prog base Rof := Tab.with_ok (Tab.with_ok Tab.none_ok rtrim_ok) riwide_ok
theorem Rof_mu (f : FuncId) (a : List AVal) (H : Heap) : Rof.mu f a H = none := (rfl)
theorem Rof_fns : Rof.fn 57 = pureS sTrim ∧ Rof.fn 56 = pureS sWide := ⟨rfl, rfl⟩
theorem riof_ok : FnOk Try.prog base 30 (pureS sIOf) := by
  refine pure_of_vc hmix Rof_ok globNone low30 fun args z hs hf => ?_
  unfold sIOf at hs
  split at hs
  case h_2 => cases hs
  rename_i n
  split at hs
  case isFalse => cases hs
  rename_i hc
  cases hs
  refine ⟨by simp [lf30], ?_⟩
  obtain ⟨m, hm⟩ : ∃ m, m = n.natAbs := ⟨_, rfl⟩
  have hmB : m < B := by rw [B_lit]; omega
  have ht := sTrim_map (l := [m]) (Wf.cons hmB Wf.nil) (by simp)
  rw [show val [m] = m from by simp [val]] at ht
  simp only [List.map_cons, List.map_nil, u64] at ht
  obtain ⟨b1, l1, hbl1, wl1, hW⟩ := sWide_num (decide (n < 0)) m
  rw [hm, zOf_sign] at hbl1
  rw [hbl1]
  by_cases h0 : n < 0
  · have w1 : IntKind.u64.wrap n = n + 18446744073709551616 := by rw [IntKind.wrap_u64]; omega
    have w2 : IntKind.u64.wrap (-(n + 18446744073709551616)) = (m : Int) := by rw [IntKind.wrap_u64]; omega
    simp only [h0, decide_true] at hW
    simp [lf30, h0, w1, w2, ht, hW, iP, fillS, freeze1, Rof_mu, Rof_fns]
  · have w1 : IntKind.u64.wrap n = (m : Int) := by rw [IntKind.wrap_u64]; omega
    simp only [h0, decide_false] at hW
    simp [lf30, h0, w1, ht, hW, iP, fillS, freeze1, Rof_mu, Rof_fns]
end Go.Proofs.Ytepfpgnjpkcgmaa
