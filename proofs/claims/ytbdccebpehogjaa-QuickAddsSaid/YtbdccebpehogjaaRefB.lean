/-
  What the reference's whole numbers compute. AcvNo conditions beyond the lemmas' own hypotheses.
-/
import Derived.Test.YtbdccebpehogjaaNatD
import Derived.Test.YtbdccebpehogjaaRefA
set_option linter.unusedSimpArgs false
set_option linter.unnecessarySimpa false
set_option linter.unusedVariables false
set_option linter.constructorNameAsVariable false

/-
 whole: calls at numbers; law2's awake.
-/
namespace Go.Proofs.Ytbdccebpehogjaa
open Go Go.Abs Go.Limbs
variable {base : Prot}
set_option maxRecDepth 20000
attribute [local irreducible] vc
attribute [local simp] pureS touchV freezeL fuel shiftV u64 au
end Go.Proofs.Ytbdccebpehogjaa

/-
 The reference's whole numbers.
-/
namespace Go.Proofs.Ytbdccebpehogjaa
open Go Go.Abs Go.Limbs
variable {base : Prot}
set_option maxRecDepth 20000
attribute [local irreducible] vc
attribute [local simp] pureS touchV freezeL fuel shiftV u64 au
def Rv : Tab := Tab.none.with 45 (pureS sValid)
theorem Rv_ok : TabOk Try.prog base Rv := Tab.with_ok Tab.none_ok rvalid_ok
theorem Rv_mu (f : FuncId) (a : List AVal) (H : Heap) : Rv.mu f a H = none := (rfl)
theorem Rv_fn : Rv.fn 45 = pureS sValid := (rfl)
theorem rivalid_ok : FnOk Try.prog base 80 (pureS sIV) := by
 refine pure_of_vc hmix Rv_ok globNone low80 fun args z hs hf => ?_
 unfold sIV at hs
 split at hs
 case h_2 => cases hs
 rename_i s xs
 split at hs
 case h_2 => cases hs
 rename_i l hd
 obtain ⟨rfl, wl⟩ := decU_some hd
 cases hs
 refine ⟨by simp [lf80], ?_⟩
 have hv := sValid_list wl
 unfold okI
 cases ho : okL l with
 | false => rw [ho] at hv; simp [lf80, hv, Rv_mu, Rv_fn]
 | true =>
  rw [ho] at hv
  cases s with
  | false => simp [lf80, hv, Rv_mu, Rv_fn]
  | true => simp [lf80, hv, Rv_mu, Rv_fn]
theorem riwide_ok : FnOk Try.prog base 77 (pureS sWide) := by
 refine pure_of_vc hmix Tab.none_ok globNone low77 fun args z hs hf => ?_
 unfold sWide at hs
 split at hs
 case h_2 => cases hs
 rename_i s xs
 split at hs
 case h_2 => cases hs
 rename_i l hd
 obtain ⟨rfl, wl⟩ := decU_some hd
 cases hs
 refine ⟨by simp [lf77], ?_⟩
 cases s with
 | false => simp [lf77, iP, fillS]
 | true => simp [lf77, iP, fillS]
def Ro : Tab := ((((Tab.none.with 46 (pureS sOrder)).with 95 (pureS sPlus)).with 89 (pureS sMinus)).with 78 (pureS sTimes)).with 77 (pureS sWide)
theorem Ro_ok : TabOk Try.prog base Ro := Tab.with_ok (Tab.with_ok (Tab.with_ok (Tab.with_ok (Tab.with_ok Tab.none_ok rcmp_ok) radd_ok) rsub_ok) rmul_ok) riwide_ok
theorem Ro_mu (f : FuncId) (a : List AVal) (H : Heap) : Ro.mu f a H = none := (rfl)
theorem Ro_fns : Ro.fn 46 = pureS sOrder ∧ Ro.fn 95 = pureS sPlus ∧ Ro.fn 89 = pureS sMinus ∧ Ro.fn 78 = pureS sTimes ∧ Ro.fn 77 = pureS sWide := ⟨rfl, rfl, rfl, rfl, rfl⟩
theorem ricmp_ok : FnOk Try.prog base 76 (pureS sWOrd) := by
 refine pure_of_vc hmix Ro_ok globNone low76 fun args z hs hf => ?_
 unfold sWOrd at hs
 split at hs
 case h_2 => cases hs
 rename_i s xs t ys
 split at hs
 case h_2 => cases hs
 rename_i z w hz hw
 cases hs
 obtain ⟨lz, rfl, rfl⟩ := decZ_some hz
 obtain ⟨lw, rfl, rfl⟩ := decZ_some hw
 refine ⟨by simp [lf76], ?_⟩
 have h1 := sOrder_num lz lw
 by_cases hz0 : z < 0
 ·by_cases hw0 : w < 0
  ·have hn : cmpZ z w = -cmpI z.natAbs w.natAbs := by
    unfold cmpI cmpZ
    by_cases h : z < w
    ·rw [if_pos h, if_neg (by omega), if_neg (by omega)]
    ·rw [if_neg h]
     by_cases h2 : z = w
     ·rw [if_pos h2, if_neg (by omega), if_pos (by omega)]; rfl
     ·rw [if_neg h2, if_pos (by omega)]; rfl
   have hcc : cmpI z.natAbs w.natAbs = -1 ∨ cmpI z.natAbs w.natAbs = 0 ∨ cmpI z.natAbs w.natAbs = 1 := by
    unfold cmpI
    split
    ·exact .inl rfl
    ·split
     ·exact .inr (.inl rfl)
     ·exact .inr (.inr rfl)
   obtain ⟨c, hc⟩ : ∃ c, c = cmpI z.natAbs w.natAbs := ⟨_, rfl⟩
   rw [← hc] at h1 hn hcc
   have hw' : IntKind.i64.wrap (-c) = -c := IntWalk.i64_in _ (by omega)
   simp [lf76, hz0, hw0, h1, hn, hw', Ro_mu, Ro_fns]
  ·have : cmpZ z w = -1 := if_pos (by omega)
   simp [lf76, hz0, hw0, this, Ro_mu, Ro_fns]
 ·by_cases hw0 : w < 0
  ·have : cmpZ z w = 1 := by unfold cmpZ; rw [if_neg (by omega), if_neg (by omega)]
   simp [lf76, hz0, hw0, this, Ro_mu, Ro_fns]
  ·rw [cmpZ_pos hz0 hw0] at h1
   simp [lf76, hz0, hw0, h1, Ro_mu, Ro_fns]
theorem riadd_ok : FnOk Try.prog base 79 (pureS sWPlus) := by
 refine pure_of_vc hmix Ro_ok globNone low79 fun args z hs hf => ?_
 unfold sWPlus at hs
 split at hs
 case h_2 => cases hs
 rename_i s xs t ys
 split at hs
 case h_2 => cases hs
 rename_i z w hz hw
 cases hs
 obtain ⟨lz, rfl, rfl⟩ := decZ_some hz
 obtain ⟨lw, rfl, rfl⟩ := decZ_some hw
 refine ⟨by simp [lf79], ?_⟩
 unfold zl at lz lw
 obtain ⟨s, hs⟩ : ∃ s, s = decide (z < 0) := ⟨_, rfl⟩
 obtain ⟨t, ht⟩ : ∃ t, t = decide (w < 0) := ⟨_, rfl⟩
 obtain ⟨m, hm⟩ : ∃ m, m = z.natAbs := ⟨_, rfl⟩
 obtain ⟨n, hn⟩ : ∃ n, n = w.natAbs := ⟨_, rfl⟩
 have e1 := @zOf_same z w
 have e2 := @zOf_less z w
 have e3 := @zOf_more z w
 rw [← hm, ← hn, ← hs, ← ht] at e1 e2 e3
 rw [← hm] at lz
 rw [← hn] at lw
 rw [← hs, ← ht, ← hm, ← hn]
 have hP := sPlus_num lz lw
 have hO := sOrder_num lz lw
 by_cases hst : s = t
 ·obtain ⟨b, l, hbl, wl, hW⟩ := sWide_num s (m + n)
  rw [← e1 hst, hbl]
  have hbe : (s == t) = true := by simp [hst]
  obtain ⟨p, hp⟩ : ∃ p, p = m + n := ⟨_, rfl⟩
  rw [← hp] at hP hW
  simp [lf79, hbe, vc_regionW, iP, Ro_mu, Ro_fns]
  refine ⟨[], ?_⟩
  simp [hP, hW, Ro_mu, Ro_fns]
 ·have hbe : (s == t) = false := by simp [hst]
  by_cases hlt : m < n
  ·obtain ⟨b, l, hbl, wl, hW⟩ := sWide_num t (n - m)
   rw [← e2 hst hlt, hbl]
   rw [cmpI_lt hlt] at hO
   have hM := sMinus_num lw lz (Nat.le_of_lt hlt)
   obtain ⟨p, hp⟩ : ∃ p, p = n - m := ⟨_, rfl⟩
   rw [← hp] at hM hW
   simp [lf79, hbe, hO, vc_regionW, iP, Ro_mu, Ro_fns]
   refine ⟨[], ?_⟩
   simp [hM, hW, Ro_mu, Ro_fns]
  ·obtain ⟨b, l, hbl, wl, hW⟩ := sWide_num s (m - n)
   rw [← e3 hst (by omega), hbl]
   have hcn : ¬ cmpI m n < 0 := fun h => by have := cmpI_neg.1 h; omega
   have hcp : (0 : Int) ≤ cmpI m n := by omega
   obtain ⟨c, hc⟩ : ∃ c, c = cmpI m n := ⟨_, rfl⟩
   rw [← hc] at hO hcn hcp
   have hM := sMinus_num lz lw (by omega)
   obtain ⟨p, hp⟩ : ∃ p, p = m - n := ⟨_, rfl⟩
   rw [← hp] at hM hW
   simp [lf79, hbe, hO, hcn, hcp, vc_regionW, iP, Ro_mu, Ro_fns]
   refine ⟨[], ?_⟩
   simp [hM, hW, Ro_mu, Ro_fns]
def Rof : Tab := (Tab.none.with 56 (pureS sTrim)).with 77 (pureS sWide)
theorem Rof_ok : TabOk Try.prog base Rof := Tab.with_ok (Tab.with_ok Tab.none_ok rtrim_ok) riwide_ok
theorem Rof_mu (f : FuncId) (a : List AVal) (H : Heap) : Rof.mu f a H = none := (rfl)
theorem Rof_fns : Rof.fn 56 = pureS sTrim ∧ Rof.fn 77 = pureS sWide := ⟨rfl, rfl⟩
theorem riof_ok : FnOk Try.prog base 58 (pureS sIOf) := by
 refine pure_of_vc hmix Rof_ok globNone low58 fun args z hs hf => ?_
 unfold sIOf at hs
 split at hs
 case h_2 => cases hs
 rename_i n
 split at hs
 case isFalse => cases hs
 rename_i hc
 cases hs
 refine ⟨by simp [lf58], ?_⟩
 obtain ⟨m, hm⟩ : ∃ m, m = n.natAbs := ⟨_, rfl⟩
 have hmB : m < B := by rw [B_lit]; omega
 have ht := sTrim_map (l := [m]) (Wf.cons hmB Wf.nil) (by simp)
 rw [show val [m] = m from by simp [val]] at ht
 simp only [List.map_cons, List.map_nil, u64] at ht
 obtain ⟨b1, l1, hbl1, wl1, hW⟩ := sWide_num (decide (n < 0)) m
 rw [hm, zOf_sign] at hbl1
 rw [hbl1]
 by_cases h0 : n < 0
 ·have w1 : IntKind.u64.wrap n = n + 18446744073709551616 := by rw [IntKind.wrap_u64]; omega
  have w2 : IntKind.u64.wrap (-(n + 18446744073709551616)) = (m : Int) := by rw [IntKind.wrap_u64]; omega
  simp only [h0, decide_true] at hW
  simp [lf58, h0, w1, w2, ht, hW, iP, fillS, freeze1, Rof_mu, Rof_fns]
 ·have w1 : IntKind.u64.wrap n = (m : Int) := by rw [IntKind.wrap_u64]; omega
  simp only [h0, decide_false] at hW
  simp [lf58, h0, w1, ht, hW, iP, fillS, freeze1, Rof_mu, Rof_fns]
end Go.Proofs.Ytbdccebpehogjaa
