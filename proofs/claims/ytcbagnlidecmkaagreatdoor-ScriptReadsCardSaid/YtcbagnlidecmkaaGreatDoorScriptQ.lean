/-
  ScriptReads answers true on all values. No conditions.
-/
import Derived.Test.YtcbagnlidecmkaaGreatDoorScriptG
import Derived.Test.YtcbagnlidecmkaaGreatDoorScriptN
import Derived.Test.YtcbagnlidecmkaaGreatDoorScriptO
import Derived.Test.YtcbagnlidecmkaaGreatDoorScriptL
set_option linter.unusedSimpArgs false
set_option linter.unnecessarySimpa false
set_option linter.unusedVariables false
set_option linter.constructorNameAsVariable false

/-
 law13: ScriptReads.
-/
namespace Go.Proofs.YtcbagnlidecmkaaGreatDoor
open Go Go.Abs Go.Lex Go.Sexp
set_option maxRecDepth 20000
attribute [local irreducible] vc
attribute [local simp] pureS touchV freezeL fuel shiftV
variable {base : Prot} {m : Int}
noncomputable def Trds : Tab := (((((((Tab.none.with 9 (pureS sTrees)).with 10 (pureS sParse)).with 11 (pureS sText)).with 16 (pureS sWhole)).with 14 (pureS sFlat)).with 13 (pureS sSameC)).with 8 (pureS sAwake)).with 17 (pureS sText)
theorem Trds_ok : TabOk Tryz.prog (base3 m) Trds := Tab.with_ok (Tab.with_ok (Tab.with_ok (Tab.with_ok (Tab.with_ok (Tab.with_ok (Tab.with_ok (Tab.with_ok Tab.none_ok trees_ok) (FnOk.over (base3_le m) (FnOk.over (base2_le m) parse_ok))) text_ok) whole_ok) flat_ok) samec_ok) awake13_ok) ctext_ok
theorem Trds_mu (f : FuncId) (a : List AVal) (H : Heap) : Trds.mu f a H = none := (rfl)
theorem Trds_1 : Trds.fn 9 = pureS sTrees := (rfl)
theorem Trds_2 : Trds.fn 10 = pureS sParse := (rfl)
theorem Trds_3 : Trds.fn 11 = pureS sText := (rfl)
theorem Trds_4 : Trds.fn 16 = pureS sWhole := (rfl)
theorem Trds_5 : Trds.fn 14 = pureS sFlat := (rfl)
theorem Trds_6 : Trds.fn 13 = pureS sSameC := (rfl)
theorem Trds_7 : Trds.fn 8 = pureS sAwake := (rfl)
theorem Trds_8 : Trds.fn 17 = pureS sText := (rfl)
attribute [local simp] Trds_mu Trds_1 Trds_2 Trds_3 Trds_4 Trds_5 Trds_6 Trds_7 Trds_8
def sReads : List PVal → Option PVal
 | [.str _] => some (.bool true)
 | _ => none
theorem reads13_ok : FnOk Tryz.prog (base3 m) 6 (pureS sReads) := by
 refine pure_of_vc hmix Trds_ok globNone low6 fun args x hs hf => ?_
 unfold sReads at hs
 split at hs
 case h_2 => cases hs
 rename_i s
 cases hs
 refine ⟨by simp [lf6], ?_⟩
 by_cases hsl : 1500 < s.length
 ·have hsl' : ((1500 : Int) < s.length) = True := by simp; omega
  simp [lf6, hsl', awb_is]
 have hsl' : ((1500 : Int) < s.length) = False := by simp; omega
 have hst : sTrees [.str s] = some (.lst (encL (treesO (wordsT s)))) := if_pos (by omega)
 simp [lf6, hsl', hst]
 have hg := trees_good (s := s) (by omega)
 have hll := trees_len (s := s) (by omega)
 generalize treesO (wordsT s) = l at hg hll
 simp only [lf6_B0, vc_block]
 refine loop_ind (fun fr H => ∃ i : Nat, i ≤ l.length ∧ fr 3 = .p (.lst (encL l)) ∧ fr 4 = .p (.int .i64 (i : Int)))
  (fun fr _ => l.length - ivar (fr 4)) ⟨0, by simp, by simp, by simp⟩ ?_
 rintro fr H ⟨i, hi, f3, f4⟩
 by_cases hlt : i < l.length
 ·obtain ⟨t, hti⟩ : ∃ t, l[i]? = some t := ⟨_, List.getElem?_eq_getElem hlt⟩
  have hgt := encL_get hti
  have gt := hg t (List.mem_of_getElem? hti)
  have hp := sParse_at (t := t) (by have := gt.2.1; omega)
  have hw := sWhole_at (t := t) (by have := gt.2.1; omega)
  obtain ⟨tb, tk, ts, ta, tvs, ten⟩ := encT_shape t
  rw [ten] at hgt hp hw
  have hgt' := getE hgt
  cases hc : parse key zW t with
  | none =>
   have hs := sSameC_at (a := zC) (b := zC) rfl (by decide) (by decide) (by decide)
   have hf := sFlat_at (c := zC) (by decide)
   rw [hc] at hp hw
   simp only [outC, outW, enc0, encC_z] at hp hw hs hf
   simp [f3, f4, encL_len, hlt, hgt, hgt', hp, hw, hf, hs, fillA, wrap_succ (i := i) (by omega)]
   exact ⟨⟨i + 1, by omega, by simp⟩, by simp only [ivar]; omega⟩
  | some c =>
   have gc := goodC_of gt (by omega) hc
   have ht := sText_at gc
   have hz := parse_sizes hc
   have hm := (parse_small hc).2.2.2
   have ht1 := gt.2.1
   have hs := sSameC_at (a := c) (b := c) rfl (by have := hz.1; omega) (by have := hz.2; omega) (by omega)
   have hf1 := sFlat_at (c := c) (by omega)
   rw [hc] at hp hw
   simp only [outC, outW] at hp hw
   obtain ⟨ub, uk, us, ua, uvs, uen⟩ := encT_shape c.term
   have he := encC_at uen
   rw [he] at hp hw ht hf1 hs
   generalize textK (c.map key) = tx at *
   simp [f3, f4, encL_len, hlt, hgt, hgt', hp, hw, ht, hf1, hs, binS, fillA, wrap_succ (i := i) (by omega)]
   exact ⟨⟨i + 1, by omega, by simp⟩, by simp only [ivar]; omega⟩
 ·have hil : i = l.length := by omega
  subst hil
  simp [f3, f4, encL_len, awb_is]
end Go.Proofs.YtcbagnlidecmkaaGreatDoor
