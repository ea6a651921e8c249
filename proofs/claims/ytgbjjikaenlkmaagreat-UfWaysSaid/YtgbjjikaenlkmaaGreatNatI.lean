/-
  What nat.Parse computes, for texts of at most 90000 bytes. No conditions beyond the lemmas' own hypotheses.
-/
import Derived.Test.YtgbjjikaenlkmaaGreatNatH
import Derived.Test.YtgbjjikaenlkmaaGreatNatE
import Derived.Test.YtgbjjikaenlkmaaGreatNatG
import Derived.Test.YtgbjjikaenlkmaaGreatNatA
set_option linter.unusedSimpArgs false
set_option linter.unnecessarySimpa false
set_option linter.unusedVariables false
set_option linter.constructorNameAsVariable false

/-
 strings.Trim of digits; strings.TrimLeft of noughts; nat.Digits.
-/
namespace Go.Proofs.YtgbjjikaenlkmaaGreat
open Go Go.Abs Go.Limbs
variable {base : Prot}
set_option maxRecDepth 20000
section
attribute [local irreducible] vc
attribute [local simp] pureS touchV freezeL fuel shiftV
theorem allP_map : ∀ l : List PVal, allP (l.map AVal.p) = some l
 | [] => rfl
 | x :: r => by simp [allP, allP_map r]
end
end Go.Proofs.YtgbjjikaenlkmaaGreat

/-
 strconv.ParseUint of digits; nat.Read and nat.Parse.
-/
namespace Go.Proofs.YtgbjjikaenlkmaaGreat
open Go Go.Abs Go.Limbs Go.RowKit
variable {base : Prot}
set_option maxRecDepth 20000
end Go.Proofs.YtgbjjikaenlkmaaGreat

/-
 nat.Read and nat.Parse.
-/
namespace Go.Proofs.YtgbjjikaenlkmaaGreat
open Go Go.Abs Go.Limbs
variable {base : Prot}
set_option maxRecDepth 20000
attribute [local irreducible] vc
attribute [local simp] pureS touchV freezeL fuel shiftV u64 au
end Go.Proofs.YtgbjjikaenlkmaaGreat

/-
 law1: same, few, awake.
-/
namespace Go.Proofs.YtgbjjikaenlkmaaGreat
open Go Go.Abs Go.Limbs
variable {base : Prot}
set_option maxRecDepth 20000
attribute [local irreducible] vc
attribute [local simp] pureS touchV freezeL fuel shiftV u64 au
def sSame : List PVal → Option PVal
 | [.lst xs, .lst ys] => match decU xs, decU ys with | some a, some b => some (.bool (decide (a = b))) | _, _ => none
 | _ => none
theorem sSame_list {a b : List Nat} (ha : Wf a) (hb : Wf b) : sSame [.lst (a.map u64), .lst (b.map u64)] = some (.bool (decide (a = b))) := by simp only [sSame, decU_map ha, decU_map hb]
theorem sameL_ok : FnOk Tryz.prog base 62 (pureS sSame) := by
 refine pure_of_vc hmix Tab.none_ok globNone low62 fun args z hs hf => ?_
 unfold sSame at hs
 split at hs
 case h_2 => cases hs
 rename_i xs ys
 split at hs
 case h_2 => cases hs
 rename_i a b ha hb
 obtain ⟨rfl, wa⟩ := decU_some ha
 obtain ⟨rfl, wb⟩ := decU_some hb
 cases hs
 have hlen := (hf (.lst (a.map u64)) (by simp)).lst.1
 unfold maxLen at hlen
 simp only [List.length_map] at hlen
 refine ⟨by simp [lf62], ?_⟩
 by_cases hl : a.length = b.length
 ·have hl1 : ((a.length : Int) != b.length) = false := by simp [hl]
  simp [lf62, hl1]
  simp only [lf62_B0, vc_block]
  refine loop_ind (fun fr H => ∃ i : Nat, H = [] ∧ i ≤ a.length ∧ fr 0 = .p (.lst (a.map u64)) ∧ fr 1 = .p (.lst (b.map u64)) ∧ fr 5 = .p (.int .i64 i) ∧ a.take i = b.take i) (fun fr _ => a.length - ivar (fr 5)) ⟨0, rfl, by omega, by simp, by simp, by simp, by simp⟩ ?_
  rintro fr H ⟨i, rfl, hi, h0, h1, h5, hj⟩
  by_cases h : i < a.length
  ·obtain ⟨u, hx⟩ : ∃ u, a[i]? = some u := ⟨_, List.getElem?_eq_getElem h⟩
   obtain ⟨v, hy⟩ : ∃ v, b[i]? = some v := ⟨_, List.getElem?_eq_getElem (show i < b.length by omega)⟩
   have hib : i < b.length := by omega
   have hnx := getE hx
   have hny := getE hy
   by_cases he : u = v
   ·subst he
    have hj' : a.take (i + 1) = b.take (i + 1) := by rw [List.take_add_one, List.take_add_one, hj, hx, hy]
    simp [h0, h1, h5, h, hib, hnx, hny, wrap_succ (i := i) (by omega), ivar]
    exact ⟨⟨i + 1, by omega, rfl, hj'⟩, by omega⟩
   ·have hne : ¬ a = b := by
     rintro rfl
     rw [hx] at hy
     exact he (by cases hy; rfl)
    have hb : ((u : Int) != (v : Int)) = true := by simp; omega
    have hb2 : ((u : Int) == (v : Int)) = false := beq_false_of_ne (by omega)
    simp [h0, h1, h5, h, hib, hnx, hny, hb, hb2, hne]
  ·have hil : i = a.length := by omega
   subst hil
   have hxy : a = b := by
    rw [List.take_of_length_le (Nat.le_refl _), List.take_of_length_le (by omega)] at hj
    exact hj
   simp [h0, h5, hxy]
 ·have hl1 : ((a.length : Int) != b.length) = true := by simp; omega
  have hne : ¬ a = b := fun e => hl (by rw [e])
  simp [lf62, hl1, hne]
def Tsm : Tab := Tab.none.with 62 (pureS sSame)
theorem Tsm_ok : TabOk Tryz.prog base Tsm := Tab.with_ok Tab.none_ok sameL_ok
theorem Tsm_mu (f : FuncId) (a : List AVal) (H : Heap) : Tsm.mu f a H = none := (rfl)
theorem Tsm_fn : Tsm.fn 62 = pureS sSame := (rfl)
end Go.Proofs.YtgbjjikaenlkmaaGreat
