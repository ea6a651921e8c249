/-
  NatSums answers true on all values. No conditions.
-/
import Derived.Test.YtjjpfffclcofnaaGreatDoorNatO
import Derived.Test.YtjjpfffclcofnaaGreatDoorNatK
set_option linter.unusedSimpArgs false
set_option linter.unusedVariables false
set_option linter.constructorNameAsVariable false

/-
  few; NatSums answers true.
-/
namespace Go.Proofs.YtjjpfffclcofnaaGreatDoor
open Go Go.Abs Go.Limbs
variable {base : Prot}
set_option maxRecDepth 20000
attribute [local irreducible] vc
attribute [local simp] pureS touchV freezeL fuel shiftV u64 au

def allLst : List PVal → Option (List (List PVal))
  | [] => some []
  | .lst xs :: r => match allLst r with | some t => some (xs :: t) | none => none
  | _ :: _ => none
theorem allLst_some : ∀ {es : List PVal} {t : List (List PVal)}, allLst es = some t → es = t.map PVal.lst
  | [], t, h => by cases h; rfl
  | .lst xs :: r, t, h => by
    unfold allLst at h
    split at h
    · rename_i t' ht
      cases h
      rw [allLst_some ht]; rfl
    · cases h
/-- No row is longer than 70. -/
def sFew : List PVal → Option PVal
  | [.lst es] => match allLst es with
    | some t => if t.length ≤ 1000 then some (.bool (t.all fun x => decide (x.length ≤ 70))) else none
    | none => none
  | _ => none
theorem few_ok : FnOk Tryz.prog base 22 (pureS sFew) := by
  refine pure_of_vc hmix Tab.none_ok globNone low22 fun args z hs hf => ?_
  unfold sFew at hs
  split at hs
  case h_2 => cases hs
  rename_i es
  split at hs
  case h_2 => cases hs
  rename_i t ht
  split at hs
  case isFalse => cases hs
  rename_i hl
  obtain rfl := allLst_some ht
  cases hs
  refine ⟨by simp [lf22], ?_⟩
  simp [lf22]
  simp only [lf22_B0, vc_block]
  refine loop_ind (fun fr H => ∃ i : Nat, i ≤ t.length ∧ (t.take i).all (fun x => decide (x.length ≤ 70)) = true ∧ fr 0 = .p (.lst (t.map PVal.lst)) ∧ fr 3 = .p (.int .i64 i)) (fun fr _ => t.length - ivar (fr 3)) ⟨0, by omega, by simp, by simp, by simp⟩ ?_
  rintro fr H ⟨i, hi, hall, f0, f3⟩
  by_cases h : i < t.length
  · obtain ⟨x, hx⟩ : ∃ x, t[i]? = some x := ⟨_, List.getElem?_eq_getElem h⟩
    have hnx := getE hx
    have hw := wrap_succ (i := i) (by omega)
    by_cases h70 : x.length ≤ 70
    · have h70' : ¬ (70 : Int) < x.length := by omega
      have hall' : (t.take (i + 1)).all (fun x => decide (x.length ≤ 70)) = true := by
        rw [List.take_add_one, List.all_append, hall, hx]
        simp [h70]
      simp [f0, f3, h, hx, hnx, h70', hw, ivar]
      exact ⟨⟨i + 1, by omega, fun x hx => by have := List.all_eq_true.1 hall' x hx; simpa using this, by omega⟩, by omega⟩
    · have h70' : (70 : Int) < x.length := by omega
      have hno : (t.all fun x => decide (x.length ≤ 70)) = false := by
        rw [List.all_eq_false]
        exact ⟨x, List.mem_of_getElem? hx, by simpa using h70⟩
      simp only [hno]
      simp [f0, f3, h, hx, hnx, h70']
  · have : i = t.length := by omega
    subst this
    rw [List.take_of_length_le (Nat.le_refl _)] at hall
    simp only [hall]
    simp [f0, f3]
theorem sFew_two (a b : List PVal) : sFew [.lst [.lst a, .lst b]] = some (.bool (decide (a.length ≤ 70) && decide (b.length ≤ 70))) := by
  simp [sFew, allLst]

theorem wf_heldL (n : Nat) : Wf (heldL n).1 := by
  unfold heldL
  split
  · exact wf_limbs n
  · exact Wf.nil
theorem wf_addL (a b : List Nat) : Wf (addL a b).1 := by
  unfold addL
  split
  · exact wf_heldL _
  · exact Wf.nil
theorem wf_subL (a b : List Nat) : Wf (subL a b).1 := by
  unfold subL
  split
  · exact wf_heldL _
  · exact Wf.nil
theorem wf_mulL2 (a b : List Nat) : Wf (mulL2 a b).1 := by
  unfold mulL2
  split
  · exact wf_heldL _
  · exact Wf.nil

def Tsu : Tab := ((((((Tlw.with 22 (pureS sFew)).with 24 (pureS sAdd)).with 26 (pureS sSub)).with 28 (pureS sMul)).with 30 (pureS sCmp)).with 31 (pureS sValid))
theorem Tsu_ok : TabOk Tryz.prog base2 Tsu := Tab.with_ok (Tab.with_ok (Tab.with_ok (Tab.with_ok (Tab.with_ok (Tab.with_ok Tlw_ok few_ok) raddn_ok) rsubn_ok) rmuln_ok) rcmpn_ok) rvalid_ok
theorem Tsu_mu (f : FuncId) (a : List AVal) (H : Heap) : Tsu.mu f a H = none := (rfl)
theorem Tsu_fns : Tsu.fn 22 = pureS sFew ∧ Tsu.fn 24 = pureS sAdd ∧ Tsu.fn 26 = pureS sSub ∧ Tsu.fn 28 = pureS sMul ∧ Tsu.fn 30 = pureS sCmp ∧ Tsu.fn 31 = pureS sValid ∧ Tsu.fn 15 = pureS sAwake ∧ Tsu.fn 19 = pureS sSame ∧
  Tsu.fn 23 = pureS sAdd ∧ Tsu.fn 25 = pureS sSub ∧ Tsu.fn 27 = pureS sMul ∧ Tsu.fn 21 = pureS sValid ∧ Tsu.fn 29 = pureS sCmp := ⟨rfl, rfl, rfl, rfl, rfl, rfl, rfl, rfl, rfl, rfl, rfl, rfl, rfl⟩

theorem sums_ok : FnOk Tryz.prog base2 4 (pureS sLaw2) := by
  refine pure_of_vc hmix Tsu_ok globNone low4 fun args z hs hf => ?_
  unfold sLaw2 at hs
  split at hs
  case h_2 => cases hs
  rename_i xs ys
  split at hs
  case h_2 => cases hs
  rename_i a b ha hb
  obtain ⟨rfl, wa⟩ := decU_some ha
  obtain ⟨rfl, wb⟩ := decU_some hb
  cases hs
  refine ⟨by simp [lf4], ?_⟩
  have aw := sAwake_nil
  have hfew := sFew_two (a.map u64) (b.map u64)
  have h1 := sAdd_list wa wb
  have h2 := sSub_list wa wb
  have h3 := sMul_list wa wb
  have h4 := sCmp_list wa wb
  have h5 := sValid_list wa
  have s1 := sSame_self (wf_addL a b)
  have s2 := sSame_self (wf_subL a b)
  have s3 := sSame_self (wf_mulL2 a b)
  obtain ⟨p1, e1⟩ : ∃ t, t = addL a b := ⟨_, rfl⟩
  obtain ⟨p2, e2⟩ : ∃ t, t = subL a b := ⟨_, rfl⟩
  obtain ⟨p3, e3⟩ : ∃ t, t = mulL2 a b := ⟨_, rfl⟩
  obtain ⟨p4, e4⟩ : ∃ t, t = cmpL a b := ⟨_, rfl⟩
  rw [← e1] at h1 s1
  rw [← e2] at h2 s2
  rw [← e3] at h3 s3
  rw [← e4] at h4
  simp only [pairP, lstP] at h1 h2 h3
  obtain ⟨q, hq⟩ : ∃ t, t = (decide ((a.map u64).length ≤ 70) && decide ((b.map u64).length ≤ 70)) := ⟨_, rfl⟩
  rw [← hq] at hfew
  cases q with
  | false => simp [lf4, hfew, aw, fillS, freeze1, Tsu_mu, Tsu_fns]
  | true => simp [lf4, hfew, aw, h1, h2, h3, h4, h5, s1, s2, s3, fillS, freeze1, Tsu_mu, Tsu_fns]
end Go.Proofs.YtjjpfffclcofnaaGreatDoor
