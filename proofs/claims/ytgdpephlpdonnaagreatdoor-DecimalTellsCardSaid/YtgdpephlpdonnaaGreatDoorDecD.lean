/-
  law4's awake; the reference's texts of whole numbers; DecimalShows answers true on all values. No conditions.
-/
import Derived.Test.YtgdpephlpdonnaaGreatDoorDecC
import Derived.Test.YtgdpephlpdonnaaGreatDoorDecA
import Derived.Test.YtgdpephlpdonnaaGreatDoorRatM
import Derived.Test.YtgdpephlpdonnaaGreatDoorRatG
import Derived.Test.YtgdpephlpdonnaaGreatDoorNatTA
set_option linter.unusedSimpArgs false
set_option linter.unusedVariables false
set_option linter.constructorNameAsVariable false

/-
  law4's awake.
-/
namespace Go.Proofs.YtgdpephlpdonnaaGreatDoor
open Go Go.Abs Go.Limbs
variable {base : Prot}
set_option maxRecDepth 20000
attribute [local irreducible] vc
attribute [local simp] pureS touchV freezeL fuel shiftV u64 au
theorem exactP_at {q : Rat} {t : List UInt8} {b : Bool} (h : exactF (ofQ q) = (t, b)) : f1 exactP [(ofQ q).enc] = some (.tup [.str t, .bool b]) := by
  rw [f1_at (wf_ofQ q)]
  unfold exactP
  rw [h]
theorem exactF_num {q : Rat} (h : Sm 64 q) : exactF (ofQ q) = if q.num < 0 then ([], false) else if plainN q.den then (exactT q.num.natAbs q.den, true) else ([], false) := by
  have ed : val (ofQ q).d = q.den := val_limbs _
  have en : val (ofQ q).n = q.num.natAbs := val_limbs _
  unfold exactF
  rw [ok_ofQ h, ed, en]
  by_cases h0 : q.num < 0
  · have hs : (ofQ q).s = true := decide_eq_true h0
    rw [hs, if_pos h0]
    rfl
  · have hs : (ofQ q).s = false := decide_eq_false h0
    rw [hs, if_neg h0]
    cases plainN q.den <;> rfl
theorem showF_at {q : Rat} (h : Sm 64 q) : f1 showF [(ofQ q).enc] = some (.str (showQ q)) := by
  rw [f1_at (wf_ofQ q)]
  unfold showF
  rw [ok_ofQ h, if_pos rfl, q_ofQ]
theorem x_18 : exactF (ofQ (Rat.divInt 1 8)) = ([48, 46, 49, 50, 53], true) := by
  rw [exactF_num (dS _ _ (by decide) (by decide)), show (Rat.divInt 1 8).num = 1 from by decide +kernel, show (Rat.divInt 1 8).den = 8 from by decide +kernel]
  rw [if_neg (by decide), if_pos (by decide)]
  unfold exactT
  rw [show Int.natAbs 1 = 1 from rfl, show 1 / 8 = 0 from rfl, show 1 % 8 = 1 from rfl, if_neg (by decide), dec_one (by decide)]
  have e1 : expand 8 (4095 + 1) 1 = digit 1 :: expand 8 (4094 + 1) 2 := expand_step (by decide)
  have e2 : expand 8 (4094 + 1) 2 = digit 2 :: expand 8 (4093 + 1) 4 := expand_step (by decide)
  have e3 : expand 8 (4093 + 1) 4 = digit 5 :: expand 8 4093 0 := expand_step (by decide)
  rw [show (4096 : Nat) = 4095 + 1 from rfl, e1, e2, e3, expand_zero]
  decide
theorem x_13 : exactF (ofQ (Rat.divInt 1 3)) = ([], false) := by
  rw [exactF_num (dS _ _ (by decide) (by decide)), show (Rat.divInt 1 3).num = 1 from by decide +kernel, show (Rat.divInt 1 3).den = 3 from by decide +kernel]
  rw [if_neg (by decide), if_neg (by decide)]
theorem w_13 : showQ (Rat.divInt (-1) 3) = [40, 45, 32, 40, 47, 32, 49, 46, 48, 32, 51, 46, 48, 41, 41] := by
  unfold showQ showN
  rw [show (Rat.divInt (-1) 3).num = -1 from by decide +kernel, show (Rat.divInt (-1) 3).den = 3 from by decide +kernel]
  rw [if_pos (by decide), if_neg (by decide), show Int.natAbs (-1) = 1 from rfl, dec_one (by decide), dec_one (by decide)]
  decide
theorem w_5 : showQ (Rat.divInt 5 1) = [53, 46, 48] := by
  unfold showQ showN
  rw [show (Rat.divInt 5 1).num = 5 from by decide +kernel, show (Rat.divInt 5 1).den = 1 from by decide +kernel]
  rw [if_neg (by decide), if_pos (by decide), show Int.natAbs 5 = 5 from rfl, dec_one (by decide)]
  decide
theorem d_125 : parseD [48, 46, 49, 50, 53] = (ofQ (Rat.divInt 1 8), 0) := by
  have e1 : cutU 46 [48, 46, 49, 50, 53] = [48] := by decide
  have e2 : cutD 46 [48, 46, 49, 50, 53] = [49, 50, 53] := by decide
  have e3 : trimR0 [49, 50, 53] = [49, 50, 53] := by decide
  unfold parseD
  rw [e1, e2, e3, if_pos (by decide), if_pos (by decide)]
  have : fracS [48] [49, 50, 53] = Rat.divInt 1 8 := by
    unfold fracS
    rw [show numD 0 ([48] ++ [49, 50, 53]) = 125 from by decide]
    decide +kernel
  rw [this]
  exact heldQ_ok (dS _ _ (by decide) (by decide))
theorem d_01 : parseD [48, 49] = (zF, 2) := by
  unfold parseD
  rw [if_neg (by decide)]
theorem d_1p : parseD [49, 46] = (zF, 2) := by
  unfold parseD
  rw [if_neg (by decide)]
def sAwake4 : List PVal → Option PVal
  | [] => some (.bool true)
  | _ => none
theorem sAwake4_nil : sAwake4 [] = some (.bool true) := rfl
def Tl4a : Tab := ((((Tab.none.with 14 (pureS sQOf)).with 11 (pureS (f2 sameP))).with 7 (pureS sDParse)).with 9 (pureS (f1 exactP))).with 12 (pureS (f1 showF))
theorem Tl4a_ok : TabOk Tryz.prog base2 Tl4a := Tab.with_ok (Tab.with_ok (Tab.with_ok (Tab.with_ok (Tab.with_ok Tab.none_ok rofR_ok) rsame_ok) dparse_ok) dexact_ok) dshow_ok
theorem Tl4a_mu (f : FuncId) (a : List AVal) (H : Heap) : Tl4a.mu f a H = none := (rfl)
theorem Tl4a_fns : Tl4a.fn 14 = pureS sQOf ∧ Tl4a.fn 11 = pureS (f2 sameP) ∧ Tl4a.fn 7 = pureS sDParse ∧ Tl4a.fn 9 = pureS (f1 exactP) ∧ Tl4a.fn 12 = pureS (f1 showF) := ⟨rfl, rfl, rfl, rfl, rfl⟩
theorem awake4_ok : FnOk Tryz.prog base2 6 (pureS sAwake4) := by
  refine pure_of_vc hmix Tl4a_ok globNone low6 fun args z hs hf => ?_
  unfold sAwake4 at hs
  split at hs
  case h_2 => cases hs
  cases hs
  refine ⟨by simp [lf6], ?_⟩
  have o18 := dO 1 8 (by decide)
  have o13 := dO 1 3 (by decide)
  have om13 := dO (-1) 3 (by decide)
  have o51 := dO 5 1 (by decide)
  have p1 := sDParse_at (s := [48, 46, 49, 50, 53]) (by decide)
  rw [d_125] at p1
  have p2 := sDParse_at (s := [48, 49]) (by decide)
  rw [d_01] at p2
  have p3 := sDParse_at (s := [49, 46]) (by decide)
  rw [d_1p] at p3
  have X1 := exactP_at x_18
  have X2 := exactP_at x_13
  have W1 := showF_at (dS (-1) 3 (by decide) (by decide) : Sm 64 _)
  rw [w_13] at W1
  have W2 := showF_at (dS 5 1 (by decide) (by decide) : Sm 64 _)
  rw [w_5] at W2
  have S1 := sameP_self (Rat.divInt 1 8)
  obtain ⟨x18, e18⟩ : ∃ x, x = ofQ (Rat.divInt 1 8) := ⟨_, rfl⟩
  obtain ⟨x13, e13⟩ : ∃ x, x = ofQ (Rat.divInt 1 3) := ⟨_, rfl⟩
  obtain ⟨xm13, em13⟩ : ∃ x, x = ofQ (Rat.divInt (-1) 3) := ⟨_, rfl⟩
  obtain ⟨x51, e51⟩ : ∃ x, x = ofQ (Rat.divInt 5 1) := ⟨_, rfl⟩
  simp only [← e18, ← e13, ← em13, ← e51] at o18 o13 om13 o51 p1 X1 X2 W1 W2 S1
  simp only [pairF, zF, Fr.enc, List.map_nil] at o18 o13 om13 o51 p1 p2 p3 X1 X2 W1 W2 S1
  clear e18 e13 em13 e51
  simp [lf6, o18, o13, om13, o51, p1, p2, p3, X1, X2, W1, W2, S1, binS, fillS, Tl4a_mu, Tl4a_fns]
end Go.Proofs.YtgdpephlpdonnaaGreatDoor

/-
  The reference's texts of whole numbers; DecimalShows answers true.
-/
namespace Go.Proofs.YtgdpephlpdonnaaGreatDoor
open Go Go.Abs Go.Limbs
variable {base : Prot}
set_option maxRecDepth 20000
attribute [local irreducible] vc
attribute [local simp] pureS touchV freezeL fuel shiftV u64 au
/-! ### The greatest divisor, by hand -/
end Go.Proofs.YtgdpephlpdonnaaGreatDoor
