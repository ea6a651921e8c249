/-
  law2's awake. No conditions.
-/
import Derived.Test.YtoechbpjfkabmaaGreatDoorWholeIB
set_option linter.unusedSimpArgs false
set_option linter.unusedVariables false
set_option linter.constructorNameAsVariable false

/-
  whole: calls at numbers; law2's awake.
-/
namespace Go.Proofs.YtoechbpjfkabmaaGreatDoor
open Go Go.Abs Go.Limbs
variable {base : Prot}
set_option maxRecDepth 20000
attribute [local irreducible] vc
attribute [local simp] pureS touchV freezeL fuel shiftV u64 au
theorem dec_63 : Lib.decDigits 9223372036854775808 = [57, 50, 50, 51, 51, 55, 50, 48, 51, 54, 56, 53, 52, 55, 55, 53, 56, 48, 56] := by
  have h : ∀ u v d, ¬ u < 10 → u / 10 = v → digit (u % 10) = d → Lib.decDigits u = Lib.decDigits v ++ [d] := fun u v d h1 h2 h3 => by rw [dec_ten h1, h2, h3]
  rw [h 9223372036854775808 922337203685477580 56 (by decide) (by decide) (by decide)]
  rw [h 922337203685477580 92233720368547758 48 (by decide) (by decide) (by decide)]
  rw [h 92233720368547758 9223372036854775 56 (by decide) (by decide) (by decide)]
  rw [h 9223372036854775 922337203685477 53 (by decide) (by decide) (by decide)]
  rw [h 922337203685477 92233720368547 55 (by decide) (by decide) (by decide)]
  rw [h 92233720368547 9223372036854 55 (by decide) (by decide) (by decide)]
  rw [h 9223372036854 922337203685 52 (by decide) (by decide) (by decide)]
  rw [h 922337203685 92233720368 53 (by decide) (by decide) (by decide)]
  rw [h 92233720368 9223372036 56 (by decide) (by decide) (by decide)]
  rw [h 9223372036 922337203 54 (by decide) (by decide) (by decide)]
  rw [h 922337203 92233720 51 (by decide) (by decide) (by decide)]
  rw [h 92233720 9223372 48 (by decide) (by decide) (by decide)]
  rw [h 9223372 922337 50 (by decide) (by decide) (by decide)]
  rw [h 922337 92233 55 (by decide) (by decide) (by decide)]
  rw [h 92233 9223 51 (by decide) (by decide) (by decide)]
  rw [h 9223 922 51 (by decide) (by decide) (by decide)]
  rw [h 922 92 50 (by decide) (by decide) (by decide)]
  rw [h 92 9 50 (by decide) (by decide) (by decide), Lib.decDigits_one (by decide)]
  rfl
theorem awake2_ok : FnOk Tryz.prog base2 15 (pureS sAwake) := by
  refine pure_of_vc hmix Ta2_ok globNone low15 fun args z hs hf => ?_
  unfold sAwake at hs
  split at hs
  case h_2 => cases hs
  cases hs
  refine ⟨by simp [lf15], ?_⟩
  have sm : ∀ z : Int, z.natAbs < B → zl z ≤ 64 := fun z h => Nat.le_trans (zl_small h) (by decide)
  have hm7 : iN (-7) = .agg [.bool true, .lst [.int .u64 7]] := iN_small rfl (by decide) (by decide) rfl
  have h2 : iN 2 = .agg [.bool false, .lst [.int .u64 2]] := iN_small rfl (by decide) (by decide) rfl
  have h1 : iN 1 = .agg [.bool false, .lst [.int .u64 1]] := iN_small rfl (by decide) (by decide) rfl
  have hm4 : iN (-4) = .agg [.bool true, .lst [.int .u64 4]] := iN_small rfl (by decide) (by decide) rfl
  have hm3 : iN (-3) = .agg [.bool true, .lst [.int .u64 3]] := iN_small rfl (by decide) (by decide) rfl
  have hmn : iN (-9223372036854775808) = .agg [.bool true, .lst [.int .u64 9223372036854775808]] := iN_small rfl (by decide) (by decide) rfl
  have h62 : iN 4611686018427387904 = .agg [.bool false, .lst [.int .u64 4611686018427387904]] := iN_small rfl (by decide) (by decide) rfl
  have h63 : iN 9223372036854775808 = .agg [.bool false, .lst [.int .u64 9223372036854775808]] := iN_small rfl (by decide) (by decide) rfl
  have o1 := sIOf_at (n := -7) (by decide) (by decide)
  have o2 := sIOf_at (n := 2) (by decide) (by decide)
  have o3 := sIOf_at (n := 1) (by decide) (by decide)
  have o4 := sIOf_at (n := 0) (by decide) (by decide)
  have o5 := sIOf_at (n := -9223372036854775808) (by decide) (by decide)
  have o6 := sIOf_at (n := 4611686018427387904) (by decide) (by decide)
  have o7 := sIOf_at (n := -4) (by decide) (by decide)
  have o8 := sIOf_at (n := -3) (by decide) (by decide)
  have d1 := sIDiv_num (z := -7) (w := 2) (Nat.le_trans (zl_small (by decide)) (by decide)) (sm 2 (by decide)) (by decide)
  rw [show qD (-7) 2 = -4 from by decide, show rD (-7) 2 = 1 from by decide] at d1
  have d2 := sIDiv_zero 1
  have p1 : sIParse [.str [45, 48]] = some (.tup [.agg [.bool false, .lst []], .int .i64 0]) := by
    rw [sIParse_at (by decide)]
    have e : parseL [48] = ([], 0) := by
      unfold parseL
      rw [if_pos (by decide), if_neg (by decide), show numD 0 [48] = 0 from rfl, heldL_num (by rw [len_zero]; decide), limbs_zero]
    simp [parseI, e, iP]
  have v1 := cIVal (z := -9223372036854775808) (by decide) (sm _ (by decide))
  have v2 := cIValNo (z := 9223372036854775808) (by decide)
  have a1 := cIAdd (z := 4611686018427387904) (w := 4611686018427387904) (v := 9223372036854775808) (sm _ (by decide)) (sm _ (by decide)) (by decide) (sm _ (by decide))
  have t1 : sIText [iN 9223372036854775808] = some (.str [57, 50, 50, 51, 51, 55, 50, 48, 51, 54, 56, 53, 52, 55, 55, 53, 56, 48, 56]) := by
    rw [iN_raw, sIText_list (wf_limbs _)]
    unfold textI
    have e : (9223372036854775808 : Int).natAbs = 9223372036854775808 := rfl
    rw [okI_num (sm _ (by decide)), val_limbs, if_pos rfl, if_neg (by decide), e, dec_63]
  have n1 := cINeg (z := 9223372036854775808) (v := -9223372036854775808) (sm _ (by decide)) (by decide)
  have g1 := cISign (z := -9223372036854775808) (sm _ (by decide))
  rw [show sgnZ (-9223372036854775808) = -1 from by decide] at g1
  have c1 := cICmp (z := -3) (w := 2) (sm _ (by decide)) (sm _ (by decide))
  rw [show cmpZ (-3) 2 = -1 from by decide] at c1
  have l1 : sIV [.agg [.bool true, .lst []]] = some (.bool false) := by
    have := sIV_list (s := true) Wf.nil
    simp only [List.map_nil] at this
    rw [this, show okI true [] = false from by unfold okI; simp]
  have s1 := cISelf (-4)
  have s2 := cISelf 1
  have s3 := cISelf 0
  simp only [hm7, h2, h1, hm4, hm3, hmn, h62, h63, iN_zero, iP, List.map_nil] at o1 o2 o3 o4 o5 o6 o7 o8 d1 d2 v1 v2 a1 t1 n1 g1 c1 s1 s2 s3
  simp [lf15, o1, o2, o3, o4, o5, o6, o7, o8, d1, d2, p1, v1, v2, a1, t1, n1, g1, c1, l1, s1, s2, s3, binS, fillS, Ta2_mu, Ta2_fns]
end Go.Proofs.YtoechbpjfkabmaaGreatDoor
