/-
  RatSums answers true on all values. No conditions.
-/
import Derived.Test.YtoechbpjfkabmaaGreatDoorRatM
import Derived.Test.YtoechbpjfkabmaaGreatDoorRatH
set_option linter.unusedSimpArgs false
set_option linter.unusedVariables false
set_option linter.constructorNameAsVariable false

/-
  law3: RatSums answers true.
-/
namespace Go.Proofs.YtoechbpjfkabmaaGreatDoor
open Go Go.Abs Go.Limbs
variable {base : Prot}
set_option maxRecDepth 20000
attribute [local irreducible] vc
attribute [local simp] pureS touchV freezeL fuel shiftV u64 au
def Tws : Tab := ((((((((Tl3.with 57 (pureS (f2 addP))).with 58 (pureS (f2 subP))).with 59 (pureS (f2 mulP))).with 34 (pureS (f2 quoP))).with 61 (pureS (f2 cmpP))).with 62 (pureS (f1 signP))).with 63 (pureS (f1 negP))).with 64 (pureS (f1 boolF)))
theorem Tws_ok : TabOk Tryz.prog base2 Tws := Tab.with_ok (Tab.with_ok (Tab.with_ok (Tab.with_ok (Tab.with_ok (Tab.with_ok (Tab.with_ok (Tab.with_ok Tl3_ok rAdd_ok) rSub_ok) rMul_ok) rQuo_ok) rCmp_ok) rSign_ok) rNeg_ok) rvalidR_ok
theorem Tws_mu (f : FuncId) (a : List AVal) (H : Heap) : Tws.mu f a H = none := (rfl)
theorem Tws_fns : Tws.fn 57 = pureS (f2 addP) ∧ Tws.fn 58 = pureS (f2 subP) ∧ Tws.fn 59 = pureS (f2 mulP) ∧ Tws.fn 34 = pureS (f2 quoP) ∧ Tws.fn 61 = pureS (f2 cmpP) ∧ Tws.fn 62 = pureS (f1 signP) ∧ Tws.fn 63 = pureS (f1 negP) ∧ Tws.fn 64 = pureS (f1 boolF) ∧
    Tws.fn 44 = pureS sAwake3 ∧ Tws.fn 47 = pureS (f2 sameP) ∧ Tws.fn 50 = pureS (f2 addP) ∧ Tws.fn 49 = pureS (f2 subP) ∧ Tws.fn 54 = pureS (f2 mulP) ∧ Tws.fn 60 = pureS (f2 quoP) ∧ Tws.fn 42 = pureS (f2 cmpP) ∧ Tws.fn 48 = pureS (f1 signP) ∧ Tws.fn 53 = pureS (f1 negP) ∧ Tws.fn 43 = pureS (f1 boolF) ∧ Tws.fn 41 = pureS (f2 fewP) :=
  ⟨rfl, rfl, rfl, rfl, rfl, rfl, rfl, rfl, rfl, rfl, rfl, rfl, rfl, rfl, rfl, rfl, rfl, rfl, rfl⟩
theorem sums_ok : FnOk Tryz.prog base2 12 (pureS sLw2) := by
  refine pure_of_vc hmix Tws_ok globNone low12 fun args z hs hf => ?_
  obtain ⟨x, y, wx, wy, rfl, rfl⟩ := f2_some hs
  refine ⟨by simp [lf12], ?_⟩
  have aw := sAwake3_nil
  have hfew1 : f2 fewP [x.enc, y.enc] = some (.bool (fewF x y)) := f2_at wx wy
  cases hf1 : fewF x y with
  | false => rw [hf1] at hfew1; simp only [Fr.enc] at hfew1 ⊢; simp [lf12, hfew1, aw, fillS, Tws_mu, Tws_fns]
  | true =>
  rw [hf1] at hfew1
  have s1 : f2 addP [x.enc, y.enc] = some (pairF (addF x y)) := f2_at wx wy
  have s2 : f2 subP [x.enc, y.enc] = some (pairF (subF x y)) := f2_at wx wy
  have s3 : f2 mulP [x.enc, y.enc] = some (pairF (mulF x y)) := f2_at wx wy
  have s4 : f2 quoP [x.enc, y.enc] = some (pairF (quoF x y)) := f2_at wx wy
  have c : f2 cmpP [x.enc, y.enc] = some (.int .i64 (cmpF x y)) := f2_at wx wy
  have g : f1 signP [x.enc] = some (.int .i64 (signF x)) := f1_at wx
  have n : f1 negP [x.enc] = some (negF x).enc := f1_at wx
  have v := vF wx
  have e1 := sameP_wf (wf_addF x y)
  have e2 := sameP_wf (wf_subF x y)
  have e3 := sameP_wf (wf_mulF x y)
  have e4 := sameP_wf (wf_quoF x y)
  have e5 := sameP_wf (wf_negF x)
  obtain ⟨A, hA⟩ : ∃ A, A = addF x y := ⟨_, rfl⟩
  obtain ⟨S, hS⟩ : ∃ A, A = subF x y := ⟨_, rfl⟩
  obtain ⟨M, hM⟩ : ∃ A, A = mulF x y := ⟨_, rfl⟩
  obtain ⟨Q, hQ⟩ : ∃ A, A = quoF x y := ⟨_, rfl⟩
  obtain ⟨N, hN⟩ : ∃ A, A = negF x := ⟨_, rfl⟩
  obtain ⟨k, hk⟩ : ∃ A, A = cmpF x y := ⟨_, rfl⟩
  obtain ⟨j, hj⟩ : ∃ A, A = signF x := ⟨_, rfl⟩
  obtain ⟨b, hb⟩ : ∃ A, A = x.ok := ⟨_, rfl⟩
  rw [← hA] at s1 e1
  rw [← hS] at s2 e2
  rw [← hM] at s3 e3
  rw [← hQ] at s4 e4
  rw [← hN] at n e5
  rw [← hk] at c
  rw [← hj] at g
  rw [← hb] at v
  simp only [pairF, Fr.enc] at hfew1 s1 s2 s3 s4 c g n v e1 e2 e3 e4 e5 ⊢
  cases b <;> simp [lf12, hfew1, s1, s2, s3, s4, c, g, n, v, e1, e2, e3, e4, e5, aw, fillS, Tws_mu, Tws_fns]
end Go.Proofs.YtoechbpjfkabmaaGreatDoor
