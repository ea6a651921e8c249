/-
  What is told of ids, as law8 hands it on. No conditions beyond the lemmas' own hypotheses.
-/
import Derived.Test.YtepfpgnjpkcgmaaLinE
set_option linter.unusedSimpArgs false
set_option linter.unnecessarySimpa false
set_option linter.unusedVariables false
set_option linter.constructorNameAsVariable false

/-
  law8: what is told of ids.
-/
namespace Go.Proofs.Ytepfpgnjpkcgmaa
open Go Go.Abs Go.Limbs
variable {base : Prot}
set_option maxRecDepth 20000
attribute [local irreducible] vc
attribute [local simp] pureS touchV freezeL fuel shiftV u64 au
/-! ### What is told of ids, as the document's -/
def Tclo8a : Tab := Tab.none.with 11 (pureS sQOf)
theorem Tclo8a_ok : TabOk Try.prog base Tclo8a := Tab.with_ok Tab.none_ok rofR_ok
theorem Tclo8a_mu (f : FuncId) (a : List AVal) (H : Heap) : Tclo8a.mu f a H = none := (rfl)
theorem Tclo8a_fns : Tclo8a.fn 11 = (pureS sQOf) := (rfl)
def sClo8a : List PVal → Option PVal
  | [.int .i64 i] => if -1000 ≤ i ∧ i ≤ 1000 then some (ofQ (Rat.divInt i 1)).enc else none
  | _ => none
theorem clo8a_ok : FnOk Try.prog base 21 (pureS sClo8a) := by
  refine pure_of_vc hmix Tclo8a_ok globNone low21 fun args z hs hf => ?_
  unfold sClo8a at hs
  split at hs
  case h_2 => cases hs
  rename_i i
  split at hs
  case isFalse => cases hs
  rename_i hi
  cases hs
  refine ⟨by simp [lf21], ?_⟩
  have o1 := ofR (n := i) (d := 1) ⟨hi, by decide⟩
  obtain ⟨x, hx⟩ : ∃ x, x = ofQ (Rat.divInt i 1) := ⟨_, rfl⟩
  rw [← hx] at o1 ⊢
  simp only [Fr.enc] at o1 ⊢
  simp [lf21, o1, Tclo8a_mu, Tclo8a_fns]
/-- What functions of ids law8's awake hands on. -/
def L8a : Lk
  | .clo 21 [], p => if (p.ps.all fun x => decide (-1000 ≤ x.t) && decide (x.t ≤ 1000)) = true then some (fun i => ofQ (Rat.divInt i 1)) else none
  | _, _ => none
def Tv8a : Tab := (((((Tab.none.with 13 (pureS (g1 okPo))).with 27 (pureS (f1 boolF))).with 25 (pureS sOwn)).with 28 (pureS (f2 mulP))).with 24 (pureS (f2 addP))).with 21 (pureS sClo8a)
theorem Tv8a_ok : TabOk Try.prog base Tv8a := Tab.with_ok (Tab.with_ok (Tab.with_ok (Tab.with_ok (Tab.with_ok (Tab.with_ok Tab.none_ok lvalid_ok) qvalid_ok) lown_ok) qmul_ok) qadd_ok) clo8a_ok
theorem Tv8a_mu (f : FuncId) (a : List AVal) (H : Heap) : Tv8a.mu f a H = none := (rfl)
theorem Tv8a_fns : Tv8a.fn 13 = (pureS (g1 okPo)) ∧ Tv8a.fn 27 = (pureS (f1 boolF)) ∧ Tv8a.fn 25 = (pureS sOwn) ∧ Tv8a.fn 28 = (pureS (f2 mulP)) ∧ Tv8a.fn 24 = (pureS (f2 addP)) ∧ Tv8a.fn 21 = (pureS sClo8a) := ⟨rfl, rfl, rfl, rfl, rfl, rfl⟩
theorem L8a_ok : LkOk Tv8a L8a where
  mu := Tv8a_mu
  ok c p lk h := by
    unfold L8a at h
    split at h
    · split at h
      · rename_i hall
        cases h
        refine ⟨_, _, rfl, fun x hx => ⟨wf_ofQ _, ?_⟩⟩
        have := List.all_eq_true.1 hall x hx
        rw [Bool.and_eq_true, decide_eq_true_eq, decide_eq_true_eq] at this
        rw [Tv8a_fns.2.2.2.2.2, pureS]
        simp only [sClo8a, if_pos this]
      · cases h
    · cases h
theorem value8a_ok : FnOk Try.prog base 20 (pureS (sValue L8a)) := value_ok Tv8a_ok ⟨Tv8a_fns.1, Tv8a_fns.2.1, Tv8a_fns.2.2.1, Tv8a_fns.2.2.2.1, Tv8a_fns.2.2.2.2.1⟩ L8a_ok
end Go.Proofs.Ytepfpgnjpkcgmaa
