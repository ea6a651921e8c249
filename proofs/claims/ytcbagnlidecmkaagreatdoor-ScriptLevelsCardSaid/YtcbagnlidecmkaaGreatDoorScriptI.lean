/-
  ScriptParams answers true on all values. No conditions.
-/
import Derived.Test.YtcbagnlidecmkaaGreatDoorScriptG
import Derived.Test.YtcbagnlidecmkaaGreatDoorScriptP
import Derived.Test.YtcbagnlidecmkaaGreatDoorLexC
set_option linter.unusedSimpArgs false
set_option linter.unnecessarySimpa false
set_option linter.unusedVariables false
set_option linter.constructorNameAsVariable false

/-
 law13: ScriptParams.
-/
namespace Go.Proofs.YtcbagnlidecmkaaGreatDoor
open Go Go.Abs Go.Lex Go.Sexp
set_option maxRecDepth 20000
attribute [local irreducible] vc
attribute [local simp] pureS touchV freezeL fuel shiftV
variable {base : Prot} {m : Int}
noncomputable def Tpm : Tab := ((Tab.none.with 12 (pureS sOne)).with 8 (pureS sAwake)).with 15 (pureS sRound)
theorem Tpm_mu (f : FuncId) (a : List AVal) (H : Heap) : Tpm.mu f a H = none := (rfl)
theorem Tpm_1 : Tpm.fn 12 = pureS sOne := (rfl)
theorem Tpm_2 : Tpm.fn 8 = pureS sAwake := (rfl)
theorem Tpm_3 : Tpm.fn 15 = pureS sRound := (rfl)
attribute [local simp] Tpm_mu Tpm_1 Tpm_2 Tpm_3
end Go.Proofs.YtcbagnlidecmkaaGreatDoor
