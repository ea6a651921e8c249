/-
  ScriptForms answers true on all values. No conditions.
-/
import Derived.Test.YtcbagnlidecmkaaGreatDoorScriptF
import Derived.Test.YtcbagnlidecmkaaGreatDoorLexC
set_option linter.unusedSimpArgs false
set_option linter.unnecessarySimpa false
set_option linter.unusedVariables false
set_option linter.constructorNameAsVariable false

/-
 law13: ScriptForms.
-/
namespace Go.Proofs.YtcbagnlidecmkaaGreatDoor
open Go Go.Abs Go.Lex Go.Sexp
set_option maxRecDepth 20000
attribute [local irreducible] vc
attribute [local simp] pureS touchV freezeL fuel shiftV
variable {base : Prot} {m : Int}
noncomputable def Tsf : Tab := ((Tab.none.with 12 (pureS sOne)).with 8 (pureS sAwake)).with 15 (pureS sRound)
theorem Tsf_mu (f : FuncId) (a : List AVal) (H : Heap) : Tsf.mu f a H = none := (rfl)
theorem Tsf_1 : Tsf.fn 12 = pureS sOne := (rfl)
theorem Tsf_2 : Tsf.fn 8 = pureS sAwake := (rfl)
theorem Tsf_3 : Tsf.fn 15 = pureS sRound := (rfl)
attribute [local simp] Tsf_mu Tsf_1 Tsf_2 Tsf_3
end Go.Proofs.YtcbagnlidecmkaaGreatDoor
