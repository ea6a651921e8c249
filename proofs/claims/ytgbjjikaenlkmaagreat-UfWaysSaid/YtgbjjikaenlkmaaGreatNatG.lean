/-
  The lowered code of the functions of texts, each equal to what the program's form lowers to. No conditions. What strconv's functions at base ten and the iterator of slices.Backward compute. No conditions beyond the lemmas' own hypotheses.
-/
import Derived.Test.YtgbjjikaenlkmaaGreatAbsTwo
import Derived.Test.YtgbjjikaenlkmaaGreatProg
import Derived.Test.YtgbjjikaenlkmaaGreatNatA
import Derived.KernelRfl
import Derived.Shelf.Strconv.Itoa0
import Derived.Shelf.Strconv.Itoa1
import Derived.Shelf.LaysM
import Derived.Shelf.Strconv.Itoa2
import Derived.Test.YtgbjjikaenlkmaaGreatNatD
import Derived.Shelf.Strconv.Itoa3
import Derived.Lib.Walk
import Derived.Lib.ItoaMem
import Derived.WalkKit
import Derived.BigCall
import Derived.BigGuard
import Derived.Test.YtgbjjikaenlkmaaGreatAbsFour
import Derived.RangeFuncBox
import Derived.Shelf.Abstract
import Derived.OwnWalkIn
import Derived.TacticsInMore
import Derived.LoopNIn
import Derived.LoopIn
set_option linter.unusedSimpArgs false
set_option linter.unnecessarySimpa false
set_option linter.unusedVariables false
set_option linter.constructorNameAsVariable false

/-
 The lowered code of the functions, as the program's form has it.
-/
namespace Go.Proofs.YtgbjjikaenlkmaaGreat
open Go Go.Abs
def lf62_B0 : LCode := .block 0 (.loop (.seq (.seq (.region [Om 11 5,Om 12 0,Oa 13 (.len (Tm 12)),Oa 14 (.bin .lss (Tm 11) (Tm 13))]) (.cond (Tm 14) (.skip) (.exit 0))) (.seq (.block 1 (.seq (.regionD [Om 17 0,Om 18 5,Oa 19 (.iadr 1 (Tm 17) (Tm 18)),Oq 20 1 false 19,Om 21 1,Om 22 5,Oa 23 (.iadr 1 (Tm 21) (Tm 22)),Oq 24 1 false 23,Oa 25 (.bin .neq (Tm 20) (Tm 24))]) (.cond (Tm 25) (.seq (.region [Oa 4 (.mov Kg)]) (.ret)) (.skip)))) (.region [Om 15 5,Oa 16 (.bin .add (Tm 15) (Kz 1)),Om 5 16]))))
def lf62 : LFunc := ⟨26,[.slot 4],.seq (.region [Oa 4 (.mov Kg)]) (.seq (.seq (.region [Om 6 0,Oa 7 (.len (Tm 6)),Om 8 1,Oa 9 (.len (Tm 8)),Oa 10 (.bin .neq (Tm 7) (Tm 9))]) (.cond (Tm 10) (.seq (.region [Oa 4 (.mov Kg)]) (.ret)) (.skip))) (.seq (.seq (.region [Oa 5 (.mov (Kz 0))]) (lf62_B0)) (.seq (.region [Oa 4 (.mov Kt)]) (.ret))))⟩
theorem low62 : lowFunc Tryz.prog gl0 62 = some lf62 := Go.Abs.lowF (by kernel_rfl)
end Go.Proofs.YtgbjjikaenlkmaaGreat

/-
 DERIVED: THE SHELF's CONTRACTS AT THIS DUMP, IN PLAIN WORDS (tools/lay-plain.mjs out of 'TryzShelf.lean', which tools/lay-shelf.mjs wrote): THE SAME DECLARATIONS UNDER THE SAME NAMES: 'import', 'namespace', 'open', 'def', 'theorem' AND NOTHING ELSE: no command of the shelf's: FOR A HAND-IN. Each laying: the table of numbers ('.._ren') and one theorem, a field a fact of the dump's own or the kernel's comparison; each contract: ONE APPLICATION.
-/
namespace Go.Proofs
open Go.Shelf
end Go.Proofs

/-
 internal/strconv: how many digits; a number's decimal numeral.
-/
namespace Go.Proofs.YtgbjjikaenlkmaaGreat
open Go Go.Abs Go.Limbs
variable {base : Prot}
set_option maxRecDepth 20000
section
attribute [local irreducible] vc
attribute [local simp] pureS touchV freezeL fuel shiftV u64
end
end Go.Proofs.YtgbjjikaenlkmaaGreat

/-
 internal/strconv.FormatUint at base 10: every number's decimal numeral.
-/
namespace Go.Proofs.YtgbjjikaenlkmaaGreat
open Go Go.Shelf Go.RowKit Go.Sort Go.Lib Go.Abs
section
set_option maxRecDepth 20000
attribute [local irreducible] vc
attribute [local simp] pureS touchV freezeL fuel shiftV u64
end
end Go.Proofs.YtgbjjikaenlkmaaGreat

/-
 slices.Backward: what its iterator hands out.
-/
namespace Go.Proofs.YtgbjjikaenlkmaaGreat
open Go Go.Abs Go.RowKit Go.Shelf
attribute [local go_sem] Oper.semAt_some
def upto {α : Type} (f : Nat → α) (k : Nat) : List α := (List.range k).map f
theorem upto_succ {α : Type} (f : Nat → α) (k : Nat) : upto f (k + 1) = upto f k ++ [f k] := by simp [upto, List.range_succ]
theorem upto_length {α : Type} (f : Nat → α) (k : Nat) : (upto f k).length = k := by simp [upto]
end Go.Proofs.YtgbjjikaenlkmaaGreat
