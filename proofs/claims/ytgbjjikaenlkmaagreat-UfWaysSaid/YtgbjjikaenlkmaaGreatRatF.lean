/-
  The lowered code of law3 and the reference's fractions, each equal to what the program's form lowers to. No conditions.
-/
import Derived.Test.YtgbjjikaenlkmaaGreatAbsTwo
import Derived.Test.YtgbjjikaenlkmaaGreatProg
import Derived.Test.YtgbjjikaenlkmaaGreatNatA
import Derived.KernelRfl
set_option linter.unusedSimpArgs false
set_option linter.unnecessarySimpa false
set_option linter.unusedVariables false
set_option linter.constructorNameAsVariable false

/-
 The lowered code of the functions, as the program's form has it.
-/
namespace Go.Proofs.YtgbjjikaenlkmaaGreat
open Go Go.Abs
def lf36 : LFunc := ⟨24,[.slot 4],.seq (.region [Oa 2 (.newv 3 33 (Tm 0)),Oa 3 (.newv 3 33 (Tm 1)),Oa 4 (.mov Kg)]) (.seq (.region [Oz 5 0 2,Oq 6 1 false 5,Oz 7 0 3,Oq 8 1 false 7,Oa 9 (.eqB false (Tm 6) (Tm 8)),Om 10 9,Oc 11 10 (.fadr 1 (Tm 2)),Oc 12 10 (.load 1 false (Tm 11)),Oc 13 10 (.fadr 1 (Tm 3)),Oc 14 10 (.load 1 false (Tm 13)),Oc 15 10 (.call 62 [Tm 12,Tm 14]),Ot 16 10 15,Om 17 16,Oc 18 17 (.fadr 2 (Tm 2)),Oc 19 17 (.load 1 false (Tm 18)),Oc 20 17 (.fadr 2 (Tm 3)),Oc 21 17 (.load 1 false (Tm 20)),Oc 22 17 (.call 62 [Tm 19,Tm 21]),Ot 23 17 22,Om 4 23]) (.ret))⟩
theorem low36 : lowFunc Tryz.prog gl0 36 = some lf36 := Go.Abs.lowF (by kernel_rfl)
def lf64 : LFunc := ⟨38,[.cell 6 3 true],.seq (.region [Oa 6 (.newv 3 33 (.cst Zr))]) (.seq (.region [Om 12 1,Om 13 2,Oa 14 (.call 103 [Tm 12,Tm 13]),Om 7 14]) (.seq (.region [Om 16 1,Om 17 7,Oa 18 (.call 104 [Tm 16,Tm 17]),Om 15 18,Ox 19 15 0,Ox 20 15 1,Om 8 19,Om 9 20]) (.seq (.region [Om 22 2,Om 23 7,Oa 24 (.call 104 [Tm 22,Tm 23]),Om 21 24,Ox 25 21 0,Ox 26 21 1,Om 10 25,Om 11 26]) (.seq (.region [Om 27 0,Om 28 27,Oj 29 28 8,Oc 30 28 (.len (Tm 29)),Oc 31 28 (.bin .gtr (Tm 30) (Kz 0)),Ot 32 28 31,Om 33 8,Oa 34 (.call 66 [Tm 33]),Om 35 10,Oa 36 (.call 66 [Tm 35]),Oa 37 (.build Zr [(0,1,(Tm 32)),(1,1,(Tm 34)),(2,1,(Tm 36))]),Oy 3 6 37]) (.ret)))))⟩
theorem low64 : lowFunc Tryz.prog gl0 64 = some lf64 := Go.Abs.lowF (by kernel_rfl)
def lf19 : LFunc := ⟨18,[.cell 4 3 true],.seq (.region [Oa 4 (.newv 3 33 (.cst Zr))]) (.seq (.seq (.region [Om 7 1,Oa 8 (.bin .eql (Tm 7) (Kz 0))]) (.cond (Tm 8) (.region [Oa 0 (.mov (Kz 0)),Oa 1 (.mov (Kz 1))]) (.skip))) (.seq (.region [Om 10 0,Oa 11 (.call 38 [Tm 10]),Om 12 1,Oa 13 (.call 38 [Tm 12]),Oa 14 (.call 37 [Tm 11,Tm 13]),Om 9 14,Ox 15 9 0,Ox 16 9 1,Oa 5 (.newv 3 33 (.cst Zr)),Oy 3 5 15,Om 6 16]) (.seq (.region [Oq 17 3 true 5,Oy 3 4 17]) (.ret))))⟩
theorem low19 : lowFunc Tryz.prog gl0 19 = some lf19 := Go.Abs.lowF (by kernel_rfl)
def lf37 : LFunc := ⟨31,[.cell 4 3 true,.slot 5],.seq (.region [Oa 2 (.newv 2 113 (Tm 0)),Oa 3 (.newv 2 113 (Tm 1)),Oa 4 (.newv 3 33 (.cst Zr)),Oa 5 (.mov (Kz 0))]) (.seq (.seq (.region [Oq 6 2 true 2,Oa 7 (.call 63 [Tm 6]),Oa 8 (.un .not (Tm 7)),Om 9 8,Od 10 9 (.load 2 true (Tm 3)),Od 11 9 (.call 63 [Tm 10]),Od 12 9 (.un .not (Tm 11)),Ou 13 9 12,Om 14 13,Od 15 14 (.fadr 1 (Tm 3)),Od 16 14 (.load 1 false (Tm 15)),Od 17 14 (.len (Tm 16)),Od 18 14 (.bin .eql (Tm 17) (Kz 0)),Ou 19 14 18]) (.cond (Tm 19) (.seq (.region [Oa 20 (.build Zr []),Oy 3 4 20,Oa 5 (.mov (Kz 1))]) (.ret)) (.skip))) (.seq (.region [Oz 21 0 2,Oq 22 1 false 21,Oz 23 0 3,Oq 24 1 false 23,Oa 25 (.eqB true (Tm 22) (Tm 24)),Oz 26 1 2,Oq 27 1 false 26,Oz 28 1 3,Oq 29 1 false 28,Oa 30 (.call 64 [Tm 25,Tm 27,Tm 29]),Oy 3 4 30,Oa 5 (.mov (Kz 0))]) (.ret)))⟩
theorem low37 : lowFunc Tryz.prog gl0 37 = some lf37 := Go.Abs.lowF (by kernel_rfl)
end Go.Proofs.YtgbjjikaenlkmaaGreat
