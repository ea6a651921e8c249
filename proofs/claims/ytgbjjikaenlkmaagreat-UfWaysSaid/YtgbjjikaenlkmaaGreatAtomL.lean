/-
  The lowered code of atom, law9 and the reference's atoms, each equal to what the program's form lowers to. No conditions.
-/
import Derived.Test.YtgbjjikaenlkmaaGreatAbsTwo
import Derived.Test.YtgbjjikaenlkmaaGreatProg
import Derived.Test.YtgbjjikaenlkmaaGreatNatA
import Derived.KernelRfl
set_option linter.unusedSimpArgs false
set_option linter.unnecessarySimpa false
set_option linter.unusedVariables false
set_option linter.constructorNameAsVariable false

/-
 The lowered code of the functions, as the program's form has it.
-/
namespace Go.Proofs.YtgbjjikaenlkmaaGreat
open Go Go.Abs
def lf45 : LFunc := ⟨65,[.cell 4 7 true,.slot 5,.slot 6],.seq (.region [Oa 3 (.newv 4 76 (Tm 1)),Oa 4 (.newv 7 78 (.cst Za)),Oa 5 (.mov Kg),Oa 6 (.mov (Kz 0))]) (.seq (.seq (.region [Om 8 0,Oa 9 (.bin .eql (Tm 8) (Kz 4))]) (.cond (Tm 9) (.region [Oa 0 (.mov (Kz 3)),Oa 5 (.mov Kt)]) (.skip))) (.seq (.seq (.region [Om 10 0,Oa 11 (.call 76 [Tm 10]),Oa 12 (.un .not (Tm 11)),Om 13 12,Od 14 13 (.load 4 true (Tm 3)),Od 15 13 (.call 68 [Tm 14]),Od 16 13 (.un .not (Tm 15)),Ou 17 13 16]) (.cond (Tm 17) (.seq (.region [Oq 18 7 true 4,Oy 7 4 18,Oa 5 (.mov Kg),Oa 6 (.mov (Kz 1))]) (.ret)) (.skip))) (.seq (.region [Om 19 0,Oq 20 4 true 3,Oa 21 (.call 77 [Tm 20]),Oz 22 0 4,Oy 1 22 19,Oz 23 1 4,Oy 4 23 21]) (.seq (.region [Om 24 0,Oq 25 4 true 3,Oa 26 (.call 78 [Tm 24,Tm 25]),Oa 7 (.newv 3 33 (.cst Zr)),Oy 3 7 26]) (.seq (.seq (.region [Oq 27 3 true 7,Oa 28 (.call 71 [Tm 27]),Oa 29 (.bin .eql (Tm 28) (Kz 0))]) (.cond (Tm 29) (.seq (.region [Oq 30 7 true 4,Om 31 5,Oy 7 4 30,Om 5 31,Oa 6 (.mov (Kz 0))]) (.ret)) (.skip))) (.seq (.seq (.region [Oz 32 0 3,Oq 33 1 false 32,Oa 34 (.len (Tm 33)),Oa 35 (.bin .eql (Tm 34) (Kz 0))]) (.cond (Tm 35) (.seq (.region [Oz 36 1 3,Oq 37 3 true 36,Oa 38 (.call 71 [Tm 37]),Oa 39 (.call 43 [Tm 38,.cst (.p (.int .i64 1))]),Oz 40 1 4,Oz 41 1 40,Oy 3 41 39]) (.seq (.region [Oq 42 7 true 4,Om 43 5,Oy 7 4 42,Om 5 43,Oa 6 (.mov (Kz 0))]) (.ret))) (.skip))) (.seq (.seq (.regionW [(Oa 45 (.call 43 [.cst (.p (.int .i64 1)),.cst (.p (.int .i64 1))]),.s),(Oq 46 3 true 7,.s),(Oa 47 (.call 79 [Tm 45,Tm 46]),.f),(Om 44 47,.f),(Ox 48 44 0,.f),(Ox 49 44 1,.f),(Oy 3 7 48,.f),(Om 6 49,.f)]) (.seq (.region [Om 50 6,Oa 51 (.bin .eql (Tm 50) (Kz 0))]) (.cond (Tm 51) (.region [Oq 53 4 true 3,Oq 54 3 true 7,Oa 55 (.call 41 [Tm 53,Tm 54]),Om 52 55,Ox 56 52 0,Ox 57 52 1,Oz 58 1 4,Oy 4 58 56,Om 6 57]) (.skip)))) (.seq (.seq (.region [Om 59 6,Oa 60 (.bin .neq (Tm 59) (Kz 0))]) (.cond (Tm 60) (.seq (.region [Oa 61 (.build Za []),Om 62 6,Oy 7 4 61,Oa 5 (.mov Kg),Om 6 62]) (.ret)) (.skip))) (.seq
 (.region [Oq 63 7 true 4,Om 64 5,Oy 7 4 63,Om 5 64,Oa 6 (.mov (Kz 0))]) (.ret))))))))))⟩
theorem low45 : lowFunc Tryz.prog gl0 45 = some lf45 := Go.Abs.lowF (by kernel_rfl)
def lf76 : LFunc := ⟨13,[.slot 2],.seq (.region [Oa 2 (.mov Kg)]) (.seq (.region [Om 3 0,Oa 4 (.bin .eql (Tm 3) (Kz 1)),Om 5 4,Oo 6 5 0,Od 7 5 (.bin .eql (Tm 6) (Kz 2)),Ou 8 5 7,Om 9 8,Oo 10 9 0,Od 11 9 (.bin .eql (Tm 10) (Kz 3)),Ou 12 9 11,Om 2 12]) (.ret))⟩
theorem low76 : lowFunc Tryz.prog gl0 76 = some lf76 := Go.Abs.lowF (by kernel_rfl)
def lf78 : LFunc := ⟨33,[.cell 4 3 true],.seq (.region [Oa 3 (.newv 4 76 (Tm 1)),Oa 4 (.newv 3 33 (.cst Zr))]) (.seq (.region [Oz 6 1 3,Oq 7 3 true 6,Oa 5 (.newv 3 33 (.cst Zr)),Oy 3 5 7]) (.seq (.seq (.region [Oz 8 0 3,Oq 9 1 false 8,Oa 10 (.len (Tm 9)),Oa 11 (.bin .gtr (Tm 10) (Kz 0))]) (.cond (Tm 11) (.region [Oz 12 0 3,Oq 13 1 false 12,Oa 14 (.iadr 4 (Tm 13) (Kz 0)),Oz 15 0 14,Oq 16 3 true 15,Oy 3 5 16]) (.skip))) (.seq (.seq (.region [Oq 17 3 true 5,Oa 18 (.call 71 [Tm 17]),Oa 19 (.bin .lss (Tm 18) (Kz 0)),Om 20 19,Oj 21 20 0,Oc 22 20 (.bin .neq (Tm 21) (Kz 3)),Oj 23 20 22,Od 24 23 (.fadr 0 (Tm 3)),Od 25 23 (.load 1 false (Tm 24)),Od 26 23 (.len (Tm 25)),Od 27 23 (.bin .eql (Tm 26) (Kz 0)),Oc 28 20 (.pick (Tm 23) Kt (Tm 27)),Ot 29 20 28]) (.cond (Tm 29) (.region [Oq 30 3 true 5,Oa 31 (.call 118 [Tm 30]),Oy 3 5 31]) (.skip))) (.seq (.region [Oq 32 3 true 5,Oy 3 4 32]) (.ret)))))⟩
theorem low78 : lowFunc Tryz.prog gl0 78 = some lf78 := Go.Abs.lowF (by kernel_rfl)
def lf40 : LFunc := ⟨23,[.cell 4 7 true,.slot 5],.seq (.region [Oa 4 (.newv 7 78 (.cst Za)),Oa 5 (.mov (Kz 0))]) (.seq (.seq (.region [Om 6 0,Om 7 1,Oa 8 (.bin .eql (Tm 6) (Tm 7)),Om 9 8,Oo 10 9 0,Oo 11 9 1,Od 12 9 (.minmax false (Tm 10) (Tm 11)),Od 13 9 (.bin .lss (Tm 12) (Kz 0)),Ou 14 9 13]) (.cond (Tm 14) (.seq (.region [Oa 15 (.build Za []),Oy 7 4 15,Oa 5 (.mov (Kz 1))]) (.ret)) (.skip))) (.seq (.region [Om 16 0,Om 17 1,Oa 18 (.minmax false (Tm 16) (Tm 17)),Om 19 0,Om 20 1,Oa 21 (.minmax true (Tm 19) (Tm 20)),Oa 22 (.build Za [(0,1,(Kz 5)),(5,1,(Tm 18)),(6,1,(Tm 21))]),Oy 7 4 22,Oa 5 (.mov (Kz 0))]) (.ret)))⟩
theorem low40 : lowFunc Tryz.prog gl0 40 = some lf40 := Go.Abs.lowF (by kernel_rfl)
def lf46 : LFunc := ⟨9,[.cell 2 7 true,.slot 3],.seq (.region [Oa 2 (.newv 7 78 (.cst Za)),Oa 3 (.mov (Kz 0))]) (.seq (.seq (.region [Om 4 0,Oa 5 (.bin .lss (Tm 4) (Kz 0))]) (.cond (Tm 5) (.seq (.region [Oa 6 (.build Za []),Oy 7 2 6,Oa 3 (.mov (Kz 1))]) (.ret)) (.skip))) (.seq (.region [Om 7 0,Oa 8 (.build Za [(0,1,(Kz 6)),(5,1,(Tm 7))]),Oy 7 2 8,Oa 3 (.mov (Kz 0))]) (.ret)))⟩
theorem low46 : lowFunc Tryz.prog gl0 46 = some lf46 := Go.Abs.lowF (by kernel_rfl)
def lf7 : LFunc := ⟨12,[.slot 4],.seq (.region [Oa 4 (.mov (Kz 0))]) (.seq (.region [Om 5 0,Om 6 1,Oa 7 (.bin .rem (Tm 5) (Tm 6)),Om 8 1,Oa 9 (.bin .add (Tm 7) (Tm 8)),Om 10 1,Oa 11 (.bin .rem (Tm 9) (Tm 10)),Om 4 11]) (.ret))⟩
theorem low7 : lowFunc Tryz.prog gl0 7 = some lf7 := Go.Abs.lowF (by kernel_rfl)
end Go.Proofs.YtgbjjikaenlkmaaGreat
