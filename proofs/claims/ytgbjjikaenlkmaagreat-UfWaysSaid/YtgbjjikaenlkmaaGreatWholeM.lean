/-
  The lowered code of whole and the reference's whole numbers, each equal to what the program's form lowers to. No conditions.
-/
import Derived.Test.YtgbjjikaenlkmaaGreatAbsTwo
import Derived.Test.YtgbjjikaenlkmaaGreatProg
import Derived.Test.YtgbjjikaenlkmaaGreatNatA
import Derived.KernelRfl
set_option linter.unusedSimpArgs false
set_option linter.unnecessarySimpa false
set_option linter.unusedVariables false
set_option linter.constructorNameAsVariable false

/-
 The lowered code of the functions, as the program's form has it.
-/
namespace Go.Proofs.YtgbjjikaenlkmaaGreat
open Go Go.Abs
def lf112 : LFunc := ⟨17,[.slot 2],.seq (.region [Oa 1 (.newv 2 113 (Tm 0)),Oa 2 (.mov Kg)]) (.seq (.region [Oz 3 1 1,Oq 4 1 false 3,Oa 5 (.call 105 [Tm 4]),Om 6 5,Oc 7 6 (.fadr 0 (Tm 1)),Oc 8 6 (.load 1 false (Tm 7)),Oc 9 6 (.un .not (Tm 8)),Oj 10 6 9,Od 11 10 (.fadr 1 (Tm 1)),Od 12 10 (.load 1 false (Tm 11)),Od 13 10 (.len (Tm 12)),Od 14 10 (.bin .gtr (Tm 13) (Kz 0)),Oc 15 6 (.pick (Tm 10) Kt (Tm 14)),Ot 16 6 15,Om 2 16]) (.ret))⟩
theorem low112 : lowFunc Tryz.prog gl0 112 = some lf112 := Go.Abs.lowF (by kernel_rfl)
def lf73 : LFunc := ⟨13,[.cell 2 2 true],.seq (.region [Oa 2 (.newv 2 113 (.cst (.agg [.p (.bool false),.tight []])))]) (.seq (.seq (.region [Om 3 0,Oa 4 (.bin .geq (Tm 3) (Kz 0))]) (.cond (Tm 4) (.seq (.region [Om 5 0,Oa 6 (.call 113 [Tm 5]),Oa 7 (.build (.agg [.p (.bool false),.tight []]) [(1,1,(Tm 6))]),Oy 2 2 7]) (.ret)) (.skip))) (.seq (.region [Om 8 0,Oa 9 (.conv (.toInt .u64) (Tm 8)),Oa 10 (.un .neg (Tm 9)),Oa 11 (.buildSl 1 147 (.p (.int .u64 0)) 1 [(0,(Tm 10))]),Oa 12 (.build (.agg [.p (.bool false),.tight []]) [(0,1,Kt),(1,1,(Tm 11))]),Oy 2 2 12]) (.ret)))⟩
theorem low73 : lowFunc Tryz.prog gl0 73 = some lf73 := Go.Abs.lowF (by kernel_rfl)
def lf140 : LFunc := ⟨13,[.cell 4 2 true],.seq (.region [Oa 4 (.newv 2 113 (.cst (.agg [.p (.bool false),.tight []])))]) (.seq (.region [Om 5 0,Om 6 5,Oj 7 6 1,Oc 8 6 (.len (Tm 7)),Oc 9 6 (.bin .gtr (Tm 8) (Kz 0)),Ot 10 6 9,Om 11 1,Oa 12 (.build (.agg [.p (.bool false),.tight []]) [(0,1,(Tm 10)),(1,1,(Tm 11))]),Oy 2 4 12]) (.ret))⟩
theorem low140 : lowFunc Tryz.prog gl0 140 = some lf140 := Go.Abs.lowF (by kernel_rfl)
def lf110 : LFunc := ⟨16,[.slot 2],.seq (.region [Oa 1 (.newv 2 113 (Tm 0)),Oa 2 (.mov (Kz 0))]) (.seq (.block 0 (.seq (.region [Oq 4 2 true 1,Oa 5 (.call 112 [Tm 4]),Oa 6 (.un .not (Tm 5)),Om 7 6,Od 8 7 (.fadr 1 (Tm 1)),Od 9 7 (.load 1 false (Tm 8)),Od 10 7 (.len (Tm 9)),Od 11 7 (.bin .eql (Tm 10) (Kz 0)),Ou 12 7 11,Om 3 12]) (.cond (Tm 3) (.seq (.region [Oa 2 (.mov (Kz 0))]) (.ret)) (.seq (.region [Oz 14 0 1,Oq 15 1 false 14,Om 13 15]) (.cond (Tm 13) (.seq (.region [Oa 2 (.mov (Kz (-1)))]) (.ret)) (.skip)))))) (.seq (.region [Oa 2 (.mov (Kz 1))]) (.ret)))⟩
theorem low110 : lowFunc Tryz.prog gl0 110 = some lf110 := Go.Abs.lowF (by kernel_rfl)
def lf114 : LFunc := ⟨42,[.cell 4 2 true],.seq (.region [Oa 2 (.newv 2 113 (Tm 0)),Oa 3 (.newv 2 113 (Tm 1)),Oa 4 (.newv 2 113 (.cst (.agg [.p (.bool false),.tight []])))]) (.seq (.block 0 (.seq (.region [Oz 6 0 2,Oq 7 1 false 6,Oz 8 0 3,Oq 9 1 false 8,Oa 10 (.eqB false (Tm 7) (Tm 9)),Om 5 10]) (.cond (Tm 5) (.seq (.regionW [(Oz 11 0 2,.s),(Oq 12 1 false 11,.s),(Oz 13 1 2,.f),(Oq 14 1 false 13,.f),(Oz 15 1 3,.f),(Oq 16 1 false 15,.f),(Oa 17 (.call 141 [Tm 14,Tm 16]),.s),(Oa 18 (.call 140 [Tm 12,Tm 17]),.f),(Oy 2 4 18,.f)]) (.ret)) (.seq (.region [Oz 20 1 2,Oq 21 1 false 20,Oz 22 1 3,Oq 23 1 false 22,Oa 24 (.call 106 [Tm 21,Tm 23]),Oa 25 (.bin .lss (Tm 24) (Kz 0)),Om 19 25]) (.cond (Tm 19) (.seq (.regionW [(Oz 26 0 3,.s),(Oq 27 1 false 26,.s),(Oz 28 1 3,.f),(Oq 29 1 false 28,.f),(Oz 30 1 2,.f),(Oq 31 1 false 30,.f),(Oa 32 (.call 142 [Tm 29,Tm 31]),.s),(Oa 33 (.call 140 [Tm 27,Tm 32]),.f),(Oy 2 4 33,.f)]) (.ret)) (.skip)))))) (.seq (.regionW [(Oz 34 0 2,.s),(Oq 35 1 false 34,.s),(Oz 36 1 2,.f),(Oq 37 1 false 36,.f),(Oz 38 1 3,.f),(Oq 39 1 false 38,.f),(Oa 40 (.call 142 [Tm 37,Tm 39]),.s),(Oa 41 (.call 140 [Tm 35,Tm 40]),.f),(Oy 2 4 41,.f)]) (.ret)))⟩
theorem low114 : lowFunc Tryz.prog gl0 114 = some lf114 := Go.Abs.lowF (by kernel_rfl)
def lf115 : LFunc := ⟨16,[.cell 4 2 true],.seq (.region [Oa 2 (.newv 2 113 (Tm 0)),Oa 3 (.newv 2 113 (Tm 1)),Oa 4 (.newv 2 113 (.cst (.agg [.p (.bool false),.tight []])))]) (.seq (.regionW [(Oz 5 0 2,.s),(Oq 6 1 false 5,.s),(Oz 7 0 3,.s),(Oq 8 1 false 7,.s),(Oa 9 (.eqB true (Tm 6) (Tm 8)),.f),(Oz 10 1 2,.f),(Oq 11 1 false 10,.f),(Oz 12 1 3,.f),(Oq 13 1 false 12,.f),(Oa 14 (.call 109 [Tm 11,Tm 13]),.s),(Oa 15 (.call 140 [Tm 9,Tm 14]),.f),(Oy 2 4 15,.f)]) (.ret))⟩
theorem low115 : lowFunc Tryz.prog gl0 115 = some lf115 := Go.Abs.lowF (by kernel_rfl)
def lf38 : LFunc := ⟨16,[.cell 2 2 true],.seq (.region [Oa 2 (.newv 2 113 (.cst (.agg [.p (.bool false),.tight []])))]) (.seq (.region [Om 4 0,Oa 5 (.conv (.toInt .u64) (Tm 4)),Om 3 5]) (.seq (.seq (.region [Om 6 0,Oa 7 (.bin .lss (Tm 6) (Kz 0))]) (.cond (Tm 7) (.region [Om 8 3,Oa 9 (.un .neg (Tm 8)),Om 3 9]) (.skip))) (.seq (.region [Om 10 0,Oa 11 (.bin .lss (Tm 10) (Kz 0)),Om 12 3,Oa 13 (.buildSl 1 147 (.p (.int .u64 0)) 1 [(0,(Tm 12))]),Oa 14 (.call 66 [Tm 13]),Oa 15 (.call 65 [Tm 11,Tm 14]),Oy 2 2 15]) (.ret))))⟩
theorem low38 : lowFunc Tryz.prog gl0 38 = some lf38 := Go.Abs.lowF (by kernel_rfl)
def lf63 : LFunc := ⟨17,[.slot 2],.seq (.region [Oa 1 (.newv 2 113 (Tm 0)),Oa 2 (.mov Kg)]) (.seq (.region [Oz 3 1 1,Oq 4 1 false 3,Oa 5 (.call 102 [Tm 4]),Om 6 5,Oc 7 6 (.fadr 0 (Tm 1)),Oc 8 6 (.load 1 false (Tm 7)),Oc 9 6 (.un .not (Tm 8)),Oj 10 6 9,Od 11 10 (.fadr 1 (Tm 1)),Od 12 10 (.load 1 false (Tm 11)),Od 13 10 (.len (Tm 12)),Od 14 10 (.bin .gtr (Tm 13) (Kz 0)),Oc 15 6 (.pick (Tm 10) Kt (Tm 14)),Ot 16 6 15,Om 2 16]) (.ret))⟩
theorem low63 : lowFunc Tryz.prog gl0 63 = some lf63 := Go.Abs.lowF (by kernel_rfl)
def lf65 : LFunc := ⟨13,[.cell 4 2 true],.seq (.region [Oa 4 (.newv 2 113 (.cst (.agg [.p (.bool false),.tight []])))]) (.seq (.region [Om 5 0,Om 6 5,Oj 7 6 1,Oc 8 6 (.len (Tm 7)),Oc 9 6 (.bin .gtr (Tm 8) (Kz 0)),Ot 10 6 9,Om 11 1,Oa 12 (.build (.agg [.p (.bool false),.tight []]) [(0,1,(Tm 10)),(1,1,(Tm 11))]),Oy 2 4 12]) (.ret))⟩
theorem low65 : lowFunc Tryz.prog gl0 65 = some lf65 := Go.Abs.lowF (by kernel_rfl)
end Go.Proofs.YtgbjjikaenlkmaaGreat
