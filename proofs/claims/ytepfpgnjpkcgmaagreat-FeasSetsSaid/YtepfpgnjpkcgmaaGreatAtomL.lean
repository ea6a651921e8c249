/-
  The lowered code of atom, law9 and the reference's atoms, each equal to what the program's form lowers to. No conditions.
-/
import Derived.Test.YtepfpgnjpkcgmaaGreatAbsTwo
import Derived.Test.YtepfpgnjpkcgmaaGreatProg
import Derived.Test.YtepfpgnjpkcgmaaGreatNatA
import Derived.KernelRfl
set_option linter.unusedSimpArgs false
set_option linter.unnecessarySimpa false
set_option linter.unusedVariables false
set_option linter.constructorNameAsVariable false

/-
 The lowered code of the functions, as the program's form has it.
-/
namespace Go.Proofs.YtepfpgnjpkcgmaaGreat
open Go Go.Abs
def lf46 : LFunc := ⟨75,[.slot 2],.seq (.region [Oa 1 (.newv 7 55 (Tm 0)),Oa 2 (.mov (.cst (.p (.bool false))))]) (.seq (.block 0 (.seq (.region [Oa 4 (.fadr 0 (Tm 1)),Oa 5 (.load 1 false (Tm 4)),Oa 6 (.call 109 [Tm 5]),Oa 3 (.mov (Tm 6))]) (.cond (Tm 3) (.seq (.regionD [Oa 7 (.fadr 5 (Tm 1)),Oa 8 (.load 1 false (Tm 7)),Oa 9 (.bin .eql (Tm 8) (.cst (.p (.int .i64 0)))),Oa 10 (.mov (Tm 9)),Oc 11 10 (.fadr 6 (Tm 1)),Oc 12 10 (.load 1 false (Tm 11)),Oc 13 10 (.bin .eql (Tm 12) (.cst (.p (.int .i64 0)))),Oa 14 (.pick (Tm 10) (Tm 13) (.cst (.p (.bool false)))),Oa 15 (.mov (Tm 14)),Oc 16 15 (.fadr 1 (Tm 1)),Oc 17 15 (.load 4 true (Tm 16)),Oc 18 15 (.call 30 [Tm 17]),Oa 19 (.pick (Tm 15) (Tm 18) (.cst (.p (.bool false)))),Oa 20 (.mov (Tm 19)),Oc 21 20 (.fadr 1 (Tm 1)),Oc 22 20 (.fadr 0 (Tm 21)),Oc 23 20 (.load 1 false (Tm 22)),Oc 24 20 (.len (Tm 23)),Oc 25 20 (.bin .eql (Tm 24) (.cst (.p (.int .i64 0)))),Oc 26 20 (.mov (Tm 25)),Od 27 26 (.fadr 1 (Tm 1)),Od 28 26 (.fadr 0 (Tm 27)),Od 29 26 (.load 1 false (Tm 28)),Od 30 26 (.iadr 4 (Tm 29) (.cst (.p (.int .i64 0)))),Od 31 26 (.fadr 0 (Tm 30)),Od 32 26 (.load 3 true (Tm 31)),Od 33 26 (.fadr 0 (Tm 1)),Od 34 26 (.load 1 false (Tm 33)),Od 35 26 (.bin .neq (Tm 34) (.cst (.p (.int .i64 3)))),Od 36 26 (.call 112 [Tm 32,Tm 35]),Oc 37 20 (.pick (Tm 26) (.cst (.p (.bool true))) (Tm 36)),Oa 38 (.pick (Tm 20) (Tm 37) (.cst (.p (.bool false)))),Oa 2 (.mov (Tm 38))]) (.ret)) (.seq (.region [Oa 40 (.fadr 0 (Tm 1)),Oa 41 (.load 1 false (Tm 40)),Oa 42 (.bin .eql (Tm 41) (.cst (.p (.int .i64 5)))),Oa 39 (.mov (Tm 42))]) (.cond (Tm 39) (.seq (.region [Oa 43 (.fadr 5 (Tm 1)),Oa 44 (.load 1 false (Tm 43)),Oa 45 (.bin .geq (Tm 44) (.cst (.p (.int .i64 0)))),Oa 46 (.mov (Tm 45)),Oc 47 46 (.fadr 5 (Tm 1)),Oc 48 46 (.load 1 false (Tm 47)),Oc 49 46 (.fadr 6 (Tm 1)),Oc 50 46 (.load 1 false (Tm 49)),Oc 51 46 (.bin .lss (Tm 48) (Tm 50)),Oa 52 (.pick (Tm 46) (Tm 51) (.cst (.p (.bool false)))),Oa 53 (.mov (Tm 52)),Oc 54 53 (.fadr 1 (Tm 1)),Oc 55 53 (.load 4 true (Tm 54)),Oc
 56 53 (.call 113 [Tm 55]),Oa 57 (.pick (Tm 53) (Tm 56) (.cst (.p (.bool false)))),Oa 2 (.mov (Tm 57))]) (.ret)) (.seq (.region [Oa 59 (.fadr 0 (Tm 1)),Oa 60 (.load 1 false (Tm 59)),Oa 61 (.bin .eql (Tm 60) (.cst (.p (.int .i64 6)))),Oa 58 (.mov (Tm 61))]) (.cond (Tm 58) (.seq (.region [Oa 62 (.fadr 5 (Tm 1)),Oa 63 (.load 1 false (Tm 62)),Oa 64 (.bin .geq (Tm 63) (.cst (.p (.int .i64 0)))),Oa 65 (.mov (Tm 64)),Oc 66 65 (.fadr 6 (Tm 1)),Oc 67 65 (.load 1 false (Tm 66)),Oc 68 65 (.bin .eql (Tm 67) (.cst (.p (.int .i64 0)))),Oa 69 (.pick (Tm 65) (Tm 68) (.cst (.p (.bool false)))),Oa 70 (.mov (Tm 69)),Oc 71 70 (.fadr 1 (Tm 1)),Oc 72 70 (.load 4 true (Tm 71)),Oc 73 70 (.call 113 [Tm 72]),Oa 74 (.pick (Tm 70) (Tm 73) (.cst (.p (.bool false)))),Oa 2 (.mov (Tm 74))]) (.ret)) (.skip)))))))) (.seq (.region [Oa 2 (.mov (.cst (.p (.bool false))))]) (.ret)))⟩
theorem low46 : lowFunc Tryz.prog gl0 46 = some lf46 := Go.Abs.lowF (by kernel_rfl)
def lf109 : LFunc := ⟨13,[.slot 2],.seq (.region [Oa 2 (.mov (.cst (.p (.bool false))))]) (.seq (.region [Oa 3 (.mov (Tm 0)),Oa 4 (.bin .eql (Tm 3) (.cst (.p (.int .i64 1)))),Oa 5 (.mov (Tm 4)),Od 6 5 (.mov (Tm 0)),Od 7 5 (.bin .eql (Tm 6) (.cst (.p (.int .i64 2)))),Oa 8 (.pick (Tm 5) (.cst (.p (.bool true))) (Tm 7)),Oa 9 (.mov (Tm 8)),Od 10 9 (.mov (Tm 0)),Od 11 9 (.bin .eql (Tm 10) (.cst (.p (.int .i64 3)))),Oa 12 (.pick (Tm 9) (.cst (.p (.bool true))) (Tm 11)),Oa 2 (.mov (Tm 12))]) (.ret))⟩
theorem low109 : lowFunc Tryz.prog gl0 109 = some lf109 := Go.Abs.lowF (by kernel_rfl)
def lf113 : LFunc := ⟨6,[.slot 2],.seq (.region [Oa 1 (.newv 4 27 (Tm 0)),Oa 2 (.mov (.cst (.p (.bool false))))]) (.seq (.region [Oa 3 (.load 4 true (Tm 1)),Oa 4 (.build (.agg [.tight [],.p (.bool false),.tight [],.tight []]) []),Oa 5 (.call 34 [Tm 3,Tm 4]),Oa 2 (.mov (Tm 5))]) (.ret))⟩
theorem low113 : lowFunc Tryz.prog gl0 113 = some lf113 := Go.Abs.lowF (by kernel_rfl)
def lf112 : LFunc := ⟨18,[.slot 4],.seq (.region [Oa 2 (.newv 3 25 (Tm 0)),Oa 4 (.mov (.cst (.p (.bool false))))]) (.seq (.regionD [Oa 5 (.load 3 true (Tm 2)),Oa 6 (.call 95 [.cst (.p (.int .i64 1)),.cst (.p (.int .i64 1))]),Oa 7 (.call 166 [Tm 5,Tm 6]),Oa 8 (.bin .eql (Tm 7) (.cst (.p (.int .i64 0)))),Oa 9 (.mov (Tm 8)),Od 10 9 (.mov (Tm 1)),Od 11 9 (.mov (Tm 10)),Oc 12 11 (.load 3 true (Tm 2)),Oc 13 11 (.call 95 [.cst (.p (.int .i64 (-1))),.cst (.p (.int .i64 1))]),Oc 14 11 (.call 166 [Tm 12,Tm 13]),Oc 15 11 (.bin .eql (Tm 14) (.cst (.p (.int .i64 0)))),Od 16 9 (.pick (Tm 11) (Tm 15) (.cst (.p (.bool false)))),Oa 17 (.pick (Tm 9) (.cst (.p (.bool true))) (Tm 16)),Oa 4 (.mov (Tm 17))]) (.ret))⟩
theorem low112 : lowFunc Tryz.prog gl0 112 = some lf112 := Go.Abs.lowF (by kernel_rfl)
end Go.Proofs.YtepfpgnjpkcgmaaGreat
