/-
  The lowered code of FeasSets, equal to what the program's form lowers to; FeasSets answers true on all values. No conditions.
-/
import Derived.Test.YtepfpgnjpkcgmaaGreatAbsTwo
import Derived.Test.YtepfpgnjpkcgmaaGreatProg
import Derived.Test.YtepfpgnjpkcgmaaGreatNatA
import Derived.KernelRfl
import Derived.Test.YtepfpgnjpkcgmaaGreatFeasF
set_option linter.unusedSimpArgs false
set_option linter.unnecessarySimpa false
set_option linter.unusedVariables false
set_option linter.constructorNameAsVariable false

/-
 The lowered code of the functions, as the program's form has it.
-/
namespace Go.Proofs.YtepfpgnjpkcgmaaGreat
open Go Go.Abs
def lf9_T0 : LCode := .cond (.cst .anyb) (.seq (.region [Oa 111 (.buildSl 3 25 (.agg [.p (.bool false),.tight [],.tight []]) 0 [])]) (.cond (.cst .anyb) (.seq (.region [Oa 112 (.mov (Tm 2))]) (.cond (.cst .anyb) (.seq (.region [Oa 113 (.app 3 56 25 (Tm 111) (Tm 112))]) (.seq (.region [Oa 114 (.fadr 0 (Tm 11))]) (.seq (.region [Oa 115 (.load 3 true (Tm 114))]) (.seq (.region [Oa 116 (.buildSl 3 25 (.agg [.p (.bool false),.tight [],.tight []]) 1 [(0,(Tm 115))])]) (.seq (.region [Oa 117 (.app 3 56 25 (Tm 113) (Tm 116))]) (.seq (.region [Oa 2 (.mov (Tm 117))]) (.skip))))))) (.seq (.region [Oa 114 (.fadr 0 (Tm 11))]) (.cond (.cst .anyb) (.seq (.region [Oa 113 (.app 3 56 25 (Tm 111) (Tm 112))]) (.seq (.region [Oa 115 (.load 3 true (Tm 114))]) (.seq (.region [Oa 116 (.buildSl 3 25 (.agg [.p (.bool false),.tight [],.tight []]) 1 [(0,(Tm 115))])]) (.seq (.region [Oa 117 (.app 3 56 25 (Tm 113) (Tm 116))]) (.seq (.region [Oa 2 (.mov (Tm 117))]) (.skip)))))) (.seq (.region [Oa 115 (.load 3 true (Tm 114))]) (.cond (.cst .anyb) (.seq (.region [Oa 113 (.app 3 56 25 (Tm 111) (Tm 112))]) (.seq (.region [Oa 116 (.buildSl 3 25 (.agg [.p (.bool false),.tight [],.tight []]) 1 [(0,(Tm 115))])]) (.seq (.region [Oa 117 (.app 3 56 25 (Tm 113) (Tm 116))]) (.seq (.region [Oa 2 (.mov (Tm 117))]) (.skip))))) (.seq (.region [Oa 116 (.buildSl 3 25 (.agg [.p (.bool false),.tight [],.tight []]) 1 [(0,(Tm 115))])]) (.seq (.region [Oa 113 (.app 3 56 25 (Tm 111) (Tm 112))]) (.seq (.region [Oa 117 (.app 3 56 25 (Tm 113) (Tm 116))]) (.seq (.region [Oa 2 (.mov (Tm 117))]) (.skip))))))))))) (.seq (.region [Oa 114 (.fadr 0 (Tm 11))]) (.cond (.cst .anyb) (.seq (.region [Oa 112 (.mov (Tm 2))]) (.cond (.cst .anyb) (.seq (.region [Oa 113 (.app 3 56 25 (Tm 111) (Tm 112))]) (.seq (.region [Oa 115 (.load 3 true (Tm 114))]) (.seq (.region [Oa 116 (.buildSl 3 25 (.agg [.p (.bool false),.tight [],.tight []]) 1 [(0,(Tm 115))])]) (.seq (.region [Oa 117 (.app 3 56 25 (Tm 113) (Tm 116))]) (.seq (.region [Oa 2 (.mov (Tm 117))]) (.skip))))))
 (.seq (.region [Oa 115 (.load 3 true (Tm 114))]) (.cond (.cst .anyb) (.seq (.region [Oa 113 (.app 3 56 25 (Tm 111) (Tm 112))]) (.seq (.region [Oa 116 (.buildSl 3 25 (.agg [.p (.bool false),.tight [],.tight []]) 1 [(0,(Tm 115))])]) (.seq (.region [Oa 117 (.app 3 56 25 (Tm 113) (Tm 116))]) (.seq (.region [Oa 2 (.mov (Tm 117))]) (.skip))))) (.seq (.region [Oa 116 (.buildSl 3 25 (.agg [.p (.bool false),.tight [],.tight []]) 1 [(0,(Tm 115))])]) (.seq (.region [Oa 113 (.app 3 56 25 (Tm 111) (Tm 112))]) (.seq (.region [Oa 117 (.app 3 56 25 (Tm 113) (Tm 116))]) (.seq (.region [Oa 2 (.mov (Tm 117))]) (.skip))))))))) (.seq (.region [Oa 115 (.load 3 true (Tm 114))]) (.cond (.cst .anyb) (.seq (.region [Oa 112 (.mov (Tm 2))]) (.cond (.cst .anyb) (.seq (.region [Oa 113 (.app 3 56 25 (Tm 111) (Tm 112))]) (.seq (.region [Oa 116 (.buildSl 3 25 (.agg [.p (.bool false),.tight [],.tight []]) 1 [(0,(Tm 115))])]) (.seq (.region [Oa 117 (.app 3 56 25 (Tm 113) (Tm 116))]) (.seq (.region [Oa 2 (.mov (Tm 117))]) (.skip))))) (.seq (.region [Oa 116 (.buildSl 3 25 (.agg [.p (.bool false),.tight [],.tight []]) 1 [(0,(Tm 115))])]) (.seq (.region [Oa 113 (.app 3 56 25 (Tm 111) (Tm 112))]) (.seq (.region [Oa 117 (.app 3 56 25 (Tm 113) (Tm 116))]) (.seq (.region [Oa 2 (.mov (Tm 117))]) (.skip))))))) (.seq (.region [Oa 116 (.buildSl 3 25 (.agg [.p (.bool false),.tight [],.tight []]) 1 [(0,(Tm 115))])]) (.seq (.region [Oa 112 (.mov (Tm 2))]) (.seq (.region [Oa 113 (.app 3 56 25 (Tm 111) (Tm 112))]) (.seq (.region [Oa 117 (.app 3 56 25 (Tm 113) (Tm 116))]) (.seq (.region [Oa 2 (.mov (Tm 117))]) (.skip)))))))))))) (.cond (.cst .anyb) (.seq (.region [Oa 112 (.mov (Tm 2))]) (.cond (.cst .anyb) (.seq (.region [Oa 111 (.buildSl 3 25 (.agg [.p (.bool false),.tight [],.tight []]) 0 [])]) (.cond (.cst .anyb) (.seq (.region [Oa 113 (.app 3 56 25 (Tm 111) (Tm 112))]) (.seq (.region [Oa 114 (.fadr 0 (Tm 11))]) (.seq (.region [Oa 115 (.load 3 true (Tm 114))]) (.seq (.region [Oa 116 (.buildSl 3 25 (.agg [.p (.bool
 false),.tight [],.tight []]) 1 [(0,(Tm 115))])]) (.seq (.region [Oa 117 (.app 3 56 25 (Tm 113) (Tm 116))]) (.seq (.region [Oa 2 (.mov (Tm 117))]) (.skip))))))) (.seq (.region [Oa 114 (.fadr 0 (Tm 11))]) (.cond (.cst .anyb) (.seq (.region [Oa 113 (.app 3 56 25 (Tm 111) (Tm 112))]) (.seq (.region [Oa 115 (.load 3 true (Tm 114))]) (.seq (.region [Oa 116 (.buildSl 3 25 (.agg [.p (.bool false),.tight [],.tight []]) 1 [(0,(Tm 115))])]) (.seq (.region [Oa 117 (.app 3 56 25 (Tm 113) (Tm 116))]) (.seq (.region [Oa 2 (.mov (Tm 117))]) (.skip)))))) (.seq (.region [Oa 115 (.load 3 true (Tm 114))]) (.cond (.cst .anyb) (.seq (.region [Oa 113 (.app 3 56 25 (Tm 111) (Tm 112))]) (.seq (.region [Oa 116 (.buildSl 3 25 (.agg [.p (.bool false),.tight [],.tight []]) 1 [(0,(Tm 115))])]) (.seq (.region [Oa 117 (.app 3 56 25 (Tm 113) (Tm 116))]) (.seq (.region [Oa 2 (.mov (Tm 117))]) (.skip))))) (.seq (.region [Oa 116 (.buildSl 3 25 (.agg [.p (.bool false),.tight [],.tight []]) 1 [(0,(Tm 115))])]) (.seq (.region [Oa 113 (.app 3 56 25 (Tm 111) (Tm 112))]) (.seq (.region [Oa 117 (.app 3 56 25 (Tm 113) (Tm 116))]) (.seq (.region [Oa 2 (.mov (Tm 117))]) (.skip))))))))))) (.seq (.region [Oa 114 (.fadr 0 (Tm 11))]) (.cond (.cst .anyb) (.seq (.region [Oa 111 (.buildSl 3 25 (.agg [.p (.bool false),.tight [],.tight []]) 0 [])]) (.cond (.cst .anyb) (.seq (.region [Oa 113 (.app 3 56 25 (Tm 111) (Tm 112))]) (.seq (.region [Oa 115 (.load 3 true (Tm 114))]) (.seq (.region [Oa 116 (.buildSl 3 25 (.agg [.p (.bool false),.tight [],.tight []]) 1 [(0,(Tm 115))])]) (.seq (.region [Oa 117 (.app 3 56 25 (Tm 113) (Tm 116))]) (.seq (.region [Oa 2 (.mov (Tm 117))]) (.skip)))))) (.seq (.region [Oa 115 (.load 3 true (Tm 114))]) (.cond (.cst .anyb) (.seq (.region [Oa 113 (.app 3 56 25 (Tm 111) (Tm 112))]) (.seq (.region [Oa 116 (.buildSl 3 25 (.agg [.p (.bool false),.tight [],.tight []]) 1 [(0,(Tm 115))])]) (.seq (.region [Oa 117 (.app 3 56 25 (Tm 113) (Tm 116))]) (.seq (.region [Oa 2 (.mov (Tm 117))]) (.skip)))))
 (.seq (.region [Oa 116 (.buildSl 3 25 (.agg [.p (.bool false),.tight [],.tight []]) 1 [(0,(Tm 115))])]) (.seq (.region [Oa 113 (.app 3 56 25 (Tm 111) (Tm 112))]) (.seq (.region [Oa 117 (.app 3 56 25 (Tm 113) (Tm 116))]) (.seq (.region [Oa 2 (.mov (Tm 117))]) (.skip))))))))) (.seq (.region [Oa 115 (.load 3 true (Tm 114))]) (.cond (.cst .anyb) (.seq (.region [Oa 111 (.buildSl 3 25 (.agg [.p (.bool false),.tight [],.tight []]) 0 [])]) (.cond (.cst .anyb) (.seq (.region [Oa 113 (.app 3 56 25 (Tm 111) (Tm 112))]) (.seq (.region [Oa 116 (.buildSl 3 25 (.agg [.p (.bool false),.tight [],.tight []]) 1 [(0,(Tm 115))])]) (.seq (.region [Oa 117 (.app 3 56 25 (Tm 113) (Tm 116))]) (.seq (.region [Oa 2 (.mov (Tm 117))]) (.skip))))) (.seq (.region [Oa 116 (.buildSl 3 25 (.agg [.p (.bool false),.tight [],.tight []]) 1 [(0,(Tm 115))])]) (.seq (.region [Oa 113 (.app 3 56 25 (Tm 111) (Tm 112))]) (.seq (.region [Oa 117 (.app 3 56 25 (Tm 113) (Tm 116))]) (.seq (.region [Oa 2 (.mov (Tm 117))]) (.skip))))))) (.seq (.region [Oa 116 (.buildSl 3 25 (.agg [.p (.bool false),.tight [],.tight []]) 1 [(0,(Tm 115))])]) (.seq (.region [Oa 111 (.buildSl 3 25 (.agg [.p (.bool false),.tight [],.tight []]) 0 [])]) (.seq (.region [Oa 113 (.app 3 56 25 (Tm 111) (Tm 112))]) (.seq (.region [Oa 117 (.app 3 56 25 (Tm 113) (Tm 116))]) (.seq (.region [Oa 2 (.mov (Tm 117))]) (.skip)))))))))))) (.seq (.region [Oa 114 (.fadr 0 (Tm 11))]) (.cond (.cst .anyb) (.seq (.region [Oa 111 (.buildSl 3 25 (.agg [.p (.bool false),.tight [],.tight []]) 0 [])]) (.cond (.cst .anyb) (.seq (.region [Oa 112 (.mov (Tm 2))]) (.cond (.cst .anyb) (.seq (.region [Oa 113 (.app 3 56 25 (Tm 111) (Tm 112))]) (.seq (.region [Oa 115 (.load 3 true (Tm 114))]) (.seq (.region [Oa 116 (.buildSl 3 25 (.agg [.p (.bool false),.tight [],.tight []]) 1 [(0,(Tm 115))])]) (.seq (.region [Oa 117 (.app 3 56 25 (Tm 113) (Tm 116))]) (.seq (.region [Oa 2 (.mov (Tm 117))]) (.skip)))))) (.seq (.region [Oa 115 (.load 3 true (Tm 114))]) (.cond (.cst .anyb) (.seq
 (.region [Oa 113 (.app 3 56 25 (Tm 111) (Tm 112))]) (.seq (.region [Oa 116 (.buildSl 3 25 (.agg [.p (.bool false),.tight [],.tight []]) 1 [(0,(Tm 115))])]) (.seq (.region [Oa 117 (.app 3 56 25 (Tm 113) (Tm 116))]) (.seq (.region [Oa 2 (.mov (Tm 117))]) (.skip))))) (.seq (.region [Oa 116 (.buildSl 3 25 (.agg [.p (.bool false),.tight [],.tight []]) 1 [(0,(Tm 115))])]) (.seq (.region [Oa 113 (.app 3 56 25 (Tm 111) (Tm 112))]) (.seq (.region [Oa 117 (.app 3 56 25 (Tm 113) (Tm 116))]) (.seq (.region [Oa 2 (.mov (Tm 117))]) (.skip))))))))) (.seq (.region [Oa 115 (.load 3 true (Tm 114))]) (.cond (.cst .anyb) (.seq (.region [Oa 112 (.mov (Tm 2))]) (.cond (.cst .anyb) (.seq (.region [Oa 113 (.app 3 56 25 (Tm 111) (Tm 112))]) (.seq (.region [Oa 116 (.buildSl 3 25 (.agg [.p (.bool false),.tight [],.tight []]) 1 [(0,(Tm 115))])]) (.seq (.region [Oa 117 (.app 3 56 25 (Tm 113) (Tm 116))]) (.seq (.region [Oa 2 (.mov (Tm 117))]) (.skip))))) (.seq (.region [Oa 116 (.buildSl 3 25 (.agg [.p (.bool false),.tight [],.tight []]) 1 [(0,(Tm 115))])]) (.seq (.region [Oa 113 (.app 3 56 25 (Tm 111) (Tm 112))]) (.seq (.region [Oa 117 (.app 3 56 25 (Tm 113) (Tm 116))]) (.seq (.region [Oa 2 (.mov (Tm 117))]) (.skip))))))) (.seq (.region [Oa 116 (.buildSl 3 25 (.agg [.p (.bool false),.tight [],.tight []]) 1 [(0,(Tm 115))])]) (.seq (.region [Oa 112 (.mov (Tm 2))]) (.seq (.region [Oa 113 (.app 3 56 25 (Tm 111) (Tm 112))]) (.seq (.region [Oa 117 (.app 3 56 25 (Tm 113) (Tm 116))]) (.seq (.region [Oa 2 (.mov (Tm 117))]) (.skip)))))))))) (.cond (.cst .anyb) (.seq (.region [Oa 112 (.mov (Tm 2))]) (.cond (.cst .anyb) (.seq (.region [Oa 111 (.buildSl 3 25 (.agg [.p (.bool false),.tight [],.tight []]) 0 [])]) (.cond (.cst .anyb) (.seq (.region [Oa 113 (.app 3 56 25 (Tm 111) (Tm 112))]) (.seq (.region [Oa 115 (.load 3 true (Tm 114))]) (.seq (.region [Oa 116 (.buildSl 3 25 (.agg [.p (.bool false),.tight [],.tight []]) 1 [(0,(Tm 115))])]) (.seq (.region [Oa 117 (.app 3 56 25 (Tm 113) (Tm 116))]) (.seq (.region
 [Oa 2 (.mov (Tm 117))]) (.skip)))))) (.seq (.region [Oa 115 (.load 3 true (Tm 114))]) (.cond (.cst .anyb) (.seq (.region [Oa 113 (.app 3 56 25 (Tm 111) (Tm 112))]) (.seq (.region [Oa 116 (.buildSl 3 25 (.agg [.p (.bool false),.tight [],.tight []]) 1 [(0,(Tm 115))])]) (.seq (.region [Oa 117 (.app 3 56 25 (Tm 113) (Tm 116))]) (.seq (.region [Oa 2 (.mov (Tm 117))]) (.skip))))) (.seq (.region [Oa 116 (.buildSl 3 25 (.agg [.p (.bool false),.tight [],.tight []]) 1 [(0,(Tm 115))])]) (.seq (.region [Oa 113 (.app 3 56 25 (Tm 111) (Tm 112))]) (.seq (.region [Oa 117 (.app 3 56 25 (Tm 113) (Tm 116))]) (.seq (.region [Oa 2 (.mov (Tm 117))]) (.skip))))))))) (.seq (.region [Oa 115 (.load 3 true (Tm 114))]) (.cond (.cst .anyb) (.seq (.region [Oa 111 (.buildSl 3 25 (.agg [.p (.bool false),.tight [],.tight []]) 0 [])]) (.cond (.cst .anyb) (.seq (.region [Oa 113 (.app 3 56 25 (Tm 111) (Tm 112))]) (.seq (.region [Oa 116 (.buildSl 3 25 (.agg [.p (.bool false),.tight [],.tight []]) 1 [(0,(Tm 115))])]) (.seq (.region [Oa 117 (.app 3 56 25 (Tm 113) (Tm 116))]) (.seq (.region [Oa 2 (.mov (Tm 117))]) (.skip))))) (.seq (.region [Oa 116 (.buildSl 3 25 (.agg [.p (.bool false),.tight [],.tight []]) 1 [(0,(Tm 115))])]) (.seq (.region [Oa 113 (.app 3 56 25 (Tm 111) (Tm 112))]) (.seq (.region [Oa 117 (.app 3 56 25 (Tm 113) (Tm 116))]) (.seq (.region [Oa 2 (.mov (Tm 117))]) (.skip))))))) (.seq (.region [Oa 116 (.buildSl 3 25 (.agg [.p (.bool false),.tight [],.tight []]) 1 [(0,(Tm 115))])]) (.seq (.region [Oa 111 (.buildSl 3 25 (.agg [.p (.bool false),.tight [],.tight []]) 0 [])]) (.seq (.region [Oa 113 (.app 3 56 25 (Tm 111) (Tm 112))]) (.seq (.region [Oa 117 (.app 3 56 25 (Tm 113) (Tm 116))]) (.seq (.region [Oa 2 (.mov (Tm 117))]) (.skip)))))))))) (.seq (.region [Oa 115 (.load 3 true (Tm 114))]) (.cond (.cst .anyb) (.seq (.region [Oa 111 (.buildSl 3 25 (.agg [.p (.bool false),.tight [],.tight []]) 0 [])]) (.cond (.cst .anyb) (.seq (.region [Oa 112 (.mov (Tm 2))]) (.cond (.cst .anyb) (.seq (.region
 [Oa 113 (.app 3 56 25 (Tm 111) (Tm 112))]) (.seq (.region [Oa 116 (.buildSl 3 25 (.agg [.p (.bool false),.tight [],.tight []]) 1 [(0,(Tm 115))])]) (.seq (.region [Oa 117 (.app 3 56 25 (Tm 113) (Tm 116))]) (.seq (.region [Oa 2 (.mov (Tm 117))]) (.skip))))) (.seq (.region [Oa 116 (.buildSl 3 25 (.agg [.p (.bool false),.tight [],.tight []]) 1 [(0,(Tm 115))])]) (.seq (.region [Oa 113 (.app 3 56 25 (Tm 111) (Tm 112))]) (.seq (.region [Oa 117 (.app 3 56 25 (Tm 113) (Tm 116))]) (.seq (.region [Oa 2 (.mov (Tm 117))]) (.skip))))))) (.seq (.region [Oa 116 (.buildSl 3 25 (.agg [.p (.bool false),.tight [],.tight []]) 1 [(0,(Tm 115))])]) (.seq (.region [Oa 112 (.mov (Tm 2))]) (.seq (.region [Oa 113 (.app 3 56 25 (Tm 111) (Tm 112))]) (.seq (.region [Oa 117 (.app 3 56 25 (Tm 113) (Tm 116))]) (.seq (.region [Oa 2 (.mov (Tm 117))]) (.skip)))))))) (.cond (.cst .anyb) (.seq (.region [Oa 112 (.mov (Tm 2))]) (.cond (.cst .anyb) (.seq (.region [Oa 111 (.buildSl 3 25 (.agg [.p (.bool false),.tight [],.tight []]) 0 [])]) (.cond (.cst .anyb) (.seq (.region [Oa 113 (.app 3 56 25 (Tm 111) (Tm 112))]) (.seq (.region [Oa 116 (.buildSl 3 25 (.agg [.p (.bool false),.tight [],.tight []]) 1 [(0,(Tm 115))])]) (.seq (.region [Oa 117 (.app 3 56 25 (Tm 113) (Tm 116))]) (.seq (.region [Oa 2 (.mov (Tm 117))]) (.skip))))) (.seq (.region [Oa 116 (.buildSl 3 25 (.agg [.p (.bool false),.tight [],.tight []]) 1 [(0,(Tm 115))])]) (.seq (.region [Oa 113 (.app 3 56 25 (Tm 111) (Tm 112))]) (.seq (.region [Oa 117 (.app 3 56 25 (Tm 113) (Tm 116))]) (.seq (.region [Oa 2 (.mov (Tm 117))]) (.skip))))))) (.seq (.region [Oa 116 (.buildSl 3 25 (.agg [.p (.bool false),.tight [],.tight []]) 1 [(0,(Tm 115))])]) (.seq (.region [Oa 111 (.buildSl 3 25 (.agg [.p (.bool false),.tight [],.tight []]) 0 [])]) (.seq (.region [Oa 113 (.app 3 56 25 (Tm 111) (Tm 112))]) (.seq (.region [Oa 117 (.app 3 56 25 (Tm 113) (Tm 116))]) (.seq (.region [Oa 2 (.mov (Tm 117))]) (.skip)))))))) (.seq (.region [Oa 116 (.buildSl 3 25 (.agg [.p (.bool
 false),.tight [],.tight []]) 1 [(0,(Tm 115))])]) (.cond (.cst .anyb) (.seq (.region [Oa 111 (.buildSl 3 25 (.agg [.p (.bool false),.tight [],.tight []]) 0 [])]) (.seq (.region [Oa 112 (.mov (Tm 2))]) (.seq (.region [Oa 113 (.app 3 56 25 (Tm 111) (Tm 112))]) (.seq (.region [Oa 117 (.app 3 56 25 (Tm 113) (Tm 116))]) (.seq (.region [Oa 2 (.mov (Tm 117))]) (.skip)))))) (.seq (.region [Oa 112 (.mov (Tm 2))]) (.seq (.region [Oa 111 (.buildSl 3 25 (.agg [.p (.bool false),.tight [],.tight []]) 0 [])]) (.seq (.region [Oa 113 (.app 3 56 25 (Tm 111) (Tm 112))]) (.seq (.region [Oa 117 (.app 3 56 25 (Tm 113) (Tm 116))]) (.seq (.region [Oa 2 (.mov (Tm 117))]) (.skip)))))))))))))))
def lf9_T1 : LCode := .cond (.cst .anyb) (.seq (.region [Oa 121 (.buildSl 3 25 (.agg [.p (.bool false),.tight [],.tight []]) 0 [])]) (.cond (.cst .anyb) (.seq (.region [Oa 122 (.mov (Tm 2))]) (.cond (.cst .anyb) (.seq (.region [Oa 123 (.app 3 56 25 (Tm 121) (Tm 122))]) (.seq (.region [Oa 124 (.fadr 3 (Tm 11))]) (.seq (.region [Oa 125 (.load 3 true (Tm 124))]) (.seq (.region [Oa 126 (.buildSl 3 25 (.agg [.p (.bool false),.tight [],.tight []]) 1 [(0,(Tm 125))])]) (.seq (.region [Oa 127 (.app 3 56 25 (Tm 123) (Tm 126))]) (.seq (.region [Oa 2 (.mov (Tm 127))]) (.skip))))))) (.seq (.region [Oa 124 (.fadr 3 (Tm 11))]) (.cond (.cst .anyb) (.seq (.region [Oa 123 (.app 3 56 25 (Tm 121) (Tm 122))]) (.seq (.region [Oa 125 (.load 3 true (Tm 124))]) (.seq (.region [Oa 126 (.buildSl 3 25 (.agg [.p (.bool false),.tight [],.tight []]) 1 [(0,(Tm 125))])]) (.seq (.region [Oa 127 (.app 3 56 25 (Tm 123) (Tm 126))]) (.seq (.region [Oa 2 (.mov (Tm 127))]) (.skip)))))) (.seq (.region [Oa 125 (.load 3 true (Tm 124))]) (.cond (.cst .anyb) (.seq (.region [Oa 123 (.app 3 56 25 (Tm 121) (Tm 122))]) (.seq (.region [Oa 126 (.buildSl 3 25 (.agg [.p (.bool false),.tight [],.tight []]) 1 [(0,(Tm 125))])]) (.seq (.region [Oa 127 (.app 3 56 25 (Tm 123) (Tm 126))]) (.seq (.region [Oa 2 (.mov (Tm 127))]) (.skip))))) (.seq (.region [Oa 126 (.buildSl 3 25 (.agg [.p (.bool false),.tight [],.tight []]) 1 [(0,(Tm 125))])]) (.seq (.region [Oa 123 (.app 3 56 25 (Tm 121) (Tm 122))]) (.seq (.region [Oa 127 (.app 3 56 25 (Tm 123) (Tm 126))]) (.seq (.region [Oa 2 (.mov (Tm 127))]) (.skip))))))))))) (.seq (.region [Oa 124 (.fadr 3 (Tm 11))]) (.cond (.cst .anyb) (.seq (.region [Oa 122 (.mov (Tm 2))]) (.cond (.cst .anyb) (.seq (.region [Oa 123 (.app 3 56 25 (Tm 121) (Tm 122))]) (.seq (.region [Oa 125 (.load 3 true (Tm 124))]) (.seq (.region [Oa 126 (.buildSl 3 25 (.agg [.p (.bool false),.tight [],.tight []]) 1 [(0,(Tm 125))])]) (.seq (.region [Oa 127 (.app 3 56 25 (Tm 123) (Tm 126))]) (.seq (.region [Oa 2 (.mov (Tm 127))]) (.skip))))))
 (.seq (.region [Oa 125 (.load 3 true (Tm 124))]) (.cond (.cst .anyb) (.seq (.region [Oa 123 (.app 3 56 25 (Tm 121) (Tm 122))]) (.seq (.region [Oa 126 (.buildSl 3 25 (.agg [.p (.bool false),.tight [],.tight []]) 1 [(0,(Tm 125))])]) (.seq (.region [Oa 127 (.app 3 56 25 (Tm 123) (Tm 126))]) (.seq (.region [Oa 2 (.mov (Tm 127))]) (.skip))))) (.seq (.region [Oa 126 (.buildSl 3 25 (.agg [.p (.bool false),.tight [],.tight []]) 1 [(0,(Tm 125))])]) (.seq (.region [Oa 123 (.app 3 56 25 (Tm 121) (Tm 122))]) (.seq (.region [Oa 127 (.app 3 56 25 (Tm 123) (Tm 126))]) (.seq (.region [Oa 2 (.mov (Tm 127))]) (.skip))))))))) (.seq (.region [Oa 125 (.load 3 true (Tm 124))]) (.cond (.cst .anyb) (.seq (.region [Oa 122 (.mov (Tm 2))]) (.cond (.cst .anyb) (.seq (.region [Oa 123 (.app 3 56 25 (Tm 121) (Tm 122))]) (.seq (.region [Oa 126 (.buildSl 3 25 (.agg [.p (.bool false),.tight [],.tight []]) 1 [(0,(Tm 125))])]) (.seq (.region [Oa 127 (.app 3 56 25 (Tm 123) (Tm 126))]) (.seq (.region [Oa 2 (.mov (Tm 127))]) (.skip))))) (.seq (.region [Oa 126 (.buildSl 3 25 (.agg [.p (.bool false),.tight [],.tight []]) 1 [(0,(Tm 125))])]) (.seq (.region [Oa 123 (.app 3 56 25 (Tm 121) (Tm 122))]) (.seq (.region [Oa 127 (.app 3 56 25 (Tm 123) (Tm 126))]) (.seq (.region [Oa 2 (.mov (Tm 127))]) (.skip))))))) (.seq (.region [Oa 126 (.buildSl 3 25 (.agg [.p (.bool false),.tight [],.tight []]) 1 [(0,(Tm 125))])]) (.seq (.region [Oa 122 (.mov (Tm 2))]) (.seq (.region [Oa 123 (.app 3 56 25 (Tm 121) (Tm 122))]) (.seq (.region [Oa 127 (.app 3 56 25 (Tm 123) (Tm 126))]) (.seq (.region [Oa 2 (.mov (Tm 127))]) (.skip)))))))))))) (.cond (.cst .anyb) (.seq (.region [Oa 122 (.mov (Tm 2))]) (.cond (.cst .anyb) (.seq (.region [Oa 121 (.buildSl 3 25 (.agg [.p (.bool false),.tight [],.tight []]) 0 [])]) (.cond (.cst .anyb) (.seq (.region [Oa 123 (.app 3 56 25 (Tm 121) (Tm 122))]) (.seq (.region [Oa 124 (.fadr 3 (Tm 11))]) (.seq (.region [Oa 125 (.load 3 true (Tm 124))]) (.seq (.region [Oa 126 (.buildSl 3 25 (.agg [.p (.bool
 false),.tight [],.tight []]) 1 [(0,(Tm 125))])]) (.seq (.region [Oa 127 (.app 3 56 25 (Tm 123) (Tm 126))]) (.seq (.region [Oa 2 (.mov (Tm 127))]) (.skip))))))) (.seq (.region [Oa 124 (.fadr 3 (Tm 11))]) (.cond (.cst .anyb) (.seq (.region [Oa 123 (.app 3 56 25 (Tm 121) (Tm 122))]) (.seq (.region [Oa 125 (.load 3 true (Tm 124))]) (.seq (.region [Oa 126 (.buildSl 3 25 (.agg [.p (.bool false),.tight [],.tight []]) 1 [(0,(Tm 125))])]) (.seq (.region [Oa 127 (.app 3 56 25 (Tm 123) (Tm 126))]) (.seq (.region [Oa 2 (.mov (Tm 127))]) (.skip)))))) (.seq (.region [Oa 125 (.load 3 true (Tm 124))]) (.cond (.cst .anyb) (.seq (.region [Oa 123 (.app 3 56 25 (Tm 121) (Tm 122))]) (.seq (.region [Oa 126 (.buildSl 3 25 (.agg [.p (.bool false),.tight [],.tight []]) 1 [(0,(Tm 125))])]) (.seq (.region [Oa 127 (.app 3 56 25 (Tm 123) (Tm 126))]) (.seq (.region [Oa 2 (.mov (Tm 127))]) (.skip))))) (.seq (.region [Oa 126 (.buildSl 3 25 (.agg [.p (.bool false),.tight [],.tight []]) 1 [(0,(Tm 125))])]) (.seq (.region [Oa 123 (.app 3 56 25 (Tm 121) (Tm 122))]) (.seq (.region [Oa 127 (.app 3 56 25 (Tm 123) (Tm 126))]) (.seq (.region [Oa 2 (.mov (Tm 127))]) (.skip))))))))))) (.seq (.region [Oa 124 (.fadr 3 (Tm 11))]) (.cond (.cst .anyb) (.seq (.region [Oa 121 (.buildSl 3 25 (.agg [.p (.bool false),.tight [],.tight []]) 0 [])]) (.cond (.cst .anyb) (.seq (.region [Oa 123 (.app 3 56 25 (Tm 121) (Tm 122))]) (.seq (.region [Oa 125 (.load 3 true (Tm 124))]) (.seq (.region [Oa 126 (.buildSl 3 25 (.agg [.p (.bool false),.tight [],.tight []]) 1 [(0,(Tm 125))])]) (.seq (.region [Oa 127 (.app 3 56 25 (Tm 123) (Tm 126))]) (.seq (.region [Oa 2 (.mov (Tm 127))]) (.skip)))))) (.seq (.region [Oa 125 (.load 3 true (Tm 124))]) (.cond (.cst .anyb) (.seq (.region [Oa 123 (.app 3 56 25 (Tm 121) (Tm 122))]) (.seq (.region [Oa 126 (.buildSl 3 25 (.agg [.p (.bool false),.tight [],.tight []]) 1 [(0,(Tm 125))])]) (.seq (.region [Oa 127 (.app 3 56 25 (Tm 123) (Tm 126))]) (.seq (.region [Oa 2 (.mov (Tm 127))]) (.skip)))))
 (.seq (.region [Oa 126 (.buildSl 3 25 (.agg [.p (.bool false),.tight [],.tight []]) 1 [(0,(Tm 125))])]) (.seq (.region [Oa 123 (.app 3 56 25 (Tm 121) (Tm 122))]) (.seq (.region [Oa 127 (.app 3 56 25 (Tm 123) (Tm 126))]) (.seq (.region [Oa 2 (.mov (Tm 127))]) (.skip))))))))) (.seq (.region [Oa 125 (.load 3 true (Tm 124))]) (.cond (.cst .anyb) (.seq (.region [Oa 121 (.buildSl 3 25 (.agg [.p (.bool false),.tight [],.tight []]) 0 [])]) (.cond (.cst .anyb) (.seq (.region [Oa 123 (.app 3 56 25 (Tm 121) (Tm 122))]) (.seq (.region [Oa 126 (.buildSl 3 25 (.agg [.p (.bool false),.tight [],.tight []]) 1 [(0,(Tm 125))])]) (.seq (.region [Oa 127 (.app 3 56 25 (Tm 123) (Tm 126))]) (.seq (.region [Oa 2 (.mov (Tm 127))]) (.skip))))) (.seq (.region [Oa 126 (.buildSl 3 25 (.agg [.p (.bool false),.tight [],.tight []]) 1 [(0,(Tm 125))])]) (.seq (.region [Oa 123 (.app 3 56 25 (Tm 121) (Tm 122))]) (.seq (.region [Oa 127 (.app 3 56 25 (Tm 123) (Tm 126))]) (.seq (.region [Oa 2 (.mov (Tm 127))]) (.skip))))))) (.seq (.region [Oa 126 (.buildSl 3 25 (.agg [.p (.bool false),.tight [],.tight []]) 1 [(0,(Tm 125))])]) (.seq (.region [Oa 121 (.buildSl 3 25 (.agg [.p (.bool false),.tight [],.tight []]) 0 [])]) (.seq (.region [Oa 123 (.app 3 56 25 (Tm 121) (Tm 122))]) (.seq (.region [Oa 127 (.app 3 56 25 (Tm 123) (Tm 126))]) (.seq (.region [Oa 2 (.mov (Tm 127))]) (.skip)))))))))))) (.seq (.region [Oa 124 (.fadr 3 (Tm 11))]) (.cond (.cst .anyb) (.seq (.region [Oa 121 (.buildSl 3 25 (.agg [.p (.bool false),.tight [],.tight []]) 0 [])]) (.cond (.cst .anyb) (.seq (.region [Oa 122 (.mov (Tm 2))]) (.cond (.cst .anyb) (.seq (.region [Oa 123 (.app 3 56 25 (Tm 121) (Tm 122))]) (.seq (.region [Oa 125 (.load 3 true (Tm 124))]) (.seq (.region [Oa 126 (.buildSl 3 25 (.agg [.p (.bool false),.tight [],.tight []]) 1 [(0,(Tm 125))])]) (.seq (.region [Oa 127 (.app 3 56 25 (Tm 123) (Tm 126))]) (.seq (.region [Oa 2 (.mov (Tm 127))]) (.skip)))))) (.seq (.region [Oa 125 (.load 3 true (Tm 124))]) (.cond (.cst .anyb) (.seq
 (.region [Oa 123 (.app 3 56 25 (Tm 121) (Tm 122))]) (.seq (.region [Oa 126 (.buildSl 3 25 (.agg [.p (.bool false),.tight [],.tight []]) 1 [(0,(Tm 125))])]) (.seq (.region [Oa 127 (.app 3 56 25 (Tm 123) (Tm 126))]) (.seq (.region [Oa 2 (.mov (Tm 127))]) (.skip))))) (.seq (.region [Oa 126 (.buildSl 3 25 (.agg [.p (.bool false),.tight [],.tight []]) 1 [(0,(Tm 125))])]) (.seq (.region [Oa 123 (.app 3 56 25 (Tm 121) (Tm 122))]) (.seq (.region [Oa 127 (.app 3 56 25 (Tm 123) (Tm 126))]) (.seq (.region [Oa 2 (.mov (Tm 127))]) (.skip))))))))) (.seq (.region [Oa 125 (.load 3 true (Tm 124))]) (.cond (.cst .anyb) (.seq (.region [Oa 122 (.mov (Tm 2))]) (.cond (.cst .anyb) (.seq (.region [Oa 123 (.app 3 56 25 (Tm 121) (Tm 122))]) (.seq (.region [Oa 126 (.buildSl 3 25 (.agg [.p (.bool false),.tight [],.tight []]) 1 [(0,(Tm 125))])]) (.seq (.region [Oa 127 (.app 3 56 25 (Tm 123) (Tm 126))]) (.seq (.region [Oa 2 (.mov (Tm 127))]) (.skip))))) (.seq (.region [Oa 126 (.buildSl 3 25 (.agg [.p (.bool false),.tight [],.tight []]) 1 [(0,(Tm 125))])]) (.seq (.region [Oa 123 (.app 3 56 25 (Tm 121) (Tm 122))]) (.seq (.region [Oa 127 (.app 3 56 25 (Tm 123) (Tm 126))]) (.seq (.region [Oa 2 (.mov (Tm 127))]) (.skip))))))) (.seq (.region [Oa 126 (.buildSl 3 25 (.agg [.p (.bool false),.tight [],.tight []]) 1 [(0,(Tm 125))])]) (.seq (.region [Oa 122 (.mov (Tm 2))]) (.seq (.region [Oa 123 (.app 3 56 25 (Tm 121) (Tm 122))]) (.seq (.region [Oa 127 (.app 3 56 25 (Tm 123) (Tm 126))]) (.seq (.region [Oa 2 (.mov (Tm 127))]) (.skip)))))))))) (.cond (.cst .anyb) (.seq (.region [Oa 122 (.mov (Tm 2))]) (.cond (.cst .anyb) (.seq (.region [Oa 121 (.buildSl 3 25 (.agg [.p (.bool false),.tight [],.tight []]) 0 [])]) (.cond (.cst .anyb) (.seq (.region [Oa 123 (.app 3 56 25 (Tm 121) (Tm 122))]) (.seq (.region [Oa 125 (.load 3 true (Tm 124))]) (.seq (.region [Oa 126 (.buildSl 3 25 (.agg [.p (.bool false),.tight [],.tight []]) 1 [(0,(Tm 125))])]) (.seq (.region [Oa 127 (.app 3 56 25 (Tm 123) (Tm 126))]) (.seq (.region
 [Oa 2 (.mov (Tm 127))]) (.skip)))))) (.seq (.region [Oa 125 (.load 3 true (Tm 124))]) (.cond (.cst .anyb) (.seq (.region [Oa 123 (.app 3 56 25 (Tm 121) (Tm 122))]) (.seq (.region [Oa 126 (.buildSl 3 25 (.agg [.p (.bool false),.tight [],.tight []]) 1 [(0,(Tm 125))])]) (.seq (.region [Oa 127 (.app 3 56 25 (Tm 123) (Tm 126))]) (.seq (.region [Oa 2 (.mov (Tm 127))]) (.skip))))) (.seq (.region [Oa 126 (.buildSl 3 25 (.agg [.p (.bool false),.tight [],.tight []]) 1 [(0,(Tm 125))])]) (.seq (.region [Oa 123 (.app 3 56 25 (Tm 121) (Tm 122))]) (.seq (.region [Oa 127 (.app 3 56 25 (Tm 123) (Tm 126))]) (.seq (.region [Oa 2 (.mov (Tm 127))]) (.skip))))))))) (.seq (.region [Oa 125 (.load 3 true (Tm 124))]) (.cond (.cst .anyb) (.seq (.region [Oa 121 (.buildSl 3 25 (.agg [.p (.bool false),.tight [],.tight []]) 0 [])]) (.cond (.cst .anyb) (.seq (.region [Oa 123 (.app 3 56 25 (Tm 121) (Tm 122))]) (.seq (.region [Oa 126 (.buildSl 3 25 (.agg [.p (.bool false),.tight [],.tight []]) 1 [(0,(Tm 125))])]) (.seq (.region [Oa 127 (.app 3 56 25 (Tm 123) (Tm 126))]) (.seq (.region [Oa 2 (.mov (Tm 127))]) (.skip))))) (.seq (.region [Oa 126 (.buildSl 3 25 (.agg [.p (.bool false),.tight [],.tight []]) 1 [(0,(Tm 125))])]) (.seq (.region [Oa 123 (.app 3 56 25 (Tm 121) (Tm 122))]) (.seq (.region [Oa 127 (.app 3 56 25 (Tm 123) (Tm 126))]) (.seq (.region [Oa 2 (.mov (Tm 127))]) (.skip))))))) (.seq (.region [Oa 126 (.buildSl 3 25 (.agg [.p (.bool false),.tight [],.tight []]) 1 [(0,(Tm 125))])]) (.seq (.region [Oa 121 (.buildSl 3 25 (.agg [.p (.bool false),.tight [],.tight []]) 0 [])]) (.seq (.region [Oa 123 (.app 3 56 25 (Tm 121) (Tm 122))]) (.seq (.region [Oa 127 (.app 3 56 25 (Tm 123) (Tm 126))]) (.seq (.region [Oa 2 (.mov (Tm 127))]) (.skip)))))))))) (.seq (.region [Oa 125 (.load 3 true (Tm 124))]) (.cond (.cst .anyb) (.seq (.region [Oa 121 (.buildSl 3 25 (.agg [.p (.bool false),.tight [],.tight []]) 0 [])]) (.cond (.cst .anyb) (.seq (.region [Oa 122 (.mov (Tm 2))]) (.cond (.cst .anyb) (.seq (.region
 [Oa 123 (.app 3 56 25 (Tm 121) (Tm 122))]) (.seq (.region [Oa 126 (.buildSl 3 25 (.agg [.p (.bool false),.tight [],.tight []]) 1 [(0,(Tm 125))])]) (.seq (.region [Oa 127 (.app 3 56 25 (Tm 123) (Tm 126))]) (.seq (.region [Oa 2 (.mov (Tm 127))]) (.skip))))) (.seq (.region [Oa 126 (.buildSl 3 25 (.agg [.p (.bool false),.tight [],.tight []]) 1 [(0,(Tm 125))])]) (.seq (.region [Oa 123 (.app 3 56 25 (Tm 121) (Tm 122))]) (.seq (.region [Oa 127 (.app 3 56 25 (Tm 123) (Tm 126))]) (.seq (.region [Oa 2 (.mov (Tm 127))]) (.skip))))))) (.seq (.region [Oa 126 (.buildSl 3 25 (.agg [.p (.bool false),.tight [],.tight []]) 1 [(0,(Tm 125))])]) (.seq (.region [Oa 122 (.mov (Tm 2))]) (.seq (.region [Oa 123 (.app 3 56 25 (Tm 121) (Tm 122))]) (.seq (.region [Oa 127 (.app 3 56 25 (Tm 123) (Tm 126))]) (.seq (.region [Oa 2 (.mov (Tm 127))]) (.skip)))))))) (.cond (.cst .anyb) (.seq (.region [Oa 122 (.mov (Tm 2))]) (.cond (.cst .anyb) (.seq (.region [Oa 121 (.buildSl 3 25 (.agg [.p (.bool false),.tight [],.tight []]) 0 [])]) (.cond (.cst .anyb) (.seq (.region [Oa 123 (.app 3 56 25 (Tm 121) (Tm 122))]) (.seq (.region [Oa 126 (.buildSl 3 25 (.agg [.p (.bool false),.tight [],.tight []]) 1 [(0,(Tm 125))])]) (.seq (.region [Oa 127 (.app 3 56 25 (Tm 123) (Tm 126))]) (.seq (.region [Oa 2 (.mov (Tm 127))]) (.skip))))) (.seq (.region [Oa 126 (.buildSl 3 25 (.agg [.p (.bool false),.tight [],.tight []]) 1 [(0,(Tm 125))])]) (.seq (.region [Oa 123 (.app 3 56 25 (Tm 121) (Tm 122))]) (.seq (.region [Oa 127 (.app 3 56 25 (Tm 123) (Tm 126))]) (.seq (.region [Oa 2 (.mov (Tm 127))]) (.skip))))))) (.seq (.region [Oa 126 (.buildSl 3 25 (.agg [.p (.bool false),.tight [],.tight []]) 1 [(0,(Tm 125))])]) (.seq (.region [Oa 121 (.buildSl 3 25 (.agg [.p (.bool false),.tight [],.tight []]) 0 [])]) (.seq (.region [Oa 123 (.app 3 56 25 (Tm 121) (Tm 122))]) (.seq (.region [Oa 127 (.app 3 56 25 (Tm 123) (Tm 126))]) (.seq (.region [Oa 2 (.mov (Tm 127))]) (.skip)))))))) (.seq (.region [Oa 126 (.buildSl 3 25 (.agg [.p (.bool
 false),.tight [],.tight []]) 1 [(0,(Tm 125))])]) (.cond (.cst .anyb) (.seq (.region [Oa 121 (.buildSl 3 25 (.agg [.p (.bool false),.tight [],.tight []]) 0 [])]) (.seq (.region [Oa 122 (.mov (Tm 2))]) (.seq (.region [Oa 123 (.app 3 56 25 (Tm 121) (Tm 122))]) (.seq (.region [Oa 127 (.app 3 56 25 (Tm 123) (Tm 126))]) (.seq (.region [Oa 2 (.mov (Tm 127))]) (.skip)))))) (.seq (.region [Oa 122 (.mov (Tm 2))]) (.seq (.region [Oa 121 (.buildSl 3 25 (.agg [.p (.bool false),.tight [],.tight []]) 0 [])]) (.seq (.region [Oa 123 (.app 3 56 25 (Tm 121) (Tm 122))]) (.seq (.region [Oa 127 (.app 3 56 25 (Tm 123) (Tm 126))]) (.seq (.region [Oa 2 (.mov (Tm 127))]) (.skip)))))))))))))))
def lf9_B0 : LCode := .block 0 (.loop (.seq (.seq (.region [Oa 83 (.mov (Tm 10)),Oa 84 (.mov (Tm 0)),Oa 85 (.len (Tm 84)),Oa 86 (.mov (Tm 1)),Oa 87 (.len (Tm 86)),Oa 88 (.bin .add (Tm 85) (Tm 87)),Oa 89 (.bin .lss (Tm 83) (Tm 88))]) (.cond (Tm 89) (.skip) (.exit 0))) (.seq (.block 1 (.seq (.region [Oa 92 (.build (.agg [.p (.bool false),.tight [],.tight [],.p (.bool false),.tight [],.tight [],.p (.bool false),.p (.bool false),.p (.bool false),.p (.bool false)]) []),Oa 11 (.newv 10 101 (.cst (.agg [.p (.bool false),.tight [],.tight [],.p (.bool false),.tight [],.tight [],.p (.bool false),.p (.bool false),.p (.bool false),.p (.bool false)]))),Ob (.store 10 (Tm 11) (Tm 92))]) (.seq (.seq (.region [Oa 93 (.mov (Tm 10)),Oa 94 (.mov (Tm 0)),Oa 95 (.len (Tm 94)),Oa 96 (.bin .lss (Tm 93) (Tm 95))]) (.cond (Tm 96) (.region [Oa 97 (.mov (Tm 0)),Oa 98 (.mov (Tm 10)),Oa 99 (.iadr 10 (Tm 97) (Tm 98)),Oa 100 (.load 10 true (Tm 99)),Ob (.store 10 (Tm 11) (Tm 100))]) (.region [Oa 101 (.mov (Tm 1)),Oa 102 (.mov (Tm 10)),Oa 103 (.mov (Tm 0)),Oa 104 (.len (Tm 103)),Oa 105 (.bin .sub (Tm 102) (Tm 104)),Oa 106 (.iadr 10 (Tm 101) (Tm 105)),Oa 107 (.load 10 true (Tm 106)),Ob (.store 10 (Tm 11) (Tm 107))]))) (.seq (.seq (.region [Oa 108 (.fadr 6 (Tm 11)),Oa 109 (.load 1 false (Tm 108)),Oa 110 (.un .not (Tm 109))]) (.cond (Tm 110) lf9_T0 (.skip))) (.seq (.region [Oa 118 (.fadr 7 (Tm 11)),Oa 119 (.load 1 false (Tm 118)),Oa 120 (.un .not (Tm 119))]) (.cond (Tm 120) lf9_T1 (.skip))))))) (.region [Oa 90 (.mov (Tm 10)),Oa 91 (.bin .add (Tm 90) (.cst (.p (.int .i64 1)))),Oa 10 (.mov (Tm 91))]))))
def lf9_B1 : LCode := .block 2 (.loop (.seq (.seq (.region [Oa 128 (.mov (Tm 12)),Oa 129 (.mov (Tm 2)),Oa 130 (.len (Tm 129)),Oa 131 (.bin .lss (Tm 128) (Tm 130))]) (.cond (Tm 131) (.skip) (.exit 2))) (.seq (.block 3 (.seq (.seq (.region [Oa 134 (.mov (Tm 2)),Oa 135 (.mov (Tm 12)),Oa 136 (.iadr 3 (Tm 134) (Tm 135)),Oa 137 (.load 3 true (Tm 136)),Oa 138 (.call 14 [Tm 137]),Oa 139 (.un .not (Tm 138)),Oa 140 (.mov (Tm 139)),Od 141 140 (.mov (Tm 2)),Od 142 140 (.mov (Tm 12)),Od 143 140 (.iadr 3 (Tm 141) (Tm 142)),Od 144 140 (.load 3 true (Tm 143)),Od 145 140 (.call 50 [Tm 144]),Od 146 140 (.un .not (Tm 145)),Oa 147 (.pick (Tm 140) (.cst (.p (.bool true))) (Tm 146))]) (.cond (Tm 147) (.exit 3) (.skip))) (.seq (.regionD [Oa 148 (.mov (Tm 0)),Oa 149 (.mov (Tm 2)),Oa 150 (.mov (Tm 12)),Oa 151 (.iadr 3 (Tm 149) (Tm 150)),Oa 152 (.load 3 true (Tm 151)),Oa 153 (.call 69 [Tm 148,Tm 152]),Oa 154 (.mov (Tm 1)),Oa 155 (.mov (Tm 2)),Oa 156 (.mov (Tm 12)),Oa 157 (.iadr 3 (Tm 155) (Tm 156)),Oa 158 (.load 3 true (Tm 157)),Oa 159 (.call 69 [Tm 154,Tm 158]),Oa 13 (.mov (Tm 153)),Oa 14 (.mov (Tm 159))]) (.seq (.region [Oa 160 (.mov (Tm 7)),Oa 161 (.mov (Tm 2)),Oa 162 (.mov (Tm 12)),Oa 163 (.iadr 3 (Tm 161) (Tm 162)),Oa 164 (.load 3 true (Tm 163)),Oa 165 (.call 69 [Tm 160,Tm 164]),Oa 166 (.mov (Tm 13)),Oa 167 (.mov (Tm 166)),Oc 168 167 (.mov (Tm 14)),Oa 169 (.pick (Tm 167) (Tm 168) (.cst (.p (.bool false)))),Oa 170 (.eqB true (Tm 165) (Tm 169)),Oa 171 (.mov (Tm 170)),Od 172 171 (.mov (Tm 8)),Od 173 171 (.mov (Tm 2)),Od 174 171 (.mov (Tm 12)),Od 175 171 (.iadr 3 (Tm 173) (Tm 174)),Od 176 171 (.load 3 true (Tm 175)),Od 177 171 (.call 69 [Tm 172,Tm 176]),Od 178 171 (.mov (Tm 13)),Od 179 171 (.mov (Tm 178)),Od 180 179 (.mov (Tm 14)),Od 181 171 (.pick (Tm 179) (.cst (.p (.bool true))) (Tm 180)),Od 182 171 (.eqB true (Tm 177) (Tm 181)),Oa 183 (.pick (Tm 171) (.cst (.p (.bool true))) (Tm 182)),Oa 184 (.mov (Tm 183)),Od 185 184 (.mov (Tm 9)),Od 186 184 (.mov (Tm 2)),Od 187 184 (.mov (Tm 12)),Od 188 184 (.iadr 3 (Tm
 186) (Tm 187)),Od 189 184 (.load 3 true (Tm 188)),Od 190 184 (.call 69 [Tm 185,Tm 189]),Od 191 184 (.mov (Tm 13)),Od 192 184 (.un .not (Tm 191)),Od 193 184 (.eqB true (Tm 190) (Tm 192)),Oa 194 (.pick (Tm 184) (.cst (.p (.bool true))) (Tm 193))]) (.cond (Tm 194) (.seq (.region [Oa 6 (.mov (.cst (.p (.bool false))))]) (.ret)) (.skip)))))) (.region [Oa 132 (.mov (Tm 12)),Oa 133 (.bin .add (Tm 132) (.cst (.p (.int .i64 1)))),Oa 12 (.mov (Tm 133))]))))
def lf9 : LFunc := ⟨196,[.slot 6],.seq (.region [Oa 6 (.mov (.cst (.p (.bool false))))]) (.seq (.seq (.region [Oa 15 (.mov (Tm 0)),Oa 16 (.call 56 [Tm 15]),Oa 17 (.un .not (Tm 16)),Oa 18 (.mov (Tm 17)),Od 19 18 (.mov (Tm 1)),Od 20 18 (.call 56 [Tm 19]),Od 21 18 (.un .not (Tm 20)),Oa 22 (.pick (Tm 18) (.cst (.p (.bool true))) (Tm 21)),Oa 23 (.mov (Tm 22)),Od 24 23 (.mov (Tm 2)),Od 25 23 (.len (Tm 24)),Od 26 23 (.bin .gtr (Tm 25) (.cst (.p (.int .i64 15)))),Oa 27 (.pick (Tm 23) (.cst (.p (.bool true))) (Tm 26)),Oa 28 (.mov (Tm 27)),Od 29 28 (.mov (Tm 0)),Od 30 28 (.call 60 [Tm 29]),Od 31 28 (.un .not (Tm 30)),Oa 32 (.pick (Tm 28) (.cst (.p (.bool true))) (Tm 31)),Oa 33 (.mov (Tm 32)),Od 34 33 (.mov (Tm 1)),Od 35 33 (.call 60 [Tm 34]),Od 36 33 (.un .not (Tm 35)),Oa 37 (.pick (Tm 33) (.cst (.p (.bool true))) (Tm 36))]) (.cond (Tm 37) (.seq (.region [Oa 38 (.call 57 []),Oa 6 (.mov (Tm 38))]) (.ret)) (.skip))) (.seq (.region [Oa 39 (.mov (Tm 0)),Oa 40 (.mov (Tm 1)),Oa 41 (.call 63 [Tm 39,Tm 40]),Oa 42 (.mov (Tm 0)),Oa 43 (.mov (Tm 1)),Oa 44 (.call 65 [Tm 42,Tm 43]),Oa 45 (.mov (Tm 0)),Oa 46 (.call 67 [Tm 45]),Oa 7 (.mov (Tm 41)),Oa 8 (.mov (Tm 44)),Oa 9 (.mov (Tm 46))]) (.seq (.seq (.region [Oa 47 (.mov (Tm 7)),Oa 48 (.call 60 [Tm 47]),Oa 49 (.un .not (Tm 48)),Oa 50 (.mov (Tm 49)),Od 51 50 (.mov (Tm 8)),Od 52 50 (.call 60 [Tm 51]),Od 53 50 (.un .not (Tm 52)),Oa 54 (.pick (Tm 50) (.cst (.p (.bool true))) (Tm 53)),Oa 55 (.mov (Tm 54)),Od 56 55 (.mov (Tm 9)),Od 57 55 (.call 60 [Tm 56]),Od 58 55 (.un .not (Tm 57)),Oa 59 (.pick (Tm 55) (.cst (.p (.bool true))) (Tm 58)),Oa 60 (.mov (Tm 59)),Od 61 60 (.mov (Tm 9)),Od 62 60 (.call 67 [Tm 61]),Od 63 60 (.mov (Tm 0)),Od 64 60 (.call 62 [Tm 62,Tm 63]),Od 65 60 (.un .not (Tm 64)),Oa 66 (.pick (Tm 60) (.cst (.p (.bool true))) (Tm 65)),Oa 67 (.mov (Tm 66)),Od 68 67 (.mov (Tm 1)),Od 69 67 (.mov (Tm 0)),Od 70 67 (.call 63 [Tm 68,Tm 69]),Od 71 67 (.mov (Tm 7)),Od 72 67 (.call 62 [Tm 70,Tm 71]),Od 73 67 (.un .not (Tm 72)),Oa 74 (.pick (Tm 67) (.cst (.p (.bool
 true))) (Tm 73)),Oa 75 (.mov (Tm 74)),Od 76 75 (.mov (Tm 1)),Od 77 75 (.mov (Tm 0)),Od 78 75 (.call 65 [Tm 76,Tm 77]),Od 79 75 (.mov (Tm 8)),Od 80 75 (.call 62 [Tm 78,Tm 79]),Od 81 75 (.un .not (Tm 80)),Oa 82 (.pick (Tm 75) (.cst (.p (.bool true))) (Tm 81))]) (.cond (Tm 82) (.seq (.region [Oa 6 (.mov (.cst (.p (.bool false))))]) (.ret)) (.skip))) (.seq (.seq (.region [Oa 10 (.mov (.cst (.p (.int .i64 0))))]) (lf9_B0)) (.seq (.seq (.region [Oa 12 (.mov (.cst (.p (.int .i64 0))))]) (lf9_B1)) (.seq (.region [Oa 195 (.call 57 []),Oa 6 (.mov (Tm 195))]) (.ret)))))))⟩
theorem low9 : lowFuncA Tryz.prog gl0 9 = some lf9 := by kernel_rfl
end Go.Proofs.YtepfpgnjpkcgmaaGreat

/-
 law22: FeasSets: more numbers, whatever order is picked.
-/
namespace Go.Proofs.YtepfpgnjpkcgmaaGreat
open Go Go.Abs Go.Limbs
variable {base : Prot}
set_option maxRecDepth 20000
attribute [local irreducible] vc
attribute [local simp] pureS touchV freezeL fuel shiftV u64 au
def RatsV (ls : List Fr) (x : AVal) (H : Heap) : Prop := x = .p (.lst (ls.map Fr.enc)) ∨ ∃ k v, x = .own k 0 ls.length v ∧ H[k]? = some ⟨3, v, false, ls.map (AVal.p ∘ Fr.enc), 25⟩
def SetQ (ls : List Fr) (y : Fr) (ch : List Nat) (Q : LExit → AFr → Heap → Prop) (fr : AFr) (H : Heap) : Prop :=
 ∀ (fr' : AFr) (r : Heap) (k v : Nat), (∀ s, ch.contains s = false → fr' s = fr s) → fr' 2 = .own k 0 (ls.length + 1) v → (H ++ r)[k]? = some ⟨3, v, false, (ls ++ [y]).map (AVal.p ∘ Fr.enc), 25⟩ → Q .normal fr' (H ++ r)
set_option maxHeartbeats 8000000 in
theorem sets_T0 {T : Tab} {Q : LExit → AFr → Heap → Prop} {fr : AFr} {H : Heap} {ls : List Fr} {x2 : AVal} {y : Sp} {k11 : Nat} (f2' : fr 2 = x2) (hr : RatsV ls x2 H) (f11 : fr 11 = .optr k11 0 0 0) (he : H[k11]? = some ⟨10, 0, false, [.p y.enc], 101⟩)
  (hl : ls.length ≤ 1000) (hq : SetQ ls y.lo [2, 111, 112, 113, 114, 115, 116, 117] Q fr H) : vc T lf9_T0 Q fr H := by
 have hm := maxLen_ge
 have hB : (ls.length + 1) * 56 ≤ 140737488355328 := by omega
 have hB0 : ls.length * 56 ≤ 140737488355328 := by omega
 have hM : ls.length + 1 ≤ maxLen := by omega
 have hM0 : ls.length ≤ maxLen := by omega
 have hke : ∀ r : Heap, (H ++ r)[k11]? = some ⟨10, 0, false, [.p y.enc], 101⟩ := fun r => by rw [List.getElem?_append_left (List.getElem?_eq_some_iff.1 he).1]; exact he
 unfold SetQ at hq
 simp only [Sp.enc] at he hke
 rcases hr with rfl | ⟨k, v, rfl, hk⟩
 ·simp [lf9_T0, f2', f11, he, hke, hB, hM, hB0, hM0, fillS, Sp.enc, Fr.enc, getA, getA0, setA, setA0]
  and_intros
  all_goals
   refine hq _ _ _ _ (fun s hs => ?_) (if_pos rfl) (by simp [Fr.enc, getA, getA0])
   simp at hs
   simp [upd, hs]
 ·have hkk : ∀ r : Heap, (H ++ r)[k]? = some ⟨3, v, false, ls.map (AVal.p ∘ Fr.enc), 25⟩ := fun r => by rw [List.getElem?_append_left (List.getElem?_eq_some_iff.1 hk).1]; exact hk
  simp [lf9_T0, f2', f11, he, hke, hk, hkk, hB, hM, hB0, hM0, fillS, Sp.enc, Fr.enc, take_map, getA, getA0, setA, setA0]
  and_intros
  all_goals
   refine hq _ _ _ _ (fun s hs => ?_) (if_pos rfl) (by simp [Fr.enc, getA, getA0])
   simp at hs
   simp [upd, hs]
set_option maxHeartbeats 8000000 in
theorem sets_T1 {T : Tab} {Q : LExit → AFr → Heap → Prop} {fr : AFr} {H : Heap} {ls : List Fr} {x2 : AVal} {y : Sp} {k11 : Nat} (f2' : fr 2 = x2) (hr : RatsV ls x2 H) (f11 : fr 11 = .optr k11 0 0 0) (he : H[k11]? = some ⟨10, 0, false, [.p y.enc], 101⟩)
  (hl : ls.length ≤ 1000) (hq : SetQ ls y.hi [2, 121, 122, 123, 124, 125, 126, 127] Q fr H) : vc T lf9_T1 Q fr H := by
 have hm := maxLen_ge
 have hB : (ls.length + 1) * 56 ≤ 140737488355328 := by omega
 have hB0 : ls.length * 56 ≤ 140737488355328 := by omega
 have hM : ls.length + 1 ≤ maxLen := by omega
 have hM0 : ls.length ≤ maxLen := by omega
 have hke : ∀ r : Heap, (H ++ r)[k11]? = some ⟨10, 0, false, [.p y.enc], 101⟩ := fun r => by rw [List.getElem?_append_left (List.getElem?_eq_some_iff.1 he).1]; exact he
 unfold SetQ at hq
 simp only [Sp.enc] at he hke
 rcases hr with rfl | ⟨k, v, rfl, hk⟩
 ·simp [lf9_T1, f2', f11, he, hke, hB, hM, hB0, hM0, fillS, Sp.enc, Fr.enc, getA, getA0, setA, setA0]
  and_intros
  all_goals
   refine hq _ _ _ _ (fun s hs => ?_) (if_pos rfl) (by simp [Fr.enc, getA, getA0])
   simp at hs
   simp [upd, hs]
 ·have hkk : ∀ r : Heap, (H ++ r)[k]? = some ⟨3, v, false, ls.map (AVal.p ∘ Fr.enc), 25⟩ := fun r => by rw [List.getElem?_append_left (List.getElem?_eq_some_iff.1 hk).1]; exact hk
  simp [lf9_T1, f2', f11, he, hke, hk, hkk, hB, hM, hB0, hM0, fillS, Sp.enc, Fr.enc, take_map, getA, getA0, setA, setA0]
  and_intros
  all_goals
   refine hq _ _ _ _ (fun s hs => ?_) (if_pos rfl) (by simp [Fr.enc, getA, getA0])
   simp at hs
   simp [upd, hs]
end Go.Proofs.YtepfpgnjpkcgmaaGreat

/-
 law22: FeasSets answers true.
-/
namespace Go.Proofs.YtepfpgnjpkcgmaaGreat
open Go Go.Abs Go.Limbs
variable {base : Prot}
set_option maxRecDepth 20000
attribute [local irreducible] vc
attribute [local simp] pureS touchV freezeL fuel shiftV u64 au
def decFs : List PVal → Option (List Fr)
 | [] => some []
 | v :: r => match decF v, decFs r with | some x, some l => some (x :: l) | _, _ => none
theorem decFs_enc : ∀ {l : List Fr}, (∀ x ∈ l, x.wf) → decFs (l.map Fr.enc) = some l
 | [], _ => rfl
 | x :: r, h => by simp only [List.map_cons, decFs, decF_enc (h x (by simp)), decFs_enc (l := r) (fun y hy => h y (by simp [hy]))]
theorem decFs_some : ∀ {vs : List PVal} {l : List Fr}, decFs vs = some l → vs = l.map Fr.enc ∧ ∀ x ∈ l, x.wf
 | [], l, h => by cases h; exact ⟨rfl, fun x hx => by cases hx⟩
 | v :: r, l, h => by
  unfold decFs at h
  split at h
  ·rename_i x m hx hm
   cases h
   obtain ⟨rfl, wx⟩ := decF_some hx
   obtain ⟨rfl, wm⟩ := decFs_some hm
   refine ⟨rfl, fun y hy => ?_⟩
   rcases List.mem_cons.1 hy with rfl | hy
   ·exact wx
   ·exact wm y hy
  ·cases h
theorem len_few {l : List Sp} (h : fewS22 l = true) : l.length ≤ 10 := by
 unfold fewS22 at h
 rw [Bool.and_eq_true] at h
 exact of_decide_eq_true h.2
theorem same_selfE (l : List Sp) (w : wfSs l) : ss2 sameSs [.lst (l.map Sp.enc), .lst (l.map Sp.enc)] = some (.bool true) := by
 rw [ss2_at w w]; unfold sameSs; rw [decide_eq_true rfl]
theorem has_iff {l : List Sp} {y : Fr} (hl : validP none l = true) (hy : y.ok = true) : hasS l y = true ↔ mem (.at y.q false) (l.map Sp.e) := by
 unfold hasS
 rw [hl, hy, ← any_mem hy (valid_iff.1 hl).1]
 simp
theorem sets_valid {s u : List Sp} (hs : validP none s = true) (hu : validP none u = true) : validP none (meetL s u) = true ∧ validP none (otherL s) = true := by
 unfold meetL otherL
 rw [hs, hu]
 exact ⟨meet_valid hs hu, other_valid hs⟩
theorem sets_has {s u : List Sp} {y : Fr} (hs : validP none s = true) (hu : validP none u = true) (hy : y.ok = true) :
  hasS (meetL s u) y = (hasS s y && hasS u y) ∧ hasS (joinL s u) y = (hasS s y || hasS u y) ∧ hasS (otherL s) y = !hasS s y := by
 obtain ⟨vm, vo⟩ := sets_valid hs hu
 refine ⟨?_, ?_, ?_⟩
 ·rw [Bool.eq_iff_iff, Bool.and_eq_true, has_iff vm hy, has_iff hs hy, has_iff hu hy]
  unfold meetL
  rw [hs, hu]
  exact meet_mem hs hu
 ·rw [Bool.eq_iff_iff, Bool.or_eq_true, has_iff (join_valid hs hu) hy, has_iff hs hy, has_iff hu hy]
  exact join_mem hs hu at_lt_hi
 ·rw [Bool.eq_iff_iff, Bool.not_eq_true', ← Bool.not_eq_true, has_iff vo hy, has_iff hs hy]
  unfold otherL
  rw [hs]
  exact other_mem hs at_lt_hi
theorem sets_same {s u : List Sp} (hs : validP none s = true) (hu : validP none u = true) : otherL (otherL s) = s ∧ meetL u s = meetL s u ∧ joinL u s = joinL s u := by
 obtain ⟨vm, vo⟩ := sets_valid hs hu
 refine ⟨?_, ?_, joinL_comm hu hs⟩
 ·have e : otherL s = otherS zF true false s := by unfold otherL; rw [hs, if_pos rfl]
  rw [e] at vo ⊢
  unfold otherL
  rw [vo, if_pos rfl]
  exact other_other hs
 ·unfold meetL
  rw [hs, hu]
  exact meetS_comm hu hs
def Tl22e : Tab := (((((((((Tab.none.with 56 (pureS (s1 few22P))).with 14 (pureS (f1 fewP1))).with 50 (pureS (f1 boolF))).with 57 (pureS sAwk)).with 60 (pureS (s1 validS))).with 63 (pureS (ks2 100000 meetP))).with 65 (pureS (ks2 1000 joinP))).with 67 (pureS (ks1 100000 otherP))).with 69 (pureS (s1x hasP))).with 62 (pureS (ss2 sameSs))
theorem Tl22e_ok : TabOk Tryz.prog base Tl22e := Tab.with_ok (Tab.with_ok (Tab.with_ok (Tab.with_ok (Tab.with_ok (Tab.with_ok (Tab.with_ok (Tab.with_ok (Tab.with_ok (Tab.with_ok Tab.none_ok few22_ok) arat_ok) rvalidR_ok) awake22_ok) fvalid_ok) fmeet_ok) fjoin_ok) fother_ok) fhas_ok) rsamesp_ok
theorem Tl22e_mu (f : FuncId) (a : List AVal) (H : Heap) : Tl22e.mu f a H = none := (rfl)
theorem Tl22e_fns : Tl22e.fn 56 = (pureS (s1 few22P)) ∧ Tl22e.fn 14 = (pureS (f1 fewP1)) ∧ Tl22e.fn 50 = (pureS (f1 boolF)) ∧ Tl22e.fn 57 = (pureS sAwk) ∧ Tl22e.fn 60 = (pureS (s1 validS)) ∧ Tl22e.fn 63 = (pureS (ks2 100000 meetP)) ∧ Tl22e.fn 65 = (pureS (ks2 1000 joinP)) ∧ Tl22e.fn 67 = (pureS (ks1 100000 otherP)) ∧ Tl22e.fn 69 = (pureS (s1x hasP)) ∧ Tl22e.fn 62 = (pureS (ss2 sameSs)) := ⟨rfl, rfl, rfl, rfl, rfl, rfl, rfl, rfl, rfl, rfl⟩
def sLaw22e : List PVal → Option PVal
 | [.lst vs, .lst ws, .lst rs] => match decSs vs, decSs ws, decFs rs with | some _, some _, some _ => some (.bool true) | _, _, _ => none
 | _ => none
theorem sLaw22e_at {s u : List Sp} {l : List Fr} (ws : wfSs s) (wu : wfSs u) (wl : ∀ x ∈ l, x.wf) : sLaw22e [.lst (s.map Sp.enc), .lst (u.map Sp.enc), .lst (l.map Fr.enc)] = some (.bool true) := by
 simp only [sLaw22e, decSs_enc ws, decSs_enc wu, decFs_enc wl]
def EB (s u : List Sp) (fr : AFr) : Prop := fr 0 = .p (.lst (s.map Sp.enc)) ∧ fr 1 = .p (.lst (u.map Sp.enc)) ∧ fr 7 = .p (.lst ((meetL s u).map Sp.enc)) ∧ fr 8 = .p (.lst ((joinL s u).map Sp.enc)) ∧ fr 9 = .p (.lst ((otherL s).map Sp.enc))
def EInv (s u : List Sp) (fr : AFr) (H : Heap) : Prop := ∃ (i : Nat) (ls : List Fr) (x2 : AVal), i ≤ s.length + u.length ∧ ls.length ≤ 15 + 2 * i ∧ (∀ y ∈ ls, y.wf) ∧ fr 2 = x2 ∧ RatsV ls x2 H ∧ EB s u fr ∧ fr 10 = .p (.int .i64 i)
def GInv (s u : List Sp) (ls : List Fr) (x2 : AVal) (H0 : Heap) (fr : AFr) (H : Heap) : Prop := ∃ i : Nat, H = H0 ∧ i ≤ ls.length ∧ fr 2 = x2 ∧ EB s u fr ∧ fr 12 = .p (.int .i64 i)
set_option maxHeartbeats 8000000 in
theorem feasSets_ok : FnOk Tryz.prog base 9 (pureS sLaw22e) := by
 refine pure_of_vcA hmix Tl22e_ok globNone low9 fun args z hs hf => ?_
 unfold sLaw22e at hs
 split at hs
 case h_2 => cases hs
 rename_i vs ws rs
 split at hs
 case h_2 => cases hs
 rename_i s u l hs1 hu1 hl1
 obtain ⟨rfl, ws⟩ := decSs_some hs1
 obtain ⟨rfl, wu⟩ := decSs_some hu1
 obtain ⟨rfl, wl⟩ := decFs_some hl1
 cases hs
 refine ⟨by simp [lf9], ?_⟩
 have aw := sAwk_nil
 have q1 : s1 few22P [.lst (s.map Sp.enc)] = some (.bool (fewS22 s)) := s1_at ws
 have q2 : s1 few22P [.lst (u.map Sp.enc)] = some (.bool (fewS22 u)) := s1_at wu
 have v1 : s1 validS [.lst (s.map Sp.enc)] = some (.bool (validP none s)) := s1_at ws
 have v2 : s1 validS [.lst (u.map Sp.enc)] = some (.bool (validP none u)) := s1_at wu
 cases h1 : fewS22 s with
 | false => rw [h1] at q1; simp [lf9, q1, aw, fillS, Tl22e_mu, Tl22e_fns]
 | true =>
 rw [h1] at q1
 cases h2 : fewS22 u with
 | false => rw [h2] at q2; simp [lf9, q1, q2, aw, fillS, Tl22e_mu, Tl22e_fns]
 | true =>
 rw [h2] at q2
 by_cases hll : l.length ≤ 15
 case neg =>
  have h15 : (15 : Int) < (l.length : Int) := by omega
  simp [lf9, q1, q2, h15, aw, fillS, Tl22e_mu, Tl22e_fns]
 have h15 : ¬ (15 : Int) < (l.length : Int) := by omega
 cases h3 : validP none s with
 | false => rw [h3] at v1; simp [lf9, q1, q2, h15, v1, aw, fillS, Tl22e_mu, Tl22e_fns]
 | true =>
 rw [h3] at v1
 cases h4 : validP none u with
 | false => rw [h4] at v2; simp [lf9, q1, q2, h15, v1, v2, aw, fillS, Tl22e_mu, Tl22e_fns]
 | true =>
 rw [h4] at v2
 have l1 := len_few h1
 have l2 := len_few h2
 have m1 : ks2 100000 meetP [.lst (s.map Sp.enc), .lst (u.map Sp.enc)] = some (.lst ((meetL s u).map Sp.enc)) := ks2_at ws wu (decide_eq_true (by omega)) (decide_eq_true (by omega))
 have j1 : ks2 1000 joinP [.lst (s.map Sp.enc), .lst (u.map Sp.enc)] = some (.lst ((joinL s u).map Sp.enc)) := ks2_at ws wu (decide_eq_true (by omega)) (decide_eq_true (by omega))
 have o1 : ks1 100000 otherP [.lst (s.map Sp.enc)] = some (.lst ((otherL s).map Sp.enc)) := ks1_at ws (decide_eq_true (by omega))
 obtain ⟨e1, e2, e3⟩ := sets_same h3 h4
 obtain ⟨vm, vo⟩ := sets_valid h3 h4
 have wm := wf_meetL ws wu
 have wj := wf_joinL ws wu
 have wo := wf_otherL ws
 have m2 : ks2 100000 meetP [.lst (u.map Sp.enc), .lst (s.map Sp.enc)] = some (.lst ((meetL s u).map Sp.enc)) := by rw [← e2]; exact ks2_at wu ws (decide_eq_true (by omega)) (decide_eq_true (by omega))
 have j2 : ks2 1000 joinP [.lst (u.map Sp.enc), .lst (s.map Sp.enc)] = some (.lst ((joinL s u).map Sp.enc)) := by rw [← e3]; exact ks2_at wu ws (decide_eq_true (by omega)) (decide_eq_true (by omega))
 have o2 : ks1 100000 otherP [.lst ((otherL s).map Sp.enc)] = some (.lst (s.map Sp.enc)) := by
  have := ks1_at (n := 100000) (g := otherP) wo (decide_eq_true (by have := len_otherL s; omega))
  rw [this]
  unfold otherP
  rw [e1]
 have w1 : s1 validS [.lst ((meetL s u).map Sp.enc)] = some (.bool true) := by rw [s1_at wm]; unfold validS; rw [vm]
 have w2 : s1 validS [.lst ((joinL s u).map Sp.enc)] = some (.bool true) := by rw [s1_at wj]; unfold validS; rw [join_valid h3 h4]
 have w3 : s1 validS [.lst ((otherL s).map Sp.enc)] = some (.bool true) := by rw [s1_at wo]; unfold validS; rw [vo]
 have t1 := same_selfE s ws
 have t2 := same_selfE _ wm
 have t3 := same_selfE _ wj
 have hh : ∀ y : Fr, y.wf → y.ok = true → s1x hasP [.lst ((meetL s u).map Sp.enc), y.enc] = some (.bool (hasS s y && hasS u y)) ∧ s1x hasP [.lst ((joinL s u).map Sp.enc), y.enc] = some (.bool (hasS s y || hasS u y)) ∧ s1x hasP [.lst ((otherL s).map Sp.enc), y.enc] = some (.bool (!hasS s y)) := fun y wy oy => by
  obtain ⟨a, b, c⟩ := sets_has h3 h4 oy
  rw [s1x_at wm wy, s1x_at wj wy, s1x_at wo wy]
  unfold hasP
  rw [a, b, c]
  exact ⟨rfl, rfl, rfl⟩
 simp [lf9, q1, q2, h15, v1, v2, m1, j1, o1, w1, w2, w3, o2, m2, j2, t1, t2, t3, aw, fillS, Tl22e_mu, Tl22e_fns]
 simp only [lf9_B0, vc_block]
 refine loop_ind (EInv s u) (fun fr _ => s.length + u.length - ivar (fr 10))
  ⟨0, l, _, by omega, by omega, wl, by simp, .inl rfl, ⟨by simp, by simp, by simp, by simp, by simp⟩, by simp⟩ ?_
 rintro fr H ⟨i, ls, x2, hi, hls, wls, f2', hrv, ⟨f0, f1', f7, f8, f9⟩, f10⟩
 have wsu : IntKind.i64.wrap ((s.length : Int) + (u.length : Int)) = (s.length : Int) + (u.length : Int) := IntWalk.i64_in _ (by omega)
 by_cases hlt : i < s.length + u.length
 ·have hltI : (i : Int) < (s.length : Int) + (u.length : Int) := by omega
  have hw := wrap_succ (i := i) (by omega)
  obtain ⟨x, hx⟩ : ∃ x, (s ++ u)[i]? = some x := ⟨_, List.getElem?_eq_getElem (by simp; omega)⟩
  have wx : x.wf := by
   rcases List.mem_append.1 (List.mem_of_getElem? hx) with h | h
   ·exact ws x h
   ·exact wu x h
  have hRV : ∀ e : Ent, RatsV ls x2 (H ++ [e]) := fun e => by
   rcases hrv with h | ⟨k, v, h, hk⟩
   ·exact .inl h
   ·exact .inr ⟨k, v, h, by rw [List.getElem?_append_left (List.getElem?_eq_some_iff.1 hk).1]; exact hk⟩
  have hend : ∀ (fr' : AFr) (H' : Heap) (ls' : List Fr) (x2' : AVal), ls'.length ≤ ls.length + 2 → (∀ y ∈ ls', y.wf) → fr' 2 = x2' → RatsV ls' x2' H' → EB s u fr' → fr' 10 = .p (.int .i64 ((i + 1 : Nat) : Int)) → EInv s u fr' H' := fun fr' H' ls' x2' a b c d e f => ⟨i + 1, ls', x2', by omega, by omega, b, c, d, e, f⟩
  have hwadd : ∀ {l : List Fr} (y : Fr), y.wf → (∀ z ∈ l, z.wf) → ∀ z ∈ l ++ [y], z.wf := fun y hy hl z hz => by
   rcases List.mem_append.1 hz with h | h
   ·exact hl z h
   ·rw [List.mem_singleton] at h; subst h; exact hy
  by_cases hi1 : i < s.length
  ·have hxs : s[i]? = some x := by rw [← hx, List.getElem?_append_left hi1]
   have hxe := getE hxs
   simp [f0, f1', f10, wsu, hltI, hi1, hxe, fillS, Sp.enc, Fr.enc, getA, getA0, setA, setA0, Tl22e_mu, Tl22e_fns]
   obtain ⟨lo, hi', nl, nh, o1', o2'⟩ := x
   cases nl with
   | true =>
    simp [f0, f1', f7, f8, f9, f10, hw, ivar, fillS, getA, getA0, setA, setA0, Tl22e_mu, Tl22e_fns]
    cases nh with
    | true =>
     simp [f0, f1', f7, f8, f9, f10, hw, ivar, fillS, getA, getA0, setA, setA0, Tl22e_mu, Tl22e_fns]
     refine ⟨?_, by omega⟩
     exact hend _ _ ls x2 (by omega) wls (by simp [f2']) (hRV _) ⟨by simp [f0], by simp [f1'], by simp [f7], by simp [f8], by simp [f9]⟩ (by simp)
    | false =>
     simp [f0, f1', f7, f8, f9, f10, hw, ivar, fillS, getA, getA0, setA, setA0, Tl22e_mu, Tl22e_fns]
     refine sets_T1 (ls := ls) (x2 := x2) (y := ⟨lo, hi', true, false, o1', o2'⟩) (k11 := H.length) (by simp [f2']) (hRV _) (by simp) (by rw [getA0]; rfl) (by omega) (fun fr' r k v hs h2 he => ?_)
     have g := fun n (h : ([2, 121, 122, 123, 124, 125, 126, 127] : List Nat).contains n = false) => hs n h
     have g0 := g 0 (by decide)
     have g1 := g 1 (by decide)
     have g7 := g 7 (by decide)
     have g8 := g 8 (by decide)
     have g9 := g 9 (by decide)
     have g10 := g 10 (by decide)
     simp [f0, f1', f7, f8, f9, f10] at g0 g1 g7 g8 g9 g10
     simp [g0, g1, g7, g8, g9, g10, hw, ivar, Tl22e_mu, Tl22e_fns]
     refine ⟨?_, by omega⟩
     exact hend _ _ (ls ++ [hi']) (.own k 0 (ls.length + 1) v) (by simp) (hwadd _ wx.2 wls) (by simp [h2]) (.inr ⟨k, v, by simp, by simpa using he⟩) ⟨by simp [g0], by simp [g1], by simp [g7], by simp [g8], by simp [g9]⟩ (by simp)
   | false =>
    cases nh with
    | true =>
     simp [f0, f1', f7, f8, f9, f10, hw, ivar, fillS, getA, getA0, setA, setA0, Tl22e_mu, Tl22e_fns]
     refine sets_T0 (ls := ls) (x2 := x2) (y := ⟨lo, hi', false, true, o1', o2'⟩) (k11 := H.length) (by simp [f2']) (hRV _) (by simp) (by rw [getA0]; rfl) (by omega) (fun fr' r k v hs h2 he => ?_)
     have g := fun n (h : ([2, 111, 112, 113, 114, 115, 116, 117] : List Nat).contains n = false) => hs n h
     have g0 := g 0 (by decide)
     have g1 := g 1 (by decide)
     have g7 := g 7 (by decide)
     have g8 := g 8 (by decide)
     have g9 := g 9 (by decide)
     have g10 := g 10 (by decide)
     have g11 := g 11 (by decide)
     simp [f0, f1', f7, f8, f9, f10] at g0 g1 g7 g8 g9 g10 g11
     have hE2 : ∀ r : Heap, ((H ++ [⟨10, 0, false, [.p (Sp.enc ⟨lo, hi', false, true, o1', o2'⟩)], 101⟩]) ++ r : Heap)[H.length]? = some ⟨10, 0, false, [.p (Sp.enc ⟨lo, hi', false, true, o1', o2'⟩)], 101⟩ := fun r => by rw [List.getElem?_append_left (by simp), getA0]; rfl
     have hE3 := hE2 r
     simp only [Sp.enc, Fr.enc] at hE3
     obtain ⟨H', hH'⟩ : ∃ H' : Heap, H' = (H ++ [⟨10, 0, false, [.p (Sp.enc ⟨lo, hi', false, true, o1', o2'⟩)], 101⟩]) ++ r := ⟨_, rfl⟩
     simp only [Sp.enc, Fr.enc] at hH'
     simp only [Sp.enc, Fr.enc] at he
     rw [← hH'] at hE3 he ⊢
     simp [hE3, g0, g1, g7, g8, g9, g10, g11, hw, ivar, Tl22e_mu, Tl22e_fns]
     refine ⟨?_, by omega⟩
     exact hend _ _ (ls ++ [lo]) (.own k 0 (ls.length + 1) v) (by simp) (hwadd _ wx.1 wls) (by simp [h2]) (.inr ⟨k, v, by simp, by simpa using he⟩) ⟨by simp [g0], by simp [g1], by simp [g7], by simp [g8], by simp [g9]⟩ (by simp)
    | false =>
     simp [f0, f1', f7, f8, f9, f10, hw, ivar, fillS, getA, getA0, setA, setA0, Tl22e_mu, Tl22e_fns]
     refine sets_T0 (ls := ls) (x2 := x2) (y := ⟨lo, hi', false, false, o1', o2'⟩) (k11 := H.length) (by simp [f2']) (hRV _) (by simp) (by rw [getA0]; rfl) (by omega) (fun fr' r k v hs h2 he => ?_)
     have g := fun n (h : ([2, 111, 112, 113, 114, 115, 116, 117] : List Nat).contains n = false) => hs n h
     have g0 := g 0 (by decide)
     have g1 := g 1 (by decide)
     have g7 := g 7 (by decide)
     have g8 := g 8 (by decide)
     have g9 := g 9 (by decide)
     have g10 := g 10 (by decide)
     have g11 := g 11 (by decide)
     simp [f0, f1', f7, f8, f9, f10] at g0 g1 g7 g8 g9 g10 g11
     have hE2 : ∀ r : Heap, ((H ++ [⟨10, 0, false, [.p (Sp.enc ⟨lo, hi', false, false, o1', o2'⟩)], 101⟩]) ++ r : Heap)[H.length]? = some ⟨10, 0, false, [.p (Sp.enc ⟨lo, hi', false, false, o1', o2'⟩)], 101⟩ := fun r => by rw [List.getElem?_append_left (by simp), getA0]; rfl
     have hE3 := hE2 r
     simp only [Sp.enc, Fr.enc] at hE3
     obtain ⟨H', hH'⟩ : ∃ H' : Heap, H' = (H ++ [⟨10, 0, false, [.p (Sp.enc ⟨lo, hi', false, false, o1', o2'⟩)], 101⟩]) ++ r := ⟨_, rfl⟩
     simp only [Sp.enc, Fr.enc] at hH'
     simp only [Sp.enc, Fr.enc] at he
     rw [← hH'] at hE3 he ⊢
     have hE4 : H'[H.length]? = some ⟨10, 0, false, [.p (Sp.enc ⟨lo, hi', false, false, o1', o2'⟩)], 101⟩ := hE3
     simp [hE3, g0, g1, g7, g8, g9, g10, g11, hw, ivar, Tl22e_mu, Tl22e_fns]
     refine sets_T1 (ls := ls ++ [lo]) (x2 := .own k 0 (ls.length + 1) v) (y := ⟨lo, hi', false, false, o1', o2'⟩) (k11 := H.length) (by simp [h2]) (.inr ⟨k, v, by simp, by simpa using he⟩) (by simp [g11]) hE4 (by simp; omega) (fun fr2 r2 k2 v2 hs2 h22 he2 => ?_)
     have e := fun n (h : ([2, 121, 122, 123, 124, 125, 126, 127] : List Nat).contains n = false) => hs2 n h
     have e0 := e 0 (by decide)
     have e1 := e 1 (by decide)
     have e7 := e 7 (by decide)
     have e8 := e 8 (by decide)
     have e9 := e 9 (by decide)
     have e10 := e 10 (by decide)
     simp [g0, g1, g7, g8, g9, g10] at e0 e1 e7 e8 e9 e10
     simp [e0, e1, e7, e8, e9, e10, hw, ivar, Tl22e_mu, Tl22e_fns]
     refine ⟨?_, by omega⟩
     exact hend _ _ (ls ++ [lo] ++ [hi']) (.own k2 0 (ls.length + 1 + 1) v2) (by simp) (hwadd _ wx.2 (hwadd _ wx.1 wls)) (by simpa using h22) (.inr ⟨k2, v2, by simp, by simpa using he2⟩) ⟨by simp [e0], by simp [e1], by simp [e7], by simp [e8], by simp [e9]⟩ (by simp)
  ·have hxs : u[i - s.length]? = some x := by rw [← hx, List.getElem?_append_right (by omega)]
   have hxe := getE hxs
   have hi2 : i - s.length < u.length := by omega
   have hsub : IntKind.i64.wrap ((i : Int) - (s.length : Int)) = ((i - s.length : Nat) : Int) := by rw [Int.ofNat_sub (by omega)]; exact IntWalk.i64_in _ (by omega)
   simp [f0, f1', f10, wsu, hltI, hi1, hi2, hsub, hxe, fillS, Sp.enc, Fr.enc, getA, getA0, setA, setA0, Tl22e_mu, Tl22e_fns]
   obtain ⟨lo, hi', nl, nh, o1', o2'⟩ := x
   cases nl with
   | true =>
    simp [f0, f1', f7, f8, f9, f10, hw, ivar, fillS, getA, getA0, setA, setA0, Tl22e_mu, Tl22e_fns]
    cases nh with
    | true =>
     simp [f0, f1', f7, f8, f9, f10, hw, ivar, fillS, getA, getA0, setA, setA0, Tl22e_mu, Tl22e_fns]
     refine ⟨?_, by omega⟩
     exact hend _ _ ls x2 (by omega) wls (by simp [f2']) (hRV _) ⟨by simp [f0], by simp [f1'], by simp [f7], by simp [f8], by simp [f9]⟩ (by simp)
    | false =>
     simp [f0, f1', f7, f8, f9, f10, hw, ivar, fillS, getA, getA0, setA, setA0, Tl22e_mu, Tl22e_fns]
     refine sets_T1 (ls := ls) (x2 := x2) (y := ⟨lo, hi', true, false, o1', o2'⟩) (k11 := H.length) (by simp [f2']) (hRV _) (by simp) (by rw [getA0]; rfl) (by omega) (fun fr' r k v hs h2 he => ?_)
     have g := fun n (h : ([2, 121, 122, 123, 124, 125, 126, 127] : List Nat).contains n = false) => hs n h
     have g0 := g 0 (by decide)
     have g1 := g 1 (by decide)
     have g7 := g 7 (by decide)
     have g8 := g 8 (by decide)
     have g9 := g 9 (by decide)
     have g10 := g 10 (by decide)
     simp [f0, f1', f7, f8, f9, f10] at g0 g1 g7 g8 g9 g10
     simp [g0, g1, g7, g8, g9, g10, hw, ivar, Tl22e_mu, Tl22e_fns]
     refine ⟨?_, by omega⟩
     exact hend _ _ (ls ++ [hi']) (.own k 0 (ls.length + 1) v) (by simp) (hwadd _ wx.2 wls) (by simp [h2]) (.inr ⟨k, v, by simp, by simpa using he⟩) ⟨by simp [g0], by simp [g1], by simp [g7], by simp [g8], by simp [g9]⟩ (by simp)
   | false =>
    cases nh with
    | true =>
     simp [f0, f1', f7, f8, f9, f10, hw, ivar, fillS, getA, getA0, setA, setA0, Tl22e_mu, Tl22e_fns]
     refine sets_T0 (ls := ls) (x2 := x2) (y := ⟨lo, hi', false, true, o1', o2'⟩) (k11 := H.length) (by simp [f2']) (hRV _) (by simp) (by rw [getA0]; rfl) (by omega) (fun fr' r k v hs h2 he => ?_)
     have g := fun n (h : ([2, 111, 112, 113, 114, 115, 116, 117] : List Nat).contains n = false) => hs n h
     have g0 := g 0 (by decide)
     have g1 := g 1 (by decide)
     have g7 := g 7 (by decide)
     have g8 := g 8 (by decide)
     have g9 := g 9 (by decide)
     have g10 := g 10 (by decide)
     have g11 := g 11 (by decide)
     simp [f0, f1', f7, f8, f9, f10] at g0 g1 g7 g8 g9 g10 g11
     have hE2 : ∀ r : Heap, ((H ++ [⟨10, 0, false, [.p (Sp.enc ⟨lo, hi', false, true, o1', o2'⟩)], 101⟩]) ++ r : Heap)[H.length]? = some ⟨10, 0, false, [.p (Sp.enc ⟨lo, hi', false, true, o1', o2'⟩)], 101⟩ := fun r => by rw [List.getElem?_append_left (by simp), getA0]; rfl
     have hE3 := hE2 r
     simp only [Sp.enc, Fr.enc] at hE3
     obtain ⟨H', hH'⟩ : ∃ H' : Heap, H' = (H ++ [⟨10, 0, false, [.p (Sp.enc ⟨lo, hi', false, true, o1', o2'⟩)], 101⟩]) ++ r := ⟨_, rfl⟩
     simp only [Sp.enc, Fr.enc] at hH'
     simp only [Sp.enc, Fr.enc] at he
     rw [← hH'] at hE3 he ⊢
     simp [hE3, g0, g1, g7, g8, g9, g10, g11, hw, ivar, Tl22e_mu, Tl22e_fns]
     refine ⟨?_, by omega⟩
     exact hend _ _ (ls ++ [lo]) (.own k 0 (ls.length + 1) v) (by simp) (hwadd _ wx.1 wls) (by simp [h2]) (.inr ⟨k, v, by simp, by simpa using he⟩) ⟨by simp [g0], by simp [g1], by simp [g7], by simp [g8], by simp [g9]⟩ (by simp)
    | false =>
     simp [f0, f1', f7, f8, f9, f10, hw, ivar, fillS, getA, getA0, setA, setA0, Tl22e_mu, Tl22e_fns]
     refine sets_T0 (ls := ls) (x2 := x2) (y := ⟨lo, hi', false, false, o1', o2'⟩) (k11 := H.length) (by simp [f2']) (hRV _) (by simp) (by rw [getA0]; rfl) (by omega) (fun fr' r k v hs h2 he => ?_)
     have g := fun n (h : ([2, 111, 112, 113, 114, 115, 116, 117] : List Nat).contains n = false) => hs n h
     have g0 := g 0 (by decide)
     have g1 := g 1 (by decide)
     have g7 := g 7 (by decide)
     have g8 := g 8 (by decide)
     have g9 := g 9 (by decide)
     have g10 := g 10 (by decide)
     have g11 := g 11 (by decide)
     simp [f0, f1', f7, f8, f9, f10] at g0 g1 g7 g8 g9 g10 g11
     have hE2 : ∀ r : Heap, ((H ++ [⟨10, 0, false, [.p (Sp.enc ⟨lo, hi', false, false, o1', o2'⟩)], 101⟩]) ++ r : Heap)[H.length]? = some ⟨10, 0, false, [.p (Sp.enc ⟨lo, hi', false, false, o1', o2'⟩)], 101⟩ := fun r => by rw [List.getElem?_append_left (by simp), getA0]; rfl
     have hE3 := hE2 r
     simp only [Sp.enc, Fr.enc] at hE3
     obtain ⟨H', hH'⟩ : ∃ H' : Heap, H' = (H ++ [⟨10, 0, false, [.p (Sp.enc ⟨lo, hi', false, false, o1', o2'⟩)], 101⟩]) ++ r := ⟨_, rfl⟩
     simp only [Sp.enc, Fr.enc] at hH'
     simp only [Sp.enc, Fr.enc] at he
     rw [← hH'] at hE3 he ⊢
     have hE4 : H'[H.length]? = some ⟨10, 0, false, [.p (Sp.enc ⟨lo, hi', false, false, o1', o2'⟩)], 101⟩ := hE3
     simp [hE3, g0, g1, g7, g8, g9, g10, g11, hw, ivar, Tl22e_mu, Tl22e_fns]
     refine sets_T1 (ls := ls ++ [lo]) (x2 := .own k 0 (ls.length + 1) v) (y := ⟨lo, hi', false, false, o1', o2'⟩) (k11 := H.length) (by simp [h2]) (.inr ⟨k, v, by simp, by simpa using he⟩) (by simp [g11]) hE4 (by simp; omega) (fun fr2 r2 k2 v2 hs2 h22 he2 => ?_)
     have e := fun n (h : ([2, 121, 122, 123, 124, 125, 126, 127] : List Nat).contains n = false) => hs2 n h
     have e0 := e 0 (by decide)
     have e1 := e 1 (by decide)
     have e7 := e 7 (by decide)
     have e8 := e 8 (by decide)
     have e9 := e 9 (by decide)
     have e10 := e 10 (by decide)
     simp [g0, g1, g7, g8, g9, g10] at e0 e1 e7 e8 e9 e10
     simp [e0, e1, e7, e8, e9, e10, hw, ivar, Tl22e_mu, Tl22e_fns]
     refine ⟨?_, by omega⟩
     exact hend _ _ (ls ++ [lo] ++ [hi']) (.own k2 0 (ls.length + 1 + 1) v2) (by simp) (hwadd _ wx.2 (hwadd _ wx.1 wls)) (by simpa using h22) (.inr ⟨k2, v2, by simp, by simpa using he2⟩) ⟨by simp [e0], by simp [e1], by simp [e7], by simp [e8], by simp [e9]⟩ (by simp)
 ·have hil : i = s.length + u.length := by omega
  have hltI : ¬ (i : Int) < (s.length : Int) + (u.length : Int) := by omega
  simp [f0, f1', f10, wsu, hltI, Tl22e_mu, Tl22e_fns]
  simp only [lf9_B1, vc_block]
  refine loop_ind (GInv s u ls x2 H) (fun fr _ => ls.length - ivar (fr 12))
   ⟨0, rfl, by omega, by simp [f2'], ⟨by simp [f0], by simp [f1'], by simp [f7], by simp [f8], by simp [f9]⟩, by simp⟩ ?_
  clear f0 f1' f2' f7 f8 f9 f10
  rintro fr3 H3 ⟨j, rfl, hj, f2', ⟨f0, f1', f7, f8, f9⟩, f12⟩
  by_cases hjl : j < ls.length
  ·obtain ⟨y, hy⟩ : ∃ y, ls[j]? = some y := ⟨_, List.getElem?_eq_getElem hjl⟩
   have hye := getE hy
   have hw := wrap_succ (i := j) (by omega)
   have wy := wls y (List.mem_of_getElem? hy)
   have p1 : f1 fewP1 [y.enc] = some (.bool (fewF1 y)) := f1_at wy
   have p2 := vF wy
   have p3 : s1x hasP [.lst (s.map Sp.enc), y.enc] = some (.bool (hasS s y)) := s1x_at ws wy
   have p4 : s1x hasP [.lst (u.map Sp.enc), y.enc] = some (.bool (hasS u y)) := s1x_at wu wy
   have p5 := hh y wy
   simp only [Fr.enc] at p1 p2 p3 p4 p5
   have hnext : ∀ fr' : AFr, fr' 2 = x2 → EB s u fr' → fr' 12 = .p (.int .i64 ((j + 1 : Nat) : Int)) → GInv s u ls x2 H3 fr' H3 := fun fr' a b c => ⟨j + 1, rfl, by omega, a, b, c⟩
   rcases hrv with rfl | ⟨k, v, rfl, hk⟩
   ·cases hf1 : fewF1 y with
    | false =>
     rw [hf1] at p1
     simp [f0, f1', f2', f7, f8, f9, f12, hjl, hye, Fr.enc, p1, hw, ivar, Tl22e_mu, Tl22e_fns]
     exact ⟨hnext _ (by simp [f2']) ⟨by simp [f0], by simp [f1'], by simp [f7], by simp [f8], by simp [f9]⟩ (by simp), by omega⟩
    | true =>
     rw [hf1] at p1
     cases hok : y.ok with
     | false =>
      rw [hok] at p2
      simp [f0, f1', f2', f7, f8, f9, f12, hjl, hye, Fr.enc, p1, p2, hw, ivar, Tl22e_mu, Tl22e_fns]
      exact ⟨hnext _ (by simp [f2']) ⟨by simp [f0], by simp [f1'], by simp [f7], by simp [f8], by simp [f9]⟩ (by simp), by omega⟩
     | true =>
      rw [hok] at p2
      obtain ⟨p6, p7, p8⟩ := p5 hok
      obtain ⟨b1, hb1⟩ : ∃ b, b = hasS s y := ⟨_, rfl⟩
      obtain ⟨b2, hb2⟩ : ∃ b, b = hasS u y := ⟨_, rfl⟩
      rw [← hb1] at p3 p6 p7 p8
      rw [← hb2] at p4 p6 p7
      cases b1 <;> cases b2 <;> simp only [Bool.and_true, Bool.and_false, Bool.true_and, Bool.false_and, Bool.or_true, Bool.or_false, Bool.true_or, Bool.false_or, Bool.not_true, Bool.not_false] at p6 p7 p8
      all_goals
       simp [f0, f1', f2', f7, f8, f9, f12, hjl, hye, Fr.enc, p1, p2, p3, p4, p6, p7, p8, hw, ivar, Tl22e_mu, Tl22e_fns]
       exact ⟨hnext _ (by simp [f2']) ⟨by simp [f0], by simp [f1'], by simp [f7], by simp [f8], by simp [f9]⟩ (by simp), by omega⟩
   ·cases hf1 : fewF1 y with
    | false =>
     rw [hf1] at p1
     simp [f0, f1', f2', f7, f8, f9, f12, hjl, hye, Fr.enc, hk, p1, hw, ivar, Tl22e_mu, Tl22e_fns]
     exact ⟨hnext _ (by simp [f2']) ⟨by simp [f0], by simp [f1'], by simp [f7], by simp [f8], by simp [f9]⟩ (by simp), by omega⟩
    | true =>
     rw [hf1] at p1
     cases hok : y.ok with
     | false =>
      rw [hok] at p2
      simp [f0, f1', f2', f7, f8, f9, f12, hjl, hye, Fr.enc, hk, p1, p2, hw, ivar, Tl22e_mu, Tl22e_fns]
      exact ⟨hnext _ (by simp [f2']) ⟨by simp [f0], by simp [f1'], by simp [f7], by simp [f8], by simp [f9]⟩ (by simp), by omega⟩
     | true =>
      rw [hok] at p2
      obtain ⟨p6, p7, p8⟩ := p5 hok
      obtain ⟨b1, hb1⟩ : ∃ b, b = hasS s y := ⟨_, rfl⟩
      obtain ⟨b2, hb2⟩ : ∃ b, b = hasS u y := ⟨_, rfl⟩
      rw [← hb1] at p3 p6 p7 p8
      rw [← hb2] at p4 p6 p7
      cases b1 <;> cases b2 <;> simp only [Bool.and_true, Bool.and_false, Bool.true_and, Bool.false_and, Bool.or_true, Bool.or_false, Bool.true_or, Bool.false_or, Bool.not_true, Bool.not_false] at p6 p7 p8
      all_goals
       simp [f0, f1', f2', f7, f8, f9, f12, hjl, hye, Fr.enc, hk, p1, p2, p3, p4, p6, p7, p8, hw, ivar, Tl22e_mu, Tl22e_fns]
       exact ⟨hnext _ (by simp [f2']) ⟨by simp [f0], by simp [f1'], by simp [f7], by simp [f8], by simp [f9]⟩ (by simp), by omega⟩
  ·have hjl2 : j = ls.length := by omega
   rcases hrv with rfl | ⟨k, v, rfl, hk⟩
   ·simp [f2', f12, hjl2, aw, Tl22e_mu, Tl22e_fns]
   ·simp [f2', f12, hjl2, hk, aw, Tl22e_mu, Tl22e_fns]
end Go.Proofs.YtepfpgnjpkcgmaaGreat
