/-
  The lowered code of the functions of texts, each equal to what the program's form lowers to. No conditions.
-/
import Derived.Test.YtgdpephlpdonnaaGreatDoorAbsTwo
import Derived.Test.YtgdpephlpdonnaaGreatDoorProg
import Derived.Test.YtgdpephlpdonnaaGreatDoorNatA
import Derived.KernelRfl
set_option linter.unusedSimpArgs false
set_option linter.unusedVariables false
set_option linter.constructorNameAsVariable false

/-
  The lowered code of the functions, as the program's form has it.
-/
namespace Go.Proofs.YtgdpephlpdonnaaGreatDoor
open Go Go.Abs
def lf145 : LFunc := ⟨6,[.slot 2], .seq (.region [⟨some 2,none,.mov (.cst (.p (.int .i64 0)))⟩]) (.seq (.region [⟨some 3,none,.mov (.tmp 0)⟩,⟨some 4,none,.bin .mul (.tmp 3) (.cst (.p (.int .i64 78913)))⟩,⟨some 5,none,.bin .shr (.tmp 4) (.cst (.p (.int .u64 18)))⟩,⟨some 2,none,.mov (.tmp 5)⟩]) (.ret))⟩
theorem low145 : lowFunc Tryz.prog gl0 145 = some lf145 := by kernel_rfl
def lf146 : LFunc := ⟨4,[.slot 2], .seq (.region [⟨some 2,none,.mov (.cst (.p (.int .i64 0)))⟩]) (.seq (.seq (.region [⟨some 3,none,.mov (.tmp 0)⟩]) (.cond (.tmp 3) (.seq (.region [⟨some 2,none,.mov (.cst (.p (.int .i64 1)))⟩]) (.ret)) (.skip))) (.seq (.region [⟨some 2,none,.mov (.cst (.p (.int .i64 0)))⟩]) (.ret)))⟩
theorem low146 : lowFunc Tryz.prog gl0 146 = some lf146 := by kernel_rfl
def lf38_B0 : LCode := .block 0 (
  .loop (
   .seq (
    .seq (
     .region [
       ⟨(some 11), none, .mov (.tmp 0)⟩,
       ⟨(some 12), none, .len (.tmp 11)⟩,
       ⟨(some 13), none, .bin .gtr (.tmp 12) (.cst (.p (.int .i64 0)))⟩]) (
     .cond (.tmp 13) (
      .skip) (
      .exit 0))) (
    .block 1 (
     .seq (
      .region [
        ⟨(some 4), none, .mov (.cst (.p (.int .u64 0)))⟩]) (
      .seq (
       .region [
         ⟨(some 15), none, .mov (.tmp 0)⟩,
         ⟨(some 16), none, .call 77 [(.tmp 15), (.cst (.p (.int .u64 10000000000000000000)))]⟩,
         ⟨(some 14), none, .mov (.tmp 16)⟩,
         ⟨(some 17), none, .ext (.tmp 14) 0⟩,
         ⟨(some 18), none, .ext (.tmp 14) 1⟩,
         ⟨(some 0), none, .mov (.tmp 17)⟩,
         ⟨(some 4), none, .mov (.tmp 18)⟩]) (
       .regionW [
         (⟨(some 19), none, .load 1 false (.tmp 3)⟩, .s),
         (⟨(some 20), none, .mov (.tmp 4)⟩, .f),
         (⟨(some 21), none, .call 84 [(.tmp 20), (.cst (.p (.int .i64 10)))]⟩, .s),
         (⟨(some 22), none, .buildSl 1 9 (.p (.str [])) 1 [(0, (.tmp 21))]⟩, .s),
         (⟨(some 23), none, .app 1 16 9 (.tmp 19) (.tmp 22)⟩, .f),
         (⟨none, none, .store 1 (.tmp 3) (.tmp 23)⟩, .f)]))))))
def lf38 : LFunc := ⟨44,[.slot 2], .seq (.region [⟨some 2,none,.mov (.cst (.p (.str [])))⟩]) (.seq (.seq (.region [⟨some 8,none,.mov (.tmp 0)⟩,⟨some 9,none,.call 76 [.tmp 8]⟩,⟨some 10,none,.un .not (.tmp 9)⟩]) (.cond (.tmp 10) (.seq (.region [⟨some 2,none,.mov (.cst (.p (.str [])))⟩]) (.ret)) (.skip))) (.seq (.region [⟨some 3,none,.newv 1 47 (.cst (.tight []))⟩]) (.seq (lf38_B0) (.seq (.seq (.region [⟨some 24,none,.load 1 false (.tmp 3)⟩,⟨some 25,none,.len (.tmp 24)⟩,⟨some 26,none,.bin .eql (.tmp 25) (.cst (.p (.int .i64 0)))⟩]) (.cond (.tmp 26) (.seq (.region [⟨some 2,none,.mov (.cst (.p (.str [48])))⟩]) (.ret)) (.skip))) (.seq (.region [⟨some 5,none,.newv 2 106 (.cst (.agg [.p .nilp,.tight []]))⟩]) (.seq (.seq (.region [⟨some 27,none,.load 1 false (.tmp 3)⟩,⟨some 28,none,.call 85 [.tmp 27]⟩]) (.block 2 (.bad))) (.seq (.region [⟨some 43,none,.call 87 [.tmp 5]⟩,⟨some 2,none,.mov (.tmp 43)⟩]) (.ret))))))))⟩
theorem low38 : lowFunc Tryz.prog gl0 38 = some lf38 := by kernel_rfl
def lf84 : LFunc := ⟨8,[.slot 4], .seq (.region [⟨some 4,none,.mov (.cst (.p (.str [])))⟩]) (.seq (.region [⟨some 5,none,.mov (.tmp 0)⟩,⟨some 6,none,.mov (.tmp 1)⟩,⟨some 7,none,.call 110 [.tmp 5,.tmp 6]⟩,⟨some 4,none,.mov (.tmp 7)⟩]) (.ret))⟩
theorem low84 : lowFunc Tryz.prog gl0 84 = some lf84 := by kernel_rfl
def lf85 : LFunc := ⟨4,[.slot 2], .seq (.region [⟨some 1,none,.newv 1 47 (.tmp 0)⟩,⟨some 2,none,.mov (.cst (.p .nilf))⟩]) (.seq (.region [⟨some 3,none,.mkf 111 [.tmp 1]⟩,⟨some 2,none,.mov (.tmp 3)⟩]) (.ret))⟩
theorem low85 : lowFunc Tryz.prog gl0 85 = some lf85 := by kernel_rfl
def lf86 : LFunc := ⟨19,[.slot 4,.slot 5], .seq (.region [⟨some 4,none,.mov (.cst (.p (.int .i64 0)))⟩,⟨some 5,none,.mov (.cst (.p .nili))⟩]) (.seq (.region [⟨some 6,none,.mov (.tmp 0)⟩,⟨some 7,none,.call 112 [.tmp 6]⟩]) (.seq (.region [⟨some 8,none,.mov (.tmp 0)⟩,⟨some 9,none,.mov (.tmp 0)⟩,⟨some 10,none,.nilc (.tmp 9)⟩,⟨some 11,none,.fadr 1 (.tmp 10)⟩,⟨some 12,none,.load 1 false (.tmp 11)⟩,⟨some 13,none,.mov (.tmp 1)⟩,⟨some 14,none,.appS 1 5 (.tmp 12) (.tmp 13)⟩,⟨some 15,none,.nilc (.tmp 8)⟩,⟨some 16,none,.fadr 1 (.tmp 15)⟩,⟨none,none,.store 1 (.tmp 16) (.tmp 14)⟩]) (.seq (.region [⟨some 17,none,.mov (.tmp 1)⟩,⟨some 18,none,.lenS (.tmp 17)⟩,⟨some 4,none,.mov (.tmp 18)⟩,⟨some 5,none,.mov (.cst (.p .nili))⟩]) (.ret))))⟩
theorem low86 : lowFunc Tryz.prog gl0 86 = some lf86 := by kernel_rfl
def lf69_B0 : LCode := .block 3 (
  .loop (
   .seq (
    .seq (
     .region [
       ⟨(some 111), none, .call 107 [(.tmp 9)]⟩,
       ⟨(some 112), none, .mov (.tmp 7)⟩,
       ⟨(some 113), none, .bin .lss (.tmp 111) (.tmp 112)⟩]) (
     .cond (.tmp 113) (
      .skip) (
      .exit 3))) (
    .block 4 (
     .seq (
      .region [
        ⟨(some 114), none, .mov (.tmp 7)⟩,
        ⟨(some 115), none, .call 107 [(.tmp 9)]⟩,
        ⟨(some 116), none, .bin .sub (.tmp 114) (.tmp 115)⟩,
        ⟨(some 117), none, .call 107 [(.tmp 9)]⟩,
        ⟨(some 118), none, .mov (.tmp 8)⟩,
        ⟨(some 119), none, .bad⟩,
        ⟨(some 10), none, .mov (.tmp 119)⟩]) (
      .region [
        ⟨(some 120), none, .call 87 [(.tmp 9)]⟩,
        ⟨(some 121), none, .mov (.tmp 10)⟩,
        ⟨(some 122), none, .slStr (.tmp 120) none (some (.tmp 121))⟩,
        ⟨(some 123), none, .call 86 [(.tmp 9), (.tmp 122)]⟩])))))
def lf69 : LFunc := ⟨125,[.slot 4], .seq (.region [⟨some 4,none,.mov (.cst (.p (.str [])))⟩]) (.seq (.seq (.region [⟨some 11,none,.mov (.tmp 1)⟩]) (.block 0 (.seq (.region [⟨some 13,none,.bin .eql (.tmp 11) (.cst (.p (.int .i64 0)))⟩,⟨some 12,none,.mov (.tmp 13)⟩]) (.cond (.tmp 12) (.seq (.region [⟨some 4,none,.mov (.cst (.p (.str [])))⟩]) (.ret)) (.seq (.region [⟨some 15,none,.bin .eql (.tmp 11) (.cst (.p (.int .i64 1)))⟩,⟨some 14,none,.mov (.tmp 15)⟩]) (.cond (.tmp 14) (.seq (.region [⟨some 16,none,.mov (.tmp 0)⟩,⟨some 4,none,.mov (.tmp 16)⟩]) (.ret)) (.skip))))))) (.seq (.seq (.region [⟨some 17,none,.mov (.tmp 1)⟩,⟨some 18,none,.bin .lss (.tmp 17) (.cst (.p (.int .i64 0)))⟩]) (.cond (.tmp 18) (.region [⟨some 19,none,.bad⟩,⟨none,none,.bad⟩]) (.skip))) (.seq (.region [⟨some 21,none,.mov (.tmp 0)⟩,⟨some 22,none,.lenS (.tmp 21)⟩,⟨some 23,none,.conv (.toInt .u64) (.tmp 22)⟩,⟨some 24,none,.mov (.tmp 1)⟩,⟨some 25,none,.conv (.toInt .u64) (.tmp 24)⟩,⟨some 26,none,.call 104 [.tmp 23,.tmp 25]⟩,⟨some 20,none,.mov (.tmp 26)⟩,⟨some 27,none,.ext (.tmp 20) 0⟩,⟨some 28,none,.ext (.tmp 20) 1⟩,⟨some 5,none,.mov (.tmp 27)⟩,⟨some 6,none,.mov (.tmp 28)⟩]) (.seq (.seq (.region [⟨some 29,none,.mov (.tmp 5)⟩,⟨some 30,none,.bin .gtr (.tmp 29) (.cst (.p (.int .u64 0)))⟩,⟨some 31,none,.mov (.tmp 30)⟩,⟨some 32,some (31,false),.mov (.tmp 6)⟩,⟨some 33,some (31,false),.bin .gtr (.tmp 32) (.cst (.p (.int .u64 9223372036854775807)))⟩,⟨some 34,none,.pick (.tmp 31) (.cst (.p (.bool true))) (.tmp 33)⟩]) (.cond (.tmp 34) (.region [⟨some 35,none,.bad⟩,⟨none,none,.bad⟩]) (.skip))) (.seq (.region [⟨some 36,none,.mov (.tmp 6)⟩,⟨some 37,none,.conv (.toInt .i64) (.tmp 36)⟩,⟨some 7,none,.mov (.tmp 37)⟩]) (.seq (.seq (.region [⟨some 38,none,.mov (.tmp 0)⟩,⟨some 39,none,.lenS (.tmp 38)⟩,⟨some 40,none,.bin .eql (.tmp 39) (.cst (.p (.int .i64 0)))⟩]) (.cond (.tmp 40) (.seq (.region [⟨some 4,none,.mov (.cst (.p (.str [])))⟩]) (.ret)) (.skip))) (.seq (.seq (.region [⟨some 41,none,.mov (.tmp 0)⟩,⟨some
 42,none,.istr (.tmp 41) (.cst (.p (.int .i64 0)))⟩]) (.block 1 (.seq (.seq (.region [⟨some 44,none,.bin .eql (.tmp 42) (.cst (.p (.int .u8 32)))⟩,⟨some 43,none,.mov (.tmp 44)⟩]) (.cond (.tmp 43) (.skip) (.seq (.region [⟨some 45,none,.bin .eql (.tmp 42) (.cst (.p (.int .u8 45)))⟩,⟨some 43,none,.mov (.tmp 45)⟩]) (.cond (.tmp 43) (.skip) (.seq (.region [⟨some 46,none,.bin .eql (.tmp 42) (.cst (.p (.int .u8 48)))⟩,⟨some 43,none,.mov (.tmp 46)⟩]) (.cond (.tmp 43) (.skip) (.seq (.region [⟨some 47,none,.bin .eql (.tmp 42) (.cst (.p (.int .u8 61)))⟩,⟨some 43,none,.mov (.tmp 47)⟩]) (.cond (.tmp 43) (.skip) (.region [⟨some 48,none,.bin .eql (.tmp 42) (.cst (.p (.int .u8 9)))⟩,⟨some 43,none,.mov (.tmp 48)⟩]))))))))) (.cond (.tmp 43) (.block 2 (.seq (.region [⟨some 50,none,.mov (.tmp 7)⟩,⟨some 51,none,.bin .leq (.tmp 50) (.cst (.p (.int .i64 128)))⟩,⟨some 52,none,.mov (.tmp 51)⟩,⟨some 53,some (52,true),.mov (.tmp 0)⟩,⟨some 54,some (52,true),.call 105 [.cst (.p (.str [32,32,32,32,32,32,32,32,32,32,32,32,32,32,32,32,32,32,32,32,32,32,32,32,32,32,32,32,32,32,32,32,32,32,32,32,32,32,32,32,32,32,32,32,32,32,32,32,32,32,32,32,32,32,32,32,32,32,32,32,32,32,32,32,32,32,32,32,32,32,32,32,32,32,32,32,32,32,32,32,32,32,32,32,32,32,32,32,32,32,32,32,32,32,32,32,32,32,32,32,32,32,32,32,32,32,32,32,32,32,32,32,32,32,32,32,32,32,32,32,32,32,32,32,32,32,32,32])),.tmp 53]⟩,⟨some 55,none,.pick (.tmp 52) (.tmp 54) (.cst (.p (.bool false)))⟩,⟨some 49,none,.mov (.tmp 55)⟩]) (.cond (.tmp 49) (.seq (.region [⟨some 56,none,.mov (.tmp 7)⟩,⟨some 57,none,.slStr (.cst (.p (.str [32,32,32,32,32,32,32,32,32,32,32,32,32,32,32,32,32,32,32,32,32,32,32,32,32,32,32,32,32,32,32,32,32,32,32,32,32,32,32,32,32,32,32,32,32,32,32,32,32,32,32,32,32,32,32,32,32,32,32,32,32,32,32,32,32,32,32,32,32,32,32,32,32,32,32,32,32,32,32,32,32,32,32,32,32,32,32,32,32,32,32,32,32,32,32,32,32,32,32,32,32,32,32,32,32,32,32,32,32,32,32,32,32,32,32,32,32,32,32,32,32,32,32,32,32,32,32,32]))) none (some (.tmp 56))⟩,⟨some 4,none,.mov (.tmp
 57)⟩]) (.ret)) (.seq (.region [⟨some 59,none,.mov (.tmp 7)⟩,⟨some 60,none,.bin .leq (.tmp 59) (.cst (.p (.int .i64 128)))⟩,⟨some 61,none,.mov (.tmp 60)⟩,⟨some 62,some (61,true),.mov (.tmp 0)⟩,⟨some 63,some (61,true),.call 105 [.cst (.p (.str [45,45,45,45,45,45,45,45,45,45,45,45,45,45,45,45,45,45,45,45,45,45,45,45,45,45,45,45,45,45,45,45,45,45,45,45,45,45,45,45,45,45,45,45,45,45,45,45,45,45,45,45,45,45,45,45,45,45,45,45,45,45,45,45,45,45,45,45,45,45,45,45,45,45,45,45,45,45,45,45,45,45,45,45,45,45,45,45,45,45,45,45,45,45,45,45,45,45,45,45,45,45,45,45,45,45,45,45,45,45,45,45,45,45,45,45,45,45,45,45,45,45,45,45,45,45,45,45])),.tmp 62]⟩,⟨some 64,none,.pick (.tmp 61) (.tmp 63) (.cst (.p (.bool false)))⟩,⟨some 58,none,.mov (.tmp 64)⟩]) (.cond (.tmp 58) (.seq (.region [⟨some 65,none,.mov (.tmp 7)⟩,⟨some 66,none,.slStr (.cst (.p (.str [45,45,45,45,45,45,45,45,45,45,45,45,45,45,45,45,45,45,45,45,45,45,45,45,45,45,45,45,45,45,45,45,45,45,45,45,45,45,45,45,45,45,45,45,45,45,45,45,45,45,45,45,45,45,45,45,45,45,45,45,45,45,45,45,45,45,45,45,45,45,45,45,45,45,45,45,45,45,45,45,45,45,45,45,45,45,45,45,45,45,45,45,45,45,45,45,45,45,45,45,45,45,45,45,45,45,45,45,45,45,45,45,45,45,45,45,45,45,45,45,45,45,45,45,45,45,45,45]))) none (some (.tmp 65))⟩,⟨some 4,none,.mov (.tmp 66)⟩]) (.ret)) (.seq (.region [⟨some 68,none,.mov (.tmp 7)⟩,⟨some 69,none,.bin .leq (.tmp 68) (.cst (.p (.int .i64 64)))⟩,⟨some 70,none,.mov (.tmp 69)⟩,⟨some 71,some (70,true),.mov (.tmp 0)⟩,⟨some 72,some (70,true),.call 105 [.cst (.p (.str [48,48,48,48,48,48,48,48,48,48,48,48,48,48,48,48,48,48,48,48,48,48,48,48,48,48,48,48,48,48,48,48,48,48,48,48,48,48,48,48,48,48,48,48,48,48,48,48,48,48,48,48,48,48,48,48,48,48,48,48,48,48,48,48])),.tmp 71]⟩,⟨some 73,none,.pick (.tmp 70) (.tmp 72) (.cst (.p (.bool false)))⟩,⟨some 67,none,.mov (.tmp 73)⟩]) (.cond (.tmp 67) (.seq (.region [⟨some 74,none,.mov (.tmp 7)⟩,⟨some 75,none,.slStr (.cst (.p (.str
 [48,48,48,48,48,48,48,48,48,48,48,48,48,48,48,48,48,48,48,48,48,48,48,48,48,48,48,48,48,48,48,48,48,48,48,48,48,48,48,48,48,48,48,48,48,48,48,48,48,48,48,48,48,48,48,48,48,48,48,48,48,48,48,48]))) none (some (.tmp 74))⟩,⟨some 4,none,.mov (.tmp 75)⟩]) (.ret)) (.seq (.region [⟨some 77,none,.mov (.tmp 7)⟩,⟨some 78,none,.bin .leq (.tmp 77) (.cst (.p (.int .i64 128)))⟩,⟨some 79,none,.mov (.tmp 78)⟩,⟨some 80,some (79,true),.mov (.tmp 0)⟩,⟨some 81,some (79,true),.call 105 [.cst (.p (.str [61,61,61,61,61,61,61,61,61,61,61,61,61,61,61,61,61,61,61,61,61,61,61,61,61,61,61,61,61,61,61,61,61,61,61,61,61,61,61,61,61,61,61,61,61,61,61,61,61,61,61,61,61,61,61,61,61,61,61,61,61,61,61,61,61,61,61,61,61,61,61,61,61,61,61,61,61,61,61,61,61,61,61,61,61,61,61,61,61,61,61,61,61,61,61,61,61,61,61,61,61,61,61,61,61,61,61,61,61,61,61,61,61,61,61,61,61,61,61,61,61,61,61,61,61,61,61,61])),.tmp 80]⟩,⟨some 82,none,.pick (.tmp 79) (.tmp 81) (.cst (.p (.bool false)))⟩,⟨some 76,none,.mov (.tmp 82)⟩]) (.cond (.tmp 76) (.seq (.region [⟨some 83,none,.mov (.tmp 7)⟩,⟨some 84,none,.slStr (.cst (.p (.str [61,61,61,61,61,61,61,61,61,61,61,61,61,61,61,61,61,61,61,61,61,61,61,61,61,61,61,61,61,61,61,61,61,61,61,61,61,61,61,61,61,61,61,61,61,61,61,61,61,61,61,61,61,61,61,61,61,61,61,61,61,61,61,61,61,61,61,61,61,61,61,61,61,61,61,61,61,61,61,61,61,61,61,61,61,61,61,61,61,61,61,61,61,61,61,61,61,61,61,61,61,61,61,61,61,61,61,61,61,61,61,61,61,61,61,61,61,61,61,61,61,61,61,61,61,61,61,61]))) none (some (.tmp 83))⟩,⟨some 4,none,.mov (.tmp 84)⟩]) (.ret)) (.seq (.region [⟨some 86,none,.mov (.tmp 7)⟩,⟨some 87,none,.bin .leq (.tmp 86) (.cst (.p (.int .i64 64)))⟩,⟨some 88,none,.mov (.tmp 87)⟩,⟨some 89,some (88,true),.mov (.tmp 0)⟩,⟨some 90,some (88,true),.call 105 [.cst (.p (.str [9,9,9,9,9,9,9,9,9,9,9,9,9,9,9,9,9,9,9,9,9,9,9,9,9,9,9,9,9,9,9,9,9,9,9,9,9,9,9,9,9,9,9,9,9,9,9,9,9,9,9,9,9,9,9,9,9,9,9,9,9,9,9,9])),.tmp 89]⟩,⟨some 91,none,.pick (.tmp 88) (.tmp 90) (.cst (.p (.bool false)))⟩,⟨some 85,none,.mov (.tmp 91)⟩])
 (.cond (.tmp 85) (.seq (.region [⟨some 92,none,.mov (.tmp 7)⟩,⟨some 93,none,.slStr (.cst (.p (.str [9,9,9,9,9,9,9,9,9,9,9,9,9,9,9,9,9,9,9,9,9,9,9,9,9,9,9,9,9,9,9,9,9,9,9,9,9,9,9,9,9,9,9,9,9,9,9,9,9,9,9,9,9,9,9,9,9,9,9,9,9,9,9,9]))) none (some (.tmp 92))⟩,⟨some 4,none,.mov (.tmp 93)⟩]) (.ret)) (.skip)))))))))))) (.skip))))) (.seq (.region [⟨some 94,none,.mov (.tmp 7)⟩,⟨some 8,none,.mov (.tmp 94)⟩]) (.seq (.seq (.region [⟨some 95,none,.mov (.tmp 7)⟩,⟨some 96,none,.bin .gtr (.tmp 95) (.cst (.p (.int .i64 8192)))⟩]) (.cond (.tmp 96) (.seq (.region [⟨some 97,none,.mov (.tmp 0)⟩,⟨some 98,none,.lenS (.tmp 97)⟩,⟨some 99,none,.bin .quo (.cst (.p (.int .i64 8192))) (.tmp 98)⟩,⟨some 100,none,.mov (.tmp 0)⟩,⟨some 101,none,.lenS (.tmp 100)⟩,⟨some 102,none,.bin .mul (.tmp 99) (.tmp 101)⟩,⟨some 8,none,.mov (.tmp 102)⟩]) (.seq (.region [⟨some 103,none,.mov (.tmp 8)⟩,⟨some 104,none,.bin .eql (.tmp 103) (.cst (.p (.int .i64 0)))⟩]) (.cond (.tmp 104) (.region [⟨some 105,none,.mov (.tmp 0)⟩,⟨some 106,none,.lenS (.tmp 105)⟩,⟨some 8,none,.mov (.tmp 106)⟩]) (.skip)))) (.skip))) (.seq (.region [⟨some 9,none,.newv 2 106 (.cst (.agg [.p .nilp,.tight []]))⟩]) (.seq (.region [⟨some 107,none,.mov (.tmp 7)⟩,⟨some 108,none,.call 106 [.tmp 9,.tmp 107]⟩]) (.seq (.region [⟨some 109,none,.mov (.tmp 0)⟩,⟨some 110,none,.call 86 [.tmp 9,.tmp 109]⟩]) (.seq (lf69_B0) (.seq (.region [⟨some 124,none,.call 87 [.tmp 9]⟩,⟨some 4,none,.mov (.tmp 124)⟩]) (.ret)))))))))))))))⟩
theorem low69 : lowFunc Tryz.prog gl0 69 = some lf69 := by kernel_rfl
def lf105 : LFunc := ⟨8,[.slot 4], .seq (.region [⟨some 4,none,.mov (.cst (.p (.bool false)))⟩]) (.seq (.region [⟨some 5,none,.mov (.tmp 0)⟩,⟨some 6,none,.mov (.tmp 1)⟩,⟨some 7,none,.call 129 [.tmp 5,.tmp 6]⟩,⟨some 4,none,.mov (.tmp 7)⟩]) (.ret))⟩
theorem low105 : lowFunc Tryz.prog gl0 105 = some lf105 := by kernel_rfl
def lf129 : LFunc := ⟨18,[.slot 4], .seq (.region [⟨some 4,none,.mov (.cst (.p (.bool false)))⟩]) (.seq (.region [⟨some 5,none,.mov (.tmp 0)⟩,⟨some 6,none,.lenS (.tmp 5)⟩,⟨some 7,none,.mov (.tmp 1)⟩,⟨some 8,none,.lenS (.tmp 7)⟩,⟨some 9,none,.bin .geq (.tmp 6) (.tmp 8)⟩,⟨some 10,none,.mov (.tmp 9)⟩,⟨some 11,some (10,true),.mov (.tmp 0)⟩,⟨some 12,some (10,true),.mov (.tmp 1)⟩,⟨some 13,some (10,true),.lenS (.tmp 12)⟩,⟨some 14,some (10,true),.slStr (.tmp 11) none (some (.tmp 13))⟩,⟨some 15,some (10,true),.mov (.tmp 1)⟩,⟨some 16,some (10,true),.bin .eql (.tmp 14) (.tmp 15)⟩,⟨some 17,none,.pick (.tmp 10) (.tmp 16) (.cst (.p (.bool false)))⟩,⟨some 4,none,.mov (.tmp 17)⟩]) (.ret))⟩
theorem low129 : lowFunc Tryz.prog gl0 129 = some lf129 := by kernel_rfl
def lf104 : LFunc := ⟨30,[.slot 4,.slot 5], .seq (.region [⟨some 4,none,.mov (.cst (.p (.int .u64 0)))⟩,⟨some 5,none,.mov (.cst (.p (.int .u64 0)))⟩]) (.seq (.cond (.cst (.p (.bool false))) (.seq (.region [⟨some 11,none,.mov (.tmp 0)⟩,⟨some 12,none,.conv (.toInt .u32) (.tmp 11)⟩,⟨some 13,none,.mov (.tmp 1)⟩,⟨some 14,none,.conv (.toInt .u32) (.tmp 13)⟩,⟨some 15,none,.call 128 [.tmp 12,.tmp 14]⟩,⟨some 10,none,.mov (.tmp 15)⟩,⟨some 16,none,.ext (.tmp 10) 0⟩,⟨some 17,none,.ext (.tmp 10) 1⟩,⟨some 6,none,.mov (.tmp 16)⟩,⟨some 7,none,.mov (.tmp 17)⟩]) (.seq (.region [⟨some 18,none,.mov (.tmp 6)⟩,⟨some 19,none,.conv (.toInt .u64) (.tmp 18)⟩,⟨some 20,none,.mov (.tmp 7)⟩,⟨some 21,none,.conv (.toInt .u64) (.tmp 20)⟩,⟨some 4,none,.mov (.tmp 19)⟩,⟨some 5,none,.mov (.tmp 21)⟩]) (.ret))) (.skip)) (.seq (.region [⟨some 23,none,.mov (.tmp 0)⟩,⟨some 24,none,.mov (.tmp 1)⟩,⟨some 25,none,.call 73 [.tmp 23,.tmp 24]⟩,⟨some 22,none,.mov (.tmp 25)⟩,⟨some 26,none,.ext (.tmp 22) 0⟩,⟨some 27,none,.ext (.tmp 22) 1⟩,⟨some 8,none,.mov (.tmp 26)⟩,⟨some 9,none,.mov (.tmp 27)⟩]) (.seq (.region [⟨some 28,none,.mov (.tmp 8)⟩,⟨some 29,none,.mov (.tmp 9)⟩,⟨some 4,none,.mov (.tmp 28)⟩,⟨some 5,none,.mov (.tmp 29)⟩]) (.ret))))⟩
theorem low104 : lowFunc Tryz.prog gl0 104 = some lf104 := by kernel_rfl
def lf65 : LFunc := ⟨37,[.slot 4], .seq (.region [⟨some 4,none,.mov (.cst (.p (.str [])))⟩]) (.seq (.seq (.region [⟨some 7,none,.mov (.tmp 0)⟩,⟨some 8,none,.bin .eql (.tmp 7) (.cst (.p (.str [])))⟩,⟨some 9,none,.mov (.tmp 8)⟩,⟨some 10,some (9,false),.mov (.tmp 1)⟩,⟨some 11,some (9,false),.bin .eql (.tmp 10) (.cst (.p (.str [])))⟩,⟨some 12,none,.pick (.tmp 9) (.cst (.p (.bool true))) (.tmp 11)⟩]) (.cond (.tmp 12) (.seq (.region [⟨some 13,none,.mov (.tmp 0)⟩,⟨some 4,none,.mov (.tmp 13)⟩]) (.ret)) (.skip))) (.seq (.seq (.region [⟨some 14,none,.mov (.tmp 1)⟩,⟨some 15,none,.lenS (.tmp 14)⟩,⟨some 16,none,.bin .eql (.tmp 15) (.cst (.p (.int .i64 1)))⟩,⟨some 17,none,.mov (.tmp 16)⟩,⟨some 18,some (17,true),.mov (.tmp 1)⟩,⟨some 19,some (17,true),.istr (.tmp 18) (.cst (.p (.int .i64 0)))⟩,⟨some 20,some (17,true),.bin .lss (.tmp 19) (.cst (.p (.int .u8 128)))⟩,⟨some 21,none,.pick (.tmp 17) (.tmp 20) (.cst (.p (.bool false)))⟩]) (.cond (.tmp 21) (.seq (.region [⟨some 22,none,.mov (.tmp 0)⟩,⟨some 23,none,.mov (.tmp 1)⟩,⟨some 24,none,.istr (.tmp 23) (.cst (.p (.int .i64 0)))⟩,⟨some 25,none,.call 96 [.tmp 22,.tmp 24]⟩,⟨some 4,none,.mov (.tmp 25)⟩]) (.ret)) (.skip))) (.seq (.seq (.region [⟨some 27,none,.mov (.tmp 1)⟩,⟨some 28,none,.call 59 [.tmp 27]⟩,⟨some 26,none,.mov (.tmp 28)⟩,⟨some 29,none,.ext (.tmp 26) 0⟩,⟨some 30,none,.ext (.tmp 26) 1⟩,⟨some 5,none,.newv 256 76 (.cst (.p (.agg [.bool false,.bool false,.bool false,.bool false,.bool false,.bool false,.bool false,.bool false,.bool false,.bool false,.bool false,.bool false,.bool false,.bool false,.bool false,.bool false,.bool false,.bool false,.bool false,.bool false,.bool false,.bool false,.bool false,.bool false,.bool false,.bool false,.bool false,.bool false,.bool false,.bool false,.bool false,.bool false,.bool false,.bool false,.bool false,.bool false,.bool false,.bool false,.bool false,.bool false,.bool false,.bool false,.bool false,.bool false,.bool false,.bool false,.bool false,.bool false,.bool false,.bool false,.bool
 false,.bool false,.bool false,.bool false,.bool false,.bool false,.bool false,.bool false,.bool false,.bool false,.bool false,.bool false,.bool false,.bool false,.bool false,.bool false,.bool false,.bool false,.bool false,.bool false,.bool false,.bool false,.bool false,.bool false,.bool false,.bool false,.bool false,.bool false,.bool false,.bool false,.bool false,.bool false,.bool false,.bool false,.bool false,.bool false,.bool false,.bool false,.bool false,.bool false,.bool false,.bool false,.bool false,.bool false,.bool false,.bool false,.bool false,.bool false,.bool false,.bool false,.bool false,.bool false,.bool false,.bool false,.bool false,.bool false,.bool false,.bool false,.bool false,.bool false,.bool false,.bool false,.bool false,.bool false,.bool false,.bool false,.bool false,.bool false,.bool false,.bool false,.bool false,.bool false,.bool false,.bool false,.bool false,.bool false,.bool false,.bool false,.bool false,.bool false,.bool false,.bool false,.bool false,.bool false,.bool false,.bool false,.bool false,.bool false,.bool false,.bool false,.bool false,.bool false,.bool false,.bool false,.bool false,.bool false,.bool false,.bool false,.bool false,.bool false,.bool false,.bool false,.bool false,.bool false,.bool false,.bool false,.bool false,.bool false,.bool false,.bool false,.bool false,.bool false,.bool false,.bool false,.bool false,.bool false,.bool false,.bool false,.bool false,.bool false,.bool false,.bool false,.bool false,.bool false,.bool false,.bool false,.bool false,.bool false,.bool false,.bool false,.bool false,.bool false,.bool false,.bool false,.bool false,.bool false,.bool false,.bool false,.bool false,.bool false,.bool false,.bool false,.bool false,.bool false,.bool false,.bool false,.bool false,.bool false,.bool false,.bool false,.bool false,.bool false,.bool false,.bool false,.bool false,.bool false,.bool false,.bool false,.bool false,.bool false,.bool false,.bool false,.bool false,.bool false,.bool false,.bool false,.bool
 false,.bool false,.bool false,.bool false,.bool false,.bool false,.bool false,.bool false,.bool false,.bool false,.bool false,.bool false,.bool false,.bool false,.bool false,.bool false,.bool false,.bool false,.bool false,.bool false,.bool false,.bool false,.bool false,.bool false,.bool false,.bool false,.bool false,.bool false,.bool false,.bool false,.bool false,.bool false,.bool false,.bool false,.bool false,.bool false,.bool false,.bool false,.bool false,.bool false])))⟩,⟨none,none,.store 256 (.tmp 5) (.tmp 29)⟩,⟨some 6,none,.mov (.tmp 30)⟩]) (.seq (.region [⟨some 31,none,.mov (.tmp 6)⟩]) (.cond (.tmp 31) (.seq (.region [⟨some 32,none,.mov (.tmp 0)⟩,⟨some 33,none,.call 97 [.tmp 32,.tmp 5]⟩,⟨some 4,none,.mov (.tmp 33)⟩]) (.ret)) (.skip)))) (.seq (.region [⟨some 34,none,.mov (.tmp 0)⟩,⟨some 35,none,.mov (.tmp 1)⟩,⟨some 36,none,.call 98 [.tmp 34,.tmp 35]⟩,⟨some 4,none,.mov (.tmp 36)⟩]) (.ret)))))⟩
theorem low65 : lowFunc Tryz.prog gl0 65 = some lf65 := by kernel_rfl
def lf96_B0 : LCode := .block 0 (
  .loop (
   .seq (
    .seq (
     .region [
       ⟨(some 5), none, .mov (.tmp 0)⟩,
       ⟨(some 6), none, .lenS (.tmp 5)⟩,
       ⟨(some 7), none, .bin .gtr (.tmp 6) (.cst (.p (.int .i64 0)))⟩,
       ⟨(some 8), none, .mov (.tmp 7)⟩,
       ⟨(some 9), (some (8, true)), .mov (.tmp 0)⟩,
       ⟨(some 10), (some (8, true)), .istr (.tmp 9) (.cst (.p (.int .i64 0)))⟩,
       ⟨(some 11), (some (8, true)), .mov (.tmp 1)⟩,
       ⟨(some 12), (some (8, true)), .bin .eql (.tmp 10) (.tmp 11)⟩,
       ⟨(some 13), none, .pick (.tmp 8) (.tmp 12) (.cst (.p (.bool false)))⟩]) (
     .cond (.tmp 13) (
      .skip) (
      .exit 0))) (
    .block 1 (
     .region [
       ⟨(some 14), none, .mov (.tmp 0)⟩,
       ⟨(some 15), none, .slStr (.tmp 14) (some (.cst (.p (.int .i64 1)))) none⟩,
       ⟨(some 0), none, .mov (.tmp 15)⟩]))))
def lf96 : LFunc := ⟨17,[.slot 4], .seq (.region [⟨some 4,none,.mov (.cst (.p (.str [])))⟩]) (.seq (lf96_B0) (.seq (.region [⟨some 16,none,.mov (.tmp 0)⟩,⟨some 4,none,.mov (.tmp 16)⟩]) (.ret)))⟩
theorem low96 : lowFunc Tryz.prog gl0 96 = some lf96 := by kernel_rfl
def lf57 : LFunc := ⟨43,[.slot 4], .seq (.region [⟨some 4,none,.mov (.cst (.p (.str [])))⟩]) (.seq (.seq (.region [⟨some 7,none,.mov (.tmp 0)⟩,⟨some 8,none,.bin .eql (.tmp 7) (.cst (.p (.str [])))⟩,⟨some 9,none,.mov (.tmp 8)⟩,⟨some 10,some (9,false),.mov (.tmp 1)⟩,⟨some 11,some (9,false),.bin .eql (.tmp 10) (.cst (.p (.str [])))⟩,⟨some 12,none,.pick (.tmp 9) (.cst (.p (.bool true))) (.tmp 11)⟩]) (.cond (.tmp 12) (.seq (.region [⟨some 13,none,.mov (.tmp 0)⟩,⟨some 4,none,.mov (.tmp 13)⟩]) (.ret)) (.skip))) (.seq (.seq (.region [⟨some 14,none,.mov (.tmp 1)⟩,⟨some 15,none,.lenS (.tmp 14)⟩,⟨some 16,none,.bin .eql (.tmp 15) (.cst (.p (.int .i64 1)))⟩,⟨some 17,none,.mov (.tmp 16)⟩,⟨some 18,some (17,true),.mov (.tmp 1)⟩,⟨some 19,some (17,true),.istr (.tmp 18) (.cst (.p (.int .i64 0)))⟩,⟨some 20,some (17,true),.bin .lss (.tmp 19) (.cst (.p (.int .u8 128)))⟩,⟨some 21,none,.pick (.tmp 17) (.tmp 20) (.cst (.p (.bool false)))⟩]) (.cond (.tmp 21) (.seq (.regionD [⟨some 22,none,.mov (.tmp 0)⟩,⟨some 23,none,.mov (.tmp 1)⟩,⟨some 24,none,.istr (.tmp 23) (.cst (.p (.int .i64 0)))⟩,⟨some 25,none,.call 58 [.tmp 22,.tmp 24]⟩,⟨some 26,none,.mov (.tmp 1)⟩,⟨some 27,none,.istr (.tmp 26) (.cst (.p (.int .i64 0)))⟩,⟨some 28,none,.call 96 [.tmp 25,.tmp 27]⟩,⟨some 4,none,.mov (.tmp 28)⟩]) (.ret)) (.skip))) (.seq (.seq (.region [⟨some 30,none,.mov (.tmp 1)⟩,⟨some 31,none,.call 59 [.tmp 30]⟩,⟨some 29,none,.mov (.tmp 31)⟩,⟨some 32,none,.ext (.tmp 29) 0⟩,⟨some 33,none,.ext (.tmp 29) 1⟩,⟨some 5,none,.newv 256 76 (.cst (.p (.agg [.bool false,.bool false,.bool false,.bool false,.bool false,.bool false,.bool false,.bool false,.bool false,.bool false,.bool false,.bool false,.bool false,.bool false,.bool false,.bool false,.bool false,.bool false,.bool false,.bool false,.bool false,.bool false,.bool false,.bool false,.bool false,.bool false,.bool false,.bool false,.bool false,.bool false,.bool false,.bool false,.bool false,.bool false,.bool false,.bool false,.bool false,.bool false,.bool false,.bool
 false,.bool false,.bool false,.bool false,.bool false,.bool false,.bool false,.bool false,.bool false,.bool false,.bool false,.bool false,.bool false,.bool false,.bool false,.bool false,.bool false,.bool false,.bool false,.bool false,.bool false,.bool false,.bool false,.bool false,.bool false,.bool false,.bool false,.bool false,.bool false,.bool false,.bool false,.bool false,.bool false,.bool false,.bool false,.bool false,.bool false,.bool false,.bool false,.bool false,.bool false,.bool false,.bool false,.bool false,.bool false,.bool false,.bool false,.bool false,.bool false,.bool false,.bool false,.bool false,.bool false,.bool false,.bool false,.bool false,.bool false,.bool false,.bool false,.bool false,.bool false,.bool false,.bool false,.bool false,.bool false,.bool false,.bool false,.bool false,.bool false,.bool false,.bool false,.bool false,.bool false,.bool false,.bool false,.bool false,.bool false,.bool false,.bool false,.bool false,.bool false,.bool false,.bool false,.bool false,.bool false,.bool false,.bool false,.bool false,.bool false,.bool false,.bool false,.bool false,.bool false,.bool false,.bool false,.bool false,.bool false,.bool false,.bool false,.bool false,.bool false,.bool false,.bool false,.bool false,.bool false,.bool false,.bool false,.bool false,.bool false,.bool false,.bool false,.bool false,.bool false,.bool false,.bool false,.bool false,.bool false,.bool false,.bool false,.bool false,.bool false,.bool false,.bool false,.bool false,.bool false,.bool false,.bool false,.bool false,.bool false,.bool false,.bool false,.bool false,.bool false,.bool false,.bool false,.bool false,.bool false,.bool false,.bool false,.bool false,.bool false,.bool false,.bool false,.bool false,.bool false,.bool false,.bool false,.bool false,.bool false,.bool false,.bool false,.bool false,.bool false,.bool false,.bool false,.bool false,.bool false,.bool false,.bool false,.bool false,.bool false,.bool false,.bool false,.bool false,.bool false,.bool false,.bool
 false,.bool false,.bool false,.bool false,.bool false,.bool false,.bool false,.bool false,.bool false,.bool false,.bool false,.bool false,.bool false,.bool false,.bool false,.bool false,.bool false,.bool false,.bool false,.bool false,.bool false,.bool false,.bool false,.bool false,.bool false,.bool false,.bool false,.bool false,.bool false,.bool false,.bool false,.bool false,.bool false,.bool false,.bool false,.bool false,.bool false,.bool false,.bool false,.bool false,.bool false,.bool false,.bool false,.bool false,.bool false,.bool false,.bool false,.bool false,.bool false,.bool false,.bool false])))⟩,⟨none,none,.store 256 (.tmp 5) (.tmp 32)⟩,⟨some 6,none,.mov (.tmp 33)⟩]) (.seq (.region [⟨some 34,none,.mov (.tmp 6)⟩]) (.cond (.tmp 34) (.seq (.region [⟨some 35,none,.mov (.tmp 0)⟩,⟨some 36,none,.call 60 [.tmp 35,.tmp 5]⟩,⟨some 37,none,.call 97 [.tmp 36,.tmp 5]⟩,⟨some 4,none,.mov (.tmp 37)⟩]) (.ret)) (.skip)))) (.seq (.region [⟨some 38,none,.mov (.tmp 0)⟩,⟨some 39,none,.mov (.tmp 1)⟩,⟨some 40,none,.call 61 [.tmp 38,.tmp 39]⟩,⟨some 41,none,.mov (.tmp 1)⟩,⟨some 42,none,.call 98 [.tmp 40,.tmp 41]⟩,⟨some 4,none,.mov (.tmp 42)⟩]) (.ret)))))⟩
theorem low57 : lowFunc Tryz.prog gl0 57 = some lf57 := by kernel_rfl
def lf59_B0 : LCode := .block 0 (
  .loop (
   .seq (
    .seq (
     .region [
       ⟨(some 6), none, .mov (.tmp 4)⟩,
       ⟨(some 7), none, .mov (.tmp 0)⟩,
       ⟨(some 8), none, .lenS (.tmp 7)⟩,
       ⟨(some 9), none, .bin .lss (.tmp 6) (.tmp 8)⟩]) (
     .cond (.tmp 9) (
      .skip) (
      .exit 0))) (
    .seq (
     .block 1 (
      .seq (
       .region [
         ⟨(some 12), none, .mov (.tmp 0)⟩,
         ⟨(some 13), none, .mov (.tmp 4)⟩,
         ⟨(some 14), none, .istr (.tmp 12) (.tmp 13)⟩,
         ⟨(some 5), none, .mov (.tmp 14)⟩]) (
       .seq (
        .seq (
         .region [
           ⟨(some 15), none, .mov (.tmp 5)⟩,
           ⟨(some 16), none, .bin .geq (.tmp 15) (.cst (.p (.int .u8 128)))⟩]) (
         .cond (.tmp 16) (
          .seq (
           .region [
             ⟨(some 17), none, .load 256 true (.tmp 2)⟩,
             ⟨none, none, .store 256 (.tmp 2) (.tmp 17)⟩,
             ⟨(some 3), none, .mov (.cst (.p (.bool false)))⟩]) (
           .ret)) (
          .skip))) (
        .region [
          ⟨(some 18), none, .mov (.tmp 5)⟩,
          ⟨(some 19), none, .iaadr 256 1 (.tmp 2) (.tmp 18)⟩,
          ⟨none, none, .store 1 (.tmp 19) (.cst (.p (.bool true)))⟩])))) (
     .region [
       ⟨(some 10), none, .mov (.tmp 4)⟩,
       ⟨(some 11), none, .bin .add (.tmp 10) (.cst (.p (.int .i64 1)))⟩,
       ⟨(some 4), none, .mov (.tmp 11)⟩]))))
def lf59 : LFunc := ⟨21,[.cell 2 256 true,.slot 3], .seq (.region [⟨some 2,none,.newv 256 76 (.cst (.p (.agg [.bool false,.bool false,.bool false,.bool false,.bool false,.bool false,.bool false,.bool false,.bool false,.bool false,.bool false,.bool false,.bool false,.bool false,.bool false,.bool false,.bool false,.bool false,.bool false,.bool false,.bool false,.bool false,.bool false,.bool false,.bool false,.bool false,.bool false,.bool false,.bool false,.bool false,.bool false,.bool false,.bool false,.bool false,.bool false,.bool false,.bool false,.bool false,.bool false,.bool false,.bool false,.bool false,.bool false,.bool false,.bool false,.bool false,.bool false,.bool false,.bool false,.bool false,.bool false,.bool false,.bool false,.bool false,.bool false,.bool false,.bool false,.bool false,.bool false,.bool false,.bool false,.bool false,.bool false,.bool false,.bool false,.bool false,.bool false,.bool false,.bool false,.bool false,.bool false,.bool false,.bool false,.bool false,.bool false,.bool false,.bool false,.bool false,.bool false,.bool false,.bool false,.bool false,.bool false,.bool false,.bool false,.bool false,.bool false,.bool false,.bool false,.bool false,.bool false,.bool false,.bool false,.bool false,.bool false,.bool false,.bool false,.bool false,.bool false,.bool false,.bool false,.bool false,.bool false,.bool false,.bool false,.bool false,.bool false,.bool false,.bool false,.bool false,.bool false,.bool false,.bool false,.bool false,.bool false,.bool false,.bool false,.bool false,.bool false,.bool false,.bool false,.bool false,.bool false,.bool false,.bool false,.bool false,.bool false,.bool false,.bool false,.bool false,.bool false,.bool false,.bool false,.bool false,.bool false,.bool false,.bool false,.bool false,.bool false,.bool false,.bool false,.bool false,.bool false,.bool false,.bool false,.bool false,.bool false,.bool false,.bool false,.bool false,.bool false,.bool false,.bool false,.bool false,.bool false,.bool false,.bool false,.bool
 false,.bool false,.bool false,.bool false,.bool false,.bool false,.bool false,.bool false,.bool false,.bool false,.bool false,.bool false,.bool false,.bool false,.bool false,.bool false,.bool false,.bool false,.bool false,.bool false,.bool false,.bool false,.bool false,.bool false,.bool false,.bool false,.bool false,.bool false,.bool false,.bool false,.bool false,.bool false,.bool false,.bool false,.bool false,.bool false,.bool false,.bool false,.bool false,.bool false,.bool false,.bool false,.bool false,.bool false,.bool false,.bool false,.bool false,.bool false,.bool false,.bool false,.bool false,.bool false,.bool false,.bool false,.bool false,.bool false,.bool false,.bool false,.bool false,.bool false,.bool false,.bool false,.bool false,.bool false,.bool false,.bool false,.bool false,.bool false,.bool false,.bool false,.bool false,.bool false,.bool false,.bool false,.bool false,.bool false,.bool false,.bool false,.bool false,.bool false,.bool false,.bool false,.bool false,.bool false,.bool false,.bool false,.bool false,.bool false,.bool false,.bool false,.bool false,.bool false,.bool false,.bool false,.bool false,.bool false,.bool false,.bool false,.bool false])))⟩,⟨some 3,none,.mov (.cst (.p (.bool false)))⟩]) (.seq (.seq (.region [⟨some 4,none,.mov (.cst (.p (.int .i64 0)))⟩]) (lf59_B0)) (.seq (.region [⟨some 20,none,.load 256 true (.tmp 2)⟩,⟨none,none,.store 256 (.tmp 2) (.tmp 20)⟩,⟨some 3,none,.mov (.cst (.p (.bool true)))⟩]) (.ret)))⟩
theorem low59 : lowFunc Tryz.prog gl0 59 = some lf59 := by kernel_rfl
def lf97_B0 : LCode := .block 0 (
  .loop (
   .seq (
    .seq (
     .region [
       ⟨(some 5), none, .mov (.tmp 0)⟩,
       ⟨(some 6), none, .lenS (.tmp 5)⟩,
       ⟨(some 7), none, .bin .gtr (.tmp 6) (.cst (.p (.int .i64 0)))⟩]) (
     .cond (.tmp 7) (
      .skip) (
      .exit 0))) (
    .block 1 (
     .seq (
      .seq (
       .region [
         ⟨(some 8), none, .mov (.tmp 1)⟩,
         ⟨(some 9), none, .mov (.tmp 0)⟩,
         ⟨(some 10), none, .istr (.tmp 9) (.cst (.p (.int .i64 0)))⟩,
         ⟨(some 11), none, .call 99 [(.tmp 8), (.tmp 10)]⟩,
         ⟨(some 12), none, .un .not (.tmp 11)⟩]) (
       .cond (.tmp 12) (
        .exit 0) (
        .skip))) (
      .region [
        ⟨(some 13), none, .mov (.tmp 0)⟩,
        ⟨(some 14), none, .slStr (.tmp 13) (some (.cst (.p (.int .i64 1)))) none⟩,
        ⟨(some 0), none, .mov (.tmp 14)⟩])))))
def lf97 : LFunc := ⟨16,[.slot 4], .seq (.region [⟨some 4,none,.mov (.cst (.p (.str [])))⟩]) (.seq (lf97_B0) (.seq (.region [⟨some 15,none,.mov (.tmp 0)⟩,⟨some 4,none,.mov (.tmp 15)⟩]) (.ret)))⟩
theorem low97 : lowFunc Tryz.prog gl0 97 = some lf97 := by kernel_rfl
def lf60_B0 : LCode := .block 0 (
  .loop (
   .seq (
    .seq (
     .region [
       ⟨(some 5), none, .mov (.tmp 0)⟩,
       ⟨(some 6), none, .lenS (.tmp 5)⟩,
       ⟨(some 7), none, .bin .gtr (.tmp 6) (.cst (.p (.int .i64 0)))⟩]) (
     .cond (.tmp 7) (
      .skip) (
      .exit 0))) (
    .block 1 (
     .seq (
      .seq (
       .region [
         ⟨(some 8), none, .mov (.tmp 1)⟩,
         ⟨(some 9), none, .mov (.tmp 0)⟩,
         ⟨(some 10), none, .mov (.tmp 0)⟩,
         ⟨(some 11), none, .lenS (.tmp 10)⟩,
         ⟨(some 12), none, .bin .sub (.tmp 11) (.cst (.p (.int .i64 1)))⟩,
         ⟨(some 13), none, .istr (.tmp 9) (.tmp 12)⟩,
         ⟨(some 14), none, .call 99 [(.tmp 8), (.tmp 13)]⟩,
         ⟨(some 15), none, .un .not (.tmp 14)⟩]) (
       .cond (.tmp 15) (
        .exit 0) (
        .skip))) (
      .region [
        ⟨(some 16), none, .mov (.tmp 0)⟩,
        ⟨(some 17), none, .mov (.tmp 0)⟩,
        ⟨(some 18), none, .lenS (.tmp 17)⟩,
        ⟨(some 19), none, .bin .sub (.tmp 18) (.cst (.p (.int .i64 1)))⟩,
        ⟨(some 20), none, .slStr (.tmp 16) none (some (.tmp 19))⟩,
        ⟨(some 0), none, .mov (.tmp 20)⟩])))))
def lf60 : LFunc := ⟨22,[.slot 4], .seq (.region [⟨some 4,none,.mov (.cst (.p (.str [])))⟩]) (.seq (lf60_B0) (.seq (.region [⟨some 21,none,.mov (.tmp 0)⟩,⟨some 4,none,.mov (.tmp 21)⟩]) (.ret)))⟩
theorem low60 : lowFunc Tryz.prog gl0 60 = some lf60 := by kernel_rfl
def lf99 : LFunc := ⟨10,[.slot 4], .seq (.region [⟨some 4,none,.mov (.cst (.p (.bool false)))⟩]) (.seq (.region [⟨some 5,none,.mov (.tmp 0)⟩,⟨some 6,none,.mov (.tmp 1)⟩,⟨some 7,none,.nilc (.tmp 5)⟩,⟨some 8,none,.iaadr 256 1 (.tmp 7) (.tmp 6)⟩,⟨some 9,none,.load 1 false (.tmp 8)⟩,⟨some 4,none,.mov (.tmp 9)⟩]) (.ret))⟩
theorem low99 : lowFunc Tryz.prog gl0 99 = some lf99 := by kernel_rfl
def lf24 : LFunc := ⟨10,[.slot 2], .seq (.region [⟨some 2,none,.mov (.cst (.p (.bool false)))⟩]) (.seq (.region [⟨some 3,none,.mov (.tmp 0)⟩,⟨some 4,none,.bin .neq (.tmp 3) (.cst (.p (.str [])))⟩,⟨some 5,none,.mov (.tmp 4)⟩,⟨some 6,some (5,true),.mov (.tmp 0)⟩,⟨some 7,some (5,true),.call 57 [.tmp 6,.cst (.p (.str [48,49,50,51,52,53,54,55,56,57]))]⟩,⟨some 8,some (5,true),.bin .eql (.tmp 7) (.cst (.p (.str [])))⟩,⟨some 9,none,.pick (.tmp 5) (.tmp 8) (.cst (.p (.bool false)))⟩,⟨some 2,none,.mov (.tmp 9)⟩]) (.ret))⟩
theorem low24 : lowFunc Tryz.prog gl0 24 = some lf24 := by kernel_rfl
def lf27_B0 : LCode := .block 0 (
  .loop (
   .seq (
    .seq (
     .region [
       ⟨(some 8), none, .mov (.tmp 0)⟩,
       ⟨(some 9), none, .bin .neq (.tmp 8) (.cst (.p (.str [])))⟩]) (
     .cond (.tmp 9) (
      .skip) (
      .exit 0))) (
    .block 1 (
     .seq (
      .region [
        ⟨(some 10), none, .mov (.tmp 0)⟩,
        ⟨(some 11), none, .lenS (.tmp 10)⟩,
        ⟨(some 12), none, .bin .sub (.tmp 11) (.cst (.p (.int .i64 1)))⟩,
        ⟨(some 13), none, .bin .rem (.tmp 12) (.cst (.p (.int .i64 19)))⟩,
        ⟨(some 14), none, .bin .add (.tmp 13) (.cst (.p (.int .i64 1)))⟩,
        ⟨(some 3), none, .mov (.tmp 14)⟩]) (
      .seq (
       .region [
         ⟨(some 16), none, .mov (.tmp 0)⟩,
         ⟨(some 17), none, .mov (.tmp 3)⟩,
         ⟨(some 18), none, .slStr (.tmp 16) none (some (.tmp 17))⟩,
         ⟨(some 19), none, .call 66 [(.tmp 18), (.cst (.p (.int .i64 10))), (.cst (.p (.int .i64 64)))]⟩,
         ⟨(some 15), none, .mov (.tmp 19)⟩,
         ⟨(some 20), none, .ext (.tmp 15) 0⟩,
         ⟨(some 21), none, .ext (.tmp 15) 1⟩,
         ⟨(some 4), none, .mov (.tmp 20)⟩,
         ⟨(some 5), none, .mov (.tmp 21)⟩]) (
       .seq (
        .region [
          ⟨(some 22), none, .mov (.tmp 2)⟩,
          ⟨(some 23), none, .buildSl 1 40 (.p (.int .u64 0)) 1 [(0, (.cst (.p (.int .u64 10000000000000000000))))]⟩,
          ⟨(some 24), none, .call 39 [(.tmp 22), (.tmp 23)]⟩,
          ⟨(some 25), none, .mov (.tmp 4)⟩,
          ⟨(some 26), none, .buildSl 1 40 (.p (.int .u64 0)) 1 [(0, (.tmp 25))]⟩,
          ⟨(some 27), none, .call 68 [(.tmp 26)]⟩,
          ⟨(some 28), none, .call 67 [(.tmp 24), (.tmp 27)]⟩,
          ⟨(some 2), none, .mov (.tmp 28)⟩]) (
        .region [
          ⟨(some 29), none, .mov (.tmp 0)⟩,
          ⟨(some 30), none, .mov (.tmp 3)⟩,
          ⟨(some 31), none, .slStr (.tmp 29) (some (.tmp 30)) none⟩,
          ⟨(some 0), none, .mov (.tmp 31)⟩])))))))
def lf27 : LFunc := ⟨33,[.slot 2], .seq (.region [⟨some 2,none,.mov (.cst (.tight []))⟩]) (.seq (.region [⟨some 6,none,.mov (.tmp 0)⟩,⟨some 7,none,.call 65 [.tmp 6,.cst (.p (.str [48]))]⟩,⟨some 0,none,.mov (.tmp 7)⟩]) (.seq (lf27_B0) (.seq (.region [⟨some 32,none,.mov (.tmp 2)⟩,⟨some 2,none,.mov (.tmp 32)⟩]) (.ret))))⟩
theorem low27 : lowFunc Tryz.prog gl0 27 = some lf27 := by kernel_rfl
def lf17_B0 : LCode := .block 0 (
  .loop (
   .seq (
    .seq (
     .region [
       ⟨(some 11), none, .mov (.tmp 5)⟩,
       ⟨(some 12), none, .mov (.tmp 0)⟩,
       ⟨(some 13), none, .len (.tmp 12)⟩,
       ⟨(some 14), none, .bin .lss (.tmp 11) (.tmp 13)⟩]) (
     .cond (.tmp 14) (
      .skip) (
      .exit 0))) (
    .seq (
     .block 1 (
      .seq (
       .regionD [
         ⟨(some 17), none, .mov (.tmp 0)⟩,
         ⟨(some 18), none, .mov (.tmp 5)⟩,
         ⟨(some 19), none, .iadr 1 (.tmp 17) (.tmp 18)⟩,
         ⟨(some 20), none, .load 1 false (.tmp 19)⟩,
         ⟨(some 21), none, .mov (.tmp 1)⟩,
         ⟨(some 22), none, .mov (.tmp 5)⟩,
         ⟨(some 23), none, .iadr 1 (.tmp 21) (.tmp 22)⟩,
         ⟨(some 24), none, .load 1 false (.tmp 23)⟩,
         ⟨(some 25), none, .bin .neq (.tmp 20) (.tmp 24)⟩]) (
       .cond (.tmp 25) (
        .seq (
         .region [
           ⟨(some 4), none, .mov (.cst (.p (.bool false)))⟩]) (
         .ret)) (
        .skip)))) (
     .region [
       ⟨(some 15), none, .mov (.tmp 5)⟩,
       ⟨(some 16), none, .bin .add (.tmp 15) (.cst (.p (.int .i64 1)))⟩,
       ⟨(some 5), none, .mov (.tmp 16)⟩]))))
def lf17 : LFunc := ⟨26,[.slot 4], .seq (.region [⟨some 4,none,.mov (.cst (.p (.bool false)))⟩]) (.seq (.seq (.region [⟨some 6,none,.mov (.tmp 0)⟩,⟨some 7,none,.len (.tmp 6)⟩,⟨some 8,none,.mov (.tmp 1)⟩,⟨some 9,none,.len (.tmp 8)⟩,⟨some 10,none,.bin .neq (.tmp 7) (.tmp 9)⟩]) (.cond (.tmp 10) (.seq (.region [⟨some 4,none,.mov (.cst (.p (.bool false)))⟩]) (.ret)) (.skip))) (.seq (.seq (.region [⟨some 5,none,.mov (.cst (.p (.int .i64 0)))⟩]) (lf17_B0)) (.seq (.region [⟨some 4,none,.mov (.cst (.p (.bool true)))⟩]) (.ret))))⟩
theorem low17 : lowFunc Tryz.prog gl0 17 = some lf17 := by kernel_rfl
end Go.Proofs.YtgdpephlpdonnaaGreatDoor
