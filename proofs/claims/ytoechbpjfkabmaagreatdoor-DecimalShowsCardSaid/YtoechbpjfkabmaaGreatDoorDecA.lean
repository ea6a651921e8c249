/-
  The lowered code of decimal, law4 and the reference's decimals, each equal to what the program's form lowers to. No conditions.
-/
import Derived.Test.YtoechbpjfkabmaaGreatDoorAbsTwo
import Derived.Test.YtoechbpjfkabmaaGreatDoorProg
import Derived.Test.YtoechbpjfkabmaaGreatDoorNatA
import Derived.KernelRfl
set_option linter.unusedSimpArgs false
set_option linter.unusedVariables false
set_option linter.constructorNameAsVariable false

/-
  The lowered code of the functions, as the program's form has it.
-/
namespace Go.Proofs.YtoechbpjfkabmaaGreatDoor
open Go Go.Abs
def lf26 : LFunc := ⟨46,[.cell 2 3 true,.slot 3], .seq (.region [⟨some 2,none,.newv 3 39 (.cst (.agg [.p (.bool false),.tight [],.tight []]))⟩,⟨some 3,none,.mov (.cst (.p (.int .i64 0)))⟩]) (.seq (.region [⟨some 8,none,.mov (.tmp 0)⟩,⟨some 9,none,.call 81 [.tmp 8,.cst (.p (.str [46]))]⟩,⟨some 7,none,.mov (.tmp 9)⟩,⟨some 10,none,.ext (.tmp 7) 0⟩,⟨some 11,none,.ext (.tmp 7) 1⟩,⟨some 12,none,.ext (.tmp 7) 2⟩,⟨some 4,none,.mov (.tmp 10)⟩,⟨some 5,none,.mov (.tmp 11)⟩,⟨some 6,none,.mov (.tmp 12)⟩]) (.seq (.seq (.region [⟨some 13,none,.mov (.tmp 4)⟩,⟨some 14,none,.call 82 [.tmp 13]⟩,⟨some 15,none,.un .not (.tmp 14)⟩,⟨some 16,none,.mov (.tmp 15)⟩,⟨some 17,some (16,false),.mov (.tmp 6)⟩,⟨some 18,some (16,false),.mov (.tmp 17)⟩,⟨some 19,some (18,true),.mov (.tmp 5)⟩,⟨some 20,some (18,true),.call 83 [.tmp 19]⟩,⟨some 21,some (18,true),.un .not (.tmp 20)⟩,⟨some 22,some (16,false),.pick (.tmp 18) (.tmp 21) (.cst (.p (.bool false)))⟩,⟨some 23,none,.pick (.tmp 16) (.cst (.p (.bool true))) (.tmp 22)⟩]) (.cond (.tmp 23) (.seq (.region [⟨some 24,none,.build (.agg [.p (.bool false),.tight [],.tight []]) []⟩,⟨none,none,.store 3 (.tmp 2) (.tmp 24)⟩,⟨some 3,none,.mov (.cst (.p (.int .i64 2)))⟩]) (.ret)) (.skip))) (.seq (.region [⟨some 25,none,.mov (.tmp 5)⟩,⟨some 26,none,.call 84 [.tmp 25,.cst (.p (.str [48]))]⟩,⟨some 5,none,.mov (.tmp 26)⟩]) (.seq (.seq (.region [⟨some 27,none,.mov (.tmp 5)⟩,⟨some 28,none,.lenS (.tmp 27)⟩,⟨some 29,none,.bin .gtr (.tmp 28) (.cst (.p (.int .i64 4096)))⟩,⟨some 30,none,.mov (.tmp 29)⟩,⟨some 31,some (30,false),.mov (.tmp 4)⟩,⟨some 32,some (30,false),.lenS (.tmp 31)⟩,⟨some 33,some (30,false),.bin .gtr (.tmp 32) (.cst (.p (.int .i64 4096)))⟩,⟨some 34,none,.pick (.tmp 30) (.cst (.p (.bool true))) (.tmp 33)⟩]) (.cond (.tmp 34) (.seq (.region [⟨some 35,none,.build (.agg [.p (.bool false),.tight [],.tight []]) []⟩,⟨none,none,.store 3 (.tmp 2) (.tmp 35)⟩,⟨some 3,none,.mov (.cst (.p (.int .i64 4)))⟩]) (.ret)) (.skip))) (.seq (.region [⟨some 36,none,.mov (.tmp
 4)⟩,⟨some 37,none,.mov (.tmp 5)⟩,⟨some 38,none,.bin .add (.tmp 36) (.tmp 37)⟩,⟨some 39,none,.call 86 [.tmp 38]⟩,⟨some 40,none,.mov (.tmp 5)⟩,⟨some 41,none,.lenS (.tmp 40)⟩,⟨some 42,none,.call 87 [.tmp 41]⟩,⟨some 43,none,.call 85 [.cst (.p (.bool false)),.tmp 39,.tmp 42]⟩,⟨some 44,none,.ext (.tmp 43) 0⟩,⟨some 45,none,.ext (.tmp 43) 1⟩,⟨none,none,.store 3 (.tmp 2) (.tmp 44)⟩,⟨some 3,none,.mov (.tmp 45)⟩]) (.ret))))))⟩
theorem low26 : lowFunc Tryz.prog gl0 26 = some lf26 := by kernel_rfl
def lf28_B0 : LCode := .block 0 (
  .loop (
   .seq (
    .seq (
     .region [
       ⟨(some 36), none, .mov (.tmp 5)⟩,
       ⟨(some 37), none, .len (.tmp 36)⟩,
       ⟨(some 38), none, .bin .gtr (.tmp 37) (.cst (.p (.int .i64 0)))⟩]) (
     .cond (.tmp 38) (
      .skip) (
      .exit 0))) (
    .block 1 (
     .seq (
      .regionD [
        ⟨(some 40), none, .mov (.tmp 5)⟩,
        ⟨(some 41), none, .call 70 [(.cst (.p (.int .i64 10)))]⟩,
        ⟨(some 42), none, .call 95 [(.tmp 40), (.tmp 41)]⟩,
        ⟨(some 43), none, .fadr 2 (.tmp 1)⟩,
        ⟨(some 44), none, .load 1 false (.tmp 43)⟩,
        ⟨(some 45), none, .call 68 [(.tmp 42), (.tmp 44)]⟩,
        ⟨(some 39), none, .mov (.tmp 45)⟩,
        ⟨(some 46), none, .ext (.tmp 39) 0⟩,
        ⟨(some 47), none, .ext (.tmp 39) 1⟩,
        ⟨(some 4), none, .mov (.tmp 46)⟩,
        ⟨(some 5), none, .mov (.tmp 47)⟩]) (
      .region [
        ⟨(some 48), none, .mov (.tmp 6)⟩,
        ⟨(some 49), none, .mov (.tmp 4)⟩,
        ⟨(some 50), none, .call 78 [(.tmp 49)]⟩,
        ⟨(some 51), none, .bin .add (.tmp 48) (.tmp 50)⟩,
        ⟨(some 6), none, .mov (.tmp 51)⟩])))))
def lf28 : LFunc := ⟨53,[.slot 2,.slot 3], .seq (.region [⟨some 1,none,.newv 3 39 (.tmp 0)⟩,⟨some 2,none,.mov (.cst (.p (.str [])))⟩,⟨some 3,none,.mov (.cst (.p (.bool false)))⟩]) (.seq (.seq (.region [⟨some 7,none,.load 3 true (.tmp 1)⟩,⟨some 8,none,.call 43 [.tmp 7]⟩,⟨some 9,none,.un .not (.tmp 8)⟩,⟨some 10,none,.mov (.tmp 9)⟩,⟨some 11,some (10,false),.fadr 0 (.tmp 1)⟩,⟨some 12,some (10,false),.load 1 false (.tmp 11)⟩,⟨some 13,none,.pick (.tmp 10) (.cst (.p (.bool true))) (.tmp 12)⟩,⟨some 14,none,.mov (.tmp 13)⟩,⟨some 15,some (14,false),.fadr 2 (.tmp 1)⟩,⟨some 16,some (14,false),.load 1 false (.tmp 15)⟩,⟨some 17,some (14,false),.call 94 [.tmp 16]⟩,⟨some 18,some (14,false),.un .not (.tmp 17)⟩,⟨some 19,none,.pick (.tmp 14) (.cst (.p (.bool true))) (.tmp 18)⟩]) (.cond (.tmp 19) (.seq (.region [⟨some 2,none,.mov (.cst (.p (.str [])))⟩,⟨some 3,none,.mov (.cst (.p (.bool false)))⟩]) (.ret)) (.skip))) (.seq (.region [⟨some 21,none,.fadr 1 (.tmp 1)⟩,⟨some 22,none,.load 1 false (.tmp 21)⟩,⟨some 23,none,.fadr 2 (.tmp 1)⟩,⟨some 24,none,.load 1 false (.tmp 23)⟩,⟨some 25,none,.call 68 [.tmp 22,.tmp 24]⟩,⟨some 20,none,.mov (.tmp 25)⟩,⟨some 26,none,.ext (.tmp 20) 0⟩,⟨some 27,none,.ext (.tmp 20) 1⟩,⟨some 4,none,.mov (.tmp 26)⟩,⟨some 5,none,.mov (.tmp 27)⟩]) (.seq (.region [⟨some 28,none,.mov (.tmp 4)⟩,⟨some 29,none,.call 78 [.tmp 28]⟩,⟨some 30,none,.bin .add (.tmp 29) (.cst (.p (.str [46])))⟩,⟨some 6,none,.mov (.tmp 30)⟩]) (.seq (.seq (.region [⟨some 31,none,.mov (.tmp 5)⟩,⟨some 32,none,.len (.tmp 31)⟩,⟨some 33,none,.bin .eql (.tmp 32) (.cst (.p (.int .i64 0)))⟩]) (.cond (.tmp 33) (.seq (.region [⟨some 34,none,.mov (.tmp 6)⟩,⟨some 35,none,.bin .add (.tmp 34) (.cst (.p (.str [48])))⟩,⟨some 2,none,.mov (.tmp 35)⟩,⟨some 3,none,.mov (.cst (.p (.bool true)))⟩]) (.ret)) (.skip))) (.seq (lf28_B0) (.seq (.region [⟨some 52,none,.mov (.tmp 6)⟩,⟨some 2,none,.mov (.tmp 52)⟩,⟨some 3,none,.mov (.cst (.p (.bool true)))⟩]) (.ret)))))))⟩
theorem low28 : lowFunc Tryz.prog gl0 28 = some lf28 := by kernel_rfl
def lf31 : LFunc := ⟨35,[.slot 2], .seq (.region [⟨some 1,none,.newv 3 39 (.tmp 0)⟩,⟨some 2,none,.mov (.cst (.p (.str [])))⟩]) (.seq (.block 0 (.seq (.region [⟨some 4,none,.load 3 true (.tmp 1)⟩,⟨some 5,none,.call 43 [.tmp 4]⟩,⟨some 6,none,.un .not (.tmp 5)⟩,⟨some 3,none,.mov (.tmp 6)⟩]) (.cond (.tmp 3) (.seq (.region [⟨some 2,none,.mov (.cst (.p (.str [])))⟩]) (.ret)) (.seq (.region [⟨some 8,none,.fadr 0 (.tmp 1)⟩,⟨some 9,none,.load 1 false (.tmp 8)⟩,⟨some 7,none,.mov (.tmp 9)⟩]) (.cond (.tmp 7) (.seq (.region [⟨some 10,none,.load 3 true (.tmp 1)⟩,⟨some 11,none,.call 53 [.tmp 10]⟩,⟨some 12,none,.call 31 [.tmp 11]⟩,⟨some 13,none,.bin .add (.cst (.p (.str [40,45,32]))) (.tmp 12)⟩,⟨some 14,none,.bin .add (.tmp 13) (.cst (.p (.str [41])))⟩,⟨some 2,none,.mov (.tmp 14)⟩]) (.ret)) (.seq (.regionD [⟨some 16,none,.fadr 2 (.tmp 1)⟩,⟨some 17,none,.load 1 false (.tmp 16)⟩,⟨some 18,none,.call 70 [.cst (.p (.int .i64 1))]⟩,⟨some 19,none,.call 99 [.tmp 17,.tmp 18]⟩,⟨some 20,none,.bin .eql (.tmp 19) (.cst (.p (.int .i64 0)))⟩,⟨some 15,none,.mov (.tmp 20)⟩]) (.cond (.tmp 15) (.seq (.region [⟨some 21,none,.fadr 1 (.tmp 1)⟩,⟨some 22,none,.load 1 false (.tmp 21)⟩,⟨some 23,none,.call 78 [.tmp 22]⟩,⟨some 24,none,.bin .add (.tmp 23) (.cst (.p (.str [46,48])))⟩,⟨some 2,none,.mov (.tmp 24)⟩]) (.ret)) (.skip)))))))) (.seq (.regionD [⟨some 25,none,.fadr 1 (.tmp 1)⟩,⟨some 26,none,.load 1 false (.tmp 25)⟩,⟨some 27,none,.call 78 [.tmp 26]⟩,⟨some 28,none,.bin .add (.cst (.p (.str [40,47,32]))) (.tmp 27)⟩,⟨some 29,none,.bin .add (.tmp 28) (.cst (.p (.str [46,48,32])))⟩,⟨some 30,none,.fadr 2 (.tmp 1)⟩,⟨some 31,none,.load 1 false (.tmp 30)⟩,⟨some 32,none,.call 78 [.tmp 31]⟩,⟨some 33,none,.bin .add (.tmp 29) (.tmp 32)⟩,⟨some 34,none,.bin .add (.tmp 33) (.cst (.p (.str [46,48,41])))⟩,⟨some 2,none,.mov (.tmp 34)⟩]) (.ret)))⟩
theorem low31 : lowFunc Tryz.prog gl0 31 = some lf31 := by kernel_rfl
def lf82 : LFunc := ⟨14,[.slot 2], .seq (.region [⟨some 2,none,.mov (.cst (.p (.bool false)))⟩]) (.seq (.region [⟨some 3,none,.mov (.tmp 0)⟩,⟨some 4,none,.call 83 [.tmp 3]⟩,⟨some 5,none,.mov (.tmp 4)⟩,⟨some 6,some (5,true),.mov (.tmp 0)⟩,⟨some 7,some (5,true),.bin .eql (.tmp 6) (.cst (.p (.str [48])))⟩,⟨some 8,some (5,true),.mov (.tmp 7)⟩,⟨some 9,some (8,false),.mov (.tmp 0)⟩,⟨some 10,some (8,false),.istr (.tmp 9) (.cst (.p (.int .i64 0)))⟩,⟨some 11,some (8,false),.bin .neq (.tmp 10) (.cst (.p (.int .u8 48)))⟩,⟨some 12,some (5,true),.pick (.tmp 8) (.cst (.p (.bool true))) (.tmp 11)⟩,⟨some 13,none,.pick (.tmp 5) (.tmp 12) (.cst (.p (.bool false)))⟩,⟨some 2,none,.mov (.tmp 13)⟩]) (.ret))⟩
theorem low82 : lowFunc Tryz.prog gl0 82 = some lf82 := by kernel_rfl
def lf87 : LFunc := ⟨7,[.slot 2], .seq (.region [⟨some 2,none,.mov (.cst (.tight []))⟩]) (.seq (.region [⟨some 3,none,.mov (.tmp 0)⟩,⟨some 4,none,.call 135 [.cst (.p (.str [48])),.tmp 3]⟩,⟨some 5,none,.bin .add (.cst (.p (.str [49]))) (.tmp 4)⟩,⟨some 6,none,.call 86 [.tmp 5]⟩,⟨some 2,none,.mov (.tmp 6)⟩]) (.ret))⟩
theorem low87 : lowFunc Tryz.prog gl0 87 = some lf87 := by kernel_rfl
def lf94_B0 : LCode := .block 2 (
  .loop (
   .block 3 (
    .seq (
     .region [
       ⟨(some 14), none, .mov (.tmp 0)⟩,
       ⟨(some 15), none, .mov (.tmp 4)⟩,
       ⟨(some 16), none, .call 70 [(.tmp 15)]⟩,
       ⟨(some 17), none, .call 68 [(.tmp 14), (.tmp 16)]⟩,
       ⟨(some 13), none, .mov (.tmp 17)⟩,
       ⟨(some 18), none, .ext (.tmp 13) 0⟩,
       ⟨(some 19), none, .ext (.tmp 13) 1⟩,
       ⟨(some 5), none, .mov (.tmp 18)⟩,
       ⟨(some 6), none, .mov (.tmp 19)⟩]) (
     .seq (
      .seq (
       .region [
         ⟨(some 20), none, .mov (.tmp 6)⟩,
         ⟨(some 21), none, .len (.tmp 20)⟩,
         ⟨(some 22), none, .bin .gtr (.tmp 21) (.cst (.p (.int .i64 0)))⟩]) (
       .cond (.tmp 22) (
        .exit 2) (
        .skip))) (
      .region [
        ⟨(some 23), none, .mov (.tmp 5)⟩,
        ⟨(some 0), none, .mov (.tmp 23)⟩])))))
def lf94_B1 : LCode := .block 0 (
  .loop (
   .seq (
    .region [
      ⟨(some 10), none, .bin .lss (.tmp 9) (.tmp 8)⟩]) (
    .seq (
     .cond (.tmp 10) (
      .skip) (
      .exit 0)) (
     .seq (
      .block 1 (
       .seq (
        .region [
          ⟨(some 11), none, .iadr 1 (.tmp 7) (.tmp 9)⟩,
          ⟨(some 12), none, .load 1 false (.tmp 11)⟩,
          ⟨(some 4), none, .mov (.tmp 12)⟩]) (
        lf94_B0))) (
      .region [
        ⟨(some 24), none, .bin .add (.tmp 9) (.cst (.p (.int .i64 1)))⟩,
        ⟨(some 9), none, .mov (.tmp 24)⟩])))))
def lf94 : LFunc := ⟨29,[.slot 2], .seq (.region [⟨some 2,none,.mov (.cst (.p (.bool false)))⟩]) (.seq (.seq (.region [⟨some 7,none,.buildSl 1 3 (.p (.int .i64 0)) 2 [(0,(.cst (.p (.int .i64 2)))),(1,(.cst (.p (.int .i64 5))))]⟩,⟨some 8,none,.len (.tmp 7)⟩,⟨some 9,none,.mov (.cst (.p (.int .i64 0)))⟩]) (lf94_B1)) (.seq (.region [⟨some 25,none,.mov (.tmp 0)⟩,⟨some 26,none,.call 70 [.cst (.p (.int .i64 1))]⟩,⟨some 27,none,.call 99 [.tmp 25,.tmp 26]⟩,⟨some 28,none,.bin .eql (.tmp 27) (.cst (.p (.int .i64 0)))⟩,⟨some 2,none,.mov (.tmp 28)⟩]) (.ret)))⟩
theorem low94 : lowFunc Tryz.prog gl0 94 = some lf94 := by kernel_rfl
end Go.Proofs.YtoechbpjfkabmaaGreatDoor

/-
  The lowered code of the functions, as the program's form has it.
-/
namespace Go.Proofs.YtoechbpjfkabmaaGreatDoor
open Go Go.Abs
def lf7_B0 : LCode := .block 0 (
  .loop (
   .seq (
    .seq (
     .region [
       ⟨(some 35), none, .mov (.tmp 8)⟩,
       ⟨(some 36), none, .bin .gtr (.tmp 35) (.cst (.p (.int .i64 0)))⟩]) (
     .cond (.tmp 36) (
      .skip) (
      .exit 0))) (
    .block 1 (
     .regionD [
       ⟨(some 37), none, .mov (.tmp 8)⟩,
       ⟨(some 38), none, .mov (.tmp 6)⟩,
       ⟨(some 39), none, .mov (.tmp 8)⟩,
       ⟨(some 40), none, .bin .rem (.tmp 38) (.tmp 39)⟩,
       ⟨(some 6), none, .mov (.tmp 37)⟩,
       ⟨(some 8), none, .mov (.tmp 40)⟩]))))
def lf7 : LFunc := ⟨80,[.slot 4], .seq (.region [⟨some 4,none,.mov (.cst (.p (.bool false)))⟩]) (.seq (.seq (.region [⟨some 11,none,.mov (.tmp 1)⟩,⟨some 12,none,.bin .lss (.tmp 11) (.cst (.p (.int .i64 1)))⟩,⟨some 13,none,.mov (.tmp 12)⟩,⟨some 14,some (13,false),.mov (.tmp 1)⟩,⟨some 15,some (13,false),.bin .gtr (.tmp 14) (.cst (.p (.int .i64 1073741824)))⟩,⟨some 16,none,.pick (.tmp 13) (.cst (.p (.bool true))) (.tmp 15)⟩,⟨some 17,none,.mov (.tmp 16)⟩,⟨some 18,some (17,false),.mov (.tmp 0)⟩,⟨some 19,some (17,false),.bin .lss (.tmp 18) (.cst (.p (.int .i64 (-1099511627776))))⟩,⟨some 20,none,.pick (.tmp 17) (.cst (.p (.bool true))) (.tmp 19)⟩,⟨some 21,none,.mov (.tmp 20)⟩,⟨some 22,some (21,false),.mov (.tmp 0)⟩,⟨some 23,some (21,false),.bin .gtr (.tmp 22) (.cst (.p (.int .i64 1099511627776)))⟩,⟨some 24,none,.pick (.tmp 21) (.cst (.p (.bool true))) (.tmp 23)⟩]) (.cond (.tmp 24) (.seq (.region [⟨some 25,none,.call 25 []⟩,⟨some 4,none,.mov (.tmp 25)⟩]) (.ret)) (.skip))) (.seq (.region [⟨some 26,none,.mov (.tmp 0)⟩,⟨some 27,none,.mov (.tmp 1)⟩,⟨some 28,none,.call 33 [.tmp 26,.tmp 27]⟩,⟨some 5,none,.newv 3 39 (.cst (.agg [.p (.bool false),.tight [],.tight []]))⟩,⟨none,none,.store 3 (.tmp 5) (.tmp 28)⟩]) (.seq (.region [⟨some 29,none,.mov (.tmp 1)⟩,⟨some 6,none,.mov (.tmp 29)⟩]) (.seq (.region [⟨some 30,none,.mov (.tmp 0)⟩,⟨some 31,none,.mov (.tmp 0)⟩,⟨some 32,none,.un .neg (.tmp 31)⟩,⟨some 33,none,.minmax true (.tmp 30) (.tmp 32)⟩,⟨some 7,none,.mov (.tmp 33)⟩]) (.seq (.seq (.region [⟨some 34,none,.mov (.tmp 7)⟩,⟨some 8,none,.mov (.tmp 34)⟩]) (lf7_B0)) (.seq (.regionD [⟨some 41,none,.mov (.tmp 7)⟩,⟨some 42,none,.mov (.tmp 6)⟩,⟨some 43,none,.bin .quo (.tmp 41) (.tmp 42)⟩,⟨some 44,none,.mov (.tmp 1)⟩,⟨some 45,none,.mov (.tmp 6)⟩,⟨some 46,none,.bin .quo (.tmp 44) (.tmp 45)⟩,⟨some 7,none,.mov (.tmp 43)⟩,⟨some 1,none,.mov (.tmp 46)⟩]) (.seq (.region [⟨some 47,none,.mov (.tmp 7)⟩,⟨some 48,none,.call 38 [.tmp 47]⟩,⟨some 49,none,.call 37 [.tmp 48]⟩,⟨some 50,none,.bin .add (.tmp 49)
 (.cst (.p (.str [46,48])))⟩,⟨some 9,none,.mov (.tmp 50)⟩]) (.seq (.seq (.region [⟨some 51,none,.mov (.tmp 1)⟩,⟨some 52,none,.bin .gtr (.tmp 51) (.cst (.p (.int .i64 1)))⟩]) (.cond (.tmp 52) (.region [⟨some 53,none,.mov (.tmp 9)⟩,⟨some 54,none,.bin .add (.cst (.p (.str [40,47,32]))) (.tmp 53)⟩,⟨some 55,none,.bin .add (.tmp 54) (.cst (.p (.str [32])))⟩,⟨some 56,none,.mov (.tmp 1)⟩,⟨some 57,none,.call 38 [.tmp 56]⟩,⟨some 58,none,.call 37 [.tmp 57]⟩,⟨some 59,none,.bin .add (.tmp 55) (.tmp 58)⟩,⟨some 60,none,.bin .add (.tmp 59) (.cst (.p (.str [46,48,41])))⟩,⟨some 9,none,.mov (.tmp 60)⟩]) (.skip))) (.seq (.seq (.region [⟨some 61,none,.mov (.tmp 0)⟩,⟨some 62,none,.bin .lss (.tmp 61) (.cst (.p (.int .i64 0)))⟩]) (.cond (.tmp 62) (.region [⟨some 63,none,.mov (.tmp 9)⟩,⟨some 64,none,.bin .add (.cst (.p (.str [40,45,32]))) (.tmp 63)⟩,⟨some 65,none,.bin .add (.tmp 64) (.cst (.p (.str [41])))⟩,⟨some 9,none,.mov (.tmp 65)⟩]) (.skip))) (.seq (.region [⟨some 66,none,.load 3 true (.tmp 5)⟩,⟨some 10,none,.newv 3 39 (.cst (.agg [.p (.bool false),.tight [],.tight []]))⟩,⟨none,none,.store 3 (.tmp 10) (.tmp 66)⟩]) (.seq (.region [⟨some 67,none,.fadr 2 (.tmp 10)⟩,⟨none,none,.store 1 (.tmp 67) (.cst (.tight []))⟩]) (.seq (.region [⟨some 68,none,.load 3 true (.tmp 5)⟩,⟨some 69,none,.call 31 [.tmp 68]⟩,⟨some 70,none,.mov (.tmp 9)⟩,⟨some 71,none,.bin .eql (.tmp 69) (.tmp 70)⟩,⟨some 72,none,.mov (.tmp 71)⟩,⟨some 73,some (72,true),.load 3 true (.tmp 10)⟩,⟨some 74,some (72,true),.call 31 [.tmp 73]⟩,⟨some 75,some (72,true),.bin .eql (.tmp 74) (.cst (.p (.str [])))⟩,⟨some 76,none,.pick (.tmp 72) (.tmp 75) (.cst (.p (.bool false)))⟩,⟨some 77,none,.mov (.tmp 76)⟩,⟨some 78,some (77,true),.call 25 []⟩,⟨some 79,none,.pick (.tmp 77) (.tmp 78) (.cst (.p (.bool false)))⟩,⟨some 4,none,.mov (.tmp 79)⟩]) (.ret)))))))))))))⟩
theorem low7 : lowFunc Tryz.prog gl0 7 = some lf7 := by kernel_rfl
def lf25 : LFunc := ⟨69,[.slot 0], .seq (.region [⟨some 0,none,.mov (.cst (.p (.bool false)))⟩]) (.seq (.region [⟨some 12,none,.call 26 [.cst (.p (.str [48,46,49,50,53]))]⟩,⟨some 11,none,.mov (.tmp 12)⟩,⟨some 13,none,.ext (.tmp 11) 0⟩,⟨some 14,none,.ext (.tmp 11) 1⟩,⟨some 1,none,.newv 3 39 (.cst (.agg [.p (.bool false),.tight [],.tight []]))⟩,⟨none,none,.store 3 (.tmp 1) (.tmp 13)⟩,⟨some 2,none,.mov (.tmp 14)⟩]) (.seq (.region [⟨some 16,none,.call 26 [.cst (.p (.str [48,49]))]⟩,⟨some 15,none,.mov (.tmp 16)⟩,⟨some 17,none,.ext (.tmp 15) 0⟩,⟨some 18,none,.ext (.tmp 15) 1⟩,⟨some 3,none,.newv 3 39 (.cst (.agg [.p (.bool false),.tight [],.tight []]))⟩,⟨none,none,.store 3 (.tmp 3) (.tmp 17)⟩,⟨some 4,none,.mov (.tmp 18)⟩]) (.seq (.region [⟨some 20,none,.call 26 [.cst (.p (.str [49,46]))]⟩,⟨some 19,none,.mov (.tmp 20)⟩,⟨some 21,none,.ext (.tmp 19) 0⟩,⟨some 22,none,.ext (.tmp 19) 1⟩,⟨some 5,none,.newv 3 39 (.cst (.agg [.p (.bool false),.tight [],.tight []]))⟩,⟨none,none,.store 3 (.tmp 5) (.tmp 21)⟩,⟨some 6,none,.mov (.tmp 22)⟩]) (.seq (.region [⟨some 24,none,.call 33 [.cst (.p (.int .i64 1)),.cst (.p (.int .i64 8))]⟩,⟨some 25,none,.call 28 [.tmp 24]⟩,⟨some 23,none,.mov (.tmp 25)⟩,⟨some 26,none,.ext (.tmp 23) 0⟩,⟨some 27,none,.ext (.tmp 23) 1⟩,⟨some 7,none,.mov (.tmp 26)⟩,⟨some 8,none,.mov (.tmp 27)⟩]) (.seq (.region [⟨some 29,none,.call 33 [.cst (.p (.int .i64 1)),.cst (.p (.int .i64 3))]⟩,⟨some 30,none,.call 28 [.tmp 29]⟩,⟨some 28,none,.mov (.tmp 30)⟩,⟨some 31,none,.ext (.tmp 28) 0⟩,⟨some 32,none,.ext (.tmp 28) 1⟩,⟨some 9,none,.mov (.tmp 31)⟩,⟨some 10,none,.mov (.tmp 32)⟩]) (.seq (.regionD [⟨some 33,none,.mov (.tmp 2)⟩,⟨some 34,none,.bin .eql (.tmp 33) (.cst (.p (.int .i64 0)))⟩,⟨some 35,none,.mov (.tmp 34)⟩,⟨some 36,some (35,true),.load 3 true (.tmp 1)⟩,⟨some 37,some (35,true),.call 33 [.cst (.p (.int .i64 1)),.cst (.p (.int .i64 8))]⟩,⟨some 38,some (35,true),.call 30 [.tmp 36,.tmp 37]⟩,⟨some 39,none,.pick (.tmp 35) (.tmp 38) (.cst (.p (.bool false)))⟩,⟨some 40,none,.mov
 (.tmp 39)⟩,⟨some 41,some (40,true),.mov (.tmp 4)⟩,⟨some 42,some (40,true),.bin .eql (.tmp 41) (.cst (.p (.int .i64 2)))⟩,⟨some 43,none,.pick (.tmp 40) (.tmp 42) (.cst (.p (.bool false)))⟩,⟨some 44,none,.mov (.tmp 43)⟩,⟨some 45,some (44,true),.mov (.tmp 6)⟩,⟨some 46,some (44,true),.bin .eql (.tmp 45) (.cst (.p (.int .i64 2)))⟩,⟨some 47,none,.pick (.tmp 44) (.tmp 46) (.cst (.p (.bool false)))⟩,⟨some 48,none,.mov (.tmp 47)⟩,⟨some 49,some (48,true),.mov (.tmp 8)⟩,⟨some 50,none,.pick (.tmp 48) (.tmp 49) (.cst (.p (.bool false)))⟩,⟨some 51,none,.mov (.tmp 50)⟩,⟨some 52,some (51,true),.mov (.tmp 7)⟩,⟨some 53,some (51,true),.bin .eql (.tmp 52) (.cst (.p (.str [48,46,49,50,53])))⟩,⟨some 54,none,.pick (.tmp 51) (.tmp 53) (.cst (.p (.bool false)))⟩,⟨some 55,none,.mov (.tmp 54)⟩,⟨some 56,some (55,true),.mov (.tmp 10)⟩,⟨some 57,some (55,true),.un .not (.tmp 56)⟩,⟨some 58,none,.pick (.tmp 55) (.tmp 57) (.cst (.p (.bool false)))⟩,⟨some 59,none,.mov (.tmp 58)⟩,⟨some 60,some (59,true),.call 33 [.cst (.p (.int .i64 (-1))),.cst (.p (.int .i64 3))]⟩,⟨some 61,some (59,true),.call 31 [.tmp 60]⟩,⟨some 62,some (59,true),.bin .eql (.tmp 61) (.cst (.p (.str [40,45,32,40,47,32,49,46,48,32,51,46,48,41,41])))⟩,⟨some 63,none,.pick (.tmp 59) (.tmp 62) (.cst (.p (.bool false)))⟩,⟨some 64,none,.mov (.tmp 63)⟩,⟨some 65,some (64,true),.call 33 [.cst (.p (.int .i64 5)),.cst (.p (.int .i64 1))]⟩,⟨some 66,some (64,true),.call 31 [.tmp 65]⟩,⟨some 67,some (64,true),.bin .eql (.tmp 66) (.cst (.p (.str [53,46,48])))⟩,⟨some 68,none,.pick (.tmp 64) (.tmp 67) (.cst (.p (.bool false)))⟩,⟨some 0,none,.mov (.tmp 68)⟩]) (.ret)))))))⟩
theorem low25 : lowFunc Tryz.prog gl0 25 = some lf25 := by kernel_rfl
def lf37 : LFunc := ⟨15,[.slot 2], .seq (.region [⟨some 1,none,.newv 2 24 (.tmp 0)⟩,⟨some 2,none,.mov (.cst (.p (.str [])))⟩]) (.seq (.seq (.region [⟨some 3,none,.load 2 true (.tmp 1)⟩,⟨some 4,none,.call 104 [.tmp 3]⟩,⟨some 5,none,.un .not (.tmp 4)⟩]) (.cond (.tmp 5) (.seq (.region [⟨some 2,none,.mov (.cst (.p (.str [])))⟩]) (.ret)) (.skip))) (.seq (.seq (.region [⟨some 6,none,.fadr 0 (.tmp 1)⟩,⟨some 7,none,.load 1 false (.tmp 6)⟩]) (.cond (.tmp 7) (.seq (.region [⟨some 8,none,.fadr 1 (.tmp 1)⟩,⟨some 9,none,.load 1 false (.tmp 8)⟩,⟨some 10,none,.call 100 [.tmp 9]⟩,⟨some 11,none,.bin .add (.cst (.p (.str [45]))) (.tmp 10)⟩,⟨some 2,none,.mov (.tmp 11)⟩]) (.ret)) (.skip))) (.seq (.region [⟨some 12,none,.fadr 1 (.tmp 1)⟩,⟨some 13,none,.load 1 false (.tmp 12)⟩,⟨some 14,none,.call 100 [.tmp 13]⟩,⟨some 2,none,.mov (.tmp 14)⟩]) (.ret))))⟩
theorem low37 : lowFunc Tryz.prog gl0 37 = some lf37 := by kernel_rfl
end Go.Proofs.YtoechbpjfkabmaaGreatDoor
