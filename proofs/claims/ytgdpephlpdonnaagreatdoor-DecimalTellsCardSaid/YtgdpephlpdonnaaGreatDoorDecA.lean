/-
  The lowered code of decimal, law4 and the reference's decimals, each equal to what the program's form lowers to. No conditions.
-/
import Derived.Test.YtgdpephlpdonnaaGreatDoorAbsTwo
import Derived.Test.YtgdpephlpdonnaaGreatDoorProg
import Derived.Test.YtgdpephlpdonnaaGreatDoorNatA
import Derived.KernelRfl
set_option linter.unusedSimpArgs false
set_option linter.unusedVariables false
set_option linter.constructorNameAsVariable false

/-
  The lowered code of the functions, as the program's form has it.
-/
namespace Go.Proofs.YtgdpephlpdonnaaGreatDoor
open Go Go.Abs
def lf7 : LFunc := ⟨46,[.cell 2 3 true,.slot 3], .seq (.region [⟨some 2,none,.newv 3 24 (.cst (.agg [.p (.bool false),.tight [],.tight []]))⟩,⟨some 3,none,.mov (.cst (.p (.int .i64 0)))⟩]) (.seq (.region [⟨some 8,none,.mov (.tmp 0)⟩,⟨some 9,none,.call 22 [.tmp 8,.cst (.p (.str [46]))]⟩,⟨some 7,none,.mov (.tmp 9)⟩,⟨some 10,none,.ext (.tmp 7) 0⟩,⟨some 11,none,.ext (.tmp 7) 1⟩,⟨some 12,none,.ext (.tmp 7) 2⟩,⟨some 4,none,.mov (.tmp 10)⟩,⟨some 5,none,.mov (.tmp 11)⟩,⟨some 6,none,.mov (.tmp 12)⟩]) (.seq (.seq (.region [⟨some 13,none,.mov (.tmp 4)⟩,⟨some 14,none,.call 23 [.tmp 13]⟩,⟨some 15,none,.un .not (.tmp 14)⟩,⟨some 16,none,.mov (.tmp 15)⟩,⟨some 17,some (16,false),.mov (.tmp 6)⟩,⟨some 18,some (16,false),.mov (.tmp 17)⟩,⟨some 19,some (18,true),.mov (.tmp 5)⟩,⟨some 20,some (18,true),.call 24 [.tmp 19]⟩,⟨some 21,some (18,true),.un .not (.tmp 20)⟩,⟨some 22,some (16,false),.pick (.tmp 18) (.tmp 21) (.cst (.p (.bool false)))⟩,⟨some 23,none,.pick (.tmp 16) (.cst (.p (.bool true))) (.tmp 22)⟩]) (.cond (.tmp 23) (.seq (.region [⟨some 24,none,.build (.agg [.p (.bool false),.tight [],.tight []]) []⟩,⟨none,none,.store 3 (.tmp 2) (.tmp 24)⟩,⟨some 3,none,.mov (.cst (.p (.int .i64 2)))⟩]) (.ret)) (.skip))) (.seq (.region [⟨some 25,none,.mov (.tmp 5)⟩,⟨some 26,none,.call 25 [.tmp 25,.cst (.p (.str [48]))]⟩,⟨some 5,none,.mov (.tmp 26)⟩]) (.seq (.seq (.region [⟨some 27,none,.mov (.tmp 5)⟩,⟨some 28,none,.lenS (.tmp 27)⟩,⟨some 29,none,.bin .gtr (.tmp 28) (.cst (.p (.int .i64 4096)))⟩,⟨some 30,none,.mov (.tmp 29)⟩,⟨some 31,some (30,false),.mov (.tmp 4)⟩,⟨some 32,some (30,false),.lenS (.tmp 31)⟩,⟨some 33,some (30,false),.bin .gtr (.tmp 32) (.cst (.p (.int .i64 4096)))⟩,⟨some 34,none,.pick (.tmp 30) (.cst (.p (.bool true))) (.tmp 33)⟩]) (.cond (.tmp 34) (.seq (.region [⟨some 35,none,.build (.agg [.p (.bool false),.tight [],.tight []]) []⟩,⟨none,none,.store 3 (.tmp 2) (.tmp 35)⟩,⟨some 3,none,.mov (.cst (.p (.int .i64 4)))⟩]) (.ret)) (.skip))) (.seq (.region [⟨some 36,none,.mov (.tmp 4)⟩,⟨some
 37,none,.mov (.tmp 5)⟩,⟨some 38,none,.bin .add (.tmp 36) (.tmp 37)⟩,⟨some 39,none,.call 27 [.tmp 38]⟩,⟨some 40,none,.mov (.tmp 5)⟩,⟨some 41,none,.lenS (.tmp 40)⟩,⟨some 42,none,.call 28 [.tmp 41]⟩,⟨some 43,none,.call 26 [.cst (.p (.bool false)),.tmp 39,.tmp 42]⟩,⟨some 44,none,.ext (.tmp 43) 0⟩,⟨some 45,none,.ext (.tmp 43) 1⟩,⟨none,none,.store 3 (.tmp 2) (.tmp 44)⟩,⟨some 3,none,.mov (.tmp 45)⟩]) (.ret))))))⟩
theorem low7 : lowFunc Tryz.prog gl0 7 = some lf7 := by kernel_rfl
def lf9_B0 : LCode := .block 0 (
  .loop (
   .seq (
    .seq (
     .region [
       ⟨(some 36), none, .mov (.tmp 5)⟩,
       ⟨(some 37), none, .len (.tmp 36)⟩,
       ⟨(some 38), none, .bin .gtr (.tmp 37) (.cst (.p (.int .i64 0)))⟩]) (
     .cond (.tmp 38) (
      .skip) (
      .exit 0))) (
    .block 1 (
     .seq (
      .regionD [
        ⟨(some 40), none, .mov (.tmp 5)⟩,
        ⟨(some 41), none, .call 40 [(.cst (.p (.int .i64 10)))]⟩,
        ⟨(some 42), none, .call 39 [(.tmp 40), (.tmp 41)]⟩,
        ⟨(some 43), none, .fadr 2 (.tmp 1)⟩,
        ⟨(some 44), none, .load 1 false (.tmp 43)⟩,
        ⟨(some 45), none, .call 37 [(.tmp 42), (.tmp 44)]⟩,
        ⟨(some 39), none, .mov (.tmp 45)⟩,
        ⟨(some 46), none, .ext (.tmp 39) 0⟩,
        ⟨(some 47), none, .ext (.tmp 39) 1⟩,
        ⟨(some 4), none, .mov (.tmp 46)⟩,
        ⟨(some 5), none, .mov (.tmp 47)⟩]) (
      .region [
        ⟨(some 48), none, .mov (.tmp 6)⟩,
        ⟨(some 49), none, .mov (.tmp 4)⟩,
        ⟨(some 50), none, .call 38 [(.tmp 49)]⟩,
        ⟨(some 51), none, .bin .add (.tmp 48) (.tmp 50)⟩,
        ⟨(some 6), none, .mov (.tmp 51)⟩])))))
def lf9 : LFunc := ⟨53,[.slot 2,.slot 3], .seq (.region [⟨some 1,none,.newv 3 24 (.tmp 0)⟩,⟨some 2,none,.mov (.cst (.p (.str [])))⟩,⟨some 3,none,.mov (.cst (.p (.bool false)))⟩]) (.seq (.seq (.region [⟨some 7,none,.load 3 true (.tmp 1)⟩,⟨some 8,none,.call 35 [.tmp 7]⟩,⟨some 9,none,.un .not (.tmp 8)⟩,⟨some 10,none,.mov (.tmp 9)⟩,⟨some 11,some (10,false),.fadr 0 (.tmp 1)⟩,⟨some 12,some (10,false),.load 1 false (.tmp 11)⟩,⟨some 13,none,.pick (.tmp 10) (.cst (.p (.bool true))) (.tmp 12)⟩,⟨some 14,none,.mov (.tmp 13)⟩,⟨some 15,some (14,false),.fadr 2 (.tmp 1)⟩,⟨some 16,some (14,false),.load 1 false (.tmp 15)⟩,⟨some 17,some (14,false),.call 36 [.tmp 16]⟩,⟨some 18,some (14,false),.un .not (.tmp 17)⟩,⟨some 19,none,.pick (.tmp 14) (.cst (.p (.bool true))) (.tmp 18)⟩]) (.cond (.tmp 19) (.seq (.region [⟨some 2,none,.mov (.cst (.p (.str [])))⟩,⟨some 3,none,.mov (.cst (.p (.bool false)))⟩]) (.ret)) (.skip))) (.seq (.region [⟨some 21,none,.fadr 1 (.tmp 1)⟩,⟨some 22,none,.load 1 false (.tmp 21)⟩,⟨some 23,none,.fadr 2 (.tmp 1)⟩,⟨some 24,none,.load 1 false (.tmp 23)⟩,⟨some 25,none,.call 37 [.tmp 22,.tmp 24]⟩,⟨some 20,none,.mov (.tmp 25)⟩,⟨some 26,none,.ext (.tmp 20) 0⟩,⟨some 27,none,.ext (.tmp 20) 1⟩,⟨some 4,none,.mov (.tmp 26)⟩,⟨some 5,none,.mov (.tmp 27)⟩]) (.seq (.region [⟨some 28,none,.mov (.tmp 4)⟩,⟨some 29,none,.call 38 [.tmp 28]⟩,⟨some 30,none,.bin .add (.tmp 29) (.cst (.p (.str [46])))⟩,⟨some 6,none,.mov (.tmp 30)⟩]) (.seq (.seq (.region [⟨some 31,none,.mov (.tmp 5)⟩,⟨some 32,none,.len (.tmp 31)⟩,⟨some 33,none,.bin .eql (.tmp 32) (.cst (.p (.int .i64 0)))⟩]) (.cond (.tmp 33) (.seq (.region [⟨some 34,none,.mov (.tmp 6)⟩,⟨some 35,none,.bin .add (.tmp 34) (.cst (.p (.str [48])))⟩,⟨some 2,none,.mov (.tmp 35)⟩,⟨some 3,none,.mov (.cst (.p (.bool true)))⟩]) (.ret)) (.skip))) (.seq (lf9_B0) (.seq (.region [⟨some 52,none,.mov (.tmp 6)⟩,⟨some 2,none,.mov (.tmp 52)⟩,⟨some 3,none,.mov (.cst (.p (.bool true)))⟩]) (.ret)))))))⟩
theorem low9 : lowFunc Tryz.prog gl0 9 = some lf9 := by kernel_rfl
def lf12 : LFunc := ⟨35,[.slot 2], .seq (.region [⟨some 1,none,.newv 3 24 (.tmp 0)⟩,⟨some 2,none,.mov (.cst (.p (.str [])))⟩]) (.seq (.block 0 (.seq (.region [⟨some 4,none,.load 3 true (.tmp 1)⟩,⟨some 5,none,.call 35 [.tmp 4]⟩,⟨some 6,none,.un .not (.tmp 5)⟩,⟨some 3,none,.mov (.tmp 6)⟩]) (.cond (.tmp 3) (.seq (.region [⟨some 2,none,.mov (.cst (.p (.str [])))⟩]) (.ret)) (.seq (.region [⟨some 8,none,.fadr 0 (.tmp 1)⟩,⟨some 9,none,.load 1 false (.tmp 8)⟩,⟨some 7,none,.mov (.tmp 9)⟩]) (.cond (.tmp 7) (.seq (.region [⟨some 10,none,.load 3 true (.tmp 1)⟩,⟨some 11,none,.call 45 [.tmp 10]⟩,⟨some 12,none,.call 12 [.tmp 11]⟩,⟨some 13,none,.bin .add (.cst (.p (.str [40,45,32]))) (.tmp 12)⟩,⟨some 14,none,.bin .add (.tmp 13) (.cst (.p (.str [41])))⟩,⟨some 2,none,.mov (.tmp 14)⟩]) (.ret)) (.seq (.regionD [⟨some 16,none,.fadr 2 (.tmp 1)⟩,⟨some 17,none,.load 1 false (.tmp 16)⟩,⟨some 18,none,.call 40 [.cst (.p (.int .i64 1))]⟩,⟨some 19,none,.call 46 [.tmp 17,.tmp 18]⟩,⟨some 20,none,.bin .eql (.tmp 19) (.cst (.p (.int .i64 0)))⟩,⟨some 15,none,.mov (.tmp 20)⟩]) (.cond (.tmp 15) (.seq (.region [⟨some 21,none,.fadr 1 (.tmp 1)⟩,⟨some 22,none,.load 1 false (.tmp 21)⟩,⟨some 23,none,.call 38 [.tmp 22]⟩,⟨some 24,none,.bin .add (.tmp 23) (.cst (.p (.str [46,48])))⟩,⟨some 2,none,.mov (.tmp 24)⟩]) (.ret)) (.skip)))))))) (.seq (.regionD [⟨some 25,none,.fadr 1 (.tmp 1)⟩,⟨some 26,none,.load 1 false (.tmp 25)⟩,⟨some 27,none,.call 38 [.tmp 26]⟩,⟨some 28,none,.bin .add (.cst (.p (.str [40,47,32]))) (.tmp 27)⟩,⟨some 29,none,.bin .add (.tmp 28) (.cst (.p (.str [46,48,32])))⟩,⟨some 30,none,.fadr 2 (.tmp 1)⟩,⟨some 31,none,.load 1 false (.tmp 30)⟩,⟨some 32,none,.call 38 [.tmp 31]⟩,⟨some 33,none,.bin .add (.tmp 29) (.tmp 32)⟩,⟨some 34,none,.bin .add (.tmp 33) (.cst (.p (.str [46,48,41])))⟩,⟨some 2,none,.mov (.tmp 34)⟩]) (.ret)))⟩
theorem low12 : lowFunc Tryz.prog gl0 12 = some lf12 := by kernel_rfl
def lf23 : LFunc := ⟨14,[.slot 2], .seq (.region [⟨some 2,none,.mov (.cst (.p (.bool false)))⟩]) (.seq (.region [⟨some 3,none,.mov (.tmp 0)⟩,⟨some 4,none,.call 24 [.tmp 3]⟩,⟨some 5,none,.mov (.tmp 4)⟩,⟨some 6,some (5,true),.mov (.tmp 0)⟩,⟨some 7,some (5,true),.bin .eql (.tmp 6) (.cst (.p (.str [48])))⟩,⟨some 8,some (5,true),.mov (.tmp 7)⟩,⟨some 9,some (8,false),.mov (.tmp 0)⟩,⟨some 10,some (8,false),.istr (.tmp 9) (.cst (.p (.int .i64 0)))⟩,⟨some 11,some (8,false),.bin .neq (.tmp 10) (.cst (.p (.int .u8 48)))⟩,⟨some 12,some (5,true),.pick (.tmp 8) (.cst (.p (.bool true))) (.tmp 11)⟩,⟨some 13,none,.pick (.tmp 5) (.tmp 12) (.cst (.p (.bool false)))⟩,⟨some 2,none,.mov (.tmp 13)⟩]) (.ret))⟩
theorem low23 : lowFunc Tryz.prog gl0 23 = some lf23 := by kernel_rfl
def lf28 : LFunc := ⟨7,[.slot 2], .seq (.region [⟨some 2,none,.mov (.cst (.tight []))⟩]) (.seq (.region [⟨some 3,none,.mov (.tmp 0)⟩,⟨some 4,none,.call 69 [.cst (.p (.str [48])),.tmp 3]⟩,⟨some 5,none,.bin .add (.cst (.p (.str [49]))) (.tmp 4)⟩,⟨some 6,none,.call 27 [.tmp 5]⟩,⟨some 2,none,.mov (.tmp 6)⟩]) (.ret))⟩
theorem low28 : lowFunc Tryz.prog gl0 28 = some lf28 := by kernel_rfl
def lf36_B0 : LCode := .block 2 (
  .loop (
   .block 3 (
    .seq (
     .region [
       ⟨(some 14), none, .mov (.tmp 0)⟩,
       ⟨(some 15), none, .mov (.tmp 4)⟩,
       ⟨(some 16), none, .call 40 [(.tmp 15)]⟩,
       ⟨(some 17), none, .call 37 [(.tmp 14), (.tmp 16)]⟩,
       ⟨(some 13), none, .mov (.tmp 17)⟩,
       ⟨(some 18), none, .ext (.tmp 13) 0⟩,
       ⟨(some 19), none, .ext (.tmp 13) 1⟩,
       ⟨(some 5), none, .mov (.tmp 18)⟩,
       ⟨(some 6), none, .mov (.tmp 19)⟩]) (
     .seq (
      .seq (
       .region [
         ⟨(some 20), none, .mov (.tmp 6)⟩,
         ⟨(some 21), none, .len (.tmp 20)⟩,
         ⟨(some 22), none, .bin .gtr (.tmp 21) (.cst (.p (.int .i64 0)))⟩]) (
       .cond (.tmp 22) (
        .exit 2) (
        .skip))) (
      .region [
        ⟨(some 23), none, .mov (.tmp 5)⟩,
        ⟨(some 0), none, .mov (.tmp 23)⟩])))))
def lf36_B1 : LCode := .block 0 (
  .loop (
   .seq (
    .region [
      ⟨(some 10), none, .bin .lss (.tmp 9) (.tmp 8)⟩]) (
    .seq (
     .cond (.tmp 10) (
      .skip) (
      .exit 0)) (
     .seq (
      .block 1 (
       .seq (
        .region [
          ⟨(some 11), none, .iadr 1 (.tmp 7) (.tmp 9)⟩,
          ⟨(some 12), none, .load 1 false (.tmp 11)⟩,
          ⟨(some 4), none, .mov (.tmp 12)⟩]) (
        lf36_B0))) (
      .region [
        ⟨(some 24), none, .bin .add (.tmp 9) (.cst (.p (.int .i64 1)))⟩,
        ⟨(some 9), none, .mov (.tmp 24)⟩])))))
def lf36 : LFunc := ⟨29,[.slot 2], .seq (.region [⟨some 2,none,.mov (.cst (.p (.bool false)))⟩]) (.seq (.seq (.region [⟨some 7,none,.buildSl 1 3 (.p (.int .i64 0)) 2 [(0,(.cst (.p (.int .i64 2)))),(1,(.cst (.p (.int .i64 5))))]⟩,⟨some 8,none,.len (.tmp 7)⟩,⟨some 9,none,.mov (.cst (.p (.int .i64 0)))⟩]) (lf36_B1)) (.seq (.region [⟨some 25,none,.mov (.tmp 0)⟩,⟨some 26,none,.call 40 [.cst (.p (.int .i64 1))]⟩,⟨some 27,none,.call 46 [.tmp 25,.tmp 26]⟩,⟨some 28,none,.bin .eql (.tmp 27) (.cst (.p (.int .i64 0)))⟩,⟨some 2,none,.mov (.tmp 28)⟩]) (.ret)))⟩
theorem low36 : lowFunc Tryz.prog gl0 36 = some lf36 := by kernel_rfl
end Go.Proofs.YtgdpephlpdonnaaGreatDoor

/-
  The lowered code of the functions, as the program's form has it.
-/
namespace Go.Proofs.YtgdpephlpdonnaaGreatDoor
open Go Go.Abs
def lf3 : LFunc := ⟨77,[.slot 4], .seq (.region [⟨some 3,none,.newv 3 24 (.tmp 1)⟩,⟨some 4,none,.mov (.cst (.p (.bool false)))⟩]) (.seq (.seq (.region [⟨some 13,none,.mov (.tmp 0)⟩,⟨some 14,none,.lenS (.tmp 13)⟩,⟨some 15,none,.bin .gtr (.tmp 14) (.cst (.p (.int .i64 300)))⟩,⟨some 16,none,.mov (.tmp 15)⟩,⟨some 17,some (16,false),.fadr 1 (.tmp 3)⟩,⟨some 18,some (16,false),.load 1 false (.tmp 17)⟩,⟨some 19,some (16,false),.len (.tmp 18)⟩,⟨some 20,some (16,false),.bin .gtr (.tmp 19) (.cst (.p (.int .i64 8)))⟩,⟨some 21,none,.pick (.tmp 16) (.cst (.p (.bool true))) (.tmp 20)⟩,⟨some 22,none,.mov (.tmp 21)⟩,⟨some 23,some (22,false),.fadr 2 (.tmp 3)⟩,⟨some 24,some (22,false),.load 1 false (.tmp 23)⟩,⟨some 25,some (22,false),.len (.tmp 24)⟩,⟨some 26,some (22,false),.bin .gtr (.tmp 25) (.cst (.p (.int .i64 8)))⟩,⟨some 27,none,.pick (.tmp 22) (.cst (.p (.bool true))) (.tmp 26)⟩]) (.cond (.tmp 27) (.seq (.region [⟨some 28,none,.call 6 []⟩,⟨some 4,none,.mov (.tmp 28)⟩]) (.ret)) (.skip))) (.seq (.region [⟨some 30,none,.mov (.tmp 0)⟩,⟨some 31,none,.call 7 [.tmp 30]⟩,⟨some 29,none,.mov (.tmp 31)⟩,⟨some 32,none,.ext (.tmp 29) 0⟩,⟨some 33,none,.ext (.tmp 29) 1⟩,⟨some 5,none,.newv 3 24 (.cst (.agg [.p (.bool false),.tight [],.tight []]))⟩,⟨none,none,.store 3 (.tmp 5) (.tmp 32)⟩,⟨some 6,none,.mov (.tmp 33)⟩]) (.seq (.region [⟨some 35,none,.mov (.tmp 0)⟩,⟨some 36,none,.call 8 [.tmp 35]⟩,⟨some 34,none,.mov (.tmp 36)⟩,⟨some 37,none,.ext (.tmp 34) 0⟩,⟨some 38,none,.ext (.tmp 34) 1⟩,⟨some 7,none,.newv 3 24 (.cst (.agg [.p (.bool false),.tight [],.tight []]))⟩,⟨none,none,.store 3 (.tmp 7) (.tmp 37)⟩,⟨some 8,none,.mov (.tmp 38)⟩]) (.seq (.region [⟨some 40,none,.load 3 true (.tmp 3)⟩,⟨some 41,none,.call 9 [.tmp 40]⟩,⟨some 39,none,.mov (.tmp 41)⟩,⟨some 42,none,.ext (.tmp 39) 0⟩,⟨some 43,none,.ext (.tmp 39) 1⟩,⟨some 9,none,.mov (.tmp 42)⟩,⟨some 10,none,.mov (.tmp 43)⟩]) (.seq (.region [⟨some 45,none,.load 3 true (.tmp 3)⟩,⟨some 46,none,.call 10 [.tmp 45]⟩,⟨some 44,none,.mov (.tmp 46)⟩,⟨some
 47,none,.ext (.tmp 44) 0⟩,⟨some 48,none,.ext (.tmp 44) 1⟩,⟨some 11,none,.mov (.tmp 47)⟩,⟨some 12,none,.mov (.tmp 48)⟩]) (.seq (.regionD [⟨some 49,none,.load 3 true (.tmp 5)⟩,⟨some 50,none,.load 3 true (.tmp 7)⟩,⟨some 51,none,.call 11 [.tmp 49,.tmp 50]⟩,⟨some 52,none,.mov (.tmp 51)⟩,⟨some 53,some (52,true),.mov (.tmp 6)⟩,⟨some 54,some (52,true),.mov (.tmp 8)⟩,⟨some 55,some (52,true),.bin .eql (.tmp 53) (.tmp 54)⟩,⟨some 56,none,.pick (.tmp 52) (.tmp 55) (.cst (.p (.bool false)))⟩,⟨some 57,none,.mov (.tmp 56)⟩,⟨some 58,some (57,true),.load 3 true (.tmp 3)⟩,⟨some 59,some (57,true),.call 12 [.tmp 58]⟩,⟨some 60,some (57,true),.load 3 true (.tmp 3)⟩,⟨some 61,some (57,true),.call 13 [.tmp 60]⟩,⟨some 62,some (57,true),.bin .eql (.tmp 59) (.tmp 61)⟩,⟨some 63,none,.pick (.tmp 57) (.tmp 62) (.cst (.p (.bool false)))⟩,⟨some 64,none,.mov (.tmp 63)⟩,⟨some 65,some (64,true),.mov (.tmp 9)⟩,⟨some 66,some (64,true),.mov (.tmp 11)⟩,⟨some 67,some (64,true),.bin .eql (.tmp 65) (.tmp 66)⟩,⟨some 68,none,.pick (.tmp 64) (.tmp 67) (.cst (.p (.bool false)))⟩,⟨some 69,none,.mov (.tmp 68)⟩,⟨some 70,some (69,true),.mov (.tmp 10)⟩,⟨some 71,some (69,true),.mov (.tmp 12)⟩,⟨some 72,some (69,true),.eqB false (.tmp 70) (.tmp 71)⟩,⟨some 73,none,.pick (.tmp 69) (.tmp 72) (.cst (.p (.bool false)))⟩,⟨some 74,none,.mov (.tmp 73)⟩,⟨some 75,some (74,true),.call 6 []⟩,⟨some 76,none,.pick (.tmp 74) (.tmp 75) (.cst (.p (.bool false)))⟩,⟨some 4,none,.mov (.tmp 76)⟩]) (.ret)))))))⟩
theorem low3 : lowFunc Tryz.prog gl0 3 = some lf3 := by kernel_rfl
def lf6 : LFunc := ⟨69,[.slot 0], .seq (.region [⟨some 0,none,.mov (.cst (.p (.bool false)))⟩]) (.seq (.region [⟨some 12,none,.call 7 [.cst (.p (.str [48,46,49,50,53]))]⟩,⟨some 11,none,.mov (.tmp 12)⟩,⟨some 13,none,.ext (.tmp 11) 0⟩,⟨some 14,none,.ext (.tmp 11) 1⟩,⟨some 1,none,.newv 3 24 (.cst (.agg [.p (.bool false),.tight [],.tight []]))⟩,⟨none,none,.store 3 (.tmp 1) (.tmp 13)⟩,⟨some 2,none,.mov (.tmp 14)⟩]) (.seq (.region [⟨some 16,none,.call 7 [.cst (.p (.str [48,49]))]⟩,⟨some 15,none,.mov (.tmp 16)⟩,⟨some 17,none,.ext (.tmp 15) 0⟩,⟨some 18,none,.ext (.tmp 15) 1⟩,⟨some 3,none,.newv 3 24 (.cst (.agg [.p (.bool false),.tight [],.tight []]))⟩,⟨none,none,.store 3 (.tmp 3) (.tmp 17)⟩,⟨some 4,none,.mov (.tmp 18)⟩]) (.seq (.region [⟨some 20,none,.call 7 [.cst (.p (.str [49,46]))]⟩,⟨some 19,none,.mov (.tmp 20)⟩,⟨some 21,none,.ext (.tmp 19) 0⟩,⟨some 22,none,.ext (.tmp 19) 1⟩,⟨some 5,none,.newv 3 24 (.cst (.agg [.p (.bool false),.tight [],.tight []]))⟩,⟨none,none,.store 3 (.tmp 5) (.tmp 21)⟩,⟨some 6,none,.mov (.tmp 22)⟩]) (.seq (.region [⟨some 24,none,.call 14 [.cst (.p (.int .i64 1)),.cst (.p (.int .i64 8))]⟩,⟨some 25,none,.call 9 [.tmp 24]⟩,⟨some 23,none,.mov (.tmp 25)⟩,⟨some 26,none,.ext (.tmp 23) 0⟩,⟨some 27,none,.ext (.tmp 23) 1⟩,⟨some 7,none,.mov (.tmp 26)⟩,⟨some 8,none,.mov (.tmp 27)⟩]) (.seq (.region [⟨some 29,none,.call 14 [.cst (.p (.int .i64 1)),.cst (.p (.int .i64 3))]⟩,⟨some 30,none,.call 9 [.tmp 29]⟩,⟨some 28,none,.mov (.tmp 30)⟩,⟨some 31,none,.ext (.tmp 28) 0⟩,⟨some 32,none,.ext (.tmp 28) 1⟩,⟨some 9,none,.mov (.tmp 31)⟩,⟨some 10,none,.mov (.tmp 32)⟩]) (.seq (.regionD [⟨some 33,none,.mov (.tmp 2)⟩,⟨some 34,none,.bin .eql (.tmp 33) (.cst (.p (.int .i64 0)))⟩,⟨some 35,none,.mov (.tmp 34)⟩,⟨some 36,some (35,true),.load 3 true (.tmp 1)⟩,⟨some 37,some (35,true),.call 14 [.cst (.p (.int .i64 1)),.cst (.p (.int .i64 8))]⟩,⟨some 38,some (35,true),.call 11 [.tmp 36,.tmp 37]⟩,⟨some 39,none,.pick (.tmp 35) (.tmp 38) (.cst (.p (.bool false)))⟩,⟨some 40,none,.mov (.tmp
 39)⟩,⟨some 41,some (40,true),.mov (.tmp 4)⟩,⟨some 42,some (40,true),.bin .eql (.tmp 41) (.cst (.p (.int .i64 2)))⟩,⟨some 43,none,.pick (.tmp 40) (.tmp 42) (.cst (.p (.bool false)))⟩,⟨some 44,none,.mov (.tmp 43)⟩,⟨some 45,some (44,true),.mov (.tmp 6)⟩,⟨some 46,some (44,true),.bin .eql (.tmp 45) (.cst (.p (.int .i64 2)))⟩,⟨some 47,none,.pick (.tmp 44) (.tmp 46) (.cst (.p (.bool false)))⟩,⟨some 48,none,.mov (.tmp 47)⟩,⟨some 49,some (48,true),.mov (.tmp 8)⟩,⟨some 50,none,.pick (.tmp 48) (.tmp 49) (.cst (.p (.bool false)))⟩,⟨some 51,none,.mov (.tmp 50)⟩,⟨some 52,some (51,true),.mov (.tmp 7)⟩,⟨some 53,some (51,true),.bin .eql (.tmp 52) (.cst (.p (.str [48,46,49,50,53])))⟩,⟨some 54,none,.pick (.tmp 51) (.tmp 53) (.cst (.p (.bool false)))⟩,⟨some 55,none,.mov (.tmp 54)⟩,⟨some 56,some (55,true),.mov (.tmp 10)⟩,⟨some 57,some (55,true),.un .not (.tmp 56)⟩,⟨some 58,none,.pick (.tmp 55) (.tmp 57) (.cst (.p (.bool false)))⟩,⟨some 59,none,.mov (.tmp 58)⟩,⟨some 60,some (59,true),.call 14 [.cst (.p (.int .i64 (-1))),.cst (.p (.int .i64 3))]⟩,⟨some 61,some (59,true),.call 12 [.tmp 60]⟩,⟨some 62,some (59,true),.bin .eql (.tmp 61) (.cst (.p (.str [40,45,32,40,47,32,49,46,48,32,51,46,48,41,41])))⟩,⟨some 63,none,.pick (.tmp 59) (.tmp 62) (.cst (.p (.bool false)))⟩,⟨some 64,none,.mov (.tmp 63)⟩,⟨some 65,some (64,true),.call 14 [.cst (.p (.int .i64 5)),.cst (.p (.int .i64 1))]⟩,⟨some 66,some (64,true),.call 12 [.tmp 65]⟩,⟨some 67,some (64,true),.bin .eql (.tmp 66) (.cst (.p (.str [53,46,48])))⟩,⟨some 68,none,.pick (.tmp 64) (.tmp 67) (.cst (.p (.bool false)))⟩,⟨some 0,none,.mov (.tmp 68)⟩]) (.ret)))))))⟩
theorem low6 : lowFunc Tryz.prog gl0 6 = some lf6 := by kernel_rfl
def lf8_B0 : LCode := .block 0 (
  .loop (
   .seq (
    .seq (
     .region [
       ⟨(some 15), none, .mov (.tmp 5)⟩,
       ⟨(some 16), none, .bin .geq (.tmp 15) (.cst (.p (.int .i64 0)))⟩]) (
     .cond (.tmp 16) (
      .skip) (
      .exit 0))) (
    .seq (
     .block 1 (
      .seq (
       .region [
         ⟨(some 19), none, .mov (.tmp 0)⟩,
         ⟨(some 20), none, .mov (.tmp 5)⟩,
         ⟨(some 21), none, .istr (.tmp 19) (.tmp 20)⟩,
         ⟨(some 22), none, .bin .eql (.tmp 21) (.cst (.p (.int .u8 46)))⟩]) (
       .cond (.tmp 22) (
        .region [
          ⟨(some 23), none, .mov (.tmp 5)⟩,
          ⟨(some 4), none, .mov (.tmp 23)⟩]) (
        .skip)))) (
     .region [
       ⟨(some 17), none, .mov (.tmp 5)⟩,
       ⟨(some 18), none, .bin .sub (.tmp 17) (.cst (.p (.int .i64 1)))⟩,
       ⟨(some 5), none, .mov (.tmp 18)⟩]))))
def lf8_B1 : LCode := .block 2 (
  .loop (
   .seq (
    .seq (
     .region [
       ⟨(some 47), none, .mov (.tmp 9)⟩,
       ⟨(some 48), none, .mov (.tmp 0)⟩,
       ⟨(some 49), none, .lenS (.tmp 48)⟩,
       ⟨(some 50), none, .bin .lss (.tmp 47) (.tmp 49)⟩]) (
     .cond (.tmp 50) (
      .skip) (
      .exit 2))) (
    .seq (
     .block 3 (
      .seq (
       .seq (
        .region [
          ⟨(some 53), none, .mov (.tmp 9)⟩,
          ⟨(some 54), none, .mov (.tmp 4)⟩,
          ⟨(some 55), none, .bin .eql (.tmp 53) (.tmp 54)⟩]) (
        .cond (.tmp 55) (
         .exit 3) (
         .skip))) (
       .seq (
        .seq (
         .region [
           ⟨(some 56), none, .mov (.tmp 0)⟩,
           ⟨(some 57), none, .mov (.tmp 9)⟩,
           ⟨(some 58), none, .istr (.tmp 56) (.tmp 57)⟩,
           ⟨(some 59), none, .bin .lss (.tmp 58) (.cst (.p (.int .u8 48)))⟩,
           ⟨(some 60), none, .mov (.tmp 59)⟩,
           ⟨(some 61), (some (60, false)), .mov (.tmp 0)⟩,
           ⟨(some 62), (some (60, false)), .mov (.tmp 9)⟩,
           ⟨(some 63), (some (60, false)), .istr (.tmp 61) (.tmp 62)⟩,
           ⟨(some 64), (some (60, false)), .bin .gtr (.tmp 63) (.cst (.p (.int .u8 57)))⟩,
           ⟨(some 65), none, .pick (.tmp 60) (.cst (.p (.bool true))) (.tmp 64)⟩]) (
         .cond (.tmp 65) (
          .seq (
           .region [
             ⟨(some 66), none, .build (.agg [(.p (.bool false)), (.tight []), (.tight [])]) []⟩,
             ⟨none, none, .store 3 (.tmp 2) (.tmp 66)⟩,
             ⟨(some 3), none, .mov (.cst (.p (.int .i64 2)))⟩]) (
           .ret)) (
          .skip))) (
        .seq (
         .region [
           ⟨(some 67), none, .mov (.tmp 7)⟩,
           ⟨(some 68), none, .mov (.tmp 0)⟩,
           ⟨(some 69), none, .mov (.tmp 9)⟩,
           ⟨(some 70), none, .istr (.tmp 68) (.tmp 69)⟩,
           ⟨(some 71), none, .bin .sub (.tmp 70) (.cst (.p (.int .u8 48)))⟩,
           ⟨(some 72), none, .conv (.toInt .u64) (.tmp 71)⟩,
           ⟨(some 73), none, .call 32 [(.tmp 67), (.cst (.p (.int .u64 10))), (.tmp 72)]⟩,
           ⟨(some 7), none, .mov (.tmp 73)⟩]) (
         .seq (
          .region [
            ⟨(some 74), none, .mov (.tmp 9)⟩,
            ⟨(some 75), none, .mov (.tmp 4)⟩,
            ⟨(some 76), none, .bin .gtr (.tmp 74) (.tmp 75)⟩]) (
          .cond (.tmp 76) (
           .region [
             ⟨(some 77), none, .mov (.tmp 8)⟩,
             ⟨(some 78), none, .call 32 [(.tmp 77), (.cst (.p (.int .u64 10))), (.cst (.p (.int .u64 0)))]⟩,
             ⟨(some 8), none, .mov (.tmp 78)⟩]) (
           .skip))))))) (
     .region [
       ⟨(some 51), none, .mov (.tmp 9)⟩,
       ⟨(some 52), none, .bin .add (.tmp 51) (.cst (.p (.int .i64 1)))⟩,
       ⟨(some 9), none, .mov (.tmp 52)⟩]))))
def lf8 : LFunc := ⟨85,[.cell 2 3 true,.slot 3], .seq (.region [⟨some 2,none,.newv 3 24 (.cst (.agg [.p (.bool false),.tight [],.tight []]))⟩,⟨some 3,none,.mov (.cst (.p (.int .i64 0)))⟩]) (.seq (.region [⟨some 10,none,.mov (.tmp 0)⟩,⟨some 11,none,.lenS (.tmp 10)⟩,⟨some 4,none,.mov (.tmp 11)⟩]) (.seq (.seq (.region [⟨some 12,none,.mov (.tmp 0)⟩,⟨some 13,none,.lenS (.tmp 12)⟩,⟨some 14,none,.bin .sub (.tmp 13) (.cst (.p (.int .i64 1)))⟩,⟨some 5,none,.mov (.tmp 14)⟩]) (lf8_B0)) (.seq (.seq (.region [⟨some 24,none,.mov (.tmp 0)⟩,⟨some 25,none,.mov (.tmp 4)⟩,⟨some 26,none,.slStr (.tmp 24) none (some (.tmp 25))⟩,⟨some 27,none,.call 29 [.tmp 26]⟩,⟨some 28,none,.un .not (.tmp 27)⟩]) (.cond (.tmp 28) (.seq (.region [⟨some 29,none,.build (.agg [.p (.bool false),.tight [],.tight []]) []⟩,⟨none,none,.store 3 (.tmp 2) (.tmp 29)⟩,⟨some 3,none,.mov (.cst (.p (.int .i64 2)))⟩]) (.ret)) (.skip))) (.seq (.seq (.region [⟨some 30,none,.mov (.tmp 4)⟩,⟨some 31,none,.mov (.tmp 0)⟩,⟨some 32,none,.lenS (.tmp 31)⟩,⟨some 33,none,.bin .eql (.tmp 30) (.tmp 32)⟩]) (.cond (.tmp 33) (.seq (.region [⟨some 34,none,.mov (.tmp 0)⟩,⟨some 35,none,.call 30 [.tmp 34]⟩,⟨some 36,none,.ext (.tmp 35) 0⟩,⟨some 37,none,.ext (.tmp 35) 1⟩,⟨none,none,.store 3 (.tmp 2) (.tmp 36)⟩,⟨some 3,none,.mov (.tmp 37)⟩]) (.ret)) (.skip))) (.seq (.region [⟨some 38,none,.mov (.tmp 0)⟩,⟨some 39,none,.mov (.tmp 4)⟩,⟨some 40,none,.bin .add (.tmp 39) (.cst (.p (.int .i64 1)))⟩,⟨some 41,none,.slStr (.tmp 38) (some (.tmp 40)) none⟩,⟨some 6,none,.mov (.tmp 41)⟩]) (.seq (.seq (.region [⟨some 42,none,.mov (.tmp 6)⟩,⟨some 43,none,.lenS (.tmp 42)⟩,⟨some 44,none,.bin .eql (.tmp 43) (.cst (.p (.int .i64 0)))⟩]) (.cond (.tmp 44) (.seq (.region [⟨some 45,none,.build (.agg [.p (.bool false),.tight [],.tight []]) []⟩,⟨none,none,.store 3 (.tmp 2) (.tmp 45)⟩,⟨some 3,none,.mov (.cst (.p (.int .i64 2)))⟩]) (.ret)) (.skip))) (.seq (.region [⟨some 7,none,.mov (.cst (.tight []))⟩]) (.seq (.region [⟨some 46,none,.call 31 []⟩,⟨some 8,none,.mov (.tmp
 46)⟩]) (.seq (.seq (.region [⟨some 9,none,.mov (.cst (.p (.int .i64 0)))⟩]) (lf8_B1)) (.seq (.region [⟨some 79,none,.mov (.tmp 7)⟩,⟨some 80,none,.mov (.tmp 8)⟩,⟨some 81,none,.call 34 [.cst (.p (.bool false)),.tmp 79,.tmp 80]⟩,⟨some 82,none,.call 33 [.tmp 81]⟩,⟨some 83,none,.ext (.tmp 82) 0⟩,⟨some 84,none,.ext (.tmp 82) 1⟩,⟨none,none,.store 3 (.tmp 2) (.tmp 83)⟩,⟨some 3,none,.mov (.tmp 84)⟩]) (.ret)))))))))))⟩
theorem low8 : lowFunc Tryz.prog gl0 8 = some lf8 := by kernel_rfl
def lf10_B0 : LCode := .block 2 (
  .loop (
   .block 3 (
    .seq (
     .region [
       ⟨(some 34), none, .mov (.tmp 5)⟩,
       ⟨(some 35), none, .mov (.tmp 8)⟩,
       ⟨(some 36), none, .buildSl 1 40 (.p (.int .u64 0)) 1 [(0, (.tmp 35))]⟩,
       ⟨(some 37), none, .call 42 [(.tmp 34), (.tmp 36)]⟩,
       ⟨(some 33), none, .mov (.tmp 37)⟩,
       ⟨(some 38), none, .ext (.tmp 33) 0⟩,
       ⟨(some 39), none, .ext (.tmp 33) 1⟩,
       ⟨(some 10), none, .mov (.tmp 38)⟩,
       ⟨(some 11), none, .mov (.tmp 39)⟩]) (
     .seq (
      .seq (
       .region [
         ⟨(some 40), none, .mov (.tmp 11)⟩,
         ⟨(some 41), none, .len (.tmp 40)⟩,
         ⟨(some 42), none, .bin .gtr (.tmp 41) (.cst (.p (.int .i64 0)))⟩]) (
       .cond (.tmp 42) (
        .exit 2) (
        .skip))) (
      .seq (
       .region [
         ⟨(some 43), none, .mov (.tmp 10)⟩,
         ⟨(some 5), none, .mov (.tmp 43)⟩]) (
       .region [
         ⟨(some 44), none, .mov (.tmp 9)⟩,
         ⟨(some 45), none, .bin .add (.tmp 44) (.cst (.p (.int .i64 1)))⟩,
         ⟨(some 9), none, .mov (.tmp 45)⟩]))))))
def lf10_B1 : LCode := .block 0 (
  .loop (
   .seq (
    .seq (
     .region [
       ⟨(some 25), none, .mov (.tmp 7)⟩,
       ⟨(some 26), none, .bin .lss (.tmp 25) (.cst (.p (.int .i64 2)))⟩]) (
     .cond (.tmp 26) (
      .skip) (
      .exit 0))) (
    .seq (
     .block 1 (
      .seq (
       .region [
         ⟨(some 29), none, .buildSl 1 40 (.p (.int .u64 0)) 2 [(0, (.cst (.p (.int .u64 2)))), (1, (.cst (.p (.int .u64 5))))]⟩,
         ⟨(some 30), none, .mov (.tmp 7)⟩,
         ⟨(some 31), none, .iadr 1 (.tmp 29) (.tmp 30)⟩,
         ⟨(some 32), none, .load 1 false (.tmp 31)⟩,
         ⟨(some 8), none, .mov (.tmp 32)⟩]) (
       .seq (
        .region [
          ⟨(some 9), none, .mov (.cst (.p (.int .i64 0)))⟩]) (
        .seq (
         lf10_B0) (
         .region [
           ⟨(some 46), none, .mov (.tmp 6)⟩,
           ⟨(some 47), none, .mov (.tmp 9)⟩,
           ⟨(some 48), none, .minmax true (.tmp 46) (.tmp 47)⟩,
           ⟨(some 6), none, .mov (.tmp 48)⟩]))))) (
     .region [
       ⟨(some 27), none, .mov (.tmp 7)⟩,
       ⟨(some 28), none, .bin .add (.tmp 27) (.cst (.p (.int .i64 1)))⟩,
       ⟨(some 7), none, .mov (.tmp 28)⟩]))))
def lf10_B2 : LCode := .block 4 (
  .loop (
   .seq (
    .seq (
     .region [
       ⟨(some 53), none, .mov (.tmp 12)⟩,
       ⟨(some 54), none, .mov (.tmp 6)⟩,
       ⟨(some 55), none, .bin .lss (.tmp 53) (.tmp 54)⟩]) (
     .cond (.tmp 55) (
      .skip) (
      .exit 4))) (
    .seq (
     .block 5 (
      .region [
        ⟨(some 58), none, .mov (.tmp 4)⟩,
        ⟨(some 59), none, .call 32 [(.tmp 58), (.cst (.p (.int .u64 10))), (.cst (.p (.int .u64 0)))]⟩,
        ⟨(some 4), none, .mov (.tmp 59)⟩])) (
     .region [
       ⟨(some 56), none, .mov (.tmp 12)⟩,
       ⟨(some 57), none, .bin .add (.tmp 56) (.cst (.p (.int .i64 1)))⟩,
       ⟨(some 12), none, .mov (.tmp 57)⟩]))))
def lf10_B3 : LCode := .block 6 (
  .loop (
   .seq (
    .seq (
     .region [
       ⟨(some 69), none, .mov (.tmp 13)⟩,
       ⟨(some 70), none, .lenS (.tmp 69)⟩,
       ⟨(some 71), none, .mov (.tmp 6)⟩,
       ⟨(some 72), none, .bin .add (.tmp 71) (.cst (.p (.int .i64 1)))⟩,
       ⟨(some 73), none, .bin .lss (.tmp 70) (.tmp 72)⟩]) (
     .cond (.tmp 73) (
      .skip) (
      .exit 6))) (
    .block 7 (
     .region [
       ⟨(some 74), none, .mov (.tmp 13)⟩,
       ⟨(some 75), none, .bin .add (.cst (.p (.str [48]))) (.tmp 74)⟩,
       ⟨(some 13), none, .mov (.tmp 75)⟩]))))
def lf10 : LFunc := ⟨94,[.slot 2,.slot 3], .seq (.region [⟨some 1,none,.newv 3 24 (.tmp 0)⟩,⟨some 2,none,.mov (.cst (.p (.str [])))⟩,⟨some 3,none,.mov (.cst (.p (.bool false)))⟩]) (.seq (.seq (.region [⟨some 14,none,.load 3 true (.tmp 1)⟩,⟨some 15,none,.call 41 [.tmp 14]⟩,⟨some 16,none,.un .not (.tmp 15)⟩,⟨some 17,none,.mov (.tmp 16)⟩,⟨some 18,some (17,false),.fadr 0 (.tmp 1)⟩,⟨some 19,some (17,false),.load 1 false (.tmp 18)⟩,⟨some 20,none,.pick (.tmp 17) (.cst (.p (.bool true))) (.tmp 19)⟩]) (.cond (.tmp 20) (.seq (.region [⟨some 2,none,.mov (.cst (.p (.str [])))⟩,⟨some 3,none,.mov (.cst (.p (.bool false)))⟩]) (.ret)) (.skip))) (.seq (.regionD [⟨some 21,none,.fadr 1 (.tmp 1)⟩,⟨some 22,none,.load 1 false (.tmp 21)⟩,⟨some 23,none,.fadr 2 (.tmp 1)⟩,⟨some 24,none,.load 1 false (.tmp 23)⟩,⟨some 4,none,.mov (.tmp 22)⟩,⟨some 5,none,.mov (.tmp 24)⟩]) (.seq (.region [⟨some 6,none,.mov (.cst (.p (.int .i64 0)))⟩]) (.seq (.seq (.region [⟨some 7,none,.mov (.cst (.p (.int .i64 0)))⟩]) (lf10_B1)) (.seq (.seq (.region [⟨some 49,none,.mov (.tmp 5)⟩,⟨some 50,none,.call 31 []⟩,⟨some 51,none,.call 43 [.tmp 49,.tmp 50]⟩,⟨some 52,none,.bin .neq (.tmp 51) (.cst (.p (.int .i64 0)))⟩]) (.cond (.tmp 52) (.seq (.region [⟨some 2,none,.mov (.cst (.p (.str [])))⟩,⟨some 3,none,.mov (.cst (.p (.bool false)))⟩]) (.ret)) (.skip))) (.seq (.seq (.region [⟨some 12,none,.mov (.cst (.p (.int .i64 0)))⟩]) (lf10_B2)) (.seq (.region [⟨some 61,none,.mov (.tmp 4)⟩,⟨some 62,none,.fadr 2 (.tmp 1)⟩,⟨some 63,none,.load 1 false (.tmp 62)⟩,⟨some 64,none,.call 42 [.tmp 61,.tmp 63]⟩,⟨some 60,none,.mov (.tmp 64)⟩,⟨some 65,none,.ext (.tmp 60) 0⟩,⟨some 66,none,.ext (.tmp 60) 1⟩,⟨some 4,none,.mov (.tmp 65)⟩]) (.seq (.region [⟨some 67,none,.mov (.tmp 4)⟩,⟨some 68,none,.call 44 [.tmp 67]⟩,⟨some 13,none,.mov (.tmp 68)⟩]) (.seq (lf10_B3) (.seq (.seq (.region [⟨some 76,none,.mov (.tmp 6)⟩,⟨some 77,none,.bin .eql (.tmp 76) (.cst (.p (.int .i64 0)))⟩]) (.cond (.tmp 77) (.seq (.region [⟨some 78,none,.mov (.tmp 13)⟩,⟨some
 79,none,.bin .add (.tmp 78) (.cst (.p (.str [46,48])))⟩,⟨some 2,none,.mov (.tmp 79)⟩,⟨some 3,none,.mov (.cst (.p (.bool true)))⟩]) (.ret)) (.skip))) (.seq (.regionD [⟨some 80,none,.mov (.tmp 13)⟩,⟨some 81,none,.mov (.tmp 13)⟩,⟨some 82,none,.lenS (.tmp 81)⟩,⟨some 83,none,.mov (.tmp 6)⟩,⟨some 84,none,.bin .sub (.tmp 82) (.tmp 83)⟩,⟨some 85,none,.slStr (.tmp 80) none (some (.tmp 84))⟩,⟨some 86,none,.bin .add (.tmp 85) (.cst (.p (.str [46])))⟩,⟨some 87,none,.mov (.tmp 13)⟩,⟨some 88,none,.mov (.tmp 13)⟩,⟨some 89,none,.lenS (.tmp 88)⟩,⟨some 90,none,.mov (.tmp 6)⟩,⟨some 91,none,.bin .sub (.tmp 89) (.tmp 90)⟩,⟨some 92,none,.slStr (.tmp 87) (some (.tmp 91)) none⟩,⟨some 93,none,.bin .add (.tmp 86) (.tmp 92)⟩,⟨some 2,none,.mov (.tmp 93)⟩,⟨some 3,none,.mov (.cst (.p (.bool true)))⟩]) (.ret))))))))))))⟩
theorem low10 : lowFunc Tryz.prog gl0 10 = some lf10 := by kernel_rfl
def lf13 : LFunc := ⟨32,[.slot 2], .seq (.region [⟨some 1,none,.newv 3 24 (.tmp 0)⟩,⟨some 2,none,.mov (.cst (.p (.str [])))⟩]) (.seq (.seq (.region [⟨some 3,none,.load 3 true (.tmp 1)⟩,⟨some 4,none,.call 41 [.tmp 3]⟩,⟨some 5,none,.un .not (.tmp 4)⟩]) (.cond (.tmp 5) (.seq (.region [⟨some 2,none,.mov (.cst (.p (.str [])))⟩]) (.ret)) (.skip))) (.seq (.seq (.region [⟨some 6,none,.fadr 0 (.tmp 1)⟩,⟨some 7,none,.load 1 false (.tmp 6)⟩]) (.cond (.tmp 7) (.seq (.region [⟨some 8,none,.load 3 true (.tmp 1)⟩,⟨some 9,none,.call 47 [.tmp 8]⟩,⟨some 10,none,.call 13 [.tmp 9]⟩,⟨some 11,none,.bin .add (.cst (.p (.str [40,45,32]))) (.tmp 10)⟩,⟨some 12,none,.bin .add (.tmp 11) (.cst (.p (.str [41])))⟩,⟨some 2,none,.mov (.tmp 12)⟩]) (.ret)) (.skip))) (.seq (.seq (.regionD [⟨some 13,none,.fadr 2 (.tmp 1)⟩,⟨some 14,none,.load 1 false (.tmp 13)⟩,⟨some 15,none,.call 31 []⟩,⟨some 16,none,.call 43 [.tmp 14,.tmp 15]⟩,⟨some 17,none,.bin .eql (.tmp 16) (.cst (.p (.int .i64 0)))⟩]) (.cond (.tmp 17) (.seq (.region [⟨some 18,none,.fadr 1 (.tmp 1)⟩,⟨some 19,none,.load 1 false (.tmp 18)⟩,⟨some 20,none,.call 48 [.tmp 19]⟩,⟨some 21,none,.bin .add (.tmp 20) (.cst (.p (.str [46,48])))⟩,⟨some 2,none,.mov (.tmp 21)⟩]) (.ret)) (.skip))) (.seq (.regionD [⟨some 22,none,.fadr 1 (.tmp 1)⟩,⟨some 23,none,.load 1 false (.tmp 22)⟩,⟨some 24,none,.call 48 [.tmp 23]⟩,⟨some 25,none,.bin .add (.cst (.p (.str [40,47,32]))) (.tmp 24)⟩,⟨some 26,none,.bin .add (.tmp 25) (.cst (.p (.str [46,48,32])))⟩,⟨some 27,none,.fadr 2 (.tmp 1)⟩,⟨some 28,none,.load 1 false (.tmp 27)⟩,⟨some 29,none,.call 48 [.tmp 28]⟩,⟨some 30,none,.bin .add (.tmp 26) (.tmp 29)⟩,⟨some 31,none,.bin .add (.tmp 30) (.cst (.p (.str [46,48,41])))⟩,⟨some 2,none,.mov (.tmp 31)⟩]) (.ret)))))⟩
theorem low13 : lowFunc Tryz.prog gl0 13 = some lf13 := by kernel_rfl
def lf29_B0 : LCode := .block 0 (
  .loop (
   .seq (
    .seq (
     .region [
       ⟨(some 4), none, .mov (.tmp 3)⟩,
       ⟨(some 5), none, .mov (.tmp 0)⟩,
       ⟨(some 6), none, .lenS (.tmp 5)⟩,
       ⟨(some 7), none, .bin .lss (.tmp 4) (.tmp 6)⟩]) (
     .cond (.tmp 7) (
      .skip) (
      .exit 0))) (
    .seq (
     .block 1 (
      .seq (
       .region [
         ⟨(some 10), none, .mov (.tmp 0)⟩,
         ⟨(some 11), none, .mov (.tmp 3)⟩,
         ⟨(some 12), none, .istr (.tmp 10) (.tmp 11)⟩,
         ⟨(some 13), none, .bin .lss (.tmp 12) (.cst (.p (.int .u8 48)))⟩,
         ⟨(some 14), none, .mov (.tmp 13)⟩,
         ⟨(some 15), (some (14, false)), .mov (.tmp 0)⟩,
         ⟨(some 16), (some (14, false)), .mov (.tmp 3)⟩,
         ⟨(some 17), (some (14, false)), .istr (.tmp 15) (.tmp 16)⟩,
         ⟨(some 18), (some (14, false)), .bin .gtr (.tmp 17) (.cst (.p (.int .u8 57)))⟩,
         ⟨(some 19), none, .pick (.tmp 14) (.cst (.p (.bool true))) (.tmp 18)⟩]) (
       .cond (.tmp 19) (
        .seq (
         .region [
           ⟨(some 2), none, .mov (.cst (.p (.bool false)))⟩]) (
         .ret)) (
        .skip)))) (
     .region [
       ⟨(some 8), none, .mov (.tmp 3)⟩,
       ⟨(some 9), none, .bin .add (.tmp 8) (.cst (.p (.int .i64 1)))⟩,
       ⟨(some 3), none, .mov (.tmp 9)⟩]))))
def lf29 : LFunc := ⟨32,[.slot 2], .seq (.region [⟨some 2,none,.mov (.cst (.p (.bool false)))⟩]) (.seq (.seq (.region [⟨some 3,none,.mov (.cst (.p (.int .i64 0)))⟩]) (lf29_B0)) (.seq (.region [⟨some 20,none,.mov (.tmp 0)⟩,⟨some 21,none,.bin .eql (.tmp 20) (.cst (.p (.str [48])))⟩,⟨some 22,none,.mov (.tmp 21)⟩,⟨some 23,some (22,false),.mov (.tmp 0)⟩,⟨some 24,some (22,false),.lenS (.tmp 23)⟩,⟨some 25,some (22,false),.bin .gtr (.tmp 24) (.cst (.p (.int .i64 0)))⟩,⟨some 26,some (22,false),.mov (.tmp 25)⟩,⟨some 27,some (26,true),.mov (.tmp 0)⟩,⟨some 28,some (26,true),.istr (.tmp 27) (.cst (.p (.int .i64 0)))⟩,⟨some 29,some (26,true),.bin .neq (.tmp 28) (.cst (.p (.int .u8 48)))⟩,⟨some 30,some (22,false),.pick (.tmp 26) (.tmp 29) (.cst (.p (.bool false)))⟩,⟨some 31,none,.pick (.tmp 22) (.cst (.p (.bool true))) (.tmp 30)⟩,⟨some 2,none,.mov (.tmp 31)⟩]) (.ret)))⟩
theorem low29 : lowFunc Tryz.prog gl0 29 = some lf29 := by kernel_rfl
def lf44_B0 : LCode := .block 0 (
  .loop (
   .seq (
    .seq (
     .region [
       ⟨(some 10), none, .mov (.tmp 0)⟩,
       ⟨(some 11), none, .len (.tmp 10)⟩,
       ⟨(some 12), none, .bin .gtr (.tmp 11) (.cst (.p (.int .i64 0)))⟩]) (
     .cond (.tmp 12) (
      .skip) (
      .exit 0))) (
    .block 1 (
     .seq (
      .region [
        ⟨(some 14), none, .mov (.tmp 0)⟩,
        ⟨(some 15), none, .buildSl 1 40 (.p (.int .u64 0)) 1 [(0, (.cst (.p (.int .u64 10))))]⟩,
        ⟨(some 16), none, .call 42 [(.tmp 14), (.tmp 15)]⟩,
        ⟨(some 13), none, .mov (.tmp 16)⟩,
        ⟨(some 17), none, .ext (.tmp 13) 0⟩,
        ⟨(some 18), none, .ext (.tmp 13) 1⟩,
        ⟨(some 4), none, .mov (.tmp 17)⟩,
        ⟨(some 5), none, .mov (.tmp 18)⟩]) (
      .seq (
       .region [
         ⟨(some 6), none, .mov (.cst (.p (.int .u8 48)))⟩]) (
       .seq (
        .seq (
         .region [
           ⟨(some 19), none, .mov (.tmp 5)⟩,
           ⟨(some 20), none, .len (.tmp 19)⟩,
           ⟨(some 21), none, .bin .gtr (.tmp 20) (.cst (.p (.int .i64 0)))⟩]) (
         .cond (.tmp 21) (
          .region [
            ⟨(some 22), none, .mov (.tmp 6)⟩,
            ⟨(some 23), none, .mov (.tmp 5)⟩,
            ⟨(some 24), none, .iadr 1 (.tmp 23) (.cst (.p (.int .i64 0)))⟩,
            ⟨(some 25), none, .load 1 false (.tmp 24)⟩,
            ⟨(some 26), none, .conv (.toInt .u8) (.tmp 25)⟩,
            ⟨(some 27), none, .bin .add (.tmp 22) (.tmp 26)⟩,
            ⟨(some 6), none, .mov (.tmp 27)⟩]) (
          .skip))) (
        .seq (
         .region [
           ⟨(some 28), none, .mov (.tmp 6)⟩,
           ⟨(some 29), none, .buildSl 1 5 (.p (.int .u8 0)) 1 [(0, (.tmp 28))]⟩,
           ⟨(some 30), none, .conv .b2s (.tmp 29)⟩,
           ⟨(some 31), none, .mov (.tmp 3)⟩,
           ⟨(some 32), none, .bin .add (.tmp 30) (.tmp 31)⟩,
           ⟨(some 3), none, .mov (.tmp 32)⟩]) (
         .region [
           ⟨(some 33), none, .mov (.tmp 4)⟩,
           ⟨(some 0), none, .mov (.tmp 33)⟩]))))))))
def lf44 : LFunc := ⟨35,[.slot 2], .seq (.region [⟨some 2,none,.mov (.cst (.p (.str [])))⟩]) (.seq (.seq (.region [⟨some 7,none,.mov (.tmp 0)⟩,⟨some 8,none,.len (.tmp 7)⟩,⟨some 9,none,.bin .eql (.tmp 8) (.cst (.p (.int .i64 0)))⟩]) (.cond (.tmp 9) (.seq (.region [⟨some 2,none,.mov (.cst (.p (.str [48])))⟩]) (.ret)) (.skip))) (.seq (.region [⟨some 3,none,.mov (.cst (.p (.str [])))⟩]) (.seq (lf44_B0) (.seq (.region [⟨some 34,none,.mov (.tmp 3)⟩,⟨some 2,none,.mov (.tmp 34)⟩]) (.ret)))))⟩
theorem low44 : lowFunc Tryz.prog gl0 44 = some lf44 := by kernel_rfl
def lf30_B0 : LCode := .block 0 (
  .loop (
   .seq (
    .seq (
     .region [
       ⟨(some 12), none, .mov (.tmp 5)⟩,
       ⟨(some 13), none, .mov (.tmp 0)⟩,
       ⟨(some 14), none, .lenS (.tmp 13)⟩,
       ⟨(some 15), none, .bin .lss (.tmp 12) (.tmp 14)⟩]) (
     .cond (.tmp 15) (
      .skip) (
      .exit 0))) (
    .seq (
     .block 1 (
      .seq (
       .region [
         ⟨(some 18), none, .mov (.tmp 0)⟩,
         ⟨(some 19), none, .mov (.tmp 5)⟩,
         ⟨(some 20), none, .istr (.tmp 18) (.tmp 19)⟩,
         ⟨(some 21), none, .bin .eql (.tmp 20) (.cst (.p (.int .u8 47)))⟩,
         ⟨(some 22), none, .mov (.tmp 21)⟩,
         ⟨(some 23), (some (22, true)), .mov (.tmp 4)⟩,
         ⟨(some 24), (some (22, true)), .bin .lss (.tmp 23) (.cst (.p (.int .i64 0)))⟩,
         ⟨(some 25), none, .pick (.tmp 22) (.tmp 24) (.cst (.p (.bool false)))⟩]) (
       .cond (.tmp 25) (
        .region [
          ⟨(some 26), none, .mov (.tmp 5)⟩,
          ⟨(some 4), none, .mov (.tmp 26)⟩]) (
        .skip)))) (
     .region [
       ⟨(some 16), none, .mov (.tmp 5)⟩,
       ⟨(some 17), none, .bin .add (.tmp 16) (.cst (.p (.int .i64 1)))⟩,
       ⟨(some 5), none, .mov (.tmp 17)⟩]))))
def lf30 : LFunc := ⟨86,[.cell 2 3 true,.slot 3], .seq (.region [⟨some 2,none,.newv 3 24 (.cst (.agg [.p (.bool false),.tight [],.tight []]))⟩,⟨some 3,none,.mov (.cst (.p (.int .i64 0)))⟩]) (.seq (.region [⟨some 4,none,.mov (.cst (.p (.int .i64 (-1))))⟩]) (.seq (.seq (.region [⟨some 5,none,.mov (.cst (.p (.int .i64 0)))⟩]) (lf30_B0)) (.seq (.seq (.region [⟨some 27,none,.mov (.tmp 4)⟩,⟨some 28,none,.bin .lss (.tmp 27) (.cst (.p (.int .i64 0)))⟩]) (.cond (.tmp 28) (.seq (.region [⟨some 30,none,.mov (.tmp 0)⟩,⟨some 31,none,.call 70 [.tmp 30]⟩,⟨some 29,none,.mov (.tmp 31)⟩,⟨some 32,none,.ext (.tmp 29) 0⟩,⟨some 33,none,.ext (.tmp 29) 1⟩,⟨some 6,none,.newv 2 45 (.cst (.agg [.p (.bool false),.tight []]))⟩,⟨none,none,.store 2 (.tmp 6) (.tmp 32)⟩,⟨some 7,none,.mov (.tmp 33)⟩]) (.seq (.seq (.region [⟨some 34,none,.mov (.tmp 7)⟩,⟨some 35,none,.bin .neq (.tmp 34) (.cst (.p (.int .i64 0)))⟩]) (.cond (.tmp 35) (.seq (.region [⟨some 36,none,.build (.agg [.p (.bool false),.tight [],.tight []]) []⟩,⟨some 37,none,.mov (.tmp 7)⟩,⟨none,none,.store 3 (.tmp 2) (.tmp 36)⟩,⟨some 3,none,.mov (.tmp 37)⟩]) (.ret)) (.skip))) (.seq (.region [⟨some 38,none,.load 2 true (.tmp 6)⟩,⟨some 39,none,.call 71 [.tmp 38]⟩,⟨none,none,.store 3 (.tmp 2) (.tmp 39)⟩,⟨some 3,none,.mov (.cst (.p (.int .i64 0)))⟩]) (.ret)))) (.skip))) (.seq (.region [⟨some 41,none,.mov (.tmp 0)⟩,⟨some 42,none,.mov (.tmp 4)⟩,⟨some 43,none,.slStr (.tmp 41) none (some (.tmp 42))⟩,⟨some 44,none,.call 70 [.tmp 43]⟩,⟨some 40,none,.mov (.tmp 44)⟩,⟨some 45,none,.ext (.tmp 40) 0⟩,⟨some 46,none,.ext (.tmp 40) 1⟩,⟨some 8,none,.newv 2 45 (.cst (.agg [.p (.bool false),.tight []]))⟩,⟨none,none,.store 2 (.tmp 8) (.tmp 45)⟩,⟨some 9,none,.mov (.tmp 46)⟩]) (.seq (.region [⟨some 48,none,.mov (.tmp 0)⟩,⟨some 49,none,.mov (.tmp 4)⟩,⟨some 50,none,.bin .add (.tmp 49) (.cst (.p (.int .i64 1)))⟩,⟨some 51,none,.slStr (.tmp 48) (some (.tmp 50)) none⟩,⟨some 52,none,.call 72 [.tmp 51]⟩,⟨some 47,none,.mov (.tmp 52)⟩,⟨some 53,none,.ext (.tmp 47) 0⟩,⟨some
 54,none,.ext (.tmp 47) 1⟩,⟨some 10,none,.mov (.tmp 53)⟩,⟨some 11,none,.mov (.tmp 54)⟩]) (.seq (.block 2 (.seq (.region [⟨some 56,none,.mov (.tmp 9)⟩,⟨some 57,none,.bin .eql (.tmp 56) (.cst (.p (.int .i64 2)))⟩,⟨some 58,none,.mov (.tmp 57)⟩,⟨some 59,some (58,false),.mov (.tmp 11)⟩,⟨some 60,some (58,false),.bin .eql (.tmp 59) (.cst (.p (.int .i64 2)))⟩,⟨some 61,none,.pick (.tmp 58) (.cst (.p (.bool true))) (.tmp 60)⟩,⟨some 62,none,.mov (.tmp 61)⟩,⟨some 63,some (62,false),.mov (.tmp 11)⟩,⟨some 64,some (62,false),.bin .eql (.tmp 63) (.cst (.p (.int .i64 0)))⟩,⟨some 65,some (62,false),.mov (.tmp 64)⟩,⟨some 66,some (65,true),.mov (.tmp 10)⟩,⟨some 67,some (65,true),.len (.tmp 66)⟩,⟨some 68,some (65,true),.bin .eql (.tmp 67) (.cst (.p (.int .i64 0)))⟩,⟨some 69,some (62,false),.pick (.tmp 65) (.tmp 68) (.cst (.p (.bool false)))⟩,⟨some 70,none,.pick (.tmp 62) (.cst (.p (.bool true))) (.tmp 69)⟩,⟨some 55,none,.mov (.tmp 70)⟩]) (.cond (.tmp 55) (.seq (.region [⟨some 71,none,.build (.agg [.p (.bool false),.tight [],.tight []]) []⟩,⟨none,none,.store 3 (.tmp 2) (.tmp 71)⟩,⟨some 3,none,.mov (.cst (.p (.int .i64 2)))⟩]) (.ret)) (.seq (.region [⟨some 73,none,.mov (.tmp 9)⟩,⟨some 74,none,.bin .neq (.tmp 73) (.cst (.p (.int .i64 0)))⟩,⟨some 75,none,.mov (.tmp 74)⟩,⟨some 76,some (75,false),.mov (.tmp 11)⟩,⟨some 77,some (75,false),.bin .neq (.tmp 76) (.cst (.p (.int .i64 0)))⟩,⟨some 78,none,.pick (.tmp 75) (.cst (.p (.bool true))) (.tmp 77)⟩,⟨some 72,none,.mov (.tmp 78)⟩]) (.cond (.tmp 72) (.seq (.region [⟨some 79,none,.build (.agg [.p (.bool false),.tight [],.tight []]) []⟩,⟨none,none,.store 3 (.tmp 2) (.tmp 79)⟩,⟨some 3,none,.mov (.cst (.p (.int .i64 4)))⟩]) (.ret)) (.skip)))))) (.seq (.region [⟨some 80,none,.fadr 0 (.tmp 8)⟩,⟨some 81,none,.load 1 false (.tmp 80)⟩,⟨some 82,none,.fadr 1 (.tmp 8)⟩,⟨some 83,none,.load 1 false (.tmp 82)⟩,⟨some 84,none,.mov (.tmp 10)⟩,⟨some 85,none,.call 34 [.tmp 81,.tmp 83,.tmp 84]⟩,⟨none,none,.store 3 (.tmp 2) (.tmp 85)⟩,⟨some 3,none,.mov (.cst (.p (.int
 .i64 0)))⟩]) (.ret))))))))⟩
theorem low30 : lowFunc Tryz.prog gl0 30 = some lf30 := by kernel_rfl
def lf70 : LFunc := ⟨30,[.cell 2 2 true,.slot 3], .seq (.region [⟨some 2,none,.newv 2 45 (.cst (.agg [.p (.bool false),.tight []]))⟩,⟨some 3,none,.mov (.cst (.p (.int .i64 0)))⟩]) (.seq (.region [⟨some 7,none,.mov (.tmp 0)⟩,⟨some 8,none,.lenS (.tmp 7)⟩,⟨some 9,none,.bin .gtr (.tmp 8) (.cst (.p (.int .i64 0)))⟩,⟨some 10,none,.mov (.tmp 9)⟩,⟨some 11,some (10,true),.mov (.tmp 0)⟩,⟨some 12,some (10,true),.istr (.tmp 11) (.cst (.p (.int .i64 0)))⟩,⟨some 13,some (10,true),.bin .eql (.tmp 12) (.cst (.p (.int .u8 45)))⟩,⟨some 14,none,.pick (.tmp 10) (.tmp 13) (.cst (.p (.bool false)))⟩,⟨some 4,none,.mov (.tmp 14)⟩]) (.seq (.seq (.region [⟨some 15,none,.mov (.tmp 4)⟩]) (.cond (.tmp 15) (.region [⟨some 16,none,.mov (.tmp 0)⟩,⟨some 17,none,.slStr (.tmp 16) (some (.cst (.p (.int .i64 1)))) none⟩,⟨some 0,none,.mov (.tmp 17)⟩]) (.skip))) (.seq (.region [⟨some 19,none,.mov (.tmp 0)⟩,⟨some 20,none,.call 72 [.tmp 19]⟩,⟨some 18,none,.mov (.tmp 20)⟩,⟨some 21,none,.ext (.tmp 18) 0⟩,⟨some 22,none,.ext (.tmp 18) 1⟩,⟨some 5,none,.mov (.tmp 21)⟩,⟨some 6,none,.mov (.tmp 22)⟩]) (.seq (.seq (.region [⟨some 23,none,.mov (.tmp 6)⟩,⟨some 24,none,.bin .neq (.tmp 23) (.cst (.p (.int .i64 0)))⟩]) (.cond (.tmp 24) (.seq (.region [⟨some 25,none,.build (.agg [.p (.bool false),.tight []]) []⟩,⟨some 26,none,.mov (.tmp 6)⟩,⟨none,none,.store 2 (.tmp 2) (.tmp 25)⟩,⟨some 3,none,.mov (.tmp 26)⟩]) (.ret)) (.skip))) (.seq (.region [⟨some 27,none,.mov (.tmp 4)⟩,⟨some 28,none,.mov (.tmp 5)⟩,⟨some 29,none,.call 53 [.tmp 27,.tmp 28]⟩,⟨none,none,.store 2 (.tmp 2) (.tmp 29)⟩,⟨some 3,none,.mov (.cst (.p (.int .i64 0)))⟩]) (.ret))))))⟩
theorem low70 : lowFunc Tryz.prog gl0 70 = some lf70 := by kernel_rfl
def lf71 : LFunc := ⟨9,[.cell 2 3 true], .seq (.region [⟨some 1,none,.newv 2 45 (.tmp 0)⟩,⟨some 2,none,.newv 3 24 (.cst (.agg [.p (.bool false),.tight [],.tight []]))⟩]) (.seq (.regionW [(⟨some 3,none,.fadr 0 (.tmp 1)⟩,.s),(⟨some 4,none,.load 1 false (.tmp 3)⟩,.s),(⟨some 5,none,.fadr 1 (.tmp 1)⟩,.s),(⟨some 6,none,.load 1 false (.tmp 5)⟩,.s),(⟨some 7,none,.call 31 []⟩,.s),(⟨some 8,none,.build (.agg [.p (.bool false),.tight [],.tight []]) [(0,1,(.tmp 4)),(1,1,(.tmp 6)),(2,1,(.tmp 7))]⟩,.f),(⟨none,none,.store 3 (.tmp 2) (.tmp 8)⟩,.f)]) (.ret))⟩
theorem low71 : lowFunc Tryz.prog gl0 71 = some lf71 := by kernel_rfl
end Go.Proofs.YtgdpephlpdonnaaGreatDoor
