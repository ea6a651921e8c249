/-
  The lowered code of decimal, law4 and the reference's decimals, each equal to what the program's form lowers to. No conditions.
-/
import Derived.Test.YtgdpephlpdonnaaGreatDoorAbsTwo
import Derived.Test.YtgdpephlpdonnaaGreatDoorProg
import Derived.Test.YtgdpephlpdonnaaGreatDoorNatA
import Derived.KernelRfl
set_option linter.unusedSimpArgs false
set_option linter.unusedVariables false
set_option linter.constructorNameAsVariable false

/-
  The lowered code of the functions, as the program's form has it.
-/
namespace Go.Proofs.YtgdpephlpdonnaaGreatDoor
open Go Go.Abs
def lf7 : LFunc := ⟨46,[.cell 2 3 true,.slot 3], .seq (.region [⟨some 2,none,.newv 3 24 (.cst (.agg [.p (.bool false),.tight [],.tight []]))⟩,⟨some 3,none,.mov (.cst (.p (.int .i64 0)))⟩]) (.seq (.region [⟨some 8,none,.mov (.tmp 0)⟩,⟨some 9,none,.call 22 [.tmp 8,.cst (.p (.str [46]))]⟩,⟨some 7,none,.mov (.tmp 9)⟩,⟨some 10,none,.ext (.tmp 7) 0⟩,⟨some 11,none,.ext (.tmp 7) 1⟩,⟨some 12,none,.ext (.tmp 7) 2⟩,⟨some 4,none,.mov (.tmp 10)⟩,⟨some 5,none,.mov (.tmp 11)⟩,⟨some 6,none,.mov (.tmp 12)⟩]) (.seq (.seq (.region [⟨some 13,none,.mov (.tmp 4)⟩,⟨some 14,none,.call 23 [.tmp 13]⟩,⟨some 15,none,.un .not (.tmp 14)⟩,⟨some 16,none,.mov (.tmp 15)⟩,⟨some 17,some (16,false),.mov (.tmp 6)⟩,⟨some 18,some (16,false),.mov (.tmp 17)⟩,⟨some 19,some (18,true),.mov (.tmp 5)⟩,⟨some 20,some (18,true),.call 24 [.tmp 19]⟩,⟨some 21,some (18,true),.un .not (.tmp 20)⟩,⟨some 22,some (16,false),.pick (.tmp 18) (.tmp 21) (.cst (.p (.bool false)))⟩,⟨some 23,none,.pick (.tmp 16) (.cst (.p (.bool true))) (.tmp 22)⟩]) (.cond (.tmp 23) (.seq (.region [⟨some 24,none,.build (.agg [.p (.bool false),.tight [],.tight []]) []⟩,⟨none,none,.store 3 (.tmp 2) (.tmp 24)⟩,⟨some 3,none,.mov (.cst (.p (.int .i64 2)))⟩]) (.ret)) (.skip))) (.seq (.region [⟨some 25,none,.mov (.tmp 5)⟩,⟨some 26,none,.call 25 [.tmp 25,.cst (.p (.str [48]))]⟩,⟨some 5,none,.mov (.tmp 26)⟩]) (.seq (.seq (.region [⟨some 27,none,.mov (.tmp 5)⟩,⟨some 28,none,.lenS (.tmp 27)⟩,⟨some 29,none,.bin .gtr (.tmp 28) (.cst (.p (.int .i64 4096)))⟩,⟨some 30,none,.mov (.tmp 29)⟩,⟨some 31,some (30,false),.mov (.tmp 4)⟩,⟨some 32,some (30,false),.lenS (.tmp 31)⟩,⟨some 33,some (30,false),.bin .gtr (.tmp 32) (.cst (.p (.int .i64 4096)))⟩,⟨some 34,none,.pick (.tmp 30) (.cst (.p (.bool true))) (.tmp 33)⟩]) (.cond (.tmp 34) (.seq (.region [⟨some 35,none,.build (.agg [.p (.bool false),.tight [],.tight []]) []⟩,⟨none,none,.store 3 (.tmp 2) (.tmp 35)⟩,⟨some 3,none,.mov (.cst (.p (.int .i64 4)))⟩]) (.ret)) (.skip))) (.seq (.region [⟨some 36,none,.mov (.tmp 4)⟩,⟨some
 37,none,.mov (.tmp 5)⟩,⟨some 38,none,.bin .add (.tmp 36) (.tmp 37)⟩,⟨some 39,none,.call 27 [.tmp 38]⟩,⟨some 40,none,.mov (.tmp 5)⟩,⟨some 41,none,.lenS (.tmp 40)⟩,⟨some 42,none,.call 28 [.tmp 41]⟩,⟨some 43,none,.call 26 [.cst (.p (.bool false)),.tmp 39,.tmp 42]⟩,⟨some 44,none,.ext (.tmp 43) 0⟩,⟨some 45,none,.ext (.tmp 43) 1⟩,⟨none,none,.store 3 (.tmp 2) (.tmp 44)⟩,⟨some 3,none,.mov (.tmp 45)⟩]) (.ret))))))⟩
theorem low7 : lowFunc Tryz.prog gl0 7 = some lf7 := by kernel_rfl
def lf9_B0 : LCode := .block 0 (
  .loop (
   .seq (
    .seq (
     .region [
       ⟨(some 36), none, .mov (.tmp 5)⟩,
       ⟨(some 37), none, .len (.tmp 36)⟩,
       ⟨(some 38), none, .bin .gtr (.tmp 37) (.cst (.p (.int .i64 0)))⟩]) (
     .cond (.tmp 38) (
      .skip) (
      .exit 0))) (
    .block 1 (
     .seq (
      .regionD [
        ⟨(some 40), none, .mov (.tmp 5)⟩,
        ⟨(some 41), none, .call 40 [(.cst (.p (.int .i64 10)))]⟩,
        ⟨(some 42), none, .call 39 [(.tmp 40), (.tmp 41)]⟩,
        ⟨(some 43), none, .fadr 2 (.tmp 1)⟩,
        ⟨(some 44), none, .load 1 false (.tmp 43)⟩,
        ⟨(some 45), none, .call 37 [(.tmp 42), (.tmp 44)]⟩,
        ⟨(some 39), none, .mov (.tmp 45)⟩,
        ⟨(some 46), none, .ext (.tmp 39) 0⟩,
        ⟨(some 47), none, .ext (.tmp 39) 1⟩,
        ⟨(some 4), none, .mov (.tmp 46)⟩,
        ⟨(some 5), none, .mov (.tmp 47)⟩]) (
      .region [
        ⟨(some 48), none, .mov (.tmp 6)⟩,
        ⟨(some 49), none, .mov (.tmp 4)⟩,
        ⟨(some 50), none, .call 38 [(.tmp 49)]⟩,
        ⟨(some 51), none, .bin .add (.tmp 48) (.tmp 50)⟩,
        ⟨(some 6), none, .mov (.tmp 51)⟩])))))
def lf9 : LFunc := ⟨53,[.slot 2,.slot 3], .seq (.region [⟨some 1,none,.newv 3 24 (.tmp 0)⟩,⟨some 2,none,.mov (.cst (.p (.str [])))⟩,⟨some 3,none,.mov (.cst (.p (.bool false)))⟩]) (.seq (.seq (.region [⟨some 7,none,.load 3 true (.tmp 1)⟩,⟨some 8,none,.call 35 [.tmp 7]⟩,⟨some 9,none,.un .not (.tmp 8)⟩,⟨some 10,none,.mov (.tmp 9)⟩,⟨some 11,some (10,false),.fadr 0 (.tmp 1)⟩,⟨some 12,some (10,false),.load 1 false (.tmp 11)⟩,⟨some 13,none,.pick (.tmp 10) (.cst (.p (.bool true))) (.tmp 12)⟩,⟨some 14,none,.mov (.tmp 13)⟩,⟨some 15,some (14,false),.fadr 2 (.tmp 1)⟩,⟨some 16,some (14,false),.load 1 false (.tmp 15)⟩,⟨some 17,some (14,false),.call 36 [.tmp 16]⟩,⟨some 18,some (14,false),.un .not (.tmp 17)⟩,⟨some 19,none,.pick (.tmp 14) (.cst (.p (.bool true))) (.tmp 18)⟩]) (.cond (.tmp 19) (.seq (.region [⟨some 2,none,.mov (.cst (.p (.str [])))⟩,⟨some 3,none,.mov (.cst (.p (.bool false)))⟩]) (.ret)) (.skip))) (.seq (.region [⟨some 21,none,.fadr 1 (.tmp 1)⟩,⟨some 22,none,.load 1 false (.tmp 21)⟩,⟨some 23,none,.fadr 2 (.tmp 1)⟩,⟨some 24,none,.load 1 false (.tmp 23)⟩,⟨some 25,none,.call 37 [.tmp 22,.tmp 24]⟩,⟨some 20,none,.mov (.tmp 25)⟩,⟨some 26,none,.ext (.tmp 20) 0⟩,⟨some 27,none,.ext (.tmp 20) 1⟩,⟨some 4,none,.mov (.tmp 26)⟩,⟨some 5,none,.mov (.tmp 27)⟩]) (.seq (.region [⟨some 28,none,.mov (.tmp 4)⟩,⟨some 29,none,.call 38 [.tmp 28]⟩,⟨some 30,none,.bin .add (.tmp 29) (.cst (.p (.str [46])))⟩,⟨some 6,none,.mov (.tmp 30)⟩]) (.seq (.seq (.region [⟨some 31,none,.mov (.tmp 5)⟩,⟨some 32,none,.len (.tmp 31)⟩,⟨some 33,none,.bin .eql (.tmp 32) (.cst (.p (.int .i64 0)))⟩]) (.cond (.tmp 33) (.seq (.region [⟨some 34,none,.mov (.tmp 6)⟩,⟨some 35,none,.bin .add (.tmp 34) (.cst (.p (.str [48])))⟩,⟨some 2,none,.mov (.tmp 35)⟩,⟨some 3,none,.mov (.cst (.p (.bool true)))⟩]) (.ret)) (.skip))) (.seq (lf9_B0) (.seq (.region [⟨some 52,none,.mov (.tmp 6)⟩,⟨some 2,none,.mov (.tmp 52)⟩,⟨some 3,none,.mov (.cst (.p (.bool true)))⟩]) (.ret)))))))⟩
theorem low9 : lowFunc Tryz.prog gl0 9 = some lf9 := by kernel_rfl
def lf12 : LFunc := ⟨35,[.slot 2], .seq (.region [⟨some 1,none,.newv 3 24 (.tmp 0)⟩,⟨some 2,none,.mov (.cst (.p (.str [])))⟩]) (.seq (.block 0 (.seq (.region [⟨some 4,none,.load 3 true (.tmp 1)⟩,⟨some 5,none,.call 35 [.tmp 4]⟩,⟨some 6,none,.un .not (.tmp 5)⟩,⟨some 3,none,.mov (.tmp 6)⟩]) (.cond (.tmp 3) (.seq (.region [⟨some 2,none,.mov (.cst (.p (.str [])))⟩]) (.ret)) (.seq (.region [⟨some 8,none,.fadr 0 (.tmp 1)⟩,⟨some 9,none,.load 1 false (.tmp 8)⟩,⟨some 7,none,.mov (.tmp 9)⟩]) (.cond (.tmp 7) (.seq (.region [⟨some 10,none,.load 3 true (.tmp 1)⟩,⟨some 11,none,.call 45 [.tmp 10]⟩,⟨some 12,none,.call 12 [.tmp 11]⟩,⟨some 13,none,.bin .add (.cst (.p (.str [40,45,32]))) (.tmp 12)⟩,⟨some 14,none,.bin .add (.tmp 13) (.cst (.p (.str [41])))⟩,⟨some 2,none,.mov (.tmp 14)⟩]) (.ret)) (.seq (.regionD [⟨some 16,none,.fadr 2 (.tmp 1)⟩,⟨some 17,none,.load 1 false (.tmp 16)⟩,⟨some 18,none,.call 40 [.cst (.p (.int .i64 1))]⟩,⟨some 19,none,.call 46 [.tmp 17,.tmp 18]⟩,⟨some 20,none,.bin .eql (.tmp 19) (.cst (.p (.int .i64 0)))⟩,⟨some 15,none,.mov (.tmp 20)⟩]) (.cond (.tmp 15) (.seq (.region [⟨some 21,none,.fadr 1 (.tmp 1)⟩,⟨some 22,none,.load 1 false (.tmp 21)⟩,⟨some 23,none,.call 38 [.tmp 22]⟩,⟨some 24,none,.bin .add (.tmp 23) (.cst (.p (.str [46,48])))⟩,⟨some 2,none,.mov (.tmp 24)⟩]) (.ret)) (.skip)))))))) (.seq (.regionD [⟨some 25,none,.fadr 1 (.tmp 1)⟩,⟨some 26,none,.load 1 false (.tmp 25)⟩,⟨some 27,none,.call 38 [.tmp 26]⟩,⟨some 28,none,.bin .add (.cst (.p (.str [40,47,32]))) (.tmp 27)⟩,⟨some 29,none,.bin .add (.tmp 28) (.cst (.p (.str [46,48,32])))⟩,⟨some 30,none,.fadr 2 (.tmp 1)⟩,⟨some 31,none,.load 1 false (.tmp 30)⟩,⟨some 32,none,.call 38 [.tmp 31]⟩,⟨some 33,none,.bin .add (.tmp 29) (.tmp 32)⟩,⟨some 34,none,.bin .add (.tmp 33) (.cst (.p (.str [46,48,41])))⟩,⟨some 2,none,.mov (.tmp 34)⟩]) (.ret)))⟩
theorem low12 : lowFunc Tryz.prog gl0 12 = some lf12 := by kernel_rfl
def lf23 : LFunc := ⟨14,[.slot 2], .seq (.region [⟨some 2,none,.mov (.cst (.p (.bool false)))⟩]) (.seq (.region [⟨some 3,none,.mov (.tmp 0)⟩,⟨some 4,none,.call 24 [.tmp 3]⟩,⟨some 5,none,.mov (.tmp 4)⟩,⟨some 6,some (5,true),.mov (.tmp 0)⟩,⟨some 7,some (5,true),.bin .eql (.tmp 6) (.cst (.p (.str [48])))⟩,⟨some 8,some (5,true),.mov (.tmp 7)⟩,⟨some 9,some (8,false),.mov (.tmp 0)⟩,⟨some 10,some (8,false),.istr (.tmp 9) (.cst (.p (.int .i64 0)))⟩,⟨some 11,some (8,false),.bin .neq (.tmp 10) (.cst (.p (.int .u8 48)))⟩,⟨some 12,some (5,true),.pick (.tmp 8) (.cst (.p (.bool true))) (.tmp 11)⟩,⟨some 13,none,.pick (.tmp 5) (.tmp 12) (.cst (.p (.bool false)))⟩,⟨some 2,none,.mov (.tmp 13)⟩]) (.ret))⟩
theorem low23 : lowFunc Tryz.prog gl0 23 = some lf23 := by kernel_rfl
def lf28 : LFunc := ⟨7,[.slot 2], .seq (.region [⟨some 2,none,.mov (.cst (.tight []))⟩]) (.seq (.region [⟨some 3,none,.mov (.tmp 0)⟩,⟨some 4,none,.call 69 [.cst (.p (.str [48])),.tmp 3]⟩,⟨some 5,none,.bin .add (.cst (.p (.str [49]))) (.tmp 4)⟩,⟨some 6,none,.call 27 [.tmp 5]⟩,⟨some 2,none,.mov (.tmp 6)⟩]) (.ret))⟩
theorem low28 : lowFunc Tryz.prog gl0 28 = some lf28 := by kernel_rfl
def lf36_B0 : LCode := .block 2 (
  .loop (
   .block 3 (
    .seq (
     .region [
       ⟨(some 14), none, .mov (.tmp 0)⟩,
       ⟨(some 15), none, .mov (.tmp 4)⟩,
       ⟨(some 16), none, .call 40 [(.tmp 15)]⟩,
       ⟨(some 17), none, .call 37 [(.tmp 14), (.tmp 16)]⟩,
       ⟨(some 13), none, .mov (.tmp 17)⟩,
       ⟨(some 18), none, .ext (.tmp 13) 0⟩,
       ⟨(some 19), none, .ext (.tmp 13) 1⟩,
       ⟨(some 5), none, .mov (.tmp 18)⟩,
       ⟨(some 6), none, .mov (.tmp 19)⟩]) (
     .seq (
      .seq (
       .region [
         ⟨(some 20), none, .mov (.tmp 6)⟩,
         ⟨(some 21), none, .len (.tmp 20)⟩,
         ⟨(some 22), none, .bin .gtr (.tmp 21) (.cst (.p (.int .i64 0)))⟩]) (
       .cond (.tmp 22) (
        .exit 2) (
        .skip))) (
      .region [
        ⟨(some 23), none, .mov (.tmp 5)⟩,
        ⟨(some 0), none, .mov (.tmp 23)⟩])))))
def lf36_B1 : LCode := .block 0 (
  .loop (
   .seq (
    .region [
      ⟨(some 10), none, .bin .lss (.tmp 9) (.tmp 8)⟩]) (
    .seq (
     .cond (.tmp 10) (
      .skip) (
      .exit 0)) (
     .seq (
      .block 1 (
       .seq (
        .region [
          ⟨(some 11), none, .iadr 1 (.tmp 7) (.tmp 9)⟩,
          ⟨(some 12), none, .load 1 false (.tmp 11)⟩,
          ⟨(some 4), none, .mov (.tmp 12)⟩]) (
        lf36_B0))) (
      .region [
        ⟨(some 24), none, .bin .add (.tmp 9) (.cst (.p (.int .i64 1)))⟩,
        ⟨(some 9), none, .mov (.tmp 24)⟩])))))
def lf36 : LFunc := ⟨29,[.slot 2], .seq (.region [⟨some 2,none,.mov (.cst (.p (.bool false)))⟩]) (.seq (.seq (.region [⟨some 7,none,.buildSl 1 3 (.p (.int .i64 0)) 2 [(0,(.cst (.p (.int .i64 2)))),(1,(.cst (.p (.int .i64 5))))]⟩,⟨some 8,none,.len (.tmp 7)⟩,⟨some 9,none,.mov (.cst (.p (.int .i64 0)))⟩]) (lf36_B1)) (.seq (.region [⟨some 25,none,.mov (.tmp 0)⟩,⟨some 26,none,.call 40 [.cst (.p (.int .i64 1))]⟩,⟨some 27,none,.call 46 [.tmp 25,.tmp 26]⟩,⟨some 28,none,.bin .eql (.tmp 27) (.cst (.p (.int .i64 0)))⟩,⟨some 2,none,.mov (.tmp 28)⟩]) (.ret)))⟩
theorem low36 : lowFunc Tryz.prog gl0 36 = some lf36 := by kernel_rfl
end Go.Proofs.YtgdpephlpdonnaaGreatDoor

/-
  The lowered code of the functions, as the program's form has it.
-/
namespace Go.Proofs.YtgdpephlpdonnaaGreatDoor
open Go Go.Abs
def lf5_B0 : LCode := .block 0 (
  .loop (
   .seq (
    .seq (
     .region [
       ⟨(some 27), none, .mov (.tmp 7)⟩,
       ⟨(some 28), none, .mov (.tmp 1)⟩,
       ⟨(some 29), none, .lenS (.tmp 28)⟩,
       ⟨(some 30), none, .bin .lss (.tmp 27) (.tmp 29)⟩]) (
     .cond (.tmp 30) (
      .skip) (
      .exit 0))) (
    .seq (
     .block 1 (
      .seq (
       .region [
         ⟨(some 33), none, .mov (.tmp 1)⟩,
         ⟨(some 34), none, .mov (.tmp 7)⟩,
         ⟨(some 35), none, .istr (.tmp 33) (.tmp 34)⟩,
         ⟨(some 36), none, .bin .lss (.tmp 35) (.cst (.p (.int .u8 48)))⟩,
         ⟨(some 37), none, .mov (.tmp 36)⟩,
         ⟨(some 38), (some (37, false)), .mov (.tmp 1)⟩,
         ⟨(some 39), (some (37, false)), .mov (.tmp 7)⟩,
         ⟨(some 40), (some (37, false)), .istr (.tmp 38) (.tmp 39)⟩,
         ⟨(some 41), (some (37, false)), .bin .gtr (.tmp 40) (.cst (.p (.int .u8 57)))⟩,
         ⟨(some 42), none, .pick (.tmp 37) (.cst (.p (.bool true))) (.tmp 41)⟩]) (
       .cond (.tmp 42) (
        .seq (
         .region [
           ⟨(some 43), none, .call 6 []⟩,
           ⟨(some 6), none, .mov (.tmp 43)⟩]) (
         .ret)) (
        .skip)))) (
     .region [
       ⟨(some 31), none, .mov (.tmp 7)⟩,
       ⟨(some 32), none, .bin .add (.tmp 31) (.cst (.p (.int .i64 1)))⟩,
       ⟨(some 7), none, .mov (.tmp 32)⟩]))))
def lf5 : LFunc := ⟨120,[.slot 6], .seq (.region [⟨some 6,none,.mov (.cst (.p (.bool false)))⟩]) (.seq (.seq (.region [⟨some 14,none,.mov (.tmp 0)⟩,⟨some 15,none,.bin .lss (.tmp 14) (.cst (.p (.int .i64 0)))⟩,⟨some 16,none,.mov (.tmp 15)⟩,⟨some 17,some (16,false),.mov (.tmp 1)⟩,⟨some 18,some (16,false),.lenS (.tmp 17)⟩,⟨some 19,some (16,false),.bin .lss (.tmp 18) (.cst (.p (.int .i64 1)))⟩,⟨some 20,none,.pick (.tmp 16) (.cst (.p (.bool true))) (.tmp 19)⟩,⟨some 21,none,.mov (.tmp 20)⟩,⟨some 22,some (21,false),.mov (.tmp 1)⟩,⟨some 23,some (21,false),.lenS (.tmp 22)⟩,⟨some 24,some (21,false),.bin .gtr (.tmp 23) (.cst (.p (.int .i64 30)))⟩,⟨some 25,none,.pick (.tmp 21) (.cst (.p (.bool true))) (.tmp 24)⟩]) (.cond (.tmp 25) (.seq (.region [⟨some 26,none,.call 6 []⟩,⟨some 6,none,.mov (.tmp 26)⟩]) (.ret)) (.skip))) (.seq (.seq (.region [⟨some 7,none,.mov (.cst (.p (.int .i64 0)))⟩]) (lf5_B0)) (.seq (.region [⟨some 44,none,.mov (.tmp 0)⟩,⟨some 45,none,.call 19 [.tmp 44]⟩,⟨some 46,none,.call 18 [.tmp 45]⟩,⟨some 8,none,.mov (.tmp 46)⟩]) (.seq (.region [⟨some 47,none,.mov (.tmp 8)⟩,⟨some 48,none,.mov (.tmp 8)⟩,⟨some 49,none,.bin .add (.tmp 48) (.cst (.p (.str [46])))⟩,⟨some 50,none,.mov (.tmp 1)⟩,⟨some 51,none,.bin .add (.tmp 49) (.tmp 50)⟩,⟨some 52,none,.mov (.tmp 8)⟩,⟨some 53,none,.bin .add (.cst (.p (.str [48]))) (.tmp 52)⟩,⟨some 54,none,.mov (.tmp 8)⟩,⟨some 55,none,.bin .add (.tmp 54) (.cst (.p (.str [46])))⟩,⟨some 56,none,.mov (.tmp 1)⟩,⟨some 57,none,.bin .add (.cst (.p (.str [46]))) (.tmp 56)⟩,⟨some 58,none,.mov (.tmp 8)⟩,⟨some 59,none,.bin .add (.cst (.p (.str [45]))) (.tmp 58)⟩,⟨some 60,none,.mov (.tmp 8)⟩,⟨some 61,none,.bin .add (.tmp 60) (.cst (.p (.str [46])))⟩,⟨some 62,none,.mov (.tmp 1)⟩,⟨some 63,none,.bin .add (.tmp 61) (.tmp 62)⟩,⟨some 64,none,.bin .add (.tmp 63) (.cst (.p (.str [46,49])))⟩,⟨some 65,none,.mov (.tmp 8)⟩,⟨some 66,none,.bin .add (.tmp 65) (.cst (.p (.str [101,49])))⟩,⟨some 67,none,.mov (.tmp 8)⟩,⟨some 68,none,.bin .add (.cst (.p (.str [43]))) (.tmp
 67)⟩,⟨some 69,none,.mov (.tmp 8)⟩,⟨some 70,none,.bin .add (.cst (.p (.str [32]))) (.tmp 69)⟩,⟨some 71,none,.buildSl 1 9 (.p (.str [])) 11 [(0,(.tmp 47)),(1,(.tmp 51)),(2,(.tmp 53)),(3,(.tmp 55)),(4,(.tmp 57)),(5,(.tmp 59)),(6,(.tmp 64)),(7,(.tmp 66)),(8,(.tmp 68)),(9,(.tmp 70)),(10,(.cst (.p (.str []))))]⟩,⟨some 9,none,.mov (.tmp 71)⟩]) (.seq (.region [⟨some 72,none,.mov (.tmp 2)⟩,⟨some 73,none,.bin .rem (.tmp 72) (.cst (.p (.int .i64 11)))⟩,⟨some 74,none,.bin .add (.tmp 73) (.cst (.p (.int .i64 11)))⟩,⟨some 75,none,.bin .rem (.tmp 74) (.cst (.p (.int .i64 11)))⟩,⟨some 10,none,.mov (.tmp 75)⟩]) (.seq (.region [⟨some 77,none,.mov (.tmp 9)⟩,⟨some 78,none,.mov (.tmp 10)⟩,⟨some 79,none,.iadr 1 (.tmp 77) (.tmp 78)⟩,⟨some 80,none,.load 1 false (.tmp 79)⟩,⟨some 81,none,.call 7 [.tmp 80]⟩,⟨some 76,none,.mov (.tmp 81)⟩,⟨some 82,none,.ext (.tmp 76) 0⟩,⟨some 83,none,.ext (.tmp 76) 1⟩,⟨some 11,none,.newv 3 24 (.cst (.agg [.p (.bool false),.tight [],.tight []]))⟩,⟨none,none,.store 3 (.tmp 11) (.tmp 82)⟩,⟨some 12,none,.mov (.tmp 83)⟩]) (.seq (.seq (.region [⟨some 84,none,.mov (.tmp 10)⟩,⟨some 85,none,.bin .gtr (.tmp 84) (.cst (.p (.int .i64 1)))⟩]) (.cond (.tmp 85) (.seq (.region [⟨some 86,none,.mov (.tmp 12)⟩,⟨some 87,none,.bin .eql (.tmp 86) (.cst (.p (.int .i64 2)))⟩,⟨some 88,none,.mov (.tmp 87)⟩,⟨some 89,some (88,true),.fadr 2 (.tmp 11)⟩,⟨some 90,some (88,true),.load 1 false (.tmp 89)⟩,⟨some 91,some (88,true),.len (.tmp 90)⟩,⟨some 92,some (88,true),.bin .eql (.tmp 91) (.cst (.p (.int .i64 0)))⟩,⟨some 93,none,.pick (.tmp 88) (.tmp 92) (.cst (.p (.bool false)))⟩,⟨some 94,none,.mov (.tmp 93)⟩,⟨some 95,some (94,true),.call 6 []⟩,⟨some 96,none,.pick (.tmp 94) (.tmp 95) (.cst (.p (.bool false)))⟩,⟨some 6,none,.mov (.tmp 96)⟩]) (.ret)) (.skip))) (.seq (.region [⟨some 97,none,.load 3 true (.tmp 11)⟩,⟨some 98,none,.call 20 [.tmp 97]⟩,⟨some 13,none,.newv 2 45 (.cst (.agg [.p (.bool false),.tight []]))⟩,⟨none,none,.store 2 (.tmp 13) (.tmp 98)⟩]) (.seq (.regionD [⟨some 99,none,.mov (.tmp
 12)⟩,⟨some 100,none,.bin .eql (.tmp 99) (.cst (.p (.int .i64 0)))⟩,⟨some 101,none,.mov (.tmp 100)⟩,⟨some 102,some (101,true),.load 2 true (.tmp 13)⟩,⟨some 103,some (101,true),.mov (.tmp 0)⟩,⟨some 104,some (101,true),.call 19 [.tmp 103]⟩,⟨some 105,some (101,true),.call 21 [.tmp 102,.tmp 104]⟩,⟨some 106,none,.pick (.tmp 101) (.tmp 105) (.cst (.p (.bool false)))⟩,⟨some 107,none,.mov (.tmp 106)⟩,⟨some 108,some (107,true),.mov (.tmp 10)⟩,⟨some 109,some (107,true),.bin .eql (.tmp 108) (.cst (.p (.int .i64 1)))⟩,⟨some 110,some (107,true),.mov (.tmp 109)⟩,⟨some 111,some (110,false),.load 3 true (.tmp 11)⟩,⟨some 112,some (110,false),.mov (.tmp 0)⟩,⟨some 113,some (110,false),.call 14 [.tmp 112,.cst (.p (.int .i64 1))]⟩,⟨some 114,some (110,false),.call 11 [.tmp 111,.tmp 113]⟩,⟨some 115,some (107,true),.pick (.tmp 110) (.cst (.p (.bool true))) (.tmp 114)⟩,⟨some 116,none,.pick (.tmp 107) (.tmp 115) (.cst (.p (.bool false)))⟩,⟨some 117,none,.mov (.tmp 116)⟩,⟨some 118,some (117,true),.call 6 []⟩,⟨some 119,none,.pick (.tmp 117) (.tmp 118) (.cst (.p (.bool false)))⟩,⟨some 6,none,.mov (.tmp 119)⟩]) (.ret))))))))))⟩
theorem low5 : lowFunc Tryz.prog gl0 5 = some lf5 := by kernel_rfl
def lf6 : LFunc := ⟨69,[.slot 0], .seq (.region [⟨some 0,none,.mov (.cst (.p (.bool false)))⟩]) (.seq (.region [⟨some 12,none,.call 7 [.cst (.p (.str [48,46,49,50,53]))]⟩,⟨some 11,none,.mov (.tmp 12)⟩,⟨some 13,none,.ext (.tmp 11) 0⟩,⟨some 14,none,.ext (.tmp 11) 1⟩,⟨some 1,none,.newv 3 24 (.cst (.agg [.p (.bool false),.tight [],.tight []]))⟩,⟨none,none,.store 3 (.tmp 1) (.tmp 13)⟩,⟨some 2,none,.mov (.tmp 14)⟩]) (.seq (.region [⟨some 16,none,.call 7 [.cst (.p (.str [48,49]))]⟩,⟨some 15,none,.mov (.tmp 16)⟩,⟨some 17,none,.ext (.tmp 15) 0⟩,⟨some 18,none,.ext (.tmp 15) 1⟩,⟨some 3,none,.newv 3 24 (.cst (.agg [.p (.bool false),.tight [],.tight []]))⟩,⟨none,none,.store 3 (.tmp 3) (.tmp 17)⟩,⟨some 4,none,.mov (.tmp 18)⟩]) (.seq (.region [⟨some 20,none,.call 7 [.cst (.p (.str [49,46]))]⟩,⟨some 19,none,.mov (.tmp 20)⟩,⟨some 21,none,.ext (.tmp 19) 0⟩,⟨some 22,none,.ext (.tmp 19) 1⟩,⟨some 5,none,.newv 3 24 (.cst (.agg [.p (.bool false),.tight [],.tight []]))⟩,⟨none,none,.store 3 (.tmp 5) (.tmp 21)⟩,⟨some 6,none,.mov (.tmp 22)⟩]) (.seq (.region [⟨some 24,none,.call 14 [.cst (.p (.int .i64 1)),.cst (.p (.int .i64 8))]⟩,⟨some 25,none,.call 9 [.tmp 24]⟩,⟨some 23,none,.mov (.tmp 25)⟩,⟨some 26,none,.ext (.tmp 23) 0⟩,⟨some 27,none,.ext (.tmp 23) 1⟩,⟨some 7,none,.mov (.tmp 26)⟩,⟨some 8,none,.mov (.tmp 27)⟩]) (.seq (.region [⟨some 29,none,.call 14 [.cst (.p (.int .i64 1)),.cst (.p (.int .i64 3))]⟩,⟨some 30,none,.call 9 [.tmp 29]⟩,⟨some 28,none,.mov (.tmp 30)⟩,⟨some 31,none,.ext (.tmp 28) 0⟩,⟨some 32,none,.ext (.tmp 28) 1⟩,⟨some 9,none,.mov (.tmp 31)⟩,⟨some 10,none,.mov (.tmp 32)⟩]) (.seq (.regionD [⟨some 33,none,.mov (.tmp 2)⟩,⟨some 34,none,.bin .eql (.tmp 33) (.cst (.p (.int .i64 0)))⟩,⟨some 35,none,.mov (.tmp 34)⟩,⟨some 36,some (35,true),.load 3 true (.tmp 1)⟩,⟨some 37,some (35,true),.call 14 [.cst (.p (.int .i64 1)),.cst (.p (.int .i64 8))]⟩,⟨some 38,some (35,true),.call 11 [.tmp 36,.tmp 37]⟩,⟨some 39,none,.pick (.tmp 35) (.tmp 38) (.cst (.p (.bool false)))⟩,⟨some 40,none,.mov (.tmp
 39)⟩,⟨some 41,some (40,true),.mov (.tmp 4)⟩,⟨some 42,some (40,true),.bin .eql (.tmp 41) (.cst (.p (.int .i64 2)))⟩,⟨some 43,none,.pick (.tmp 40) (.tmp 42) (.cst (.p (.bool false)))⟩,⟨some 44,none,.mov (.tmp 43)⟩,⟨some 45,some (44,true),.mov (.tmp 6)⟩,⟨some 46,some (44,true),.bin .eql (.tmp 45) (.cst (.p (.int .i64 2)))⟩,⟨some 47,none,.pick (.tmp 44) (.tmp 46) (.cst (.p (.bool false)))⟩,⟨some 48,none,.mov (.tmp 47)⟩,⟨some 49,some (48,true),.mov (.tmp 8)⟩,⟨some 50,none,.pick (.tmp 48) (.tmp 49) (.cst (.p (.bool false)))⟩,⟨some 51,none,.mov (.tmp 50)⟩,⟨some 52,some (51,true),.mov (.tmp 7)⟩,⟨some 53,some (51,true),.bin .eql (.tmp 52) (.cst (.p (.str [48,46,49,50,53])))⟩,⟨some 54,none,.pick (.tmp 51) (.tmp 53) (.cst (.p (.bool false)))⟩,⟨some 55,none,.mov (.tmp 54)⟩,⟨some 56,some (55,true),.mov (.tmp 10)⟩,⟨some 57,some (55,true),.un .not (.tmp 56)⟩,⟨some 58,none,.pick (.tmp 55) (.tmp 57) (.cst (.p (.bool false)))⟩,⟨some 59,none,.mov (.tmp 58)⟩,⟨some 60,some (59,true),.call 14 [.cst (.p (.int .i64 (-1))),.cst (.p (.int .i64 3))]⟩,⟨some 61,some (59,true),.call 12 [.tmp 60]⟩,⟨some 62,some (59,true),.bin .eql (.tmp 61) (.cst (.p (.str [40,45,32,40,47,32,49,46,48,32,51,46,48,41,41])))⟩,⟨some 63,none,.pick (.tmp 59) (.tmp 62) (.cst (.p (.bool false)))⟩,⟨some 64,none,.mov (.tmp 63)⟩,⟨some 65,some (64,true),.call 14 [.cst (.p (.int .i64 5)),.cst (.p (.int .i64 1))]⟩,⟨some 66,some (64,true),.call 12 [.tmp 65]⟩,⟨some 67,some (64,true),.bin .eql (.tmp 66) (.cst (.p (.str [53,46,48])))⟩,⟨some 68,none,.pick (.tmp 64) (.tmp 67) (.cst (.p (.bool false)))⟩,⟨some 0,none,.mov (.tmp 68)⟩]) (.ret)))))))⟩
theorem low6 : lowFunc Tryz.prog gl0 6 = some lf6 := by kernel_rfl
def lf20 : LFunc := ⟨31,[.cell 2 2 true], .seq (.region [⟨some 1,none,.newv 3 24 (.tmp 0)⟩,⟨some 2,none,.newv 2 45 (.cst (.agg [.p (.bool false),.tight []]))⟩]) (.seq (.seq (.region [⟨some 5,none,.load 3 true (.tmp 1)⟩,⟨some 6,none,.call 41 [.tmp 5]⟩,⟨some 7,none,.un .not (.tmp 6)⟩]) (.cond (.tmp 7) (.seq (.region [⟨some 8,none,.build (.agg [.p (.bool false),.tight []]) []⟩,⟨none,none,.store 2 (.tmp 2) (.tmp 8)⟩]) (.ret)) (.skip))) (.seq (.region [⟨some 10,none,.fadr 1 (.tmp 1)⟩,⟨some 11,none,.load 1 false (.tmp 10)⟩,⟨some 12,none,.fadr 2 (.tmp 1)⟩,⟨some 13,none,.load 1 false (.tmp 12)⟩,⟨some 14,none,.call 42 [.tmp 11,.tmp 13]⟩,⟨some 9,none,.mov (.tmp 14)⟩,⟨some 15,none,.ext (.tmp 9) 0⟩,⟨some 16,none,.ext (.tmp 9) 1⟩,⟨some 3,none,.mov (.tmp 15)⟩,⟨some 4,none,.mov (.tmp 16)⟩]) (.seq (.seq (.region [⟨some 17,none,.fadr 0 (.tmp 1)⟩,⟨some 18,none,.load 1 false (.tmp 17)⟩,⟨some 19,none,.mov (.tmp 18)⟩,⟨some 20,some (19,true),.mov (.tmp 4)⟩,⟨some 21,some (19,true),.len (.tmp 20)⟩,⟨some 22,some (19,true),.bin .gtr (.tmp 21) (.cst (.p (.int .i64 0)))⟩,⟨some 23,none,.pick (.tmp 19) (.tmp 22) (.cst (.p (.bool false)))⟩]) (.cond (.tmp 23) (.region [⟨some 24,none,.mov (.tmp 3)⟩,⟨some 25,none,.call 31 []⟩,⟨some 26,none,.call 55 [.tmp 24,.tmp 25]⟩,⟨some 3,none,.mov (.tmp 26)⟩]) (.skip))) (.seq (.region [⟨some 27,none,.fadr 0 (.tmp 1)⟩,⟨some 28,none,.load 1 false (.tmp 27)⟩,⟨some 29,none,.mov (.tmp 3)⟩,⟨some 30,none,.call 53 [.tmp 28,.tmp 29]⟩,⟨none,none,.store 2 (.tmp 2) (.tmp 30)⟩]) (.ret)))))⟩
theorem low20 : lowFunc Tryz.prog gl0 20 = some lf20 := by kernel_rfl
def lf18 : LFunc := ⟨15,[.slot 2], .seq (.region [⟨some 1,none,.newv 2 45 (.tmp 0)⟩,⟨some 2,none,.mov (.cst (.p (.str [])))⟩]) (.seq (.seq (.region [⟨some 3,none,.load 2 true (.tmp 1)⟩,⟨some 4,none,.call 52 [.tmp 3]⟩,⟨some 5,none,.un .not (.tmp 4)⟩]) (.cond (.tmp 5) (.seq (.region [⟨some 2,none,.mov (.cst (.p (.str [])))⟩]) (.ret)) (.skip))) (.seq (.seq (.region [⟨some 6,none,.fadr 0 (.tmp 1)⟩,⟨some 7,none,.load 1 false (.tmp 6)⟩]) (.cond (.tmp 7) (.seq (.region [⟨some 8,none,.fadr 1 (.tmp 1)⟩,⟨some 9,none,.load 1 false (.tmp 8)⟩,⟨some 10,none,.call 48 [.tmp 9]⟩,⟨some 11,none,.bin .add (.cst (.p (.str [45]))) (.tmp 10)⟩,⟨some 2,none,.mov (.tmp 11)⟩]) (.ret)) (.skip))) (.seq (.region [⟨some 12,none,.fadr 1 (.tmp 1)⟩,⟨some 13,none,.load 1 false (.tmp 12)⟩,⟨some 14,none,.call 48 [.tmp 13]⟩,⟨some 2,none,.mov (.tmp 14)⟩]) (.ret))))⟩
theorem low18 : lowFunc Tryz.prog gl0 18 = some lf18 := by kernel_rfl
end Go.Proofs.YtgdpephlpdonnaaGreatDoor
