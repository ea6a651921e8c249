/-
  The lowered code of decimal, law4 and the reference's decimals, each equal to what the program's form lowers to. No conditions.
-/
import Derived.Test.YtgdpephlpdonnaaGreatDoorAbsTwo
import Derived.Test.YtgdpephlpdonnaaGreatDoorProg
import Derived.Test.YtgdpephlpdonnaaGreatDoorNatA
import Derived.KernelRfl
set_option linter.unusedSimpArgs false
set_option linter.unusedVariables false
set_option linter.constructorNameAsVariable false

/-
  The lowered code of the functions, as the program's form has it.
-/
namespace Go.Proofs.YtgdpephlpdonnaaGreatDoor
open Go Go.Abs
def lf7 : LFunc := ⟨46,[.cell 2 3 true,.slot 3], .seq (.region [⟨some 2,none,.newv 3 24 (.cst (.agg [.p (.bool false),.tight [],.tight []]))⟩,⟨some 3,none,.mov (.cst (.p (.int .i64 0)))⟩]) (.seq (.region [⟨some 8,none,.mov (.tmp 0)⟩,⟨some 9,none,.call 22 [.tmp 8,.cst (.p (.str [46]))]⟩,⟨some 7,none,.mov (.tmp 9)⟩,⟨some 10,none,.ext (.tmp 7) 0⟩,⟨some 11,none,.ext (.tmp 7) 1⟩,⟨some 12,none,.ext (.tmp 7) 2⟩,⟨some 4,none,.mov (.tmp 10)⟩,⟨some 5,none,.mov (.tmp 11)⟩,⟨some 6,none,.mov (.tmp 12)⟩]) (.seq (.seq (.region [⟨some 13,none,.mov (.tmp 4)⟩,⟨some 14,none,.call 23 [.tmp 13]⟩,⟨some 15,none,.un .not (.tmp 14)⟩,⟨some 16,none,.mov (.tmp 15)⟩,⟨some 17,some (16,false),.mov (.tmp 6)⟩,⟨some 18,some (16,false),.mov (.tmp 17)⟩,⟨some 19,some (18,true),.mov (.tmp 5)⟩,⟨some 20,some (18,true),.call 24 [.tmp 19]⟩,⟨some 21,some (18,true),.un .not (.tmp 20)⟩,⟨some 22,some (16,false),.pick (.tmp 18) (.tmp 21) (.cst (.p (.bool false)))⟩,⟨some 23,none,.pick (.tmp 16) (.cst (.p (.bool true))) (.tmp 22)⟩]) (.cond (.tmp 23) (.seq (.region [⟨some 24,none,.build (.agg [.p (.bool false),.tight [],.tight []]) []⟩,⟨none,none,.store 3 (.tmp 2) (.tmp 24)⟩,⟨some 3,none,.mov (.cst (.p (.int .i64 2)))⟩]) (.ret)) (.skip))) (.seq (.region [⟨some 25,none,.mov (.tmp 5)⟩,⟨some 26,none,.call 25 [.tmp 25,.cst (.p (.str [48]))]⟩,⟨some 5,none,.mov (.tmp 26)⟩]) (.seq (.seq (.region [⟨some 27,none,.mov (.tmp 5)⟩,⟨some 28,none,.lenS (.tmp 27)⟩,⟨some 29,none,.bin .gtr (.tmp 28) (.cst (.p (.int .i64 4096)))⟩,⟨some 30,none,.mov (.tmp 29)⟩,⟨some 31,some (30,false),.mov (.tmp 4)⟩,⟨some 32,some (30,false),.lenS (.tmp 31)⟩,⟨some 33,some (30,false),.bin .gtr (.tmp 32) (.cst (.p (.int .i64 4096)))⟩,⟨some 34,none,.pick (.tmp 30) (.cst (.p (.bool true))) (.tmp 33)⟩]) (.cond (.tmp 34) (.seq (.region [⟨some 35,none,.build (.agg [.p (.bool false),.tight [],.tight []]) []⟩,⟨none,none,.store 3 (.tmp 2) (.tmp 35)⟩,⟨some 3,none,.mov (.cst (.p (.int .i64 4)))⟩]) (.ret)) (.skip))) (.seq (.region [⟨some 36,none,.mov (.tmp 4)⟩,⟨some
 37,none,.mov (.tmp 5)⟩,⟨some 38,none,.bin .add (.tmp 36) (.tmp 37)⟩,⟨some 39,none,.call 27 [.tmp 38]⟩,⟨some 40,none,.mov (.tmp 5)⟩,⟨some 41,none,.lenS (.tmp 40)⟩,⟨some 42,none,.call 28 [.tmp 41]⟩,⟨some 43,none,.call 26 [.cst (.p (.bool false)),.tmp 39,.tmp 42]⟩,⟨some 44,none,.ext (.tmp 43) 0⟩,⟨some 45,none,.ext (.tmp 43) 1⟩,⟨none,none,.store 3 (.tmp 2) (.tmp 44)⟩,⟨some 3,none,.mov (.tmp 45)⟩]) (.ret))))))⟩
theorem low7 : lowFunc Tryz.prog gl0 7 = some lf7 := by kernel_rfl
def lf9_B0 : LCode := .block 0 (
  .loop (
   .seq (
    .seq (
     .region [
       ⟨(some 36), none, .mov (.tmp 5)⟩,
       ⟨(some 37), none, .len (.tmp 36)⟩,
       ⟨(some 38), none, .bin .gtr (.tmp 37) (.cst (.p (.int .i64 0)))⟩]) (
     .cond (.tmp 38) (
      .skip) (
      .exit 0))) (
    .block 1 (
     .seq (
      .regionD [
        ⟨(some 40), none, .mov (.tmp 5)⟩,
        ⟨(some 41), none, .call 40 [(.cst (.p (.int .i64 10)))]⟩,
        ⟨(some 42), none, .call 39 [(.tmp 40), (.tmp 41)]⟩,
        ⟨(some 43), none, .fadr 2 (.tmp 1)⟩,
        ⟨(some 44), none, .load 1 false (.tmp 43)⟩,
        ⟨(some 45), none, .call 37 [(.tmp 42), (.tmp 44)]⟩,
        ⟨(some 39), none, .mov (.tmp 45)⟩,
        ⟨(some 46), none, .ext (.tmp 39) 0⟩,
        ⟨(some 47), none, .ext (.tmp 39) 1⟩,
        ⟨(some 4), none, .mov (.tmp 46)⟩,
        ⟨(some 5), none, .mov (.tmp 47)⟩]) (
      .region [
        ⟨(some 48), none, .mov (.tmp 6)⟩,
        ⟨(some 49), none, .mov (.tmp 4)⟩,
        ⟨(some 50), none, .call 38 [(.tmp 49)]⟩,
        ⟨(some 51), none, .bin .add (.tmp 48) (.tmp 50)⟩,
        ⟨(some 6), none, .mov (.tmp 51)⟩])))))
def lf9 : LFunc := ⟨53,[.slot 2,.slot 3], .seq (.region [⟨some 1,none,.newv 3 24 (.tmp 0)⟩,⟨some 2,none,.mov (.cst (.p (.str [])))⟩,⟨some 3,none,.mov (.cst (.p (.bool false)))⟩]) (.seq (.seq (.region [⟨some 7,none,.load 3 true (.tmp 1)⟩,⟨some 8,none,.call 35 [.tmp 7]⟩,⟨some 9,none,.un .not (.tmp 8)⟩,⟨some 10,none,.mov (.tmp 9)⟩,⟨some 11,some (10,false),.fadr 0 (.tmp 1)⟩,⟨some 12,some (10,false),.load 1 false (.tmp 11)⟩,⟨some 13,none,.pick (.tmp 10) (.cst (.p (.bool true))) (.tmp 12)⟩,⟨some 14,none,.mov (.tmp 13)⟩,⟨some 15,some (14,false),.fadr 2 (.tmp 1)⟩,⟨some 16,some (14,false),.load 1 false (.tmp 15)⟩,⟨some 17,some (14,false),.call 36 [.tmp 16]⟩,⟨some 18,some (14,false),.un .not (.tmp 17)⟩,⟨some 19,none,.pick (.tmp 14) (.cst (.p (.bool true))) (.tmp 18)⟩]) (.cond (.tmp 19) (.seq (.region [⟨some 2,none,.mov (.cst (.p (.str [])))⟩,⟨some 3,none,.mov (.cst (.p (.bool false)))⟩]) (.ret)) (.skip))) (.seq (.region [⟨some 21,none,.fadr 1 (.tmp 1)⟩,⟨some 22,none,.load 1 false (.tmp 21)⟩,⟨some 23,none,.fadr 2 (.tmp 1)⟩,⟨some 24,none,.load 1 false (.tmp 23)⟩,⟨some 25,none,.call 37 [.tmp 22,.tmp 24]⟩,⟨some 20,none,.mov (.tmp 25)⟩,⟨some 26,none,.ext (.tmp 20) 0⟩,⟨some 27,none,.ext (.tmp 20) 1⟩,⟨some 4,none,.mov (.tmp 26)⟩,⟨some 5,none,.mov (.tmp 27)⟩]) (.seq (.region [⟨some 28,none,.mov (.tmp 4)⟩,⟨some 29,none,.call 38 [.tmp 28]⟩,⟨some 30,none,.bin .add (.tmp 29) (.cst (.p (.str [46])))⟩,⟨some 6,none,.mov (.tmp 30)⟩]) (.seq (.seq (.region [⟨some 31,none,.mov (.tmp 5)⟩,⟨some 32,none,.len (.tmp 31)⟩,⟨some 33,none,.bin .eql (.tmp 32) (.cst (.p (.int .i64 0)))⟩]) (.cond (.tmp 33) (.seq (.region [⟨some 34,none,.mov (.tmp 6)⟩,⟨some 35,none,.bin .add (.tmp 34) (.cst (.p (.str [48])))⟩,⟨some 2,none,.mov (.tmp 35)⟩,⟨some 3,none,.mov (.cst (.p (.bool true)))⟩]) (.ret)) (.skip))) (.seq (lf9_B0) (.seq (.region [⟨some 52,none,.mov (.tmp 6)⟩,⟨some 2,none,.mov (.tmp 52)⟩,⟨some 3,none,.mov (.cst (.p (.bool true)))⟩]) (.ret)))))))⟩
theorem low9 : lowFunc Tryz.prog gl0 9 = some lf9 := by kernel_rfl
def lf12 : LFunc := ⟨35,[.slot 2], .seq (.region [⟨some 1,none,.newv 3 24 (.tmp 0)⟩,⟨some 2,none,.mov (.cst (.p (.str [])))⟩]) (.seq (.block 0 (.seq (.region [⟨some 4,none,.load 3 true (.tmp 1)⟩,⟨some 5,none,.call 35 [.tmp 4]⟩,⟨some 6,none,.un .not (.tmp 5)⟩,⟨some 3,none,.mov (.tmp 6)⟩]) (.cond (.tmp 3) (.seq (.region [⟨some 2,none,.mov (.cst (.p (.str [])))⟩]) (.ret)) (.seq (.region [⟨some 8,none,.fadr 0 (.tmp 1)⟩,⟨some 9,none,.load 1 false (.tmp 8)⟩,⟨some 7,none,.mov (.tmp 9)⟩]) (.cond (.tmp 7) (.seq (.region [⟨some 10,none,.load 3 true (.tmp 1)⟩,⟨some 11,none,.call 45 [.tmp 10]⟩,⟨some 12,none,.call 12 [.tmp 11]⟩,⟨some 13,none,.bin .add (.cst (.p (.str [40,45,32]))) (.tmp 12)⟩,⟨some 14,none,.bin .add (.tmp 13) (.cst (.p (.str [41])))⟩,⟨some 2,none,.mov (.tmp 14)⟩]) (.ret)) (.seq (.regionD [⟨some 16,none,.fadr 2 (.tmp 1)⟩,⟨some 17,none,.load 1 false (.tmp 16)⟩,⟨some 18,none,.call 40 [.cst (.p (.int .i64 1))]⟩,⟨some 19,none,.call 46 [.tmp 17,.tmp 18]⟩,⟨some 20,none,.bin .eql (.tmp 19) (.cst (.p (.int .i64 0)))⟩,⟨some 15,none,.mov (.tmp 20)⟩]) (.cond (.tmp 15) (.seq (.region [⟨some 21,none,.fadr 1 (.tmp 1)⟩,⟨some 22,none,.load 1 false (.tmp 21)⟩,⟨some 23,none,.call 38 [.tmp 22]⟩,⟨some 24,none,.bin .add (.tmp 23) (.cst (.p (.str [46,48])))⟩,⟨some 2,none,.mov (.tmp 24)⟩]) (.ret)) (.skip)))))))) (.seq (.regionD [⟨some 25,none,.fadr 1 (.tmp 1)⟩,⟨some 26,none,.load 1 false (.tmp 25)⟩,⟨some 27,none,.call 38 [.tmp 26]⟩,⟨some 28,none,.bin .add (.cst (.p (.str [40,47,32]))) (.tmp 27)⟩,⟨some 29,none,.bin .add (.tmp 28) (.cst (.p (.str [46,48,32])))⟩,⟨some 30,none,.fadr 2 (.tmp 1)⟩,⟨some 31,none,.load 1 false (.tmp 30)⟩,⟨some 32,none,.call 38 [.tmp 31]⟩,⟨some 33,none,.bin .add (.tmp 29) (.tmp 32)⟩,⟨some 34,none,.bin .add (.tmp 33) (.cst (.p (.str [46,48,41])))⟩,⟨some 2,none,.mov (.tmp 34)⟩]) (.ret)))⟩
theorem low12 : lowFunc Tryz.prog gl0 12 = some lf12 := by kernel_rfl
def lf23 : LFunc := ⟨14,[.slot 2], .seq (.region [⟨some 2,none,.mov (.cst (.p (.bool false)))⟩]) (.seq (.region [⟨some 3,none,.mov (.tmp 0)⟩,⟨some 4,none,.call 24 [.tmp 3]⟩,⟨some 5,none,.mov (.tmp 4)⟩,⟨some 6,some (5,true),.mov (.tmp 0)⟩,⟨some 7,some (5,true),.bin .eql (.tmp 6) (.cst (.p (.str [48])))⟩,⟨some 8,some (5,true),.mov (.tmp 7)⟩,⟨some 9,some (8,false),.mov (.tmp 0)⟩,⟨some 10,some (8,false),.istr (.tmp 9) (.cst (.p (.int .i64 0)))⟩,⟨some 11,some (8,false),.bin .neq (.tmp 10) (.cst (.p (.int .u8 48)))⟩,⟨some 12,some (5,true),.pick (.tmp 8) (.cst (.p (.bool true))) (.tmp 11)⟩,⟨some 13,none,.pick (.tmp 5) (.tmp 12) (.cst (.p (.bool false)))⟩,⟨some 2,none,.mov (.tmp 13)⟩]) (.ret))⟩
theorem low23 : lowFunc Tryz.prog gl0 23 = some lf23 := by kernel_rfl
def lf28 : LFunc := ⟨7,[.slot 2], .seq (.region [⟨some 2,none,.mov (.cst (.tight []))⟩]) (.seq (.region [⟨some 3,none,.mov (.tmp 0)⟩,⟨some 4,none,.call 69 [.cst (.p (.str [48])),.tmp 3]⟩,⟨some 5,none,.bin .add (.cst (.p (.str [49]))) (.tmp 4)⟩,⟨some 6,none,.call 27 [.tmp 5]⟩,⟨some 2,none,.mov (.tmp 6)⟩]) (.ret))⟩
theorem low28 : lowFunc Tryz.prog gl0 28 = some lf28 := by kernel_rfl
def lf36_B0 : LCode := .block 2 (
  .loop (
   .block 3 (
    .seq (
     .region [
       ⟨(some 14), none, .mov (.tmp 0)⟩,
       ⟨(some 15), none, .mov (.tmp 4)⟩,
       ⟨(some 16), none, .call 40 [(.tmp 15)]⟩,
       ⟨(some 17), none, .call 37 [(.tmp 14), (.tmp 16)]⟩,
       ⟨(some 13), none, .mov (.tmp 17)⟩,
       ⟨(some 18), none, .ext (.tmp 13) 0⟩,
       ⟨(some 19), none, .ext (.tmp 13) 1⟩,
       ⟨(some 5), none, .mov (.tmp 18)⟩,
       ⟨(some 6), none, .mov (.tmp 19)⟩]) (
     .seq (
      .seq (
       .region [
         ⟨(some 20), none, .mov (.tmp 6)⟩,
         ⟨(some 21), none, .len (.tmp 20)⟩,
         ⟨(some 22), none, .bin .gtr (.tmp 21) (.cst (.p (.int .i64 0)))⟩]) (
       .cond (.tmp 22) (
        .exit 2) (
        .skip))) (
      .region [
        ⟨(some 23), none, .mov (.tmp 5)⟩,
        ⟨(some 0), none, .mov (.tmp 23)⟩])))))
def lf36_B1 : LCode := .block 0 (
  .loop (
   .seq (
    .region [
      ⟨(some 10), none, .bin .lss (.tmp 9) (.tmp 8)⟩]) (
    .seq (
     .cond (.tmp 10) (
      .skip) (
      .exit 0)) (
     .seq (
      .block 1 (
       .seq (
        .region [
          ⟨(some 11), none, .iadr 1 (.tmp 7) (.tmp 9)⟩,
          ⟨(some 12), none, .load 1 false (.tmp 11)⟩,
          ⟨(some 4), none, .mov (.tmp 12)⟩]) (
        lf36_B0))) (
      .region [
        ⟨(some 24), none, .bin .add (.tmp 9) (.cst (.p (.int .i64 1)))⟩,
        ⟨(some 9), none, .mov (.tmp 24)⟩])))))
def lf36 : LFunc := ⟨29,[.slot 2], .seq (.region [⟨some 2,none,.mov (.cst (.p (.bool false)))⟩]) (.seq (.seq (.region [⟨some 7,none,.buildSl 1 3 (.p (.int .i64 0)) 2 [(0,(.cst (.p (.int .i64 2)))),(1,(.cst (.p (.int .i64 5))))]⟩,⟨some 8,none,.len (.tmp 7)⟩,⟨some 9,none,.mov (.cst (.p (.int .i64 0)))⟩]) (lf36_B1)) (.seq (.region [⟨some 25,none,.mov (.tmp 0)⟩,⟨some 26,none,.call 40 [.cst (.p (.int .i64 1))]⟩,⟨some 27,none,.call 46 [.tmp 25,.tmp 26]⟩,⟨some 28,none,.bin .eql (.tmp 27) (.cst (.p (.int .i64 0)))⟩,⟨some 2,none,.mov (.tmp 28)⟩]) (.ret)))⟩
theorem low36 : lowFunc Tryz.prog gl0 36 = some lf36 := by kernel_rfl
end Go.Proofs.YtgdpephlpdonnaaGreatDoor

/-
  The lowered code of the functions, as the program's form has it.
-/
namespace Go.Proofs.YtgdpephlpdonnaaGreatDoor
open Go Go.Abs
def lf4_B0 : LCode := .block 0 (
  .loop (
   .seq (
    .seq (
     .region [
       ⟨(some 55), none, .mov (.tmp 10)⟩,
       ⟨(some 56), none, .mov (.tmp 1)⟩,
       ⟨(some 57), none, .bin .lss (.tmp 55) (.tmp 56)⟩]) (
     .cond (.tmp 57) (
      .skip) (
      .exit 0))) (
    .seq (
     .block 1 (
      .regionW [
        (⟨(some 61), none, .load 3 true (.tmp 9)⟩, .s),
        (⟨(some 62), none, .call 14 [(.cst (.p (.int .i64 2))), (.cst (.p (.int .i64 1)))]⟩, .s),
        (⟨(some 63), none, .call 15 [(.tmp 61), (.tmp 62)]⟩, .f),
        (⟨(some 60), none, .mov (.tmp 63)⟩, .f),
        (⟨(some 64), none, .ext (.tmp 60) 0⟩, .f),
        (⟨(some 65), none, .ext (.tmp 60) 1⟩, .f),
        (⟨none, none, .store 3 (.tmp 9) (.tmp 64)⟩, .f)])) (
     .region [
       ⟨(some 58), none, .mov (.tmp 10)⟩,
       ⟨(some 59), none, .bin .add (.tmp 58) (.cst (.p (.int .i64 1)))⟩,
       ⟨(some 10), none, .mov (.tmp 59)⟩]))))
def lf4_B1 : LCode := .block 2 (
  .loop (
   .seq (
    .seq (
     .region [
       ⟨(some 66), none, .mov (.tmp 11)⟩,
       ⟨(some 67), none, .mov (.tmp 2)⟩,
       ⟨(some 68), none, .bin .lss (.tmp 66) (.tmp 67)⟩]) (
     .cond (.tmp 68) (
      .skip) (
      .exit 2))) (
    .seq (
     .block 3 (
      .regionW [
        (⟨(some 72), none, .load 3 true (.tmp 9)⟩, .s),
        (⟨(some 73), none, .call 14 [(.cst (.p (.int .i64 5))), (.cst (.p (.int .i64 1)))]⟩, .s),
        (⟨(some 74), none, .call 15 [(.tmp 72), (.tmp 73)]⟩, .f),
        (⟨(some 71), none, .mov (.tmp 74)⟩, .f),
        (⟨(some 75), none, .ext (.tmp 71) 0⟩, .f),
        (⟨(some 76), none, .ext (.tmp 71) 1⟩, .f),
        (⟨none, none, .store 3 (.tmp 9) (.tmp 75)⟩, .f)])) (
     .region [
       ⟨(some 69), none, .mov (.tmp 11)⟩,
       ⟨(some 70), none, .bin .add (.tmp 69) (.cst (.p (.int .i64 1)))⟩,
       ⟨(some 11), none, .mov (.tmp 70)⟩]))))
def lf4_B2 : LCode := .block 6 (
  .loop (
   .block 7 (
    .seq (
     .region [
       ⟨(some 89), none, .mov (.tmp 14)⟩,
       ⟨(some 90), none, .buildSl 1 40 (.p (.int .u64 0)) 2 [(0, (.cst (.p (.int .u64 2)))), (1, (.cst (.p (.int .u64 5))))]⟩,
       ⟨(some 91), none, .mov (.tmp 15)⟩,
       ⟨(some 92), none, .mov (.tmp 15)⟩,
       ⟨(some 93), none, .bin .add (.tmp 92) (.cst (.p (.int .i64 1)))⟩,
       ⟨(some 94), none, .slSl 1 (.tmp 90) (some (.tmp 91)) (some (.tmp 93)) none⟩,
       ⟨(some 95), none, .call 16 [(.tmp 89), (.tmp 94)]⟩,
       ⟨(some 88), none, .mov (.tmp 95)⟩,
       ⟨(some 96), none, .ext (.tmp 88) 0⟩,
       ⟨(some 97), none, .ext (.tmp 88) 1⟩,
       ⟨(some 98), none, .ext (.tmp 88) 2⟩,
       ⟨(some 16), none, .mov (.tmp 96)⟩,
       ⟨(some 17), none, .mov (.tmp 97)⟩,
       ⟨(some 18), none, .mov (.tmp 98)⟩]) (
     .seq (
      .seq (
       .region [
         ⟨(some 99), none, .mov (.tmp 17)⟩,
         ⟨(some 100), none, .len (.tmp 99)⟩,
         ⟨(some 101), none, .bin .gtr (.tmp 100) (.cst (.p (.int .i64 0)))⟩]) (
       .cond (.tmp 101) (
        .exit 6) (
        .skip))) (
      .region [
        ⟨(some 102), none, .mov (.tmp 16)⟩,
        ⟨(some 14), none, .mov (.tmp 102)⟩])))))
def lf4_B3 : LCode := .block 4 (
  .loop (
   .seq (
    .seq (
     .region [
       ⟨(some 84), none, .mov (.tmp 15)⟩,
       ⟨(some 85), none, .bin .lss (.tmp 84) (.cst (.p (.int .i64 2)))⟩]) (
     .cond (.tmp 85) (
      .skip) (
      .exit 4))) (
    .seq (
     .block 5 (
      lf4_B2)) (
     .region [
       ⟨(some 86), none, .mov (.tmp 15)⟩,
       ⟨(some 87), none, .bin .add (.tmp 86) (.cst (.p (.int .i64 1)))⟩,
       ⟨(some 15), none, .mov (.tmp 87)⟩]))))
def lf4 : LFunc := ⟨160,[.slot 8], .seq (.region [⟨some 8,none,.mov (.cst (.p (.bool false)))⟩]) (.seq (.seq (.region [⟨some 21,none,.mov (.tmp 0)⟩,⟨some 22,none,.bin .lss (.tmp 21) (.cst (.p (.int .i64 0)))⟩,⟨some 23,none,.mov (.tmp 22)⟩,⟨some 24,some (23,false),.mov (.tmp 0)⟩,⟨some 25,some (23,false),.bin .gtr (.tmp 24) (.cst (.p (.int .i64 1099511627776)))⟩,⟨some 26,none,.pick (.tmp 23) (.cst (.p (.bool true))) (.tmp 25)⟩,⟨some 27,none,.mov (.tmp 26)⟩,⟨some 28,some (27,false),.mov (.tmp 1)⟩,⟨some 29,some (27,false),.bin .lss (.tmp 28) (.cst (.p (.int .i64 0)))⟩,⟨some 30,none,.pick (.tmp 27) (.cst (.p (.bool true))) (.tmp 29)⟩,⟨some 31,none,.mov (.tmp 30)⟩,⟨some 32,some (31,false),.mov (.tmp 1)⟩,⟨some 33,some (31,false),.bin .gtr (.tmp 32) (.cst (.p (.int .i64 40)))⟩,⟨some 34,none,.pick (.tmp 31) (.cst (.p (.bool true))) (.tmp 33)⟩,⟨some 35,none,.mov (.tmp 34)⟩,⟨some 36,some (35,false),.mov (.tmp 2)⟩,⟨some 37,some (35,false),.bin .lss (.tmp 36) (.cst (.p (.int .i64 0)))⟩,⟨some 38,none,.pick (.tmp 35) (.cst (.p (.bool true))) (.tmp 37)⟩,⟨some 39,none,.mov (.tmp 38)⟩,⟨some 40,some (39,false),.mov (.tmp 2)⟩,⟨some 41,some (39,false),.bin .gtr (.tmp 40) (.cst (.p (.int .i64 20)))⟩,⟨some 42,none,.pick (.tmp 39) (.cst (.p (.bool true))) (.tmp 41)⟩,⟨some 43,none,.mov (.tmp 42)⟩,⟨some 44,some (43,false),.mov (.tmp 3)⟩,⟨some 45,some (43,false),.bin .lss (.tmp 44) (.cst (.p (.int .i64 1)))⟩,⟨some 46,none,.pick (.tmp 43) (.cst (.p (.bool true))) (.tmp 45)⟩,⟨some 47,none,.mov (.tmp 46)⟩,⟨some 48,some (47,false),.mov (.tmp 3)⟩,⟨some 49,some (47,false),.bin .gtr (.tmp 48) (.cst (.p (.int .i64 1000)))⟩,⟨some 50,none,.pick (.tmp 47) (.cst (.p (.bool true))) (.tmp 49)⟩]) (.cond (.tmp 50) (.seq (.region [⟨some 51,none,.call 6 []⟩,⟨some 8,none,.mov (.tmp 51)⟩]) (.ret)) (.skip))) (.seq (.region [⟨some 52,none,.mov (.tmp 0)⟩,⟨some 53,none,.mov (.tmp 3)⟩,⟨some 54,none,.call 14 [.tmp 52,.tmp 53]⟩,⟨some 9,none,.newv 3 24 (.cst (.agg [.p (.bool false),.tight [],.tight
 []]))⟩,⟨none,none,.store 3 (.tmp 9) (.tmp 54)⟩]) (.seq (.seq (.region [⟨some 10,none,.mov (.cst (.p (.int .i64 0)))⟩]) (lf4_B0)) (.seq (.seq (.region [⟨some 11,none,.mov (.cst (.p (.int .i64 0)))⟩]) (lf4_B1)) (.seq (.region [⟨some 78,none,.load 3 true (.tmp 9)⟩,⟨some 79,none,.call 9 [.tmp 78]⟩,⟨some 77,none,.mov (.tmp 79)⟩,⟨some 80,none,.ext (.tmp 77) 0⟩,⟨some 81,none,.ext (.tmp 77) 1⟩,⟨some 12,none,.mov (.tmp 80)⟩,⟨some 13,none,.mov (.tmp 81)⟩]) (.seq (.region [⟨some 82,none,.fadr 2 (.tmp 9)⟩,⟨some 83,none,.load 1 false (.tmp 82)⟩,⟨some 14,none,.mov (.tmp 83)⟩]) (.seq (.seq (.region [⟨some 15,none,.mov (.cst (.p (.int .i64 0)))⟩]) (lf4_B3)) (.seq (.seq (.region [⟨some 103,none,.mov (.tmp 13)⟩,⟨some 104,none,.mov (.tmp 14)⟩,⟨some 105,none,.buildSl 1 40 (.p (.int .u64 0)) 1 [(0,(.cst (.p (.int .u64 1))))]⟩,⟨some 106,none,.call 17 [.tmp 104,.tmp 105]⟩,⟨some 107,none,.eqB true (.tmp 103) (.tmp 106)⟩]) (.cond (.tmp 107) (.seq (.region [⟨some 8,none,.mov (.cst (.p (.bool false)))⟩]) (.ret)) (.skip))) (.seq (.seq (.region [⟨some 108,none,.mov (.tmp 13)⟩,⟨some 109,none,.un .not (.tmp 108)⟩]) (.cond (.tmp 109) (.seq (.region [⟨some 110,none,.mov (.tmp 12)⟩,⟨some 111,none,.bin .eql (.tmp 110) (.cst (.p (.str [])))⟩,⟨some 112,none,.mov (.tmp 111)⟩,⟨some 113,some (112,true),.call 6 []⟩,⟨some 114,none,.pick (.tmp 112) (.tmp 113) (.cst (.p (.bool false)))⟩,⟨some 8,none,.mov (.tmp 114)⟩]) (.ret)) (.skip))) (.seq (.region [⟨some 116,none,.mov (.tmp 12)⟩,⟨some 117,none,.call 7 [.tmp 116]⟩,⟨some 115,none,.mov (.tmp 117)⟩,⟨some 118,none,.ext (.tmp 115) 0⟩,⟨some 119,none,.ext (.tmp 115) 1⟩,⟨some 19,none,.newv 3 24 (.cst (.agg [.p (.bool false),.tight [],.tight []]))⟩,⟨none,none,.store 3 (.tmp 19) (.tmp 118)⟩,⟨some 20,none,.mov (.tmp 119)⟩]) (.seq (.seq (.region [⟨some 120,none,.mov (.tmp 20)⟩,⟨some 121,none,.bin .neq (.tmp 120) (.cst (.p (.int .i64 0)))⟩,⟨some 122,none,.mov (.tmp 121)⟩,⟨some 123,some (122,false),.load 3 true (.tmp 19)⟩,⟨some 124,some (122,false),.load 3 true (.tmp
 9)⟩,⟨some 125,some (122,false),.call 11 [.tmp 123,.tmp 124]⟩,⟨some 126,some (122,false),.un .not (.tmp 125)⟩,⟨some 127,none,.pick (.tmp 122) (.cst (.p (.bool true))) (.tmp 126)⟩,⟨some 128,none,.mov (.tmp 127)⟩,⟨some 129,some (128,false),.mov (.tmp 12)⟩,⟨some 130,some (128,false),.lenS (.tmp 129)⟩,⟨some 131,some (128,false),.bin .lss (.tmp 130) (.cst (.p (.int .i64 3)))⟩,⟨some 132,none,.pick (.tmp 128) (.cst (.p (.bool true))) (.tmp 131)⟩]) (.cond (.tmp 132) (.seq (.region [⟨some 8,none,.mov (.cst (.p (.bool false)))⟩]) (.ret)) (.skip))) (.seq (.region [⟨some 133,none,.mov (.tmp 12)⟩,⟨some 134,none,.mov (.tmp 12)⟩,⟨some 135,none,.lenS (.tmp 134)⟩,⟨some 136,none,.bin .sub (.tmp 135) (.cst (.p (.int .i64 1)))⟩,⟨some 137,none,.istr (.tmp 133) (.tmp 136)⟩,⟨some 138,none,.bin .neq (.tmp 137) (.cst (.p (.int .u8 48)))⟩,⟨some 139,none,.mov (.tmp 138)⟩,⟨some 140,some (139,false),.mov (.tmp 12)⟩,⟨some 141,some (139,false),.mov (.tmp 12)⟩,⟨some 142,some (139,false),.lenS (.tmp 141)⟩,⟨some 143,some (139,false),.bin .sub (.tmp 142) (.cst (.p (.int .i64 2)))⟩,⟨some 144,some (139,false),.istr (.tmp 140) (.tmp 143)⟩,⟨some 145,some (139,false),.bin .eql (.tmp 144) (.cst (.p (.int .u8 46)))⟩,⟨some 146,none,.pick (.tmp 139) (.cst (.p (.bool true))) (.tmp 145)⟩,⟨some 147,none,.mov (.tmp 146)⟩,⟨some 148,some (147,true),.mov (.tmp 12)⟩,⟨some 149,some (147,true),.istr (.tmp 148) (.cst (.p (.int .i64 0)))⟩,⟨some 150,some (147,true),.bin .neq (.tmp 149) (.cst (.p (.int .u8 48)))⟩,⟨some 151,some (147,true),.mov (.tmp 150)⟩,⟨some 152,some (151,false),.mov (.tmp 12)⟩,⟨some 153,some (151,false),.istr (.tmp 152) (.cst (.p (.int .i64 1)))⟩,⟨some 154,some (151,false),.bin .eql (.tmp 153) (.cst (.p (.int .u8 46)))⟩,⟨some 155,some (147,true),.pick (.tmp 151) (.cst (.p (.bool true))) (.tmp 154)⟩,⟨some 156,none,.pick (.tmp 147) (.tmp 155) (.cst (.p (.bool false)))⟩,⟨some 157,none,.mov (.tmp 156)⟩,⟨some 158,some (157,true),.call 6 []⟩,⟨some 159,none,.pick (.tmp 157) (.tmp 158) (.cst (.p (.bool
 false)))⟩,⟨some 8,none,.mov (.tmp 159)⟩]) (.ret)))))))))))))⟩
theorem low4 : lowFunc Tryz.prog gl0 4 = some lf4 := by kernel_rfl
def lf6 : LFunc := ⟨69,[.slot 0], .seq (.region [⟨some 0,none,.mov (.cst (.p (.bool false)))⟩]) (.seq (.region [⟨some 12,none,.call 7 [.cst (.p (.str [48,46,49,50,53]))]⟩,⟨some 11,none,.mov (.tmp 12)⟩,⟨some 13,none,.ext (.tmp 11) 0⟩,⟨some 14,none,.ext (.tmp 11) 1⟩,⟨some 1,none,.newv 3 24 (.cst (.agg [.p (.bool false),.tight [],.tight []]))⟩,⟨none,none,.store 3 (.tmp 1) (.tmp 13)⟩,⟨some 2,none,.mov (.tmp 14)⟩]) (.seq (.region [⟨some 16,none,.call 7 [.cst (.p (.str [48,49]))]⟩,⟨some 15,none,.mov (.tmp 16)⟩,⟨some 17,none,.ext (.tmp 15) 0⟩,⟨some 18,none,.ext (.tmp 15) 1⟩,⟨some 3,none,.newv 3 24 (.cst (.agg [.p (.bool false),.tight [],.tight []]))⟩,⟨none,none,.store 3 (.tmp 3) (.tmp 17)⟩,⟨some 4,none,.mov (.tmp 18)⟩]) (.seq (.region [⟨some 20,none,.call 7 [.cst (.p (.str [49,46]))]⟩,⟨some 19,none,.mov (.tmp 20)⟩,⟨some 21,none,.ext (.tmp 19) 0⟩,⟨some 22,none,.ext (.tmp 19) 1⟩,⟨some 5,none,.newv 3 24 (.cst (.agg [.p (.bool false),.tight [],.tight []]))⟩,⟨none,none,.store 3 (.tmp 5) (.tmp 21)⟩,⟨some 6,none,.mov (.tmp 22)⟩]) (.seq (.region [⟨some 24,none,.call 14 [.cst (.p (.int .i64 1)),.cst (.p (.int .i64 8))]⟩,⟨some 25,none,.call 9 [.tmp 24]⟩,⟨some 23,none,.mov (.tmp 25)⟩,⟨some 26,none,.ext (.tmp 23) 0⟩,⟨some 27,none,.ext (.tmp 23) 1⟩,⟨some 7,none,.mov (.tmp 26)⟩,⟨some 8,none,.mov (.tmp 27)⟩]) (.seq (.region [⟨some 29,none,.call 14 [.cst (.p (.int .i64 1)),.cst (.p (.int .i64 3))]⟩,⟨some 30,none,.call 9 [.tmp 29]⟩,⟨some 28,none,.mov (.tmp 30)⟩,⟨some 31,none,.ext (.tmp 28) 0⟩,⟨some 32,none,.ext (.tmp 28) 1⟩,⟨some 9,none,.mov (.tmp 31)⟩,⟨some 10,none,.mov (.tmp 32)⟩]) (.seq (.regionD [⟨some 33,none,.mov (.tmp 2)⟩,⟨some 34,none,.bin .eql (.tmp 33) (.cst (.p (.int .i64 0)))⟩,⟨some 35,none,.mov (.tmp 34)⟩,⟨some 36,some (35,true),.load 3 true (.tmp 1)⟩,⟨some 37,some (35,true),.call 14 [.cst (.p (.int .i64 1)),.cst (.p (.int .i64 8))]⟩,⟨some 38,some (35,true),.call 11 [.tmp 36,.tmp 37]⟩,⟨some 39,none,.pick (.tmp 35) (.tmp 38) (.cst (.p (.bool false)))⟩,⟨some 40,none,.mov (.tmp
 39)⟩,⟨some 41,some (40,true),.mov (.tmp 4)⟩,⟨some 42,some (40,true),.bin .eql (.tmp 41) (.cst (.p (.int .i64 2)))⟩,⟨some 43,none,.pick (.tmp 40) (.tmp 42) (.cst (.p (.bool false)))⟩,⟨some 44,none,.mov (.tmp 43)⟩,⟨some 45,some (44,true),.mov (.tmp 6)⟩,⟨some 46,some (44,true),.bin .eql (.tmp 45) (.cst (.p (.int .i64 2)))⟩,⟨some 47,none,.pick (.tmp 44) (.tmp 46) (.cst (.p (.bool false)))⟩,⟨some 48,none,.mov (.tmp 47)⟩,⟨some 49,some (48,true),.mov (.tmp 8)⟩,⟨some 50,none,.pick (.tmp 48) (.tmp 49) (.cst (.p (.bool false)))⟩,⟨some 51,none,.mov (.tmp 50)⟩,⟨some 52,some (51,true),.mov (.tmp 7)⟩,⟨some 53,some (51,true),.bin .eql (.tmp 52) (.cst (.p (.str [48,46,49,50,53])))⟩,⟨some 54,none,.pick (.tmp 51) (.tmp 53) (.cst (.p (.bool false)))⟩,⟨some 55,none,.mov (.tmp 54)⟩,⟨some 56,some (55,true),.mov (.tmp 10)⟩,⟨some 57,some (55,true),.un .not (.tmp 56)⟩,⟨some 58,none,.pick (.tmp 55) (.tmp 57) (.cst (.p (.bool false)))⟩,⟨some 59,none,.mov (.tmp 58)⟩,⟨some 60,some (59,true),.call 14 [.cst (.p (.int .i64 (-1))),.cst (.p (.int .i64 3))]⟩,⟨some 61,some (59,true),.call 12 [.tmp 60]⟩,⟨some 62,some (59,true),.bin .eql (.tmp 61) (.cst (.p (.str [40,45,32,40,47,32,49,46,48,32,51,46,48,41,41])))⟩,⟨some 63,none,.pick (.tmp 59) (.tmp 62) (.cst (.p (.bool false)))⟩,⟨some 64,none,.mov (.tmp 63)⟩,⟨some 65,some (64,true),.call 14 [.cst (.p (.int .i64 5)),.cst (.p (.int .i64 1))]⟩,⟨some 66,some (64,true),.call 12 [.tmp 65]⟩,⟨some 67,some (64,true),.bin .eql (.tmp 66) (.cst (.p (.str [53,46,48])))⟩,⟨some 68,none,.pick (.tmp 64) (.tmp 67) (.cst (.p (.bool false)))⟩,⟨some 0,none,.mov (.tmp 68)⟩]) (.ret)))))))⟩
theorem low6 : lowFunc Tryz.prog gl0 6 = some lf6 := by kernel_rfl
end Go.Proofs.YtgdpephlpdonnaaGreatDoor
