/-
  The lowered code of the reference, each equal to what the program's form lowers to. No conditions.
-/
import Derived.Test.YtgdpephlpdonnaaGreatDoorAbsTwo
import Derived.Test.YtgdpephlpdonnaaGreatDoorProg
import Derived.Test.YtgdpephlpdonnaaGreatDoorNatA
import Derived.KernelRfl
set_option linter.unusedSimpArgs false
set_option linter.unusedVariables false
set_option linter.constructorNameAsVariable false

/-
  The lowered code of the functions, as the program's form has it.
-/
namespace Go.Proofs.YtgdpephlpdonnaaGreatDoor
open Go Go.Abs
def lf72_B0 : LCode := .block 0 (
  .loop (
   .seq (
    .seq (
     .region [
       ⟨(some 7), none, .mov (.tmp 6)⟩,
       ⟨(some 8), none, .mov (.tmp 0)⟩,
       ⟨(some 9), none, .lenS (.tmp 8)⟩,
       ⟨(some 10), none, .bin .lss (.tmp 7) (.tmp 9)⟩]) (
     .cond (.tmp 10) (
      .skip) (
      .exit 0))) (
    .seq (
     .block 1 (
      .seq (
       .seq (
        .region [
          ⟨(some 13), none, .mov (.tmp 0)⟩,
          ⟨(some 14), none, .mov (.tmp 6)⟩,
          ⟨(some 15), none, .istr (.tmp 13) (.tmp 14)⟩,
          ⟨(some 16), none, .bin .lss (.tmp 15) (.cst (.p (.int .u8 48)))⟩,
          ⟨(some 17), none, .mov (.tmp 16)⟩,
          ⟨(some 18), (some (17, false)), .mov (.tmp 0)⟩,
          ⟨(some 19), (some (17, false)), .mov (.tmp 6)⟩,
          ⟨(some 20), (some (17, false)), .istr (.tmp 18) (.tmp 19)⟩,
          ⟨(some 21), (some (17, false)), .bin .gtr (.tmp 20) (.cst (.p (.int .u8 57)))⟩,
          ⟨(some 22), none, .pick (.tmp 17) (.cst (.p (.bool true))) (.tmp 21)⟩]) (
        .cond (.tmp 22) (
         .seq (
          .region [
            ⟨(some 2), none, .mov (.cst (.tight []))⟩,
            ⟨(some 3), none, .mov (.cst (.p (.int .i64 2)))⟩]) (
          .ret)) (
         .skip))) (
       .seq (
        .region [
          ⟨(some 23), none, .mov (.tmp 5)⟩,
          ⟨(some 24), none, .un .not (.tmp 23)⟩]) (
        .cond (.tmp 24) (
         .seq (
          .region [
            ⟨(some 25), none, .mov (.tmp 4)⟩,
            ⟨(some 26), none, .mov (.tmp 0)⟩,
            ⟨(some 27), none, .mov (.tmp 6)⟩,
            ⟨(some 28), none, .istr (.tmp 26) (.tmp 27)⟩,
            ⟨(some 29), none, .bin .sub (.tmp 28) (.cst (.p (.int .u8 48)))⟩,
            ⟨(some 30), none, .conv (.toInt .u64) (.tmp 29)⟩,
            ⟨(some 31), none, .call 32 [(.tmp 25), (.cst (.p (.int .u64 10))), (.tmp 30)]⟩,
            ⟨(some 4), none, .mov (.tmp 31)⟩]) (
          .region [
            ⟨(some 32), none, .mov (.tmp 4)⟩,
            ⟨(some 33), none, .len (.tmp 32)⟩,
            ⟨(some 34), none, .bin .gtr (.tmp 33) (.cst (.p (.int .i64 64)))⟩,
            ⟨(some 5), none, .mov (.tmp 34)⟩])) (
         .skip))))) (
     .region [
       ⟨(some 11), none, .mov (.tmp 6)⟩,
       ⟨(some 12), none, .bin .add (.tmp 11) (.cst (.p (.int .i64 1)))⟩,
       ⟨(some 6), none, .mov (.tmp 12)⟩]))))
def lf72 : LFunc := ⟨40,[.slot 2,.slot 3], .seq (.region [⟨some 2,none,.mov (.cst (.tight []))⟩,⟨some 3,none,.mov (.cst (.p (.int .i64 0)))⟩]) (.seq (.region [⟨some 4,none,.mov (.cst (.tight []))⟩]) (.seq (.region [⟨some 5,none,.mov (.cst (.p (.bool false)))⟩]) (.seq (.seq (.region [⟨some 6,none,.mov (.cst (.p (.int .i64 0)))⟩]) (lf72_B0)) (.seq (.seq (.region [⟨some 35,none,.mov (.tmp 0)⟩,⟨some 36,none,.lenS (.tmp 35)⟩,⟨some 37,none,.bin .eql (.tmp 36) (.cst (.p (.int .i64 0)))⟩]) (.cond (.tmp 37) (.seq (.region [⟨some 2,none,.mov (.cst (.tight []))⟩,⟨some 3,none,.mov (.cst (.p (.int .i64 2)))⟩]) (.ret)) (.skip))) (.seq (.seq (.region [⟨some 38,none,.mov (.tmp 5)⟩]) (.cond (.tmp 38) (.seq (.region [⟨some 2,none,.mov (.cst (.tight []))⟩,⟨some 3,none,.mov (.cst (.p (.int .i64 4)))⟩]) (.ret)) (.skip))) (.seq (.region [⟨some 39,none,.mov (.tmp 4)⟩,⟨some 2,none,.mov (.tmp 39)⟩,⟨some 3,none,.mov (.cst (.p (.int .i64 0)))⟩]) (.ret)))))))⟩
theorem low72 : lowFunc Tryz.prog gl0 72 = some lf72 := by kernel_rfl
def lf48_B0 : LCode := .block 2 (
  .loop (
   .seq (
    .seq (
     .region [
       ⟨(some 22), none, .mov (.tmp 6)⟩,
       ⟨(some 23), none, .bin .geq (.tmp 22) (.cst (.p (.int .i64 0)))⟩]) (
     .cond (.tmp 23) (
      .skip) (
      .exit 2))) (
    .seq (
     .block 3 (
      .region [
        ⟨(some 27), none, .mov (.tmp 4)⟩,
        ⟨(some 28), none, .mov (.tmp 6)⟩,
        ⟨(some 29), none, .mov (.tmp 5)⟩,
        ⟨(some 30), none, .mov (.tmp 4)⟩,
        ⟨(some 31), none, .mov (.tmp 6)⟩,
        ⟨(some 32), none, .iadr 1 (.tmp 30) (.tmp 31)⟩,
        ⟨(some 33), none, .load 1 false (.tmp 32)⟩,
        ⟨(some 34), none, .call 94 [(.tmp 29), (.tmp 33), (.cst (.p (.int .u64 10)))]⟩,
        ⟨(some 26), none, .mov (.tmp 34)⟩,
        ⟨(some 35), none, .ext (.tmp 26) 0⟩,
        ⟨(some 36), none, .ext (.tmp 26) 1⟩,
        ⟨(some 37), none, .iadr 1 (.tmp 27) (.tmp 28)⟩,
        ⟨none, none, .store 1 (.tmp 37) (.tmp 35)⟩,
        ⟨(some 5), none, .mov (.tmp 36)⟩])) (
     .region [
       ⟨(some 24), none, .mov (.tmp 6)⟩,
       ⟨(some 25), none, .bin .sub (.tmp 24) (.cst (.p (.int .i64 1)))⟩,
       ⟨(some 6), none, .mov (.tmp 25)⟩]))))
def lf48_B1 : LCode := .block 0 (
  .loop (
   .seq (
    .seq (
     .region [
       ⟨(some 16), none, .mov (.tmp 4)⟩,
       ⟨(some 17), none, .len (.tmp 16)⟩,
       ⟨(some 18), none, .bin .gtr (.tmp 17) (.cst (.p (.int .i64 0)))⟩]) (
     .cond (.tmp 18) (
      .skip) (
      .exit 0))) (
    .block 1 (
     .seq (
      .region [
        ⟨(some 5), none, .mov (.cst (.p (.int .u64 0)))⟩]) (
      .seq (
       .seq (
        .region [
          ⟨(some 19), none, .mov (.tmp 4)⟩,
          ⟨(some 20), none, .len (.tmp 19)⟩,
          ⟨(some 21), none, .bin .sub (.tmp 20) (.cst (.p (.int .i64 1)))⟩,
          ⟨(some 6), none, .mov (.tmp 21)⟩]) (
        lf48_B0)) (
       .seq (
        .region [
          ⟨(some 38), none, .mov (.tmp 5)⟩,
          ⟨(some 39), none, .bin .add (.cst (.p (.int .u64 48))) (.tmp 38)⟩,
          ⟨(some 40), none, .conv (.toInt .u8) (.tmp 39)⟩,
          ⟨(some 41), none, .buildSl 1 5 (.p (.int .u8 0)) 1 [(0, (.tmp 40))]⟩,
          ⟨(some 42), none, .conv .b2s (.tmp 41)⟩,
          ⟨(some 43), none, .mov (.tmp 3)⟩,
          ⟨(some 44), none, .bin .add (.tmp 42) (.tmp 43)⟩,
          ⟨(some 3), none, .mov (.tmp 44)⟩]) (
        .region [
          ⟨(some 45), none, .mov (.tmp 4)⟩,
          ⟨(some 46), none, .call 54 [(.tmp 45)]⟩,
          ⟨(some 4), none, .mov (.tmp 46)⟩])))))))
def lf48 : LFunc := ⟨48,[.slot 2], .seq (.region [⟨some 2,none,.mov (.cst (.p (.str [])))⟩]) (.seq (.seq (.region [⟨some 7,none,.mov (.tmp 0)⟩,⟨some 8,none,.call 51 [.tmp 7]⟩,⟨some 9,none,.un .not (.tmp 8)⟩]) (.cond (.tmp 9) (.seq (.region [⟨some 2,none,.mov (.cst (.p (.str [])))⟩]) (.ret)) (.skip))) (.seq (.seq (.region [⟨some 10,none,.mov (.tmp 0)⟩,⟨some 11,none,.len (.tmp 10)⟩,⟨some 12,none,.bin .eql (.tmp 11) (.cst (.p (.int .i64 0)))⟩]) (.cond (.tmp 12) (.seq (.region [⟨some 2,none,.mov (.cst (.p (.str [48])))⟩]) (.ret)) (.skip))) (.seq (.region [⟨some 3,none,.mov (.cst (.p (.str [])))⟩]) (.seq (.region [⟨some 13,none,.buildSl 1 40 (.p (.int .u64 0)) 0 []⟩,⟨some 14,none,.mov (.tmp 0)⟩,⟨some 15,none,.app 1 8 40 (.tmp 13) (.tmp 14)⟩,⟨some 4,none,.mov (.tmp 15)⟩]) (.seq (lf48_B1) (.seq (.region [⟨some 47,none,.mov (.tmp 3)⟩,⟨some 2,none,.mov (.tmp 47)⟩]) (.ret)))))))⟩
theorem low48 : lowFunc Tryz.prog gl0 48 = some lf48 := by kernel_rfl
def lf51 : LFunc := ⟨20,[.slot 2], .seq (.region [⟨some 2,none,.mov (.cst (.p (.bool false)))⟩]) (.seq (.region [⟨some 3,none,.mov (.tmp 0)⟩,⟨some 4,none,.len (.tmp 3)⟩,⟨some 5,none,.bin .leq (.tmp 4) (.cst (.p (.int .i64 64)))⟩,⟨some 6,none,.mov (.tmp 5)⟩,⟨some 7,some (6,true),.mov (.tmp 0)⟩,⟨some 8,some (6,true),.len (.tmp 7)⟩,⟨some 9,some (6,true),.bin .eql (.tmp 8) (.cst (.p (.int .i64 0)))⟩,⟨some 10,some (6,true),.mov (.tmp 9)⟩,⟨some 11,some (10,false),.mov (.tmp 0)⟩,⟨some 12,some (10,false),.mov (.tmp 0)⟩,⟨some 13,some (10,false),.len (.tmp 12)⟩,⟨some 14,some (10,false),.bin .sub (.tmp 13) (.cst (.p (.int .i64 1)))⟩,⟨some 15,some (10,false),.iadr 1 (.tmp 11) (.tmp 14)⟩,⟨some 16,some (10,false),.load 1 false (.tmp 15)⟩,⟨some 17,some (10,false),.bin .neq (.tmp 16) (.cst (.p (.int .u64 0)))⟩,⟨some 18,some (6,true),.pick (.tmp 10) (.cst (.p (.bool true))) (.tmp 17)⟩,⟨some 19,none,.pick (.tmp 6) (.tmp 18) (.cst (.p (.bool false)))⟩,⟨some 2,none,.mov (.tmp 19)⟩]) (.ret))⟩
theorem low51 : lowFunc Tryz.prog gl0 51 = some lf51 := by kernel_rfl
def lf89 : LFunc := ⟨18,[.slot 2], .seq (.region [⟨some 2,none,.mov (.cst (.p (.int .i64 0)))⟩]) (.seq (.seq (.region [⟨some 3,none,.mov (.tmp 0)⟩,⟨some 4,none,.len (.tmp 3)⟩,⟨some 5,none,.bin .eql (.tmp 4) (.cst (.p (.int .i64 0)))⟩]) (.cond (.tmp 5) (.seq (.region [⟨some 2,none,.mov (.cst (.p (.int .i64 0)))⟩]) (.ret)) (.skip))) (.seq (.region [⟨some 6,none,.mov (.tmp 0)⟩,⟨some 7,none,.len (.tmp 6)⟩,⟨some 8,none,.bin .sub (.tmp 7) (.cst (.p (.int .i64 1)))⟩,⟨some 9,none,.bin .mul (.cst (.p (.int .i64 64))) (.tmp 8)⟩,⟨some 10,none,.mov (.tmp 0)⟩,⟨some 11,none,.mov (.tmp 0)⟩,⟨some 12,none,.len (.tmp 11)⟩,⟨some 13,none,.bin .sub (.tmp 12) (.cst (.p (.int .i64 1)))⟩,⟨some 14,none,.iadr 1 (.tmp 10) (.tmp 13)⟩,⟨some 15,none,.load 1 false (.tmp 14)⟩,⟨some 16,none,.call 108 [.tmp 15]⟩,⟨some 17,none,.bin .add (.tmp 9) (.tmp 16)⟩,⟨some 2,none,.mov (.tmp 17)⟩]) (.ret)))⟩
theorem low89 : lowFunc Tryz.prog gl0 89 = some lf89 := by kernel_rfl
def lf32_B0 : LCode := .block 0 (
  .loop (
   .seq (
    .seq (
     .region [
       ⟨(some 16), none, .mov (.tmp 8)⟩,
       ⟨(some 17), none, .mov (.tmp 7)⟩,
       ⟨(some 18), none, .len (.tmp 17)⟩,
       ⟨(some 19), none, .bin .lss (.tmp 16) (.tmp 18)⟩]) (
     .cond (.tmp 19) (
      .skip) (
      .exit 0))) (
    .seq (
     .block 1 (
      .seq (
       .region [
         ⟨(some 23), none, .mov (.tmp 7)⟩,
         ⟨(some 24), none, .mov (.tmp 8)⟩,
         ⟨(some 25), none, .iadr 1 (.tmp 23) (.tmp 24)⟩,
         ⟨(some 26), none, .load 1 false (.tmp 25)⟩,
         ⟨(some 27), none, .mov (.tmp 1)⟩,
         ⟨(some 28), none, .call 73 [(.tmp 26), (.tmp 27)]⟩,
         ⟨(some 22), none, .mov (.tmp 28)⟩,
         ⟨(some 29), none, .ext (.tmp 22) 0⟩,
         ⟨(some 30), none, .ext (.tmp 22) 1⟩,
         ⟨(some 9), none, .mov (.tmp 29)⟩,
         ⟨(some 10), none, .mov (.tmp 30)⟩]) (
       .seq (
        .region [
          ⟨(some 32), none, .mov (.tmp 10)⟩,
          ⟨(some 33), none, .mov (.tmp 2)⟩,
          ⟨(some 34), none, .calle 74 [(.tmp 32), (.tmp 33), (.cst (.p (.int .u64 0)))]⟩,
          ⟨(some 31), none, .mov (.tmp 34)⟩,
          ⟨(some 35), none, .ext (.tmp 31) 0⟩,
          ⟨(some 36), none, .ext (.tmp 31) 1⟩,
          ⟨(some 11), none, .mov (.tmp 35)⟩,
          ⟨(some 12), none, .mov (.tmp 36)⟩]) (
        .seq (
         .region [
           ⟨(some 37), none, .mov (.tmp 7)⟩,
           ⟨(some 38), none, .mov (.tmp 8)⟩,
           ⟨(some 39), none, .mov (.tmp 11)⟩,
           ⟨(some 40), none, .iadr 1 (.tmp 37) (.tmp 38)⟩,
           ⟨none, none, .store 1 (.tmp 40) (.tmp 39)⟩]) (
         .region [
           ⟨(some 41), none, .mov (.tmp 9)⟩,
           ⟨(some 42), none, .mov (.tmp 12)⟩,
           ⟨(some 43), none, .bin .add (.tmp 41) (.tmp 42)⟩,
           ⟨(some 2), none, .mov (.tmp 43)⟩]))))) (
     .region [
       ⟨(some 20), none, .mov (.tmp 8)⟩,
       ⟨(some 21), none, .bin .add (.tmp 20) (.cst (.p (.int .i64 1)))⟩,
       ⟨(some 8), none, .mov (.tmp 21)⟩]))))
def lf32 : LFunc := ⟨51,[.slot 6], .seq (.region [⟨some 6,none,.mov (.cst (.tight []))⟩]) (.seq (.region [⟨some 13,none,.buildSl 1 40 (.p (.int .u64 0)) 0 []⟩,⟨some 14,none,.mov (.tmp 0)⟩,⟨some 15,none,.app 1 8 40 (.tmp 13) (.tmp 14)⟩,⟨some 7,none,.mov (.tmp 15)⟩]) (.seq (.seq (.region [⟨some 8,none,.mov (.cst (.p (.int .i64 0)))⟩]) (lf32_B0)) (.seq (.seq (.region [⟨some 44,none,.mov (.tmp 2)⟩,⟨some 45,none,.bin .gtr (.tmp 44) (.cst (.p (.int .u64 0)))⟩]) (.cond (.tmp 45) (.region [⟨some 46,none,.mov (.tmp 7)⟩,⟨some 47,none,.mov (.tmp 2)⟩,⟨some 48,none,.buildSl 1 40 (.p (.int .u64 0)) 1 [(0,(.tmp 47))]⟩,⟨some 49,none,.app 1 8 40 (.tmp 46) (.tmp 48)⟩,⟨some 7,none,.mov (.tmp 49)⟩]) (.skip))) (.seq (.region [⟨some 50,none,.mov (.tmp 7)⟩,⟨some 6,none,.mov (.tmp 50)⟩]) (.ret)))))⟩
theorem low32 : lowFunc Tryz.prog gl0 32 = some lf32 := by kernel_rfl
def lf54_B0 : LCode := .block 0 (
  .loop (
   .seq (
    .seq (
     .region [
       ⟨(some 6), none, .mov (.tmp 3)⟩,
       ⟨(some 7), none, .bin .gtr (.tmp 6) (.cst (.p (.int .i64 0)))⟩,
       ⟨(some 8), none, .mov (.tmp 7)⟩,
       ⟨(some 9), (some (8, true)), .mov (.tmp 0)⟩,
       ⟨(some 10), (some (8, true)), .mov (.tmp 3)⟩,
       ⟨(some 11), (some (8, true)), .bin .sub (.tmp 10) (.cst (.p (.int .i64 1)))⟩,
       ⟨(some 12), (some (8, true)), .iadr 1 (.tmp 9) (.tmp 11)⟩,
       ⟨(some 13), (some (8, true)), .load 1 false (.tmp 12)⟩,
       ⟨(some 14), (some (8, true)), .bin .eql (.tmp 13) (.cst (.p (.int .u64 0)))⟩,
       ⟨(some 15), none, .pick (.tmp 8) (.tmp 14) (.cst (.p (.bool false)))⟩]) (
     .cond (.tmp 15) (
      .skip) (
      .exit 0))) (
    .block 1 (
     .region [
       ⟨(some 16), none, .mov (.tmp 3)⟩,
       ⟨(some 17), none, .bin .sub (.tmp 16) (.cst (.p (.int .i64 1)))⟩,
       ⟨(some 3), none, .mov (.tmp 17)⟩]))))
def lf54 : LFunc := ⟨23,[.slot 2], .seq (.region [⟨some 2,none,.mov (.cst (.tight []))⟩]) (.seq (.region [⟨some 4,none,.mov (.tmp 0)⟩,⟨some 5,none,.len (.tmp 4)⟩,⟨some 3,none,.mov (.tmp 5)⟩]) (.seq (lf54_B0) (.seq (.region [⟨some 18,none,.buildSl 1 40 (.p (.int .u64 0)) 0 []⟩,⟨some 19,none,.mov (.tmp 0)⟩,⟨some 20,none,.mov (.tmp 3)⟩,⟨some 21,none,.slSl 1 (.tmp 19) none (some (.tmp 20)) none⟩,⟨some 22,none,.app 1 8 40 (.tmp 18) (.tmp 21)⟩,⟨some 2,none,.mov (.tmp 22)⟩]) (.ret))))⟩
theorem low54 : lowFunc Tryz.prog gl0 54 = some lf54 := by kernel_rfl
def lf43_B0 : LCode := .block 0 (
  .loop (
   .seq (
    .seq (
     .region [
       ⟨(some 19), none, .mov (.tmp 5)⟩,
       ⟨(some 20), none, .bin .geq (.tmp 19) (.cst (.p (.int .i64 0)))⟩]) (
     .cond (.tmp 20) (
      .skip) (
      .exit 0))) (
    .seq (
     .block 1 (
      .seq (
       .seq (
        .regionD [
          ⟨(some 23), none, .mov (.tmp 0)⟩,
          ⟨(some 24), none, .mov (.tmp 5)⟩,
          ⟨(some 25), none, .iadr 1 (.tmp 23) (.tmp 24)⟩,
          ⟨(some 26), none, .load 1 false (.tmp 25)⟩,
          ⟨(some 27), none, .mov (.tmp 1)⟩,
          ⟨(some 28), none, .mov (.tmp 5)⟩,
          ⟨(some 29), none, .iadr 1 (.tmp 27) (.tmp 28)⟩,
          ⟨(some 30), none, .load 1 false (.tmp 29)⟩,
          ⟨(some 31), none, .bin .lss (.tmp 26) (.tmp 30)⟩]) (
        .cond (.tmp 31) (
         .seq (
          .region [
            ⟨(some 4), none, .mov (.cst (.p (.int .i64 (-1))))⟩]) (
          .ret)) (
         .skip))) (
       .seq (
        .regionD [
          ⟨(some 32), none, .mov (.tmp 0)⟩,
          ⟨(some 33), none, .mov (.tmp 5)⟩,
          ⟨(some 34), none, .iadr 1 (.tmp 32) (.tmp 33)⟩,
          ⟨(some 35), none, .load 1 false (.tmp 34)⟩,
          ⟨(some 36), none, .mov (.tmp 1)⟩,
          ⟨(some 37), none, .mov (.tmp 5)⟩,
          ⟨(some 38), none, .iadr 1 (.tmp 36) (.tmp 37)⟩,
          ⟨(some 39), none, .load 1 false (.tmp 38)⟩,
          ⟨(some 40), none, .bin .gtr (.tmp 35) (.tmp 39)⟩]) (
        .cond (.tmp 40) (
         .seq (
          .region [
            ⟨(some 4), none, .mov (.cst (.p (.int .i64 1)))⟩]) (
          .ret)) (
         .skip))))) (
     .region [
       ⟨(some 21), none, .mov (.tmp 5)⟩,
       ⟨(some 22), none, .bin .sub (.tmp 21) (.cst (.p (.int .i64 1)))⟩,
       ⟨(some 5), none, .mov (.tmp 22)⟩]))))
def lf43 : LFunc := ⟨41,[.slot 4], .seq (.region [⟨some 4,none,.mov (.cst (.p (.int .i64 0)))⟩]) (.seq (.seq (.region [⟨some 6,none,.mov (.tmp 0)⟩,⟨some 7,none,.len (.tmp 6)⟩,⟨some 8,none,.mov (.tmp 1)⟩,⟨some 9,none,.len (.tmp 8)⟩,⟨some 10,none,.bin .neq (.tmp 7) (.tmp 9)⟩]) (.cond (.tmp 10) (.seq (.seq (.region [⟨some 11,none,.mov (.tmp 0)⟩,⟨some 12,none,.len (.tmp 11)⟩,⟨some 13,none,.mov (.tmp 1)⟩,⟨some 14,none,.len (.tmp 13)⟩,⟨some 15,none,.bin .lss (.tmp 12) (.tmp 14)⟩]) (.cond (.tmp 15) (.seq (.region [⟨some 4,none,.mov (.cst (.p (.int .i64 (-1))))⟩]) (.ret)) (.skip))) (.seq (.region [⟨some 4,none,.mov (.cst (.p (.int .i64 1)))⟩]) (.ret))) (.skip))) (.seq (.seq (.region [⟨some 16,none,.mov (.tmp 0)⟩,⟨some 17,none,.len (.tmp 16)⟩,⟨some 18,none,.bin .sub (.tmp 17) (.cst (.p (.int .i64 1)))⟩,⟨some 5,none,.mov (.tmp 18)⟩]) (lf43_B0)) (.seq (.region [⟨some 4,none,.mov (.cst (.p (.int .i64 0)))⟩]) (.ret))))⟩
theorem low43 : lowFunc Tryz.prog gl0 43 = some lf43 := by kernel_rfl
def lf91_B0 : LCode := .block 0 (
  .loop (
   .seq (
    .seq (
     .region [
       ⟨(some 11), none, .mov (.tmp 7)⟩,
       ⟨(some 12), none, .mov (.tmp 0)⟩,
       ⟨(some 13), none, .len (.tmp 12)⟩,
       ⟨(some 14), none, .bin .lss (.tmp 11) (.tmp 13)⟩]) (
     .cond (.tmp 14) (
      .skip) (
      .exit 0))) (
    .seq (
     .block 1 (
      .seq (
       .region [
         ⟨(some 8), none, .mov (.cst (.p (.int .u64 0)))⟩]) (
       .seq (
        .seq (
         .region [
           ⟨(some 17), none, .mov (.tmp 7)⟩,
           ⟨(some 18), none, .mov (.tmp 1)⟩,
           ⟨(some 19), none, .len (.tmp 18)⟩,
           ⟨(some 20), none, .bin .lss (.tmp 17) (.tmp 19)⟩]) (
         .cond (.tmp 20) (
          .region [
            ⟨(some 21), none, .mov (.tmp 1)⟩,
            ⟨(some 22), none, .mov (.tmp 7)⟩,
            ⟨(some 23), none, .iadr 1 (.tmp 21) (.tmp 22)⟩,
            ⟨(some 24), none, .load 1 false (.tmp 23)⟩,
            ⟨(some 8), none, .mov (.tmp 24)⟩]) (
          .skip))) (
        .seq (
         .region [
           ⟨(some 26), none, .mov (.tmp 0)⟩,
           ⟨(some 27), none, .mov (.tmp 7)⟩,
           ⟨(some 28), none, .iadr 1 (.tmp 26) (.tmp 27)⟩,
           ⟨(some 29), none, .load 1 false (.tmp 28)⟩,
           ⟨(some 30), none, .mov (.tmp 8)⟩,
           ⟨(some 31), none, .mov (.tmp 6)⟩,
           ⟨(some 32), none, .calle 109 [(.tmp 29), (.tmp 30), (.tmp 31)]⟩,
           ⟨(some 25), none, .mov (.tmp 32)⟩,
           ⟨(some 33), none, .ext (.tmp 25) 0⟩,
           ⟨(some 34), none, .ext (.tmp 25) 1⟩,
           ⟨(some 9), none, .mov (.tmp 33)⟩,
           ⟨(some 10), none, .mov (.tmp 34)⟩]) (
         .seq (
          .region [
            ⟨(some 35), none, .mov (.tmp 5)⟩,
            ⟨(some 36), none, .mov (.tmp 9)⟩,
            ⟨(some 37), none, .buildSl 1 40 (.p (.int .u64 0)) 1 [(0, (.tmp 36))]⟩,
            ⟨(some 38), none, .app 1 8 40 (.tmp 35) (.tmp 37)⟩,
            ⟨(some 5), none, .mov (.tmp 38)⟩]) (
          .region [
            ⟨(some 39), none, .mov (.tmp 10)⟩,
            ⟨(some 6), none, .mov (.tmp 39)⟩])))))) (
     .region [
       ⟨(some 15), none, .mov (.tmp 7)⟩,
       ⟨(some 16), none, .bin .add (.tmp 15) (.cst (.p (.int .i64 1)))⟩,
       ⟨(some 7), none, .mov (.tmp 16)⟩]))))
def lf91 : LFunc := ⟨42,[.slot 4], .seq (.region [⟨some 4,none,.mov (.cst (.tight []))⟩]) (.seq (.region [⟨some 5,none,.mov (.cst (.tight []))⟩]) (.seq (.region [⟨some 6,none,.mov (.cst (.p (.int .u64 0)))⟩]) (.seq (.seq (.region [⟨some 7,none,.mov (.cst (.p (.int .i64 0)))⟩]) (lf91_B0)) (.seq (.region [⟨some 40,none,.mov (.tmp 5)⟩,⟨some 41,none,.call 54 [.tmp 40]⟩,⟨some 4,none,.mov (.tmp 41)⟩]) (.ret)))))⟩
theorem low91 : lowFunc Tryz.prog gl0 91 = some lf91 := by kernel_rfl
def lf42_B0 : LCode := .block 0 (
  .loop (
   .seq (
    .seq (
     .region [
       ⟨(some 24), none, .mov (.tmp 8)⟩,
       ⟨(some 25), none, .bin .geq (.tmp 24) (.cst (.p (.int .i64 0)))⟩]) (
     .cond (.tmp 25) (
      .skip) (
      .exit 0))) (
    .seq (
     .block 1 (
      .seq (
       .region [
         ⟨(some 28), none, .mov (.tmp 1)⟩,
         ⟨(some 29), none, .mov (.tmp 8)⟩,
         ⟨(some 30), none, .call 90 [(.tmp 28), (.tmp 29)]⟩,
         ⟨(some 9), none, .mov (.tmp 30)⟩]) (
       .seq (
        .region [
          ⟨(some 31), none, .mov (.tmp 7)⟩,
          ⟨(some 32), none, .mov (.tmp 9)⟩,
          ⟨(some 33), none, .call 43 [(.tmp 31), (.tmp 32)]⟩,
          ⟨(some 34), none, .bin .geq (.tmp 33) (.cst (.p (.int .i64 0)))⟩]) (
        .cond (.tmp 34) (
         .seq (
          .region [
            ⟨(some 35), none, .mov (.tmp 7)⟩,
            ⟨(some 36), none, .mov (.tmp 9)⟩,
            ⟨(some 37), none, .call 91 [(.tmp 35), (.tmp 36)]⟩,
            ⟨(some 7), none, .mov (.tmp 37)⟩]) (
          .region [
            ⟨(some 38), none, .mov (.tmp 6)⟩,
            ⟨(some 39), none, .mov (.tmp 8)⟩,
            ⟨(some 40), none, .bin .quo (.tmp 39) (.cst (.p (.int .i64 64)))⟩,
            ⟨(some 41), none, .mov (.tmp 6)⟩,
            ⟨(some 42), none, .mov (.tmp 8)⟩,
            ⟨(some 43), none, .bin .quo (.tmp 42) (.cst (.p (.int .i64 64)))⟩,
            ⟨(some 44), none, .iadr 1 (.tmp 41) (.tmp 43)⟩,
            ⟨(some 45), none, .load 1 false (.tmp 44)⟩,
            ⟨(some 46), none, .mov (.tmp 8)⟩,
            ⟨(some 47), none, .bin .rem (.tmp 46) (.cst (.p (.int .i64 64)))⟩,
            ⟨(some 48), none, .conv (.toInt .u64) (.tmp 47)⟩,
            ⟨(some 49), none, .bin .shl (.cst (.p (.int .u64 1))) (.tmp 48)⟩,
            ⟨(some 50), none, .bin .or (.tmp 45) (.tmp 49)⟩,
            ⟨(some 51), none, .iadr 1 (.tmp 38) (.tmp 40)⟩,
            ⟨none, none, .store 1 (.tmp 51) (.tmp 50)⟩])) (
         .skip))))) (
     .region [
       ⟨(some 26), none, .mov (.tmp 8)⟩,
       ⟨(some 27), none, .bin .sub (.tmp 26) (.cst (.p (.int .i64 1)))⟩,
       ⟨(some 8), none, .mov (.tmp 27)⟩]))))
def lf42 : LFunc := ⟨55,[.slot 4,.slot 5], .seq (.region [⟨some 4,none,.mov (.cst (.tight []))⟩,⟨some 5,none,.mov (.cst (.tight []))⟩]) (.seq (.seq (.region [⟨some 10,none,.mov (.tmp 0)⟩,⟨some 11,none,.mov (.tmp 1)⟩,⟨some 12,none,.call 43 [.tmp 10,.tmp 11]⟩,⟨some 13,none,.bin .lss (.tmp 12) (.cst (.p (.int .i64 0)))⟩]) (.cond (.tmp 13) (.seq (.region [⟨some 14,none,.mov (.tmp 0)⟩,⟨some 4,none,.mov (.cst (.tight []))⟩,⟨some 5,none,.mov (.tmp 14)⟩]) (.ret)) (.skip))) (.seq (.region [⟨some 15,none,.mov (.tmp 0)⟩,⟨some 16,none,.len (.tmp 15)⟩,⟨some 17,none,.mksl 1 8 40 (.p (.int .u64 0)) (.tmp 16) (.tmp 16)⟩,⟨some 6,none,.mov (.tmp 17)⟩]) (.seq (.region [⟨some 18,none,.mov (.tmp 0)⟩,⟨some 7,none,.mov (.tmp 18)⟩]) (.seq (.seq (.region [⟨some 19,none,.mov (.tmp 0)⟩,⟨some 20,none,.call 89 [.tmp 19]⟩,⟨some 21,none,.mov (.tmp 1)⟩,⟨some 22,none,.call 89 [.tmp 21]⟩,⟨some 23,none,.bin .sub (.tmp 20) (.tmp 22)⟩,⟨some 8,none,.mov (.tmp 23)⟩]) (lf42_B0)) (.seq (.region [⟨some 52,none,.mov (.tmp 6)⟩,⟨some 53,none,.call 54 [.tmp 52]⟩,⟨some 54,none,.mov (.tmp 7)⟩,⟨some 4,none,.mov (.tmp 53)⟩,⟨some 5,none,.mov (.tmp 54)⟩]) (.ret))))))⟩
theorem low42 : lowFunc Tryz.prog gl0 42 = some lf42 := by kernel_rfl
def lf75_B0 : LCode := .block 0 (
  .loop (
   .seq (
    .seq (
     .region [
       ⟨(some 7), none, .mov (.tmp 1)⟩,
       ⟨(some 8), none, .len (.tmp 7)⟩,
       ⟨(some 9), none, .bin .gtr (.tmp 8) (.cst (.p (.int .i64 0)))⟩]) (
     .cond (.tmp 9) (
      .skip) (
      .exit 0))) (
    .block 1 (
     .seq (
      .region [
        ⟨(some 11), none, .mov (.tmp 0)⟩,
        ⟨(some 12), none, .mov (.tmp 1)⟩,
        ⟨(some 13), none, .call 42 [(.tmp 11), (.tmp 12)]⟩,
        ⟨(some 10), none, .mov (.tmp 13)⟩,
        ⟨(some 14), none, .ext (.tmp 10) 0⟩,
        ⟨(some 15), none, .ext (.tmp 10) 1⟩,
        ⟨(some 5), none, .mov (.tmp 14)⟩,
        ⟨(some 6), none, .mov (.tmp 15)⟩]) (
      .region [
        ⟨(some 16), none, .mov (.tmp 1)⟩,
        ⟨(some 17), none, .mov (.tmp 6)⟩,
        ⟨(some 0), none, .mov (.tmp 16)⟩,
        ⟨(some 1), none, .mov (.tmp 17)⟩])))))
def lf75 : LFunc := ⟨19,[.slot 4], .seq (.region [⟨some 4,none,.mov (.cst (.tight []))⟩]) (.seq (lf75_B0) (.seq (.region [⟨some 18,none,.mov (.tmp 0)⟩,⟨some 4,none,.mov (.tmp 18)⟩]) (.ret)))⟩
theorem low75 : lowFunc Tryz.prog gl0 75 = some lf75 := by kernel_rfl
def lf90_B0 : LCode := .block 0 (
  .loop (
   .seq (
    .seq (
     .region [
       ⟨(some 31), none, .mov (.tmp 8)⟩,
       ⟨(some 32), none, .mov (.tmp 6)⟩,
       ⟨(some 33), none, .len (.tmp 32)⟩,
       ⟨(some 34), none, .bin .lss (.tmp 31) (.tmp 33)⟩,
       ⟨(some 35), none, .mov (.tmp 34)⟩,
       ⟨(some 36), (some (35, true)), .mov (.tmp 7)⟩,
       ⟨(some 37), (some (35, true)), .bin .gtr (.tmp 36) (.cst (.p (.int .u64 0)))⟩,
       ⟨(some 38), none, .pick (.tmp 35) (.tmp 37) (.cst (.p (.bool false)))⟩]) (
     .cond (.tmp 38) (
      .skip) (
      .exit 0))) (
    .seq (
     .block 1 (
      .seq (
       .region [
         ⟨(some 41), none, .mov (.tmp 6)⟩,
         ⟨(some 42), none, .mov (.tmp 8)⟩,
         ⟨(some 43), none, .mov (.tmp 6)⟩,
         ⟨(some 44), none, .mov (.tmp 8)⟩,
         ⟨(some 45), none, .iadr 1 (.tmp 43) (.tmp 44)⟩,
         ⟨(some 46), none, .load 1 false (.tmp 45)⟩,
         ⟨(some 47), none, .mov (.tmp 7)⟩,
         ⟨(some 48), none, .bin .shr (.tmp 46) (.tmp 47)⟩,
         ⟨(some 49), none, .iadr 1 (.tmp 41) (.tmp 42)⟩,
         ⟨none, none, .store 1 (.tmp 49) (.tmp 48)⟩]) (
       .seq (
        .region [
          ⟨(some 50), none, .mov (.tmp 8)⟩,
          ⟨(some 51), none, .bin .add (.tmp 50) (.cst (.p (.int .i64 1)))⟩,
          ⟨(some 52), none, .mov (.tmp 6)⟩,
          ⟨(some 53), none, .len (.tmp 52)⟩,
          ⟨(some 54), none, .bin .lss (.tmp 51) (.tmp 53)⟩]) (
        .cond (.tmp 54) (
         .regionW [
           (⟨(some 55), none, .mov (.tmp 6)⟩, .f),
           (⟨(some 56), none, .mov (.tmp 8)⟩, .f),
           (⟨(some 57), none, .mov (.tmp 6)⟩, .f),
           (⟨(some 58), none, .mov (.tmp 8)⟩, .f),
           (⟨(some 59), none, .iadr 1 (.tmp 57) (.tmp 58)⟩, .f),
           (⟨(some 60), none, .load 1 false (.tmp 59)⟩, .f),
           (⟨(some 61), none, .mov (.tmp 6)⟩, .f),
           (⟨(some 62), none, .mov (.tmp 8)⟩, .f),
           (⟨(some 63), none, .bin .add (.tmp 62) (.cst (.p (.int .i64 1)))⟩, .f),
           (⟨(some 64), none, .iadr 1 (.tmp 61) (.tmp 63)⟩, .f),
           (⟨(some 65), none, .load 1 false (.tmp 64)⟩, .f),
           (⟨(some 66), none, .mov (.tmp 7)⟩, .f),
           (⟨(some 67), none, .bin .sub (.cst (.p (.int .u64 64))) (.tmp 66)⟩, .f),
           (⟨(some 68), none, .bin .shl (.tmp 65) (.tmp 67)⟩, .f),
           (⟨(some 69), none, .bin .or (.tmp 60) (.tmp 68)⟩, .f),
           (⟨(some 70), none, .iadr 1 (.tmp 55) (.tmp 56)⟩, .f),
           (⟨none, none, .store 1 (.tmp 70) (.tmp 69)⟩, .f)]) (
         .skip))))) (
     .region [
       ⟨(some 39), none, .mov (.tmp 8)⟩,
       ⟨(some 40), none, .bin .add (.tmp 39) (.cst (.p (.int .i64 1)))⟩,
       ⟨(some 8), none, .mov (.tmp 40)⟩]))))
def lf90_B1 : LCode := .block 2 (
  .loop (
   .seq (
    .seq (
     .region [
       ⟨(some 79), none, .mov (.tmp 12)⟩,
       ⟨(some 80), none, .mov (.tmp 0)⟩,
       ⟨(some 81), none, .len (.tmp 80)⟩,
       ⟨(some 82), none, .bin .lss (.tmp 79) (.tmp 81)⟩]) (
     .cond (.tmp 82) (
      .skip) (
      .exit 2))) (
    .seq (
     .block 3 (
      .seq (
       .region [
         ⟨(some 85), none, .mov (.tmp 9)⟩,
         ⟨(some 86), none, .mov (.tmp 0)⟩,
         ⟨(some 87), none, .mov (.tmp 12)⟩,
         ⟨(some 88), none, .iadr 1 (.tmp 86) (.tmp 87)⟩,
         ⟨(some 89), none, .load 1 false (.tmp 88)⟩,
         ⟨(some 90), none, .mov (.tmp 10)⟩,
         ⟨(some 91), none, .bin .shl (.tmp 89) (.tmp 90)⟩,
         ⟨(some 92), none, .mov (.tmp 11)⟩,
         ⟨(some 93), none, .bin .or (.tmp 91) (.tmp 92)⟩,
         ⟨(some 94), none, .buildSl 1 40 (.p (.int .u64 0)) 1 [(0, (.tmp 93))]⟩,
         ⟨(some 95), none, .app 1 8 40 (.tmp 85) (.tmp 94)⟩,
         ⟨(some 9), none, .mov (.tmp 95)⟩]) (
       .seq (
        .region [
          ⟨(some 11), none, .mov (.cst (.p (.int .u64 0)))⟩]) (
        .seq (
         .region [
           ⟨(some 96), none, .mov (.tmp 10)⟩,
           ⟨(some 97), none, .bin .gtr (.tmp 96) (.cst (.p (.int .u64 0)))⟩]) (
         .cond (.tmp 97) (
          .region [
            ⟨(some 98), none, .mov (.tmp 0)⟩,
            ⟨(some 99), none, .mov (.tmp 12)⟩,
            ⟨(some 100), none, .iadr 1 (.tmp 98) (.tmp 99)⟩,
            ⟨(some 101), none, .load 1 false (.tmp 100)⟩,
            ⟨(some 102), none, .mov (.tmp 10)⟩,
            ⟨(some 103), none, .bin .sub (.cst (.p (.int .u64 64))) (.tmp 102)⟩,
            ⟨(some 104), none, .bin .shr (.tmp 101) (.tmp 103)⟩,
            ⟨(some 11), none, .mov (.tmp 104)⟩]) (
          .skip)))))) (
     .region [
       ⟨(some 83), none, .mov (.tmp 12)⟩,
       ⟨(some 84), none, .bin .add (.tmp 83) (.cst (.p (.int .i64 1)))⟩,
       ⟨(some 12), none, .mov (.tmp 84)⟩]))))
def lf90 : LFunc := ⟨110,[.slot 4], .seq (.region [⟨some 4,none,.mov (.cst (.tight []))⟩]) (.seq (.seq (.region [⟨some 13,none,.mov (.tmp 1)⟩,⟨some 14,none,.bin .lss (.tmp 13) (.cst (.p (.int .i64 0)))⟩]) (.cond (.tmp 14) (.seq (.region [⟨some 15,none,.mov (.tmp 1)⟩,⟨some 16,none,.un .neg (.tmp 15)⟩,⟨some 17,none,.bin .quo (.tmp 16) (.cst (.p (.int .i64 64)))⟩,⟨some 5,none,.mov (.tmp 17)⟩]) (.seq (.seq (.region [⟨some 18,none,.mov (.tmp 5)⟩,⟨some 19,none,.mov (.tmp 0)⟩,⟨some 20,none,.len (.tmp 19)⟩,⟨some 21,none,.bin .geq (.tmp 18) (.tmp 20)⟩]) (.cond (.tmp 21) (.seq (.region [⟨some 4,none,.mov (.cst (.tight []))⟩]) (.ret)) (.skip))) (.seq (.region [⟨some 22,none,.buildSl 1 40 (.p (.int .u64 0)) 0 []⟩,⟨some 23,none,.mov (.tmp 0)⟩,⟨some 24,none,.mov (.tmp 5)⟩,⟨some 25,none,.slSl 1 (.tmp 23) (some (.tmp 24)) none none⟩,⟨some 26,none,.app 1 8 40 (.tmp 22) (.tmp 25)⟩,⟨some 6,none,.mov (.tmp 26)⟩]) (.seq (.region [⟨some 27,none,.mov (.tmp 1)⟩,⟨some 28,none,.un .neg (.tmp 27)⟩,⟨some 29,none,.bin .rem (.tmp 28) (.cst (.p (.int .i64 64)))⟩,⟨some 30,none,.conv (.toInt .u64) (.tmp 29)⟩,⟨some 7,none,.mov (.tmp 30)⟩]) (.seq (.seq (.region [⟨some 8,none,.mov (.cst (.p (.int .i64 0)))⟩]) (lf90_B0)) (.seq (.region [⟨some 71,none,.mov (.tmp 6)⟩,⟨some 72,none,.call 54 [.tmp 71]⟩,⟨some 4,none,.mov (.tmp 72)⟩]) (.ret))))))) (.skip))) (.seq (.region [⟨some 73,none,.mov (.tmp 1)⟩,⟨some 74,none,.bin .quo (.tmp 73) (.cst (.p (.int .i64 64)))⟩,⟨some 75,none,.mksl 1 8 40 (.p (.int .u64 0)) (.tmp 74) (.tmp 74)⟩,⟨some 9,none,.mov (.tmp 75)⟩]) (.seq (.region [⟨some 76,none,.mov (.tmp 1)⟩,⟨some 77,none,.bin .rem (.tmp 76) (.cst (.p (.int .i64 64)))⟩,⟨some 78,none,.conv (.toInt .u64) (.tmp 77)⟩,⟨some 10,none,.mov (.tmp 78)⟩]) (.seq (.region [⟨some 11,none,.mov (.cst (.p (.int .u64 0)))⟩]) (.seq (.seq (.region [⟨some 12,none,.mov (.cst (.p (.int .i64 0)))⟩]) (lf90_B1)) (.seq (.region [⟨some 105,none,.mov (.tmp 9)⟩,⟨some 106,none,.mov (.tmp 11)⟩,⟨some 107,none,.buildSl 1 40 (.p (.int .u64 0)) 1
 [(0,(.tmp 106))]⟩,⟨some 108,none,.app 1 8 40 (.tmp 105) (.tmp 107)⟩,⟨some 109,none,.call 54 [.tmp 108]⟩,⟨some 4,none,.mov (.tmp 109)⟩]) (.ret)))))))⟩
theorem low90 : lowFunc Tryz.prog gl0 90 = some lf90 := by kernel_rfl
end Go.Proofs.YtgdpephlpdonnaaGreatDoor
