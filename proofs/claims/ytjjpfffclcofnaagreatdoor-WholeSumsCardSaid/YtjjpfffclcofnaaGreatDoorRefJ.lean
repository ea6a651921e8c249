/-
  The lowered code of the reference, each equal to what the program's form lowers to. No conditions.
-/
import Derived.Test.YtjjpfffclcofnaaGreatDoorAbsTwo
import Derived.Test.YtjjpfffclcofnaaGreatDoorProg
import Derived.Test.YtjjpfffclcofnaaGreatDoorNatA
import Derived.KernelRfl
set_option linter.unusedSimpArgs false
set_option linter.unusedVariables false
set_option linter.constructorNameAsVariable false

/-
  The lowered code of the functions, as the program's form has it.
-/
namespace Go.Proofs.YtjjpfffclcofnaaGreatDoor
open Go Go.Abs
def lf24 : LFunc := ⟨20, [(.slot 4), (.slot 5)], (
  .seq (
   .region [
     ⟨(some 4), none, .mov (.cst (.tight []))⟩,
     ⟨(some 5), none, .mov (.cst (.p (.int .i64 0)))⟩]) (
   .seq (
    .seq (
     .region [
       ⟨(some 6), none, .mov (.tmp 0)⟩,
       ⟨(some 7), none, .call 31 [(.tmp 6)]⟩,
       ⟨(some 8), none, .un .not (.tmp 7)⟩,
       ⟨(some 9), none, .mov (.tmp 8)⟩,
       ⟨(some 10), (some (9, false)), .mov (.tmp 1)⟩,
       ⟨(some 11), (some (9, false)), .call 31 [(.tmp 10)]⟩,
       ⟨(some 12), (some (9, false)), .un .not (.tmp 11)⟩,
       ⟨(some 13), none, .pick (.tmp 9) (.cst (.p (.bool true))) (.tmp 12)⟩]) (
     .cond (.tmp 13) (
      .seq (
       .region [
         ⟨(some 4), none, .mov (.cst (.tight []))⟩,
         ⟨(some 5), none, .mov (.cst (.p (.int .i64 1)))⟩]) (
       .ret)) (
      .skip))) (
    .seq (
     .region [
       ⟨(some 14), none, .mov (.tmp 0)⟩,
       ⟨(some 15), none, .mov (.tmp 1)⟩,
       ⟨(some 16), none, .call 81 [(.tmp 14), (.tmp 15)]⟩,
       ⟨(some 17), none, .call 80 [(.tmp 16)]⟩,
       ⟨(some 18), none, .ext (.tmp 17) 0⟩,
       ⟨(some 19), none, .ext (.tmp 17) 1⟩,
       ⟨(some 4), none, .mov (.tmp 18)⟩,
       ⟨(some 5), none, .mov (.tmp 19)⟩]) (
     .ret))))⟩
theorem low24 : lowFunc Tryz.prog gl0 24 = some lf24 := by kernel_rfl
def lf26 : LFunc := ⟨23, [(.slot 4), (.slot 5)], (
  .seq (
   .region [
     ⟨(some 4), none, .mov (.cst (.tight []))⟩,
     ⟨(some 5), none, .mov (.cst (.p (.int .i64 0)))⟩]) (
   .seq (
    .seq (
     .region [
       ⟨(some 6), none, .mov (.tmp 0)⟩,
       ⟨(some 7), none, .call 31 [(.tmp 6)]⟩,
       ⟨(some 8), none, .un .not (.tmp 7)⟩,
       ⟨(some 9), none, .mov (.tmp 8)⟩,
       ⟨(some 10), (some (9, false)), .mov (.tmp 1)⟩,
       ⟨(some 11), (some (9, false)), .call 31 [(.tmp 10)]⟩,
       ⟨(some 12), (some (9, false)), .un .not (.tmp 11)⟩,
       ⟨(some 13), none, .pick (.tmp 9) (.cst (.p (.bool true))) (.tmp 12)⟩,
       ⟨(some 14), none, .mov (.tmp 13)⟩,
       ⟨(some 15), (some (14, false)), .mov (.tmp 0)⟩,
       ⟨(some 16), (some (14, false)), .mov (.tmp 1)⟩,
       ⟨(some 17), (some (14, false)), .call 84 [(.tmp 15), (.tmp 16)]⟩,
       ⟨(some 18), (some (14, false)), .bin .lss (.tmp 17) (.cst (.p (.int .i64 0)))⟩,
       ⟨(some 19), none, .pick (.tmp 14) (.cst (.p (.bool true))) (.tmp 18)⟩]) (
     .cond (.tmp 19) (
      .seq (
       .region [
         ⟨(some 4), none, .mov (.cst (.tight []))⟩,
         ⟨(some 5), none, .mov (.cst (.p (.int .i64 1)))⟩]) (
       .ret)) (
      .skip))) (
    .seq (
     .region [
       ⟨(some 20), none, .mov (.tmp 0)⟩,
       ⟨(some 21), none, .mov (.tmp 1)⟩,
       ⟨(some 22), none, .call 85 [(.tmp 20), (.tmp 21)]⟩,
       ⟨(some 4), none, .mov (.tmp 22)⟩,
       ⟨(some 5), none, .mov (.cst (.p (.int .i64 0)))⟩]) (
     .ret))))⟩
theorem low26 : lowFunc Tryz.prog gl0 26 = some lf26 := by kernel_rfl
def lf28 : LFunc := ⟨20, [(.slot 4), (.slot 5)], (
  .seq (
   .region [
     ⟨(some 4), none, .mov (.cst (.tight []))⟩,
     ⟨(some 5), none, .mov (.cst (.p (.int .i64 0)))⟩]) (
   .seq (
    .seq (
     .region [
       ⟨(some 6), none, .mov (.tmp 0)⟩,
       ⟨(some 7), none, .call 31 [(.tmp 6)]⟩,
       ⟨(some 8), none, .un .not (.tmp 7)⟩,
       ⟨(some 9), none, .mov (.tmp 8)⟩,
       ⟨(some 10), (some (9, false)), .mov (.tmp 1)⟩,
       ⟨(some 11), (some (9, false)), .call 31 [(.tmp 10)]⟩,
       ⟨(some 12), (some (9, false)), .un .not (.tmp 11)⟩,
       ⟨(some 13), none, .pick (.tmp 9) (.cst (.p (.bool true))) (.tmp 12)⟩]) (
     .cond (.tmp 13) (
      .seq (
       .region [
         ⟨(some 4), none, .mov (.cst (.tight []))⟩,
         ⟨(some 5), none, .mov (.cst (.p (.int .i64 1)))⟩]) (
       .ret)) (
      .skip))) (
    .seq (
     .region [
       ⟨(some 14), none, .mov (.tmp 0)⟩,
       ⟨(some 15), none, .mov (.tmp 1)⟩,
       ⟨(some 16), none, .call 87 [(.tmp 14), (.tmp 15)]⟩,
       ⟨(some 17), none, .call 80 [(.tmp 16)]⟩,
       ⟨(some 18), none, .ext (.tmp 17) 0⟩,
       ⟨(some 19), none, .ext (.tmp 17) 1⟩,
       ⟨(some 4), none, .mov (.tmp 18)⟩,
       ⟨(some 5), none, .mov (.tmp 19)⟩]) (
     .ret))))⟩
theorem low28 : lowFunc Tryz.prog gl0 28 = some lf28 := by kernel_rfl
def lf30 : LFunc := ⟨16, [(.slot 4)], (
  .seq (
   .region [
     ⟨(some 4), none, .mov (.cst (.p (.int .i64 0)))⟩]) (
   .seq (
    .seq (
     .region [
       ⟨(some 5), none, .mov (.tmp 0)⟩,
       ⟨(some 6), none, .call 31 [(.tmp 5)]⟩,
       ⟨(some 7), none, .un .not (.tmp 6)⟩,
       ⟨(some 8), none, .mov (.tmp 7)⟩,
       ⟨(some 9), (some (8, false)), .mov (.tmp 1)⟩,
       ⟨(some 10), (some (8, false)), .call 31 [(.tmp 9)]⟩,
       ⟨(some 11), (some (8, false)), .un .not (.tmp 10)⟩,
       ⟨(some 12), none, .pick (.tmp 8) (.cst (.p (.bool true))) (.tmp 11)⟩]) (
     .cond (.tmp 12) (
      .seq (
       .region [
         ⟨(some 4), none, .mov (.cst (.p (.int .i64 0)))⟩]) (
       .ret)) (
      .skip))) (
    .seq (
     .region [
       ⟨(some 13), none, .mov (.tmp 0)⟩,
       ⟨(some 14), none, .mov (.tmp 1)⟩,
       ⟨(some 15), none, .call 84 [(.tmp 13), (.tmp 14)]⟩,
       ⟨(some 4), none, .mov (.tmp 15)⟩]) (
     .ret))))⟩
theorem low30 : lowFunc Tryz.prog gl0 30 = some lf30 := by kernel_rfl
def lf31 : LFunc := ⟨20, [(.slot 2)], (
  .seq (
   .region [
     ⟨(some 2), none, .mov (.cst (.p (.bool false)))⟩]) (
   .seq (
    .region [
      ⟨(some 3), none, .mov (.tmp 0)⟩,
      ⟨(some 4), none, .len (.tmp 3)⟩,
      ⟨(some 5), none, .bin .leq (.tmp 4) (.cst (.p (.int .i64 64)))⟩,
      ⟨(some 6), none, .mov (.tmp 5)⟩,
      ⟨(some 7), (some (6, true)), .mov (.tmp 0)⟩,
      ⟨(some 8), (some (6, true)), .len (.tmp 7)⟩,
      ⟨(some 9), (some (6, true)), .bin .eql (.tmp 8) (.cst (.p (.int .i64 0)))⟩,
      ⟨(some 10), (some (6, true)), .mov (.tmp 9)⟩,
      ⟨(some 11), (some (10, false)), .mov (.tmp 0)⟩,
      ⟨(some 12), (some (10, false)), .mov (.tmp 0)⟩,
      ⟨(some 13), (some (10, false)), .len (.tmp 12)⟩,
      ⟨(some 14), (some (10, false)), .bin .sub (.tmp 13) (.cst (.p (.int .i64 1)))⟩,
      ⟨(some 15), (some (10, false)), .iadr 1 (.tmp 11) (.tmp 14)⟩,
      ⟨(some 16), (some (10, false)), .load 1 false (.tmp 15)⟩,
      ⟨(some 17), (some (10, false)), .bin .neq (.tmp 16) (.cst (.p (.int .u64 0)))⟩,
      ⟨(some 18), (some (6, true)), .pick (.tmp 10) (.cst (.p (.bool true))) (.tmp 17)⟩,
      ⟨(some 19), none, .pick (.tmp 6) (.tmp 18) (.cst (.p (.bool false)))⟩,
      ⟨(some 2), none, .mov (.tmp 19)⟩]) (
    .ret)))⟩
theorem low31 : lowFunc Tryz.prog gl0 31 = some lf31 := by kernel_rfl
def lf39 : LFunc := ⟨18, [(.slot 2)], (
  .seq (
   .region [
     ⟨(some 2), none, .mov (.cst (.p (.int .i64 0)))⟩]) (
   .seq (
    .seq (
     .region [
       ⟨(some 3), none, .mov (.tmp 0)⟩,
       ⟨(some 4), none, .len (.tmp 3)⟩,
       ⟨(some 5), none, .bin .eql (.tmp 4) (.cst (.p (.int .i64 0)))⟩]) (
     .cond (.tmp 5) (
      .seq (
       .region [
         ⟨(some 2), none, .mov (.cst (.p (.int .i64 0)))⟩]) (
       .ret)) (
      .skip))) (
    .seq (
     .region [
       ⟨(some 6), none, .mov (.tmp 0)⟩,
       ⟨(some 7), none, .len (.tmp 6)⟩,
       ⟨(some 8), none, .bin .sub (.tmp 7) (.cst (.p (.int .i64 1)))⟩,
       ⟨(some 9), none, .bin .mul (.cst (.p (.int .i64 64))) (.tmp 8)⟩,
       ⟨(some 10), none, .mov (.tmp 0)⟩,
       ⟨(some 11), none, .mov (.tmp 0)⟩,
       ⟨(some 12), none, .len (.tmp 11)⟩,
       ⟨(some 13), none, .bin .sub (.tmp 12) (.cst (.p (.int .i64 1)))⟩,
       ⟨(some 14), none, .iadr 1 (.tmp 10) (.tmp 13)⟩,
       ⟨(some 15), none, .load 1 false (.tmp 14)⟩,
       ⟨(some 16), none, .call 97 [(.tmp 15)]⟩,
       ⟨(some 17), none, .bin .add (.tmp 9) (.tmp 16)⟩,
       ⟨(some 2), none, .mov (.tmp 17)⟩]) (
     .ret))))⟩
theorem low39 : lowFunc Tryz.prog gl0 39 = some lf39 := by kernel_rfl
def lf41 : LFunc := ⟨8, [(.slot 2)], (
  .seq (
   .region [
     ⟨(some 2), none, .mov (.cst (.tight []))⟩]) (
   .seq (
    .seq (
     .region [
       ⟨(some 3), none, .mov (.tmp 0)⟩,
       ⟨(some 4), none, .bin .leq (.tmp 3) (.cst (.p (.int .i64 0)))⟩]) (
     .cond (.tmp 4) (
      .seq (
       .region [
         ⟨(some 2), none, .mov (.cst (.tight []))⟩]) (
       .ret)) (
      .skip))) (
    .seq (
     .region [
       ⟨(some 5), none, .mov (.tmp 0)⟩,
       ⟨(some 6), none, .conv (.toInt .u64) (.tmp 5)⟩,
       ⟨(some 7), none, .buildSl 1 40 (.p (.int .u64 0)) 1 [(0, (.tmp 6))]⟩,
       ⟨(some 2), none, .mov (.tmp 7)⟩]) (
     .ret))))⟩
theorem low41 : lowFunc Tryz.prog gl0 41 = some lf41 := by kernel_rfl
def lf78_B0 : LCode := .block 0 (
  .loop (
   .seq (
    .seq (
     .region [
       ⟨(some 6), none, .mov (.tmp 3)⟩,
       ⟨(some 7), none, .bin .gtr (.tmp 6) (.cst (.p (.int .i64 0)))⟩,
       ⟨(some 8), none, .mov (.tmp 7)⟩,
       ⟨(some 9), (some (8, true)), .mov (.tmp 0)⟩,
       ⟨(some 10), (some (8, true)), .mov (.tmp 3)⟩,
       ⟨(some 11), (some (8, true)), .bin .sub (.tmp 10) (.cst (.p (.int .i64 1)))⟩,
       ⟨(some 12), (some (8, true)), .iadr 1 (.tmp 9) (.tmp 11)⟩,
       ⟨(some 13), (some (8, true)), .load 1 false (.tmp 12)⟩,
       ⟨(some 14), (some (8, true)), .bin .eql (.tmp 13) (.cst (.p (.int .u64 0)))⟩,
       ⟨(some 15), none, .pick (.tmp 8) (.tmp 14) (.cst (.p (.bool false)))⟩]) (
     .cond (.tmp 15) (
      .skip) (
      .exit 0))) (
    .block 1 (
     .region [
       ⟨(some 16), none, .mov (.tmp 3)⟩,
       ⟨(some 17), none, .bin .sub (.tmp 16) (.cst (.p (.int .i64 1)))⟩,
       ⟨(some 3), none, .mov (.tmp 17)⟩]))))
def lf78 : LFunc := ⟨23, [(.slot 2)], (
  .seq (
   .region [
     ⟨(some 2), none, .mov (.cst (.tight []))⟩]) (
   .seq (
    .region [
      ⟨(some 4), none, .mov (.tmp 0)⟩,
      ⟨(some 5), none, .len (.tmp 4)⟩,
      ⟨(some 3), none, .mov (.tmp 5)⟩]) (
    .seq (
     lf78_B0) (
     .seq (
      .region [
        ⟨(some 18), none, .buildSl 1 40 (.p (.int .u64 0)) 0 []⟩,
        ⟨(some 19), none, .mov (.tmp 0)⟩,
        ⟨(some 20), none, .mov (.tmp 3)⟩,
        ⟨(some 21), none, .slSl 1 (.tmp 19) none (some (.tmp 20)) none⟩,
        ⟨(some 22), none, .app 1 8 40 (.tmp 18) (.tmp 21)⟩,
        ⟨(some 2), none, .mov (.tmp 22)⟩]) (
      .ret)))))⟩
theorem low78 : lowFunc Tryz.prog gl0 78 = some lf78 := by kernel_rfl
def lf80 : LFunc := ⟨8, [(.slot 2), (.slot 3)], (
  .seq (
   .region [
     ⟨(some 2), none, .mov (.cst (.tight []))⟩,
     ⟨(some 3), none, .mov (.cst (.p (.int .i64 0)))⟩]) (
   .seq (
    .seq (
     .region [
       ⟨(some 4), none, .mov (.tmp 0)⟩,
       ⟨(some 5), none, .len (.tmp 4)⟩,
       ⟨(some 6), none, .bin .gtr (.tmp 5) (.cst (.p (.int .i64 64)))⟩]) (
     .cond (.tmp 6) (
      .seq (
       .region [
         ⟨(some 2), none, .mov (.cst (.tight []))⟩,
         ⟨(some 3), none, .mov (.cst (.p (.int .i64 4)))⟩]) (
       .ret)) (
      .skip))) (
    .seq (
     .region [
       ⟨(some 7), none, .mov (.tmp 0)⟩,
       ⟨(some 2), none, .mov (.tmp 7)⟩,
       ⟨(some 3), none, .mov (.cst (.p (.int .i64 0)))⟩]) (
     .ret))))⟩
theorem low80 : lowFunc Tryz.prog gl0 80 = some lf80 := by kernel_rfl
def lf81_B0 : LCode := .block 0 (
  .loop (
   .seq (
    .seq (
     .region [
       ⟨(some 12), none, .mov (.tmp 7)⟩,
       ⟨(some 13), none, .mov (.tmp 0)⟩,
       ⟨(some 14), none, .len (.tmp 13)⟩,
       ⟨(some 15), none, .bin .lss (.tmp 12) (.tmp 14)⟩,
       ⟨(some 16), none, .mov (.tmp 15)⟩,
       ⟨(some 17), (some (16, false)), .mov (.tmp 7)⟩,
       ⟨(some 18), (some (16, false)), .mov (.tmp 1)⟩,
       ⟨(some 19), (some (16, false)), .len (.tmp 18)⟩,
       ⟨(some 20), (some (16, false)), .bin .lss (.tmp 17) (.tmp 19)⟩,
       ⟨(some 21), none, .pick (.tmp 16) (.cst (.p (.bool true))) (.tmp 20)⟩]) (
     .cond (.tmp 21) (
      .skip) (
      .exit 0))) (
    .seq (
     .block 1 (
      .seq (
       .region [
         ⟨(some 8), none, .mov (.cst (.p (.int .u64 0)))⟩,
         ⟨(some 9), none, .mov (.cst (.p (.int .u64 0)))⟩]) (
       .seq (
        .seq (
         .region [
           ⟨(some 24), none, .mov (.tmp 7)⟩,
           ⟨(some 25), none, .mov (.tmp 0)⟩,
           ⟨(some 26), none, .len (.tmp 25)⟩,
           ⟨(some 27), none, .bin .lss (.tmp 24) (.tmp 26)⟩]) (
         .cond (.tmp 27) (
          .region [
            ⟨(some 28), none, .mov (.tmp 0)⟩,
            ⟨(some 29), none, .mov (.tmp 7)⟩,
            ⟨(some 30), none, .iadr 1 (.tmp 28) (.tmp 29)⟩,
            ⟨(some 31), none, .load 1 false (.tmp 30)⟩,
            ⟨(some 8), none, .mov (.tmp 31)⟩]) (
          .skip))) (
        .seq (
         .seq (
          .region [
            ⟨(some 32), none, .mov (.tmp 7)⟩,
            ⟨(some 33), none, .mov (.tmp 1)⟩,
            ⟨(some 34), none, .len (.tmp 33)⟩,
            ⟨(some 35), none, .bin .lss (.tmp 32) (.tmp 34)⟩]) (
          .cond (.tmp 35) (
           .region [
             ⟨(some 36), none, .mov (.tmp 1)⟩,
             ⟨(some 37), none, .mov (.tmp 7)⟩,
             ⟨(some 38), none, .iadr 1 (.tmp 36) (.tmp 37)⟩,
             ⟨(some 39), none, .load 1 false (.tmp 38)⟩,
             ⟨(some 9), none, .mov (.tmp 39)⟩]) (
           .skip))) (
         .seq (
          .region [
            ⟨(some 41), none, .mov (.tmp 8)⟩,
            ⟨(some 42), none, .mov (.tmp 9)⟩,
            ⟨(some 43), none, .mov (.tmp 6)⟩,
            ⟨(some 44), none, .calle 117 [(.tmp 41), (.tmp 42), (.tmp 43)]⟩,
            ⟨(some 40), none, .mov (.tmp 44)⟩,
            ⟨(some 45), none, .ext (.tmp 40) 0⟩,
            ⟨(some 46), none, .ext (.tmp 40) 1⟩,
            ⟨(some 10), none, .mov (.tmp 45)⟩,
            ⟨(some 11), none, .mov (.tmp 46)⟩]) (
          .seq (
           .region [
             ⟨(some 47), none, .mov (.tmp 5)⟩,
             ⟨(some 48), none, .mov (.tmp 10)⟩,
             ⟨(some 49), none, .buildSl 1 40 (.p (.int .u64 0)) 1 [(0, (.tmp 48))]⟩,
             ⟨(some 50), none, .app 1 8 40 (.tmp 47) (.tmp 49)⟩,
             ⟨(some 5), none, .mov (.tmp 50)⟩]) (
           .region [
             ⟨(some 51), none, .mov (.tmp 11)⟩,
             ⟨(some 6), none, .mov (.tmp 51)⟩]))))))) (
     .region [
       ⟨(some 22), none, .mov (.tmp 7)⟩,
       ⟨(some 23), none, .bin .add (.tmp 22) (.cst (.p (.int .i64 1)))⟩,
       ⟨(some 7), none, .mov (.tmp 23)⟩]))))
def lf81 : LFunc := ⟨60, [(.slot 4)], (
  .seq (
   .region [
     ⟨(some 4), none, .mov (.cst (.tight []))⟩]) (
   .seq (
    .region [
      ⟨(some 5), none, .mov (.cst (.tight []))⟩]) (
    .seq (
     .region [
       ⟨(some 6), none, .mov (.cst (.p (.int .u64 0)))⟩]) (
     .seq (
      .seq (
       .region [
         ⟨(some 7), none, .mov (.cst (.p (.int .i64 0)))⟩]) (
       lf81_B0)) (
      .seq (
       .seq (
        .region [
          ⟨(some 52), none, .mov (.tmp 6)⟩,
          ⟨(some 53), none, .bin .gtr (.tmp 52) (.cst (.p (.int .u64 0)))⟩]) (
        .cond (.tmp 53) (
         .region [
           ⟨(some 54), none, .mov (.tmp 5)⟩,
           ⟨(some 55), none, .mov (.tmp 6)⟩,
           ⟨(some 56), none, .buildSl 1 40 (.p (.int .u64 0)) 1 [(0, (.tmp 55))]⟩,
           ⟨(some 57), none, .app 1 8 40 (.tmp 54) (.tmp 56)⟩,
           ⟨(some 5), none, .mov (.tmp 57)⟩]) (
         .skip))) (
       .seq (
        .region [
          ⟨(some 58), none, .mov (.tmp 5)⟩,
          ⟨(some 59), none, .call 78 [(.tmp 58)]⟩,
          ⟨(some 4), none, .mov (.tmp 59)⟩]) (
        .ret)))))))⟩
theorem low81 : lowFunc Tryz.prog gl0 81 = some lf81 := by kernel_rfl
def lf84_B0 : LCode := .block 0 (
  .loop (
   .seq (
    .seq (
     .region [
       ⟨(some 19), none, .mov (.tmp 5)⟩,
       ⟨(some 20), none, .bin .geq (.tmp 19) (.cst (.p (.int .i64 0)))⟩]) (
     .cond (.tmp 20) (
      .skip) (
      .exit 0))) (
    .seq (
     .block 1 (
      .seq (
       .seq (
        .regionD [
          ⟨(some 23), none, .mov (.tmp 0)⟩,
          ⟨(some 24), none, .mov (.tmp 5)⟩,
          ⟨(some 25), none, .iadr 1 (.tmp 23) (.tmp 24)⟩,
          ⟨(some 26), none, .load 1 false (.tmp 25)⟩,
          ⟨(some 27), none, .mov (.tmp 1)⟩,
          ⟨(some 28), none, .mov (.tmp 5)⟩,
          ⟨(some 29), none, .iadr 1 (.tmp 27) (.tmp 28)⟩,
          ⟨(some 30), none, .load 1 false (.tmp 29)⟩,
          ⟨(some 31), none, .bin .lss (.tmp 26) (.tmp 30)⟩]) (
        .cond (.tmp 31) (
         .seq (
          .region [
            ⟨(some 4), none, .mov (.cst (.p (.int .i64 (-1))))⟩]) (
          .ret)) (
         .skip))) (
       .seq (
        .regionD [
          ⟨(some 32), none, .mov (.tmp 0)⟩,
          ⟨(some 33), none, .mov (.tmp 5)⟩,
          ⟨(some 34), none, .iadr 1 (.tmp 32) (.tmp 33)⟩,
          ⟨(some 35), none, .load 1 false (.tmp 34)⟩,
          ⟨(some 36), none, .mov (.tmp 1)⟩,
          ⟨(some 37), none, .mov (.tmp 5)⟩,
          ⟨(some 38), none, .iadr 1 (.tmp 36) (.tmp 37)⟩,
          ⟨(some 39), none, .load 1 false (.tmp 38)⟩,
          ⟨(some 40), none, .bin .gtr (.tmp 35) (.tmp 39)⟩]) (
        .cond (.tmp 40) (
         .seq (
          .region [
            ⟨(some 4), none, .mov (.cst (.p (.int .i64 1)))⟩]) (
          .ret)) (
         .skip))))) (
     .region [
       ⟨(some 21), none, .mov (.tmp 5)⟩,
       ⟨(some 22), none, .bin .sub (.tmp 21) (.cst (.p (.int .i64 1)))⟩,
       ⟨(some 5), none, .mov (.tmp 22)⟩]))))
def lf84 : LFunc := ⟨41, [(.slot 4)], (
  .seq (
   .region [
     ⟨(some 4), none, .mov (.cst (.p (.int .i64 0)))⟩]) (
   .seq (
    .seq (
     .region [
       ⟨(some 6), none, .mov (.tmp 0)⟩,
       ⟨(some 7), none, .len (.tmp 6)⟩,
       ⟨(some 8), none, .mov (.tmp 1)⟩,
       ⟨(some 9), none, .len (.tmp 8)⟩,
       ⟨(some 10), none, .bin .neq (.tmp 7) (.tmp 9)⟩]) (
     .cond (.tmp 10) (
      .seq (
       .seq (
        .region [
          ⟨(some 11), none, .mov (.tmp 0)⟩,
          ⟨(some 12), none, .len (.tmp 11)⟩,
          ⟨(some 13), none, .mov (.tmp 1)⟩,
          ⟨(some 14), none, .len (.tmp 13)⟩,
          ⟨(some 15), none, .bin .lss (.tmp 12) (.tmp 14)⟩]) (
        .cond (.tmp 15) (
         .seq (
          .region [
            ⟨(some 4), none, .mov (.cst (.p (.int .i64 (-1))))⟩]) (
          .ret)) (
         .skip))) (
       .seq (
        .region [
          ⟨(some 4), none, .mov (.cst (.p (.int .i64 1)))⟩]) (
        .ret))) (
      .skip))) (
    .seq (
     .seq (
      .region [
        ⟨(some 16), none, .mov (.tmp 0)⟩,
        ⟨(some 17), none, .len (.tmp 16)⟩,
        ⟨(some 18), none, .bin .sub (.tmp 17) (.cst (.p (.int .i64 1)))⟩,
        ⟨(some 5), none, .mov (.tmp 18)⟩]) (
      lf84_B0)) (
     .seq (
      .region [
        ⟨(some 4), none, .mov (.cst (.p (.int .i64 0)))⟩]) (
      .ret)))))⟩
theorem low84 : lowFunc Tryz.prog gl0 84 = some lf84 := by kernel_rfl
def lf85_B0 : LCode := .block 0 (
  .loop (
   .seq (
    .seq (
     .region [
       ⟨(some 11), none, .mov (.tmp 7)⟩,
       ⟨(some 12), none, .mov (.tmp 0)⟩,
       ⟨(some 13), none, .len (.tmp 12)⟩,
       ⟨(some 14), none, .bin .lss (.tmp 11) (.tmp 13)⟩]) (
     .cond (.tmp 14) (
      .skip) (
      .exit 0))) (
    .seq (
     .block 1 (
      .seq (
       .region [
         ⟨(some 8), none, .mov (.cst (.p (.int .u64 0)))⟩]) (
       .seq (
        .seq (
         .region [
           ⟨(some 17), none, .mov (.tmp 7)⟩,
           ⟨(some 18), none, .mov (.tmp 1)⟩,
           ⟨(some 19), none, .len (.tmp 18)⟩,
           ⟨(some 20), none, .bin .lss (.tmp 17) (.tmp 19)⟩]) (
         .cond (.tmp 20) (
          .region [
            ⟨(some 21), none, .mov (.tmp 1)⟩,
            ⟨(some 22), none, .mov (.tmp 7)⟩,
            ⟨(some 23), none, .iadr 1 (.tmp 21) (.tmp 22)⟩,
            ⟨(some 24), none, .load 1 false (.tmp 23)⟩,
            ⟨(some 8), none, .mov (.tmp 24)⟩]) (
          .skip))) (
        .seq (
         .region [
           ⟨(some 26), none, .mov (.tmp 0)⟩,
           ⟨(some 27), none, .mov (.tmp 7)⟩,
           ⟨(some 28), none, .iadr 1 (.tmp 26) (.tmp 27)⟩,
           ⟨(some 29), none, .load 1 false (.tmp 28)⟩,
           ⟨(some 30), none, .mov (.tmp 8)⟩,
           ⟨(some 31), none, .mov (.tmp 6)⟩,
           ⟨(some 32), none, .calle 128 [(.tmp 29), (.tmp 30), (.tmp 31)]⟩,
           ⟨(some 25), none, .mov (.tmp 32)⟩,
           ⟨(some 33), none, .ext (.tmp 25) 0⟩,
           ⟨(some 34), none, .ext (.tmp 25) 1⟩,
           ⟨(some 9), none, .mov (.tmp 33)⟩,
           ⟨(some 10), none, .mov (.tmp 34)⟩]) (
         .seq (
          .region [
            ⟨(some 35), none, .mov (.tmp 5)⟩,
            ⟨(some 36), none, .mov (.tmp 9)⟩,
            ⟨(some 37), none, .buildSl 1 40 (.p (.int .u64 0)) 1 [(0, (.tmp 36))]⟩,
            ⟨(some 38), none, .app 1 8 40 (.tmp 35) (.tmp 37)⟩,
            ⟨(some 5), none, .mov (.tmp 38)⟩]) (
          .region [
            ⟨(some 39), none, .mov (.tmp 10)⟩,
            ⟨(some 6), none, .mov (.tmp 39)⟩])))))) (
     .region [
       ⟨(some 15), none, .mov (.tmp 7)⟩,
       ⟨(some 16), none, .bin .add (.tmp 15) (.cst (.p (.int .i64 1)))⟩,
       ⟨(some 7), none, .mov (.tmp 16)⟩]))))
def lf85 : LFunc := ⟨42, [(.slot 4)], (
  .seq (
   .region [
     ⟨(some 4), none, .mov (.cst (.tight []))⟩]) (
   .seq (
    .region [
      ⟨(some 5), none, .mov (.cst (.tight []))⟩]) (
    .seq (
     .region [
       ⟨(some 6), none, .mov (.cst (.p (.int .u64 0)))⟩]) (
     .seq (
      .seq (
       .region [
         ⟨(some 7), none, .mov (.cst (.p (.int .i64 0)))⟩]) (
       lf85_B0)) (
      .seq (
       .region [
         ⟨(some 40), none, .mov (.tmp 5)⟩,
         ⟨(some 41), none, .call 78 [(.tmp 40)]⟩,
         ⟨(some 4), none, .mov (.tmp 41)⟩]) (
       .ret))))))⟩
theorem low85 : lowFunc Tryz.prog gl0 85 = some lf85 := by kernel_rfl
def lf87_B0 : LCode := .block 2 (
  .loop (
   .seq (
    .seq (
     .region [
       ⟨(some 27), none, .mov (.tmp 8)⟩,
       ⟨(some 28), none, .mov (.tmp 1)⟩,
       ⟨(some 29), none, .len (.tmp 28)⟩,
       ⟨(some 30), none, .bin .lss (.tmp 27) (.tmp 29)⟩]) (
     .cond (.tmp 30) (
      .skip) (
      .exit 2))) (
    .seq (
     .block 3 (
      .seq (
       .regionD [
         ⟨(some 34), none, .mov (.tmp 0)⟩,
         ⟨(some 35), none, .mov (.tmp 6)⟩,
         ⟨(some 36), none, .iadr 1 (.tmp 34) (.tmp 35)⟩,
         ⟨(some 37), none, .load 1 false (.tmp 36)⟩,
         ⟨(some 38), none, .mov (.tmp 1)⟩,
         ⟨(some 39), none, .mov (.tmp 8)⟩,
         ⟨(some 40), none, .iadr 1 (.tmp 38) (.tmp 39)⟩,
         ⟨(some 41), none, .load 1 false (.tmp 40)⟩,
         ⟨(some 42), none, .call 116 [(.tmp 37), (.tmp 41)]⟩,
         ⟨(some 33), none, .mov (.tmp 42)⟩,
         ⟨(some 43), none, .ext (.tmp 33) 0⟩,
         ⟨(some 44), none, .ext (.tmp 33) 1⟩,
         ⟨(some 9), none, .mov (.tmp 43)⟩,
         ⟨(some 10), none, .mov (.tmp 44)⟩]) (
       .seq (
        .region [
          ⟨(some 46), none, .mov (.tmp 5)⟩,
          ⟨(some 47), none, .mov (.tmp 6)⟩,
          ⟨(some 48), none, .mov (.tmp 8)⟩,
          ⟨(some 49), none, .bin .add (.tmp 47) (.tmp 48)⟩,
          ⟨(some 50), none, .iadr 1 (.tmp 46) (.tmp 49)⟩,
          ⟨(some 51), none, .load 1 false (.tmp 50)⟩,
          ⟨(some 52), none, .mov (.tmp 10)⟩,
          ⟨(some 53), none, .calle 117 [(.tmp 51), (.tmp 52), (.cst (.p (.int .u64 0)))]⟩,
          ⟨(some 45), none, .mov (.tmp 53)⟩,
          ⟨(some 54), none, .ext (.tmp 45) 0⟩,
          ⟨(some 55), none, .ext (.tmp 45) 1⟩,
          ⟨(some 11), none, .mov (.tmp 54)⟩,
          ⟨(some 12), none, .mov (.tmp 55)⟩]) (
        .seq (
         .region [
           ⟨(some 57), none, .mov (.tmp 11)⟩,
           ⟨(some 58), none, .mov (.tmp 7)⟩,
           ⟨(some 59), none, .calle 117 [(.tmp 57), (.tmp 58), (.cst (.p (.int .u64 0)))]⟩,
           ⟨(some 56), none, .mov (.tmp 59)⟩,
           ⟨(some 60), none, .ext (.tmp 56) 0⟩,
           ⟨(some 61), none, .ext (.tmp 56) 1⟩,
           ⟨(some 13), none, .mov (.tmp 60)⟩,
           ⟨(some 14), none, .mov (.tmp 61)⟩]) (
         .seq (
          .region [
            ⟨(some 62), none, .mov (.tmp 5)⟩,
            ⟨(some 63), none, .mov (.tmp 6)⟩,
            ⟨(some 64), none, .mov (.tmp 8)⟩,
            ⟨(some 65), none, .bin .add (.tmp 63) (.tmp 64)⟩,
            ⟨(some 66), none, .mov (.tmp 13)⟩,
            ⟨(some 67), none, .iadr 1 (.tmp 62) (.tmp 65)⟩,
            ⟨none, none, .store 1 (.tmp 67) (.tmp 66)⟩]) (
          .region [
            ⟨(some 68), none, .mov (.tmp 9)⟩,
            ⟨(some 69), none, .mov (.tmp 12)⟩,
            ⟨(some 70), none, .bin .add (.tmp 68) (.tmp 69)⟩,
            ⟨(some 71), none, .mov (.tmp 14)⟩,
            ⟨(some 72), none, .bin .add (.tmp 70) (.tmp 71)⟩,
            ⟨(some 7), none, .mov (.tmp 72)⟩])))))) (
     .region [
       ⟨(some 31), none, .mov (.tmp 8)⟩,
       ⟨(some 32), none, .bin .add (.tmp 31) (.cst (.p (.int .i64 1)))⟩,
       ⟨(some 8), none, .mov (.tmp 32)⟩]))))
def lf87_B1 : LCode := .block 0 (
  .loop (
   .seq (
    .seq (
     .region [
       ⟨(some 21), none, .mov (.tmp 6)⟩,
       ⟨(some 22), none, .mov (.tmp 0)⟩,
       ⟨(some 23), none, .len (.tmp 22)⟩,
       ⟨(some 24), none, .bin .lss (.tmp 21) (.tmp 23)⟩]) (
     .cond (.tmp 24) (
      .skip) (
      .exit 0))) (
    .seq (
     .block 1 (
      .seq (
       .region [
         ⟨(some 7), none, .mov (.cst (.p (.int .u64 0)))⟩]) (
       .seq (
        .seq (
         .region [
           ⟨(some 8), none, .mov (.cst (.p (.int .i64 0)))⟩]) (
         lf87_B0)) (
        .region [
          ⟨(some 73), none, .mov (.tmp 5)⟩,
          ⟨(some 74), none, .mov (.tmp 6)⟩,
          ⟨(some 75), none, .mov (.tmp 1)⟩,
          ⟨(some 76), none, .len (.tmp 75)⟩,
          ⟨(some 77), none, .bin .add (.tmp 74) (.tmp 76)⟩,
          ⟨(some 78), none, .mov (.tmp 7)⟩,
          ⟨(some 79), none, .iadr 1 (.tmp 73) (.tmp 77)⟩,
          ⟨none, none, .store 1 (.tmp 79) (.tmp 78)⟩])))) (
     .region [
       ⟨(some 25), none, .mov (.tmp 6)⟩,
       ⟨(some 26), none, .bin .add (.tmp 25) (.cst (.p (.int .i64 1)))⟩,
       ⟨(some 6), none, .mov (.tmp 26)⟩]))))
def lf87 : LFunc := ⟨82, [(.slot 4)], (
  .seq (
   .region [
     ⟨(some 4), none, .mov (.cst (.tight []))⟩]) (
   .seq (
    .region [
      ⟨(some 15), none, .mov (.tmp 0)⟩,
      ⟨(some 16), none, .len (.tmp 15)⟩,
      ⟨(some 17), none, .mov (.tmp 1)⟩,
      ⟨(some 18), none, .len (.tmp 17)⟩,
      ⟨(some 19), none, .bin .add (.tmp 16) (.tmp 18)⟩,
      ⟨(some 20), none, .mksl 1 8 40 (.p (.int .u64 0)) (.tmp 19) (.tmp 19)⟩,
      ⟨(some 5), none, .mov (.tmp 20)⟩]) (
    .seq (
     .seq (
      .region [
        ⟨(some 6), none, .mov (.cst (.p (.int .i64 0)))⟩]) (
      lf87_B1)) (
     .seq (
      .region [
        ⟨(some 80), none, .mov (.tmp 5)⟩,
        ⟨(some 81), none, .call 78 [(.tmp 80)]⟩,
        ⟨(some 4), none, .mov (.tmp 81)⟩]) (
      .ret)))))⟩
theorem low87 : lowFunc Tryz.prog gl0 87 = some lf87 := by kernel_rfl
end Go.Proofs.YtjjpfffclcofnaaGreatDoor
