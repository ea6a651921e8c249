/-
  The lowered code of the functions of lex, each equal to what the program's form lowers to. No conditions.
-/
import Derived.Test.YthnkmebnigefaaaDoorAbsTwo
import Derived.Test.YthnkmebnigefaaaDoorProg
import Derived.KernelRfl
set_option linter.unusedSimpArgs false
set_option linter.unusedVariables false
set_option linter.constructorNameAsVariable false

/-
  The lowered code of the functions, as the program's form has it.
-/
namespace Go.Proofs.YthnkmebnigefaaaDoor
open Go Go.Abs
def gl0 : Nat → AVal := fun _ => .junk
def lf3 : LFunc := ⟨78, [(.slot 4)], (
  .seq (
   .region [
     ⟨(some 4), none, .mov (.cst (.p (.bool false)))⟩]) (
   .seq (
    .seq (
     .region [
       ⟨(some 13), none, .mov (.tmp 0)⟩,
       ⟨(some 14), none, .len (.tmp 13)⟩,
       ⟨(some 15), none, .bin .gtr (.tmp 14) (.cst (.p (.int .i64 3000)))⟩,
       ⟨(some 16), none, .mov (.tmp 15)⟩,
       ⟨(some 17), (some (16, false)), .mov (.tmp 1)⟩,
       ⟨(some 18), (some (16, false)), .lenS (.tmp 17)⟩,
       ⟨(some 19), (some (16, false)), .bin .gtr (.tmp 18) (.cst (.p (.int .i64 300)))⟩,
       ⟨(some 20), none, .pick (.tmp 16) (.cst (.p (.bool true))) (.tmp 19)⟩]) (
     .cond (.tmp 20) (
      .seq (
       .region [
         ⟨(some 21), none, .call 8 []⟩,
         ⟨(some 4), none, .mov (.tmp 21)⟩]) (
       .ret)) (
      .skip))) (
    .seq (
     .region [
       ⟨(some 23), none, .mov (.tmp 0)⟩,
       ⟨(some 24), none, .call 9 [(.tmp 23)]⟩,
       ⟨(some 22), none, .mov (.tmp 24)⟩,
       ⟨(some 25), none, .ext (.tmp 22) 0⟩,
       ⟨(some 26), none, .ext (.tmp 22) 1⟩,
       ⟨(some 5), none, .mov (.tmp 25)⟩,
       ⟨(some 6), none, .mov (.tmp 26)⟩]) (
     .seq (
      .region [
        ⟨(some 28), none, .mov (.tmp 0)⟩,
        ⟨(some 29), none, .call 10 [(.tmp 28)]⟩,
        ⟨(some 27), none, .mov (.tmp 29)⟩,
        ⟨(some 30), none, .ext (.tmp 27) 0⟩,
        ⟨(some 31), none, .ext (.tmp 27) 1⟩,
        ⟨(some 7), none, .mov (.tmp 30)⟩,
        ⟨(some 8), none, .mov (.tmp 31)⟩]) (
      .seq (
       .region [
         ⟨(some 33), none, .mov (.tmp 1)⟩,
         ⟨(some 34), none, .call 11 [(.tmp 33)]⟩,
         ⟨(some 32), none, .mov (.tmp 34)⟩,
         ⟨(some 35), none, .ext (.tmp 32) 0⟩,
         ⟨(some 36), none, .ext (.tmp 32) 1⟩,
         ⟨(some 9), none, .mov (.tmp 35)⟩,
         ⟨(some 10), none, .mov (.tmp 36)⟩]) (
       .seq (
        .region [
          ⟨(some 38), none, .mov (.tmp 1)⟩,
          ⟨(some 39), none, .call 12 [(.tmp 38)]⟩,
          ⟨(some 37), none, .mov (.tmp 39)⟩,
          ⟨(some 40), none, .ext (.tmp 37) 0⟩,
          ⟨(some 41), none, .ext (.tmp 37) 1⟩,
          ⟨(some 11), none, .mov (.tmp 40)⟩,
          ⟨(some 12), none, .mov (.tmp 41)⟩]) (
        .seq (
         .region [
           ⟨(some 42), none, .mov (.tmp 5)⟩,
           ⟨(some 43), none, .mov (.tmp 7)⟩,
           ⟨(some 44), none, .call 13 [(.tmp 42), (.tmp 43)]⟩,
           ⟨(some 45), none, .mov (.tmp 44)⟩,
           ⟨(some 46), (some (45, true)), .mov (.tmp 6)⟩,
           ⟨(some 47), (some (45, true)), .mov (.tmp 8)⟩,
           ⟨(some 48), (some (45, true)), .bin .eql (.tmp 46) (.tmp 47)⟩,
           ⟨(some 49), none, .pick (.tmp 45) (.tmp 48) (.cst (.p (.bool false)))⟩,
           ⟨(some 50), none, .mov (.tmp 49)⟩,
           ⟨(some 51), (some (50, true)), .mov (.tmp 9)⟩,
           ⟨(some 52), (some (50, true)), .mov (.tmp 11)⟩,
           ⟨(some 53), (some (50, true)), .bin .eql (.tmp 51) (.tmp 52)⟩,
           ⟨(some 54), none, .pick (.tmp 50) (.tmp 53) (.cst (.p (.bool false)))⟩,
           ⟨(some 55), none, .mov (.tmp 54)⟩,
           ⟨(some 56), (some (55, true)), .mov (.tmp 10)⟩,
           ⟨(some 57), (some (55, true)), .bin .eql (.tmp 56) (.cst (.p (.int .i64 0)))⟩,
           ⟨(some 58), (some (55, true)), .mov (.tmp 12)⟩,
           ⟨(some 59), (some (55, true)), .eqB false (.tmp 57) (.tmp 58)⟩,
           ⟨(some 60), none, .pick (.tmp 55) (.tmp 59) (.cst (.p (.bool false)))⟩,
           ⟨(some 61), none, .mov (.tmp 60)⟩,
           ⟨(some 62), (some (61, true)), .mov (.tmp 12)⟩,
           ⟨(some 63), (some (61, true)), .mov (.tmp 62)⟩,
           ⟨(some 64), (some (63, false)), .mov (.tmp 10)⟩,
           ⟨(some 65), (some (63, false)), .bin .eql (.tmp 64) (.cst (.p (.int .i64 2)))⟩,
           ⟨(some 66), (some (61, true)), .pick (.tmp 63) (.cst (.p (.bool true))) (.tmp 65)⟩,
           ⟨(some 67), none, .pick (.tmp 61) (.tmp 66) (.cst (.p (.bool false)))⟩,
           ⟨(some 68), none, .mov (.tmp 67)⟩,
           ⟨(some 69), (some (68, true)), .mov (.tmp 1)⟩,
           ⟨(some 70), (some (68, true)), .call 14 [(.tmp 69)]⟩,
           ⟨(some 71), (some (68, true)), .mov (.tmp 1)⟩,
           ⟨(some 72), (some (68, true)), .call 15 [(.tmp 71)]⟩,
           ⟨(some 73), (some (68, true)), .eqB false (.tmp 70) (.tmp 72)⟩,
           ⟨(some 74), none, .pick (.tmp 68) (.tmp 73) (.cst (.p (.bool false)))⟩,
           ⟨(some 75), none, .mov (.tmp 74)⟩,
           ⟨(some 76), (some (75, true)), .call 8 []⟩,
           ⟨(some 77), none, .pick (.tmp 75) (.tmp 76) (.cst (.p (.bool false)))⟩,
           ⟨(some 4), none, .mov (.tmp 77)⟩]) (
         .ret))))))))⟩
theorem low3 : lowFunc Tryd.prog gl0 3 = some lf3 := by kernel_rfl
def lf4_B0 : LCode := .block 0 (
  .loop (
   .seq (
    .seq (
     .region [
       ⟨(some 31), none, .mov (.tmp 8)⟩,
       ⟨(some 32), none, .mov (.tmp 0)⟩,
       ⟨(some 33), none, .len (.tmp 32)⟩,
       ⟨(some 34), none, .bin .lss (.tmp 31) (.tmp 33)⟩]) (
     .cond (.tmp 34) (
      .skip) (
      .exit 0))) (
    .seq (
     .block 1 (
      .seq (
       .seq (
        .region [
          ⟨(some 37), none, .mov (.tmp 0)⟩,
          ⟨(some 38), none, .mov (.tmp 8)⟩,
          ⟨(some 39), none, .iadr 1 (.tmp 37) (.tmp 38)⟩,
          ⟨(some 40), none, .load 1 false (.tmp 39)⟩,
          ⟨(some 41), none, .lenS (.tmp 40)⟩,
          ⟨(some 42), none, .bin .gtr (.tmp 41) (.cst (.p (.int .i64 60)))⟩]) (
        .cond (.tmp 42) (
         .seq (
          .region [
            ⟨(some 43), none, .call 8 []⟩,
            ⟨(some 4), none, .mov (.tmp 43)⟩]) (
          .ret)) (
         .skip))) (
       .seq (
        .region [
          ⟨(some 45), none, .mov (.tmp 0)⟩,
          ⟨(some 46), none, .mov (.tmp 8)⟩,
          ⟨(some 47), none, .iadr 1 (.tmp 45) (.tmp 46)⟩,
          ⟨(some 48), none, .load 1 false (.tmp 47)⟩,
          ⟨(some 49), none, .call 11 [(.tmp 48)]⟩,
          ⟨(some 44), none, .mov (.tmp 49)⟩,
          ⟨(some 50), none, .ext (.tmp 44) 0⟩,
          ⟨(some 51), none, .ext (.tmp 44) 1⟩,
          ⟨(some 9), none, .mov (.tmp 50)⟩,
          ⟨(some 10), none, .mov (.tmp 51)⟩]) (
        .seq (
         .seq (
          .region [
            ⟨(some 52), none, .mov (.tmp 10)⟩,
            ⟨(some 53), none, .bin .neq (.tmp 52) (.cst (.p (.int .i64 0)))⟩]) (
          .cond (.tmp 53) (
           .exit 1) (
           .skip))) (
         .seq (
          .region [
            ⟨(some 54), none, .mov (.tmp 6)⟩,
            ⟨(some 55), none, .mov (.tmp 5)⟩,
            ⟨(some 56), none, .mov (.tmp 1)⟩,
            ⟨(some 57), none, .mov (.tmp 8)⟩,
            ⟨(some 58), none, .iadr 1 (.tmp 56) (.tmp 57)⟩,
            ⟨(some 59), none, .load 1 false (.tmp 58)⟩,
            ⟨(some 60), none, .call 16 [(.tmp 59), (.cst (.p (.int .i64 6)))]⟩,
            ⟨(some 61), none, .iadr 1 (.tmp 55) (.tmp 60)⟩,
            ⟨(some 62), none, .load 1 false (.tmp 61)⟩,
            ⟨(some 63), none, .bin .add (.tmp 54) (.tmp 62)⟩,
            ⟨(some 64), none, .mov (.tmp 9)⟩,
            ⟨(some 65), none, .bin .add (.tmp 63) (.tmp 64)⟩,
            ⟨(some 6), none, .mov (.tmp 65)⟩]) (
          .region [
            ⟨(some 66), none, .mov (.tmp 7)⟩,
            ⟨(some 67), none, .mov (.tmp 0)⟩,
            ⟨(some 68), none, .mov (.tmp 8)⟩,
            ⟨(some 69), none, .iadr 1 (.tmp 67) (.tmp 68)⟩,
            ⟨(some 70), none, .load 1 false (.tmp 69)⟩,
            ⟨(some 71), none, .buildSl 1 9 (.p (.str [])) 1 [(0, (.tmp 70))]⟩,
            ⟨(some 72), none, .app 1 16 9 (.tmp 66) (.tmp 71)⟩,
            ⟨(some 7), none, .mov (.tmp 72)⟩])))))) (
     .region [
       ⟨(some 35), none, .mov (.tmp 8)⟩,
       ⟨(some 36), none, .bin .add (.tmp 35) (.cst (.p (.int .i64 1)))⟩,
       ⟨(some 8), none, .mov (.tmp 36)⟩]))))
def lf4_B1 : LCode := .block 2 (
  .loop (
   .seq (
    .seq (
     .region [
       ⟨(some 89), none, .mov (.tmp 13)⟩,
       ⟨(some 90), none, .mov (.tmp 11)⟩,
       ⟨(some 91), none, .len (.tmp 90)⟩,
       ⟨(some 92), none, .bin .lss (.tmp 89) (.tmp 91)⟩]) (
     .cond (.tmp 92) (
      .skip) (
      .exit 2))) (
    .seq (
     .block 3 (
      .seq (
       .regionD [
         ⟨(some 95), none, .mov (.tmp 11)⟩,
         ⟨(some 96), none, .mov (.tmp 13)⟩,
         ⟨(some 97), none, .iadr 3 (.tmp 95) (.tmp 96)⟩,
         ⟨(some 98), none, .fadr 0 (.tmp 97)⟩,
         ⟨(some 99), none, .load 1 false (.tmp 98)⟩,
         ⟨(some 100), none, .bin .neq (.tmp 99) (.cst (.p (.int .i64 3)))⟩,
         ⟨(some 101), none, .mov (.tmp 100)⟩,
         ⟨(some 102), (some (101, false)), .mov (.tmp 11)⟩,
         ⟨(some 103), (some (101, false)), .mov (.tmp 13)⟩,
         ⟨(some 104), (some (101, false)), .iadr 3 (.tmp 102) (.tmp 103)⟩,
         ⟨(some 105), (some (101, false)), .fadr 1 (.tmp 104)⟩,
         ⟨(some 106), (some (101, false)), .load 1 false (.tmp 105)⟩,
         ⟨(some 107), (some (101, false)), .mov (.tmp 7)⟩,
         ⟨(some 108), (some (101, false)), .mov (.tmp 13)⟩,
         ⟨(some 109), (some (101, false)), .iadr 1 (.tmp 107) (.tmp 108)⟩,
         ⟨(some 110), (some (101, false)), .load 1 false (.tmp 109)⟩,
         ⟨(some 111), (some (101, false)), .bin .neq (.tmp 106) (.tmp 110)⟩,
         ⟨(some 112), none, .pick (.tmp 101) (.cst (.p (.bool true))) (.tmp 111)⟩]) (
       .cond (.tmp 112) (
        .seq (
         .region [
           ⟨(some 4), none, .mov (.cst (.p (.bool false)))⟩]) (
         .ret)) (
        .skip)))) (
     .region [
       ⟨(some 93), none, .mov (.tmp 13)⟩,
       ⟨(some 94), none, .bin .add (.tmp 93) (.cst (.p (.int .i64 1)))⟩,
       ⟨(some 13), none, .mov (.tmp 94)⟩]))))
def lf4 : LFunc := ⟨114, [(.slot 4)], (
  .seq (
   .region [
     ⟨(some 4), none, .mov (.cst (.p (.bool false)))⟩]) (
   .seq (
    .seq (
     .region [
       ⟨(some 14), none, .mov (.tmp 0)⟩,
       ⟨(some 15), none, .len (.tmp 14)⟩,
       ⟨(some 16), none, .bin .gtr (.tmp 15) (.cst (.p (.int .i64 12)))⟩,
       ⟨(some 17), none, .mov (.tmp 16)⟩,
       ⟨(some 18), (some (17, false)), .mov (.tmp 1)⟩,
       ⟨(some 19), (some (17, false)), .len (.tmp 18)⟩,
       ⟨(some 20), (some (17, false)), .mov (.tmp 0)⟩,
       ⟨(some 21), (some (17, false)), .len (.tmp 20)⟩,
       ⟨(some 22), (some (17, false)), .bin .lss (.tmp 19) (.tmp 21)⟩,
       ⟨(some 23), none, .pick (.tmp 17) (.cst (.p (.bool true))) (.tmp 22)⟩,
       ⟨(some 24), none, .mov (.tmp 23)⟩,
       ⟨(some 25), (some (24, false)), .mov (.tmp 1)⟩,
       ⟨(some 26), (some (24, false)), .len (.tmp 25)⟩,
       ⟨(some 27), (some (24, false)), .bin .gtr (.tmp 26) (.cst (.p (.int .i64 40)))⟩,
       ⟨(some 28), none, .pick (.tmp 24) (.cst (.p (.bool true))) (.tmp 27)⟩]) (
     .cond (.tmp 28) (
      .seq (
       .region [
         ⟨(some 29), none, .call 8 []⟩,
         ⟨(some 4), none, .mov (.tmp 29)⟩]) (
       .ret)) (
      .skip))) (
    .seq (
     .region [
       ⟨(some 30), none, .buildSl 1 9 (.p (.str [])) 6 [(0, (.cst (.p (.str [32])))), (1, (.cst (.p (.str [10])))), (2, (.cst (.p (.str [9, 13, 10])))), (3, (.cst (.p (.str [32, 59, 32, 97, 32, 40, 32, 110, 111, 116, 101, 10])))), (4, (.cst (.p (.str [59, 124, 13])))), (5, (.cst (.p (.str [32, 32]))))]⟩,
       ⟨(some 5), none, .mov (.tmp 30)⟩]) (
     .seq (
      .region [
        ⟨(some 6), none, .mov (.cst (.p (.str [])))⟩]) (
      .seq (
       .region [
         ⟨(some 7), none, .mov (.cst (.tight []))⟩]) (
       .seq (
        .seq (
         .region [
           ⟨(some 8), none, .mov (.cst (.p (.int .i64 0)))⟩]) (
         lf4_B0)) (
        .seq (
         .region [
           ⟨(some 74), none, .mov (.tmp 6)⟩,
           ⟨(some 75), none, .bin .add (.tmp 74) (.cst (.p (.str [32])))⟩,
           ⟨(some 76), none, .conv .s2b (.tmp 75)⟩,
           ⟨(some 77), none, .call 9 [(.tmp 76)]⟩,
           ⟨(some 73), none, .mov (.tmp 77)⟩,
           ⟨(some 78), none, .ext (.tmp 73) 0⟩,
           ⟨(some 79), none, .ext (.tmp 73) 1⟩,
           ⟨(some 11), none, .mov (.tmp 78)⟩,
           ⟨(some 12), none, .mov (.tmp 79)⟩]) (
         .seq (
          .seq (
           .region [
             ⟨(some 80), none, .mov (.tmp 12)⟩,
             ⟨(some 81), none, .bin .neq (.tmp 80) (.cst (.p (.int .i64 0)))⟩,
             ⟨(some 82), none, .mov (.tmp 81)⟩,
             ⟨(some 83), (some (82, false)), .mov (.tmp 11)⟩,
             ⟨(some 84), (some (82, false)), .len (.tmp 83)⟩,
             ⟨(some 85), (some (82, false)), .mov (.tmp 7)⟩,
             ⟨(some 86), (some (82, false)), .len (.tmp 85)⟩,
             ⟨(some 87), (some (82, false)), .bin .neq (.tmp 84) (.tmp 86)⟩,
             ⟨(some 88), none, .pick (.tmp 82) (.cst (.p (.bool true))) (.tmp 87)⟩]) (
           .cond (.tmp 88) (
            .seq (
             .region [
               ⟨(some 4), none, .mov (.cst (.p (.bool false)))⟩]) (
             .ret)) (
            .skip))) (
          .seq (
           .seq (
            .region [
              ⟨(some 13), none, .mov (.cst (.p (.int .i64 0)))⟩]) (
            lf4_B1)) (
           .seq (
            .region [
              ⟨(some 113), none, .call 8 []⟩,
              ⟨(some 4), none, .mov (.tmp 113)⟩]) (
            .ret)))))))))))⟩
theorem low4 : lowFunc Tryd.prog gl0 4 = some lf4 := by kernel_rfl
def lf5_B0 : LCode := .block 0 (
  .loop (
   .seq (
    .seq (
     .region [
       ⟨(some 34), none, .mov (.tmp 7)⟩,
       ⟨(some 35), none, .mov (.tmp 5)⟩,
       ⟨(some 36), none, .len (.tmp 35)⟩,
       ⟨(some 37), none, .bin .lss (.tmp 34) (.tmp 36)⟩]) (
     .cond (.tmp 37) (
      .skip) (
      .exit 0))) (
    .seq (
     .block 1 (
      .seq (
       .regionD [
         ⟨(some 40), none, .mov (.tmp 5)⟩,
         ⟨(some 41), none, .mov (.tmp 7)⟩,
         ⟨(some 42), none, .iadr 3 (.tmp 40) (.tmp 41)⟩,
         ⟨(some 43), none, .fadr 2 (.tmp 42)⟩,
         ⟨(some 44), none, .load 1 false (.tmp 43)⟩,
         ⟨(some 45), none, .bin .lss (.tmp 44) (.cst (.p (.int .i64 0)))⟩,
         ⟨(some 46), none, .mov (.tmp 45)⟩,
         ⟨(some 47), (some (46, false)), .mov (.tmp 5)⟩,
         ⟨(some 48), (some (46, false)), .mov (.tmp 7)⟩,
         ⟨(some 49), (some (46, false)), .iadr 3 (.tmp 47) (.tmp 48)⟩,
         ⟨(some 50), (some (46, false)), .fadr 2 (.tmp 49)⟩,
         ⟨(some 51), (some (46, false)), .load 1 false (.tmp 50)⟩,
         ⟨(some 52), (some (46, false)), .mov (.tmp 0)⟩,
         ⟨(some 53), (some (46, false)), .len (.tmp 52)⟩,
         ⟨(some 54), (some (46, false)), .bin .geq (.tmp 51) (.tmp 53)⟩,
         ⟨(some 55), none, .pick (.tmp 46) (.cst (.p (.bool true))) (.tmp 54)⟩,
         ⟨(some 56), none, .mov (.tmp 55)⟩,
         ⟨(some 57), (some (56, false)), .mov (.tmp 7)⟩,
         ⟨(some 58), (some (56, false)), .bin .gtr (.tmp 57) (.cst (.p (.int .i64 0)))⟩,
         ⟨(some 59), (some (56, false)), .mov (.tmp 58)⟩,
         ⟨(some 60), (some (59, true)), .mov (.tmp 5)⟩,
         ⟨(some 61), (some (59, true)), .mov (.tmp 7)⟩,
         ⟨(some 62), (some (59, true)), .iadr 3 (.tmp 60) (.tmp 61)⟩,
         ⟨(some 63), (some (59, true)), .fadr 2 (.tmp 62)⟩,
         ⟨(some 64), (some (59, true)), .load 1 false (.tmp 63)⟩,
         ⟨(some 65), (some (59, true)), .mov (.tmp 5)⟩,
         ⟨(some 66), (some (59, true)), .mov (.tmp 7)⟩,
         ⟨(some 67), (some (59, true)), .bin .sub (.tmp 66) (.cst (.p (.int .i64 1)))⟩,
         ⟨(some 68), (some (59, true)), .iadr 3 (.tmp 65) (.tmp 67)⟩,
         ⟨(some 69), (some (59, true)), .fadr 2 (.tmp 68)⟩,
         ⟨(some 70), (some (59, true)), .load 1 false (.tmp 69)⟩,
         ⟨(some 71), (some (59, true)), .bin .leq (.tmp 64) (.tmp 70)⟩,
         ⟨(some 72), (some (56, false)), .pick (.tmp 59) (.tmp 71) (.cst (.p (.bool false)))⟩,
         ⟨(some 73), none, .pick (.tmp 56) (.cst (.p (.bool true))) (.tmp 72)⟩]) (
       .cond (.tmp 73) (
        .seq (
         .region [
           ⟨(some 4), none, .mov (.cst (.p (.bool false)))⟩]) (
         .ret)) (
        .skip)))) (
     .region [
       ⟨(some 38), none, .mov (.tmp 7)⟩,
       ⟨(some 39), none, .bin .add (.tmp 38) (.cst (.p (.int .i64 1)))⟩,
       ⟨(some 7), none, .mov (.tmp 39)⟩]))))
def lf5_B1 : LCode := .block 2 (
  .loop (
   .seq (
    .seq (
     .region [
       ⟨(some 100), none, .mov (.tmp 11)⟩,
       ⟨(some 101), none, .mov (.tmp 9)⟩,
       ⟨(some 102), none, .len (.tmp 101)⟩,
       ⟨(some 103), none, .bin .lss (.tmp 100) (.tmp 102)⟩]) (
     .cond (.tmp 103) (
      .skip) (
      .exit 2))) (
    .seq (
     .block 3 (
      .seq (
       .regionD [
         ⟨(some 106), none, .mov (.tmp 9)⟩,
         ⟨(some 107), none, .mov (.tmp 11)⟩,
         ⟨(some 108), none, .iadr 3 (.tmp 106) (.tmp 107)⟩,
         ⟨(some 109), none, .fadr 0 (.tmp 108)⟩,
         ⟨(some 110), none, .load 1 false (.tmp 109)⟩,
         ⟨(some 111), none, .mov (.tmp 5)⟩,
         ⟨(some 112), none, .mov (.tmp 8)⟩,
         ⟨(some 113), none, .mov (.tmp 11)⟩,
         ⟨(some 114), none, .bin .add (.tmp 112) (.tmp 113)⟩,
         ⟨(some 115), none, .iadr 3 (.tmp 111) (.tmp 114)⟩,
         ⟨(some 116), none, .fadr 0 (.tmp 115)⟩,
         ⟨(some 117), none, .load 1 false (.tmp 116)⟩,
         ⟨(some 118), none, .bin .neq (.tmp 110) (.tmp 117)⟩,
         ⟨(some 119), none, .mov (.tmp 118)⟩,
         ⟨(some 120), (some (119, false)), .mov (.tmp 9)⟩,
         ⟨(some 121), (some (119, false)), .mov (.tmp 11)⟩,
         ⟨(some 122), (some (119, false)), .iadr 3 (.tmp 120) (.tmp 121)⟩,
         ⟨(some 123), (some (119, false)), .fadr 1 (.tmp 122)⟩,
         ⟨(some 124), (some (119, false)), .load 1 false (.tmp 123)⟩,
         ⟨(some 125), (some (119, false)), .mov (.tmp 5)⟩,
         ⟨(some 126), (some (119, false)), .mov (.tmp 8)⟩,
         ⟨(some 127), (some (119, false)), .mov (.tmp 11)⟩,
         ⟨(some 128), (some (119, false)), .bin .add (.tmp 126) (.tmp 127)⟩,
         ⟨(some 129), (some (119, false)), .iadr 3 (.tmp 125) (.tmp 128)⟩,
         ⟨(some 130), (some (119, false)), .fadr 1 (.tmp 129)⟩,
         ⟨(some 131), (some (119, false)), .load 1 false (.tmp 130)⟩,
         ⟨(some 132), (some (119, false)), .bin .neq (.tmp 124) (.tmp 131)⟩,
         ⟨(some 133), none, .pick (.tmp 119) (.cst (.p (.bool true))) (.tmp 132)⟩,
         ⟨(some 134), none, .mov (.tmp 133)⟩,
         ⟨(some 135), (some (134, false)), .mov (.tmp 9)⟩,
         ⟨(some 136), (some (134, false)), .mov (.tmp 11)⟩,
         ⟨(some 137), (some (134, false)), .iadr 3 (.tmp 135) (.tmp 136)⟩,
         ⟨(some 138), (some (134, false)), .fadr 2 (.tmp 137)⟩,
         ⟨(some 139), (some (134, false)), .load 1 false (.tmp 138)⟩,
         ⟨(some 140), (some (134, false)), .mov (.tmp 5)⟩,
         ⟨(some 141), (some (134, false)), .mov (.tmp 8)⟩,
         ⟨(some 142), (some (134, false)), .mov (.tmp 11)⟩,
         ⟨(some 143), (some (134, false)), .bin .add (.tmp 141) (.tmp 142)⟩,
         ⟨(some 144), (some (134, false)), .iadr 3 (.tmp 140) (.tmp 143)⟩,
         ⟨(some 145), (some (134, false)), .fadr 2 (.tmp 144)⟩,
         ⟨(some 146), (some (134, false)), .load 1 false (.tmp 145)⟩,
         ⟨(some 147), (some (134, false)), .mov (.tmp 5)⟩,
         ⟨(some 148), (some (134, false)), .mov (.tmp 8)⟩,
         ⟨(some 149), (some (134, false)), .iadr 3 (.tmp 147) (.tmp 148)⟩,
         ⟨(some 150), (some (134, false)), .fadr 2 (.tmp 149)⟩,
         ⟨(some 151), (some (134, false)), .load 1 false (.tmp 150)⟩,
         ⟨(some 152), (some (134, false)), .bin .sub (.tmp 146) (.tmp 151)⟩,
         ⟨(some 153), (some (134, false)), .bin .neq (.tmp 139) (.tmp 152)⟩,
         ⟨(some 154), none, .pick (.tmp 134) (.cst (.p (.bool true))) (.tmp 153)⟩]) (
       .cond (.tmp 154) (
        .seq (
         .region [
           ⟨(some 4), none, .mov (.cst (.p (.bool false)))⟩]) (
         .ret)) (
        .skip)))) (
     .region [
       ⟨(some 104), none, .mov (.tmp 11)⟩,
       ⟨(some 105), none, .bin .add (.tmp 104) (.cst (.p (.int .i64 1)))⟩,
       ⟨(some 11), none, .mov (.tmp 105)⟩]))))
def lf5 : LFunc := ⟨156, [(.slot 4)], (
  .seq (
   .region [
     ⟨(some 4), none, .mov (.cst (.p (.bool false)))⟩]) (
   .seq (
    .seq (
     .region [
       ⟨(some 12), none, .mov (.tmp 0)⟩,
       ⟨(some 13), none, .len (.tmp 12)⟩,
       ⟨(some 14), none, .bin .gtr (.tmp 13) (.cst (.p (.int .i64 600)))⟩]) (
     .cond (.tmp 14) (
      .seq (
       .region [
         ⟨(some 15), none, .call 8 []⟩,
         ⟨(some 4), none, .mov (.tmp 15)⟩]) (
       .ret)) (
      .skip))) (
    .seq (
     .region [
       ⟨(some 17), none, .mov (.tmp 0)⟩,
       ⟨(some 18), none, .call 9 [(.tmp 17)]⟩,
       ⟨(some 16), none, .mov (.tmp 18)⟩,
       ⟨(some 19), none, .ext (.tmp 16) 0⟩,
       ⟨(some 20), none, .ext (.tmp 16) 1⟩,
       ⟨(some 5), none, .mov (.tmp 19)⟩,
       ⟨(some 6), none, .mov (.tmp 20)⟩]) (
     .seq (
      .seq (
       .region [
         ⟨(some 21), none, .mov (.tmp 6)⟩,
         ⟨(some 22), none, .bin .neq (.tmp 21) (.cst (.p (.int .i64 0)))⟩,
         ⟨(some 23), none, .mov (.tmp 22)⟩,
         ⟨(some 24), (some (23, false)), .mov (.tmp 5)⟩,
         ⟨(some 25), (some (23, false)), .len (.tmp 24)⟩,
         ⟨(some 26), (some (23, false)), .bin .eql (.tmp 25) (.cst (.p (.int .i64 0)))⟩,
         ⟨(some 27), none, .pick (.tmp 23) (.cst (.p (.bool true))) (.tmp 26)⟩]) (
       .cond (.tmp 27) (
        .seq (
         .region [
           ⟨(some 28), none, .mov (.tmp 5)⟩,
           ⟨(some 29), none, .len (.tmp 28)⟩,
           ⟨(some 30), none, .bin .eql (.tmp 29) (.cst (.p (.int .i64 0)))⟩,
           ⟨(some 31), none, .mov (.tmp 30)⟩,
           ⟨(some 32), (some (31, true)), .call 8 []⟩,
           ⟨(some 33), none, .pick (.tmp 31) (.tmp 32) (.cst (.p (.bool false)))⟩,
           ⟨(some 4), none, .mov (.tmp 33)⟩]) (
         .ret)) (
        .skip))) (
      .seq (
       .seq (
        .region [
          ⟨(some 7), none, .mov (.cst (.p (.int .i64 0)))⟩]) (
        lf5_B0)) (
       .seq (
        .region [
          ⟨(some 74), none, .mov (.tmp 1)⟩,
          ⟨(some 75), none, .mov (.tmp 5)⟩,
          ⟨(some 76), none, .len (.tmp 75)⟩,
          ⟨(some 77), none, .call 16 [(.tmp 74), (.tmp 76)]⟩,
          ⟨(some 8), none, .mov (.tmp 77)⟩]) (
        .seq (
         .region [
           ⟨(some 79), none, .mov (.tmp 0)⟩,
           ⟨(some 80), none, .mov (.tmp 5)⟩,
           ⟨(some 81), none, .mov (.tmp 8)⟩,
           ⟨(some 82), none, .iadr 3 (.tmp 80) (.tmp 81)⟩,
           ⟨(some 83), none, .fadr 2 (.tmp 82)⟩,
           ⟨(some 84), none, .load 1 false (.tmp 83)⟩,
           ⟨(some 85), none, .slSl 1 (.tmp 79) (some (.tmp 84)) none none⟩,
           ⟨(some 86), none, .call 9 [(.tmp 85)]⟩,
           ⟨(some 78), none, .mov (.tmp 86)⟩,
           ⟨(some 87), none, .ext (.tmp 78) 0⟩,
           ⟨(some 88), none, .ext (.tmp 78) 1⟩,
           ⟨(some 9), none, .mov (.tmp 87)⟩,
           ⟨(some 10), none, .mov (.tmp 88)⟩]) (
         .seq (
          .seq (
           .region [
             ⟨(some 89), none, .mov (.tmp 10)⟩,
             ⟨(some 90), none, .bin .neq (.tmp 89) (.cst (.p (.int .i64 0)))⟩,
             ⟨(some 91), none, .mov (.tmp 90)⟩,
             ⟨(some 92), (some (91, false)), .mov (.tmp 9)⟩,
             ⟨(some 93), (some (91, false)), .len (.tmp 92)⟩,
             ⟨(some 94), (some (91, false)), .mov (.tmp 5)⟩,
             ⟨(some 95), (some (91, false)), .len (.tmp 94)⟩,
             ⟨(some 96), (some (91, false)), .mov (.tmp 8)⟩,
             ⟨(some 97), (some (91, false)), .bin .sub (.tmp 95) (.tmp 96)⟩,
             ⟨(some 98), (some (91, false)), .bin .neq (.tmp 93) (.tmp 97)⟩,
             ⟨(some 99), none, .pick (.tmp 91) (.cst (.p (.bool true))) (.tmp 98)⟩]) (
           .cond (.tmp 99) (
            .seq (
             .region [
               ⟨(some 4), none, .mov (.cst (.p (.bool false)))⟩]) (
             .ret)) (
            .skip))) (
          .seq (
           .seq (
            .region [
              ⟨(some 11), none, .mov (.cst (.p (.int .i64 0)))⟩]) (
            lf5_B1)) (
           .seq (
            .region [
              ⟨(some 155), none, .call 8 []⟩,
              ⟨(some 4), none, .mov (.tmp 155)⟩]) (
            .ret)))))))))))⟩
theorem low5 : lowFunc Tryd.prog gl0 5 = some lf5 := by kernel_rfl
def lf6_B0 : LCode := .block 0 (
  .loop (
   .seq (
    .seq (
     .region [
       ⟨(some 17), none, .mov (.tmp 7)⟩,
       ⟨(some 18), none, .mov (.tmp 0)⟩,
       ⟨(some 19), none, .len (.tmp 18)⟩,
       ⟨(some 20), none, .bin .lss (.tmp 17) (.tmp 19)⟩]) (
     .cond (.tmp 20) (
      .skip) (
      .exit 0))) (
    .seq (
     .block 1 (
      .seq (
       .region [
         ⟨(some 23), none, .mov (.tmp 0)⟩,
         ⟨(some 24), none, .mov (.tmp 7)⟩,
         ⟨(some 25), none, .iadr 1 (.tmp 23) (.tmp 24)⟩,
         ⟨(some 26), none, .load 1 false (.tmp 25)⟩,
         ⟨(some 8), none, .mov (.tmp 26)⟩]) (
       .seq (
        .region [
          ⟨(some 27), none, .mov (.tmp 6)⟩,
          ⟨(some 28), none, .mov (.tmp 27)⟩,
          ⟨(some 29), (some (28, true)), .mov (.tmp 8)⟩,
          ⟨(some 30), (some (28, true)), .bin .geq (.tmp 29) (.cst (.p (.int .u8 32)))⟩,
          ⟨(some 31), (some (28, true)), .mov (.tmp 30)⟩,
          ⟨(some 32), (some (31, true)), .mov (.tmp 8)⟩,
          ⟨(some 33), (some (31, true)), .bin .neq (.tmp 32) (.cst (.p (.int .u8 127)))⟩,
          ⟨(some 34), (some (28, true)), .pick (.tmp 31) (.tmp 33) (.cst (.p (.bool false)))⟩,
          ⟨(some 35), (some (28, true)), .mov (.tmp 34)⟩,
          ⟨(some 36), (some (35, false)), .mov (.tmp 8)⟩,
          ⟨(some 37), (some (35, false)), .bin .eql (.tmp 36) (.cst (.p (.int .u8 9)))⟩,
          ⟨(some 38), (some (28, true)), .pick (.tmp 35) (.cst (.p (.bool true))) (.tmp 37)⟩,
          ⟨(some 39), (some (28, true)), .mov (.tmp 38)⟩,
          ⟨(some 40), (some (39, false)), .mov (.tmp 8)⟩,
          ⟨(some 41), (some (39, false)), .bin .eql (.tmp 40) (.cst (.p (.int .u8 10)))⟩,
          ⟨(some 42), (some (28, true)), .pick (.tmp 39) (.cst (.p (.bool true))) (.tmp 41)⟩,
          ⟨(some 43), (some (28, true)), .mov (.tmp 42)⟩,
          ⟨(some 44), (some (43, false)), .mov (.tmp 8)⟩,
          ⟨(some 45), (some (43, false)), .bin .eql (.tmp 44) (.cst (.p (.int .u8 13)))⟩,
          ⟨(some 46), (some (28, true)), .pick (.tmp 43) (.cst (.p (.bool true))) (.tmp 45)⟩,
          ⟨(some 47), none, .pick (.tmp 28) (.tmp 46) (.cst (.p (.bool false)))⟩,
          ⟨(some 6), none, .mov (.tmp 47)⟩]) (
        .seq (
         .seq (
          .region [
            ⟨(some 48), none, .mov (.tmp 8)⟩,
            ⟨(some 49), none, .bin .eql (.tmp 48) (.cst (.p (.int .u8 34)))⟩]) (
          .cond (.tmp 49) (
           .region [
             ⟨(some 50), none, .mov (.tmp 5)⟩,
             ⟨(some 51), none, .bin .add (.tmp 50) (.cst (.p (.str [34])))⟩,
             ⟨(some 5), none, .mov (.tmp 51)⟩]) (
           .skip))) (
         .region [
           ⟨(some 52), none, .mov (.tmp 5)⟩,
           ⟨(some 53), none, .mov (.tmp 0)⟩,
           ⟨(some 54), none, .mov (.tmp 7)⟩,
           ⟨(some 55), none, .mov (.tmp 7)⟩,
           ⟨(some 56), none, .bin .add (.tmp 55) (.cst (.p (.int .i64 1)))⟩,
           ⟨(some 57), none, .slSl 1 (.tmp 53) (some (.tmp 54)) (some (.tmp 56)) none⟩,
           ⟨(some 58), none, .conv .b2s (.tmp 57)⟩,
           ⟨(some 59), none, .bin .add (.tmp 52) (.tmp 58)⟩,
           ⟨(some 5), none, .mov (.tmp 59)⟩]))))) (
     .region [
       ⟨(some 21), none, .mov (.tmp 7)⟩,
       ⟨(some 22), none, .bin .add (.tmp 21) (.cst (.p (.int .i64 1)))⟩,
       ⟨(some 7), none, .mov (.tmp 22)⟩]))))
def lf6 : LFunc := ⟨101, [(.slot 4)], (
  .seq (
   .region [
     ⟨(some 4), none, .mov (.cst (.p (.bool false)))⟩]) (
   .seq (
    .seq (
     .region [
       ⟨(some 11), none, .mov (.tmp 0)⟩,
       ⟨(some 12), none, .len (.tmp 11)⟩,
       ⟨(some 13), none, .bin .gtr (.tmp 12) (.cst (.p (.int .i64 100)))⟩]) (
     .cond (.tmp 13) (
      .seq (
       .region [
         ⟨(some 14), none, .call 8 []⟩,
         ⟨(some 4), none, .mov (.tmp 14)⟩]) (
       .ret)) (
      .skip))) (
    .seq (
     .region [
       ⟨(some 5), none, .mov (.cst (.p (.str [34])))⟩]) (
     .seq (
      .region [
        ⟨(some 15), none, .mov (.tmp 1)⟩,
        ⟨(some 16), none, .un .not (.tmp 15)⟩,
        ⟨(some 6), none, .mov (.tmp 16)⟩]) (
      .seq (
       .seq (
        .region [
          ⟨(some 7), none, .mov (.cst (.p (.int .i64 0)))⟩]) (
        lf6_B0)) (
       .seq (
        .seq (
         .region [
           ⟨(some 60), none, .mov (.tmp 1)⟩,
           ⟨(some 61), none, .un .not (.tmp 60)⟩]) (
         .cond (.tmp 61) (
          .region [
            ⟨(some 62), none, .mov (.tmp 5)⟩,
            ⟨(some 63), none, .bin .add (.tmp 62) (.cst (.p (.str [34])))⟩,
            ⟨(some 5), none, .mov (.tmp 63)⟩]) (
          .skip))) (
        .seq (
         .region [
           ⟨(some 65), none, .mov (.tmp 5)⟩,
           ⟨(some 66), none, .conv .s2b (.tmp 65)⟩,
           ⟨(some 67), none, .call 9 [(.tmp 66)]⟩,
           ⟨(some 64), none, .mov (.tmp 67)⟩,
           ⟨(some 68), none, .ext (.tmp 64) 0⟩,
           ⟨(some 69), none, .ext (.tmp 64) 1⟩,
           ⟨(some 9), none, .mov (.tmp 68)⟩,
           ⟨(some 10), none, .mov (.tmp 69)⟩]) (
         .seq (
          .seq (
           .region [
             ⟨(some 70), none, .mov (.tmp 6)⟩,
             ⟨(some 71), none, .un .not (.tmp 70)⟩]) (
           .cond (.tmp 71) (
            .seq (
             .region [
               ⟨(some 72), none, .mov (.tmp 10)⟩,
               ⟨(some 73), none, .bin .eql (.tmp 72) (.cst (.p (.int .i64 2)))⟩,
               ⟨(some 74), none, .mov (.tmp 73)⟩,
               ⟨(some 75), (some (74, true)), .mov (.tmp 9)⟩,
               ⟨(some 76), (some (74, true)), .len (.tmp 75)⟩,
               ⟨(some 77), (some (74, true)), .bin .eql (.tmp 76) (.cst (.p (.int .i64 0)))⟩,
               ⟨(some 78), none, .pick (.tmp 74) (.tmp 77) (.cst (.p (.bool false)))⟩,
               ⟨(some 79), none, .mov (.tmp 78)⟩,
               ⟨(some 80), (some (79, true)), .call 8 []⟩,
               ⟨(some 81), none, .pick (.tmp 79) (.tmp 80) (.cst (.p (.bool false)))⟩,
               ⟨(some 4), none, .mov (.tmp 81)⟩]) (
             .ret)) (
            .skip))) (
          .seq (
           .regionD [
             ⟨(some 82), none, .mov (.tmp 10)⟩,
             ⟨(some 83), none, .bin .eql (.tmp 82) (.cst (.p (.int .i64 0)))⟩,
             ⟨(some 84), none, .mov (.tmp 83)⟩,
             ⟨(some 85), (some (84, true)), .mov (.tmp 9)⟩,
             ⟨(some 86), (some (84, true)), .len (.tmp 85)⟩,
             ⟨(some 87), (some (84, true)), .bin .eql (.tmp 86) (.cst (.p (.int .i64 1)))⟩,
             ⟨(some 88), none, .pick (.tmp 84) (.tmp 87) (.cst (.p (.bool false)))⟩,
             ⟨(some 89), none, .mov (.tmp 88)⟩,
             ⟨(some 90), (some (89, true)), .mov (.tmp 9)⟩,
             ⟨(some 91), (some (89, true)), .iadr 3 (.tmp 90) (.cst (.p (.int .i64 0)))⟩,
             ⟨(some 92), (some (89, true)), .load 3 true (.tmp 91)⟩,
             ⟨(some 93), (some (89, true)), .mov (.tmp 0)⟩,
             ⟨(some 94), (some (89, true)), .conv .b2s (.tmp 93)⟩,
             ⟨(some 95), (some (89, true)), .build (.p (.agg [(.int .i64 0), (.str []), (.int .i64 0)])) [(0, 1, (.cst (.p (.int .i64 7)))), (1, 1, (.tmp 94))]⟩,
             ⟨(some 96), (some (89, true)), .eqA false [.i, .s, .i] (.tmp 92) (.tmp 95)⟩,
             ⟨(some 97), none, .pick (.tmp 89) (.tmp 96) (.cst (.p (.bool false)))⟩,
             ⟨(some 98), none, .mov (.tmp 97)⟩,
             ⟨(some 99), (some (98, true)), .call 8 []⟩,
             ⟨(some 100), none, .pick (.tmp 98) (.tmp 99) (.cst (.p (.bool false)))⟩,
             ⟨(some 4), none, .mov (.tmp 100)⟩]) (
           .ret))))))))))⟩
theorem low6 : lowFunc Tryd.prog gl0 6 = some lf6 := by kernel_rfl
def lf7_B0 : LCode := .block 0 (
  .loop (
   .seq (
    .seq (
     .region [
       ⟨(some 61), none, .mov (.tmp 11)⟩,
       ⟨(some 62), none, .mov (.tmp 9)⟩,
       ⟨(some 63), none, .len (.tmp 62)⟩,
       ⟨(some 64), none, .bin .lss (.tmp 61) (.tmp 63)⟩]) (
     .cond (.tmp 64) (
      .skip) (
      .exit 0))) (
    .seq (
     .block 1 (
      .seq (
       .region [
         ⟨(some 67), none, .build (.p (.agg [(.int .i64 0), (.str []), (.int .i64 0)])) []⟩,
         ⟨(some 12), none, .newv 3 41 (.cst (.p (.agg [(.int .i64 0), (.str []), (.int .i64 0)])))⟩,
         ⟨none, none, .store 3 (.tmp 12) (.tmp 67)⟩]) (
       .seq (
        .seq (
         .region [
           ⟨(some 68), none, .mov (.tmp 11)⟩,
           ⟨(some 69), none, .mov (.tmp 5)⟩,
           ⟨(some 70), none, .len (.tmp 69)⟩,
           ⟨(some 71), none, .bin .lss (.tmp 68) (.tmp 70)⟩]) (
         .cond (.tmp 71) (
          .region [
            ⟨(some 72), none, .mov (.tmp 5)⟩,
            ⟨(some 73), none, .mov (.tmp 11)⟩,
            ⟨(some 74), none, .iadr 3 (.tmp 72) (.tmp 73)⟩,
            ⟨(some 75), none, .load 3 true (.tmp 74)⟩,
            ⟨none, none, .store 3 (.tmp 12) (.tmp 75)⟩]) (
          .seq (
           .region [
             ⟨(some 76), none, .mov (.tmp 7)⟩,
             ⟨(some 77), none, .mov (.tmp 11)⟩,
             ⟨(some 78), none, .mov (.tmp 5)⟩,
             ⟨(some 79), none, .len (.tmp 78)⟩,
             ⟨(some 80), none, .bin .sub (.tmp 77) (.tmp 79)⟩,
             ⟨(some 81), none, .iadr 3 (.tmp 76) (.tmp 80)⟩,
             ⟨(some 82), none, .load 3 true (.tmp 81)⟩,
             ⟨none, none, .store 3 (.tmp 12) (.tmp 82)⟩]) (
           .region [
             ⟨(some 83), none, .fadr 2 (.tmp 12)⟩,
             ⟨(some 84), none, .load 1 false (.tmp 83)⟩,
             ⟨(some 85), none, .mov (.tmp 0)⟩,
             ⟨(some 86), none, .len (.tmp 85)⟩,
             ⟨(some 87), none, .bin .add (.tmp 84) (.tmp 86)⟩,
             ⟨(some 88), none, .bin .add (.tmp 87) (.cst (.p (.int .i64 1)))⟩,
             ⟨(some 89), none, .fadr 2 (.tmp 12)⟩,
             ⟨none, none, .store 1 (.tmp 89) (.tmp 88)⟩])))) (
        .seq (
         .regionD [
           ⟨(some 90), none, .mov (.tmp 9)⟩,
           ⟨(some 91), none, .mov (.tmp 11)⟩,
           ⟨(some 92), none, .iadr 3 (.tmp 90) (.tmp 91)⟩,
           ⟨(some 93), none, .load 3 true (.tmp 92)⟩,
           ⟨(some 94), none, .load 3 true (.tmp 12)⟩,
           ⟨(some 95), none, .eqA true [.i, .s, .i] (.tmp 93) (.tmp 94)⟩]) (
         .cond (.tmp 95) (
          .seq (
           .region [
             ⟨(some 4), none, .mov (.cst (.p (.bool false)))⟩]) (
           .ret)) (
          .skip)))))) (
     .region [
       ⟨(some 65), none, .mov (.tmp 11)⟩,
       ⟨(some 66), none, .bin .add (.tmp 65) (.cst (.p (.int .i64 1)))⟩,
       ⟨(some 11), none, .mov (.tmp 66)⟩]))))
def lf7 : LFunc := ⟨106, [(.slot 4)], (
  .seq (
   .region [
     ⟨(some 4), none, .mov (.cst (.p (.bool false)))⟩]) (
   .seq (
    .seq (
     .region [
       ⟨(some 13), none, .mov (.tmp 0)⟩,
       ⟨(some 14), none, .len (.tmp 13)⟩,
       ⟨(some 15), none, .bin .gtr (.tmp 14) (.cst (.p (.int .i64 300)))⟩,
       ⟨(some 16), none, .mov (.tmp 15)⟩,
       ⟨(some 17), (some (16, false)), .mov (.tmp 1)⟩,
       ⟨(some 18), (some (16, false)), .len (.tmp 17)⟩,
       ⟨(some 19), (some (16, false)), .bin .gtr (.tmp 18) (.cst (.p (.int .i64 300)))⟩,
       ⟨(some 20), none, .pick (.tmp 16) (.cst (.p (.bool true))) (.tmp 19)⟩]) (
     .cond (.tmp 20) (
      .seq (
       .region [
         ⟨(some 21), none, .call 8 []⟩,
         ⟨(some 4), none, .mov (.tmp 21)⟩]) (
       .ret)) (
      .skip))) (
    .seq (
     .region [
       ⟨(some 23), none, .mov (.tmp 0)⟩,
       ⟨(some 24), none, .call 9 [(.tmp 23)]⟩,
       ⟨(some 22), none, .mov (.tmp 24)⟩,
       ⟨(some 25), none, .ext (.tmp 22) 0⟩,
       ⟨(some 26), none, .ext (.tmp 22) 1⟩,
       ⟨(some 5), none, .mov (.tmp 25)⟩,
       ⟨(some 6), none, .mov (.tmp 26)⟩]) (
     .seq (
      .region [
        ⟨(some 28), none, .mov (.tmp 1)⟩,
        ⟨(some 29), none, .call 9 [(.tmp 28)]⟩,
        ⟨(some 27), none, .mov (.tmp 29)⟩,
        ⟨(some 30), none, .ext (.tmp 27) 0⟩,
        ⟨(some 31), none, .ext (.tmp 27) 1⟩,
        ⟨(some 7), none, .mov (.tmp 30)⟩,
        ⟨(some 8), none, .mov (.tmp 31)⟩]) (
      .seq (
       .region [
         ⟨(some 33), none, .buildSl 1 5 (.p (.int .u8 0)) 0 []⟩,
         ⟨(some 34), none, .mov (.tmp 0)⟩,
         ⟨(some 35), none, .app 1 1 5 (.tmp 33) (.tmp 34)⟩,
         ⟨(some 36), none, .buildSl 1 5 (.p (.int .u8 0)) 1 [(0, (.cst (.p (.int .u8 10))))]⟩,
         ⟨(some 37), none, .app 1 1 5 (.tmp 35) (.tmp 36)⟩,
         ⟨(some 38), none, .mov (.tmp 1)⟩,
         ⟨(some 39), none, .app 1 1 5 (.tmp 37) (.tmp 38)⟩,
         ⟨(some 40), none, .call 9 [(.tmp 39)]⟩,
         ⟨(some 32), none, .mov (.tmp 40)⟩,
         ⟨(some 41), none, .ext (.tmp 32) 0⟩,
         ⟨(some 42), none, .ext (.tmp 32) 1⟩,
         ⟨(some 9), none, .mov (.tmp 41)⟩,
         ⟨(some 10), none, .mov (.tmp 42)⟩]) (
       .seq (
        .seq (
         .region [
           ⟨(some 43), none, .mov (.tmp 6)⟩,
           ⟨(some 44), none, .bin .eql (.tmp 43) (.cst (.p (.int .i64 0)))⟩,
           ⟨(some 45), none, .mov (.tmp 44)⟩,
           ⟨(some 46), (some (45, true)), .mov (.tmp 8)⟩,
           ⟨(some 47), (some (45, true)), .bin .eql (.tmp 46) (.cst (.p (.int .i64 0)))⟩,
           ⟨(some 48), none, .pick (.tmp 45) (.tmp 47) (.cst (.p (.bool false)))⟩]) (
         .cond (.tmp 48) (
          .seq (
           .seq (
            .region [
              ⟨(some 49), none, .mov (.tmp 10)⟩,
              ⟨(some 50), none, .bin .neq (.tmp 49) (.cst (.p (.int .i64 0)))⟩,
              ⟨(some 51), none, .mov (.tmp 50)⟩,
              ⟨(some 52), (some (51, false)), .mov (.tmp 9)⟩,
              ⟨(some 53), (some (51, false)), .len (.tmp 52)⟩,
              ⟨(some 54), (some (51, false)), .mov (.tmp 5)⟩,
              ⟨(some 55), (some (51, false)), .len (.tmp 54)⟩,
              ⟨(some 56), (some (51, false)), .mov (.tmp 7)⟩,
              ⟨(some 57), (some (51, false)), .len (.tmp 56)⟩,
              ⟨(some 58), (some (51, false)), .bin .add (.tmp 55) (.tmp 57)⟩,
              ⟨(some 59), (some (51, false)), .bin .neq (.tmp 53) (.tmp 58)⟩,
              ⟨(some 60), none, .pick (.tmp 51) (.cst (.p (.bool true))) (.tmp 59)⟩]) (
            .cond (.tmp 60) (
             .seq (
              .region [
                ⟨(some 4), none, .mov (.cst (.p (.bool false)))⟩]) (
              .ret)) (
             .skip))) (
           .seq (
            .seq (
             .region [
               ⟨(some 11), none, .mov (.cst (.p (.int .i64 0)))⟩]) (
             lf7_B0)) (
            .seq (
             .region [
               ⟨(some 96), none, .call 8 []⟩,
               ⟨(some 4), none, .mov (.tmp 96)⟩]) (
             .ret)))) (
          .skip))) (
        .seq (
         .region [
           ⟨(some 97), none, .mov (.tmp 6)⟩,
           ⟨(some 98), none, .bin .neq (.tmp 97) (.cst (.p (.int .i64 0)))⟩,
           ⟨(some 99), none, .mov (.tmp 98)⟩,
           ⟨(some 100), (some (99, false)), .mov (.tmp 10)⟩,
           ⟨(some 101), (some (99, false)), .bin .eql (.tmp 100) (.cst (.p (.int .i64 2)))⟩,
           ⟨(some 102), none, .pick (.tmp 99) (.cst (.p (.bool true))) (.tmp 101)⟩,
           ⟨(some 103), none, .mov (.tmp 102)⟩,
           ⟨(some 104), (some (103, true)), .call 8 []⟩,
           ⟨(some 105), none, .pick (.tmp 103) (.tmp 104) (.cst (.p (.bool false)))⟩,
           ⟨(some 4), none, .mov (.tmp 105)⟩]) (
         .ret))))))))⟩
theorem low7 : lowFunc Tryd.prog gl0 7 = some lf7 := by kernel_rfl
def lf8 : LFunc := ⟨124, [(.slot 0)], (
  .seq (
   .region [
     ⟨(some 0), none, .mov (.cst (.p (.bool false)))⟩]) (
   .seq (
    .region [
      ⟨(some 16), none, .buildSl 1 5 (.p (.int .u8 0)) 27 [(0, (.cst (.p (.int .u8 40)))), (1, (.cst (.p (.int .u8 97)))), (2, (.cst (.p (.int .u8 124)))), (3, (.cst (.p (.int .u8 98)))), (4, (.cst (.p (.int .u8 32)))), (5, (.cst (.p (.int .u8 99)))), (6, (.cst (.p (.int .u8 124)))), (7, (.cst (.p (.int .u8 49)))), (8, (.cst (.p (.int .u8 46)))), (9, (.cst (.p (.int .u8 53)))), (10, (.cst (.p (.int .u8 48)))), (11, (.cst (.p (.int .u8 32)))), (12, (.cst (.p (.int .u8 34)))), (13, (.cst (.p (.int .u8 120)))), (14, (.cst (.p (.int .u8 34)))), (15, (.cst (.p (.int .u8 34)))), (16, (.cst (.p (.int .u8 121)))), (17, (.cst (.p (.int .u8 34)))), (18, (.cst (.p (.int .u8 32)))), (19, (.cst (.p (.int .u8 58)))), (20, (.cst (.p (.int .u8 107)))), (21, (.cst (.p (.int .u8 32)))), (22, (.cst (.p (.int .u8 48)))), (23, (.cst (.p (.int .u8 41)))), (24, (.cst (.p (.int .u8 59)))), (25, (.cst (.p (.int .u8 32)))), (26, (.cst (.p (.int .u8 122))))]⟩,
      ⟨(some 17), none, .conv .mark (.tmp 16)⟩,
      ⟨(some 18), none, .call 9 [(.tmp 17)]⟩,
      ⟨(some 15), none, .mov (.tmp 18)⟩,
      ⟨(some 19), none, .ext (.tmp 15) 0⟩,
      ⟨(some 20), none, .ext (.tmp 15) 1⟩,
      ⟨(some 1), none, .mov (.tmp 19)⟩,
      ⟨(some 2), none, .mov (.tmp 20)⟩]) (
    .seq (
     .region [
       ⟨(some 22), none, .buildSl 1 5 (.p (.int .u8 0)) 2 [(0, (.cst (.p (.int .u8 48)))), (1, (.cst (.p (.int .u8 49))))]⟩,
       ⟨(some 23), none, .conv .mark (.tmp 22)⟩,
       ⟨(some 24), none, .call 9 [(.tmp 23)]⟩,
       ⟨(some 21), none, .mov (.tmp 24)⟩,
       ⟨(some 25), none, .ext (.tmp 21) 0⟩,
       ⟨(some 26), none, .ext (.tmp 21) 1⟩,
       ⟨(some 3), none, .mov (.tmp 25)⟩,
       ⟨(some 4), none, .mov (.tmp 26)⟩]) (
     .seq (
      .region [
        ⟨(some 28), none, .buildSl 1 5 (.p (.int .u8 0)) 2 [(0, (.cst (.p (.int .u8 34)))), (1, (.cst (.p (.int .u8 120))))]⟩,
        ⟨(some 29), none, .conv .mark (.tmp 28)⟩,
        ⟨(some 30), none, .call 9 [(.tmp 29)]⟩,
        ⟨(some 27), none, .mov (.tmp 30)⟩,
        ⟨(some 31), none, .ext (.tmp 27) 0⟩,
        ⟨(some 32), none, .ext (.tmp 27) 1⟩,
        ⟨(some 5), none, .mov (.tmp 31)⟩,
        ⟨(some 6), none, .mov (.tmp 32)⟩]) (
      .seq (
       .region [
         ⟨(some 34), none, .mksl 1 1 5 (.p (.int .u8 0)) (.cst (.p (.int .i64 65537))) (.cst (.p (.int .i64 65537)))⟩,
         ⟨(some 35), none, .call 9 [(.tmp 34)]⟩,
         ⟨(some 33), none, .mov (.tmp 35)⟩,
         ⟨(some 36), none, .ext (.tmp 33) 0⟩,
         ⟨(some 37), none, .ext (.tmp 33) 1⟩,
         ⟨(some 7), none, .mov (.tmp 36)⟩,
         ⟨(some 8), none, .mov (.tmp 37)⟩]) (
       .seq (
        .region [
          ⟨(some 39), none, .call 11 [(.cst (.p (.str [97, 32, 98])))]⟩,
          ⟨(some 38), none, .mov (.tmp 39)⟩,
          ⟨(some 40), none, .ext (.tmp 38) 0⟩,
          ⟨(some 41), none, .ext (.tmp 38) 1⟩,
          ⟨(some 9), none, .mov (.tmp 40)⟩,
          ⟨(some 10), none, .mov (.tmp 41)⟩]) (
        .seq (
         .region [
           ⟨(some 43), none, .call 11 [(.cst (.p (.str [124])))]⟩,
           ⟨(some 42), none, .mov (.tmp 43)⟩,
           ⟨(some 44), none, .ext (.tmp 42) 0⟩,
           ⟨(some 45), none, .ext (.tmp 42) 1⟩,
           ⟨(some 11), none, .mov (.tmp 44)⟩,
           ⟨(some 12), none, .mov (.tmp 45)⟩]) (
         .seq (
          .region [
            ⟨(some 47), none, .call 11 [(.cst (.p (.str [105, 116, 101])))]⟩,
            ⟨(some 46), none, .mov (.tmp 47)⟩,
            ⟨(some 48), none, .ext (.tmp 46) 0⟩,
            ⟨(some 49), none, .ext (.tmp 46) 1⟩,
            ⟨(some 13), none, .mov (.tmp 48)⟩,
            ⟨(some 14), none, .mov (.tmp 49)⟩]) (
          .seq (
           .region [
             ⟨(some 50), none, .mov (.tmp 2)⟩,
             ⟨(some 51), none, .bin .eql (.tmp 50) (.cst (.p (.int .i64 0)))⟩,
             ⟨(some 52), none, .mov (.tmp 51)⟩,
             ⟨(some 53), (some (52, true)), .mov (.tmp 1)⟩,
             ⟨(some 54), (some (52, true)), .len (.tmp 53)⟩,
             ⟨(some 55), (some (52, true)), .bin .eql (.tmp 54) (.cst (.p (.int .i64 8)))⟩,
             ⟨(some 56), none, .pick (.tmp 52) (.tmp 55) (.cst (.p (.bool false)))⟩,
             ⟨(some 57), none, .mov (.tmp 56)⟩,
             ⟨(some 58), (some (57, true)), .mov (.tmp 1)⟩,
             ⟨(some 59), (some (57, true)), .iadr 3 (.tmp 58) (.cst (.p (.int .i64 2)))⟩,
             ⟨(some 60), (some (57, true)), .load 3 true (.tmp 59)⟩,
             ⟨(some 61), (some (57, true)), .build (.p (.agg [(.int .i64 0), (.str []), (.int .i64 0)])) [(0, 1, (.cst (.p (.int .i64 3)))), (1, 1, (.cst (.p (.str [98, 32, 99])))), (2, 1, (.cst (.p (.int .i64 2))))]⟩,
             ⟨(some 62), (some (57, true)), .eqA false [.i, .s, .i] (.tmp 60) (.tmp 61)⟩,
             ⟨(some 63), none, .pick (.tmp 57) (.tmp 62) (.cst (.p (.bool false)))⟩,
             ⟨(some 64), none, .mov (.tmp 63)⟩,
             ⟨(some 65), (some (64, true)), .mov (.tmp 1)⟩,
             ⟨(some 66), (some (64, true)), .iadr 3 (.tmp 65) (.cst (.p (.int .i64 3)))⟩,
             ⟨(some 67), (some (64, true)), .fadr 0 (.tmp 66)⟩,
             ⟨(some 68), (some (64, true)), .load 1 false (.tmp 67)⟩,
             ⟨(some 69), (some (64, true)), .bin .eql (.tmp 68) (.cst (.p (.int .i64 6)))⟩,
             ⟨(some 70), none, .pick (.tmp 64) (.tmp 69) (.cst (.p (.bool false)))⟩,
             ⟨(some 71), none, .mov (.tmp 70)⟩,
             ⟨(some 72), (some (71, true)), .mov (.tmp 1)⟩,
             ⟨(some 73), (some (71, true)), .iadr 3 (.tmp 72) (.cst (.p (.int .i64 4)))⟩,
             ⟨(some 74), (some (71, true)), .fadr 1 (.tmp 73)⟩,
             ⟨(some 75), (some (71, true)), .load 1 false (.tmp 74)⟩,
             ⟨(some 76), (some (71, true)), .bin .eql (.tmp 75) (.cst (.p (.str [120, 34, 121])))⟩,
             ⟨(some 77), none, .pick (.tmp 71) (.tmp 76) (.cst (.p (.bool false)))⟩,
             ⟨(some 78), none, .mov (.tmp 77)⟩,
             ⟨(some 79), (some (78, true)), .mov (.tmp 1)⟩,
             ⟨(some 80), (some (78, true)), .iadr 3 (.tmp 79) (.cst (.p (.int .i64 5)))⟩,
             ⟨(some 81), (some (78, true)), .load 3 true (.tmp 80)⟩,
             ⟨(some 82), (some (78, true)), .build (.p (.agg [(.int .i64 0), (.str []), (.int .i64 0)])) [(0, 1, (.cst (.p (.int .i64 4)))), (1, 1, (.cst (.p (.str [107])))), (2, 1, (.cst (.p (.int .i64 19))))]⟩,
             ⟨(some 83), (some (78, true)), .eqA false [.i, .s, .i] (.tmp 81) (.tmp 82)⟩,
             ⟨(some 84), none, .pick (.tmp 78) (.tmp 83) (.cst (.p (.bool false)))⟩,
             ⟨(some 85), none, .mov (.tmp 84)⟩,
             ⟨(some 86), (some (85, true)), .mov (.tmp 4)⟩,
             ⟨(some 87), (some (85, true)), .bin .eql (.tmp 86) (.cst (.p (.int .i64 2)))⟩,
             ⟨(some 88), none, .pick (.tmp 85) (.tmp 87) (.cst (.p (.bool false)))⟩,
             ⟨(some 89), none, .mov (.tmp 88)⟩,
             ⟨(some 90), (some (89, true)), .mov (.tmp 6)⟩,
             ⟨(some 91), (some (89, true)), .bin .eql (.tmp 90) (.cst (.p (.int .i64 2)))⟩,
             ⟨(some 92), none, .pick (.tmp 89) (.tmp 91) (.cst (.p (.bool false)))⟩,
             ⟨(some 93), none, .mov (.tmp 92)⟩,
             ⟨(some 94), (some (93, true)), .mov (.tmp 8)⟩,
             ⟨(some 95), (some (93, true)), .bin .eql (.tmp 94) (.cst (.p (.int .i64 4)))⟩,
             ⟨(some 96), none, .pick (.tmp 93) (.tmp 95) (.cst (.p (.bool false)))⟩,
             ⟨(some 97), none, .mov (.tmp 96)⟩,
             ⟨(some 98), (some (97, true)), .mov (.tmp 10)⟩,
             ⟨(some 99), (some (97, true)), .bin .eql (.tmp 98) (.cst (.p (.int .i64 0)))⟩,
             ⟨(some 100), none, .pick (.tmp 97) (.tmp 99) (.cst (.p (.bool false)))⟩,
             ⟨(some 101), none, .mov (.tmp 100)⟩,
             ⟨(some 102), (some (101, true)), .mov (.tmp 9)⟩,
             ⟨(some 103), (some (101, true)), .bin .eql (.tmp 102) (.cst (.p (.str [124, 97, 32, 98, 124])))⟩,
             ⟨(some 104), none, .pick (.tmp 101) (.tmp 103) (.cst (.p (.bool false)))⟩,
             ⟨(some 105), none, .mov (.tmp 104)⟩,
             ⟨(some 106), (some (105, true)), .mov (.tmp 12)⟩,
             ⟨(some 107), (some (105, true)), .bin .eql (.tmp 106) (.cst (.p (.int .i64 2)))⟩,
             ⟨(some 108), none, .pick (.tmp 105) (.tmp 107) (.cst (.p (.bool false)))⟩,
             ⟨(some 109), none, .mov (.tmp 108)⟩,
             ⟨(some 110), (some (109, true)), .mov (.tmp 14)⟩,
             ⟨(some 111), (some (109, true)), .bin .eql (.tmp 110) (.cst (.p (.int .i64 0)))⟩,
             ⟨(some 112), none, .pick (.tmp 109) (.tmp 111) (.cst (.p (.bool false)))⟩,
             ⟨(some 113), none, .mov (.tmp 112)⟩,
             ⟨(some 114), (some (113, true)), .mov (.tmp 13)⟩,
             ⟨(some 115), (some (113, true)), .bin .eql (.tmp 114) (.cst (.p (.str [124, 105, 116, 101, 124])))⟩,
             ⟨(some 116), none, .pick (.tmp 113) (.tmp 115) (.cst (.p (.bool false)))⟩,
             ⟨(some 117), none, .mov (.tmp 116)⟩,
             ⟨(some 118), (some (117, true)), .call 14 [(.cst (.p (.str [120, 33, 49])))]⟩,
             ⟨(some 119), none, .pick (.tmp 117) (.tmp 118) (.cst (.p (.bool false)))⟩,
             ⟨(some 120), none, .mov (.tmp 119)⟩,
             ⟨(some 121), (some (120, true)), .call 14 [(.cst (.p (.str [49, 120])))]⟩,
             ⟨(some 122), (some (120, true)), .un .not (.tmp 121)⟩,
             ⟨(some 123), none, .pick (.tmp 120) (.tmp 122) (.cst (.p (.bool false)))⟩,
             ⟨(some 0), none, .mov (.tmp 123)⟩]) (
           .ret))))))))))⟩
theorem low8 : lowFunc Tryd.prog gl0 8 = some lf8 := by kernel_rfl
def lf9_B0 : LCode := .block 0 (
  .loop (
   .seq (
    .seq (
     .region [
       ⟨(some 17), none, .mov (.tmp 4)⟩,
       ⟨(some 18), none, .nilc (.tmp 17)⟩,
       ⟨(some 19), none, .fadr 1 (.tmp 18)⟩,
       ⟨(some 20), none, .load 1 false (.tmp 19)⟩,
       ⟨(some 21), none, .mov (.tmp 0)⟩,
       ⟨(some 22), none, .len (.tmp 21)⟩,
       ⟨(some 23), none, .bin .lss (.tmp 20) (.tmp 22)⟩]) (
     .cond (.tmp 23) (
      .skip) (
      .exit 0))) (
    .seq (
     .block 1 (
      .seq (
       .region [
         ⟨(some 26), none, .mov (.tmp 4)⟩,
         ⟨(some 27), none, .nilc (.tmp 26)⟩,
         ⟨(some 28), none, .fadr 1 (.tmp 27)⟩,
         ⟨(some 29), none, .load 1 false (.tmp 28)⟩,
         ⟨(some 5), none, .mov (.tmp 29)⟩]) (
       .seq (
        .region [
          ⟨(some 31), none, .mov (.tmp 4)⟩,
          ⟨(some 32), none, .call 19 [(.tmp 31)]⟩,
          ⟨(some 30), none, .mov (.tmp 32)⟩,
          ⟨(some 33), none, .ext (.tmp 30) 0⟩,
          ⟨(some 34), none, .ext (.tmp 30) 1⟩,
          ⟨(some 6), none, .newv 3 41 (.cst (.p (.agg [(.int .i64 0), (.str []), (.int .i64 0)])))⟩,
          ⟨none, none, .store 3 (.tmp 6) (.tmp 33)⟩,
          ⟨(some 7), none, .mov (.tmp 34)⟩]) (
        .seq (
         .seq (
          .region [
            ⟨(some 35), none, .mov (.tmp 7)⟩,
            ⟨(some 36), none, .un .not (.tmp 35)⟩]) (
          .cond (.tmp 36) (
           .seq (
            .region [
              ⟨(some 2), none, .mov (.cst (.tight []))⟩,
              ⟨(some 3), none, .mov (.cst (.p (.int .i64 2)))⟩]) (
            .ret)) (
           .skip))) (
         .seq (
          .region [
            ⟨(some 37), none, .mov (.tmp 5)⟩,
            ⟨(some 38), none, .fadr 2 (.tmp 6)⟩,
            ⟨none, none, .store 1 (.tmp 38) (.tmp 37)⟩]) (
          .region [
            ⟨(some 39), none, .mov (.tmp 2)⟩,
            ⟨(some 40), none, .load 3 true (.tmp 6)⟩,
            ⟨(some 41), none, .buildSl 3 41 (.p (.agg [(.int .i64 0), (.str []), (.int .i64 0)])) 1 [(0, (.tmp 40))]⟩,
            ⟨(some 42), none, .app 3 32 41 (.tmp 39) (.tmp 41)⟩,
            ⟨(some 2), none, .mov (.tmp 42)⟩])))))) (
     .region [
       ⟨(some 24), none, .mov (.tmp 4)⟩,
       ⟨(some 25), none, .call 18 [(.tmp 24)]⟩]))))
def lf9 : LFunc := ⟨44, [(.slot 2), (.slot 3)], (
  .seq (
   .region [
     ⟨(some 2), none, .mov (.cst (.tight []))⟩,
     ⟨(some 3), none, .mov (.cst (.p (.int .i64 0)))⟩]) (
   .seq (
    .seq (
     .region [
       ⟨(some 8), none, .mov (.tmp 0)⟩,
       ⟨(some 9), none, .len (.tmp 8)⟩,
       ⟨(some 10), none, .bin .gtr (.tmp 9) (.cst (.p (.int .i64 65536)))⟩]) (
     .cond (.tmp 10) (
      .seq (
       .region [
         ⟨(some 2), none, .mov (.cst (.tight []))⟩,
         ⟨(some 3), none, .mov (.cst (.p (.int .i64 4)))⟩]) (
       .ret)) (
      .skip))) (
    .seq (
     .region [
       ⟨(some 11), none, .mov (.tmp 0)⟩,
       ⟨(some 12), none, .call 17 [(.tmp 11)]⟩,
       ⟨(some 13), none, .build (.agg [(.tight []), (.p (.int .i64 0))]) [(0, 1, (.tmp 12))]⟩,
       ⟨(some 14), none, .newv 2 49 (.tmp 13)⟩,
       ⟨(some 4), none, .mov (.tmp 14)⟩]) (
     .seq (
      .seq (
       .region [
         ⟨(some 15), none, .mov (.tmp 4)⟩,
         ⟨(some 16), none, .call 18 [(.tmp 15)]⟩]) (
       lf9_B0)) (
      .seq (
       .region [
         ⟨(some 43), none, .mov (.tmp 2)⟩,
         ⟨(some 2), none, .mov (.tmp 43)⟩,
         ⟨(some 3), none, .mov (.cst (.p (.int .i64 0)))⟩]) (
       .ret))))))⟩
theorem low9 : lowFunc Tryd.prog gl0 9 = some lf9 := by kernel_rfl
def lf10_B0 : LCode := .block 2 (
  .loop (
   .seq (
    .seq (
     .region [
       ⟨(some 28), none, .mov (.tmp 5)⟩,
       ⟨(some 29), none, .mov (.tmp 0)⟩,
       ⟨(some 30), none, .len (.tmp 29)⟩,
       ⟨(some 31), none, .bin .lss (.tmp 28) (.tmp 30)⟩,
       ⟨(some 32), none, .mov (.tmp 31)⟩,
       ⟨(some 33), (some (32, true)), .mov (.tmp 0)⟩,
       ⟨(some 34), (some (32, true)), .mov (.tmp 5)⟩,
       ⟨(some 35), (some (32, true)), .iadr 1 (.tmp 33) (.tmp 34)⟩,
       ⟨(some 36), (some (32, true)), .load 1 false (.tmp 35)⟩,
       ⟨(some 37), (some (32, true)), .bin .neq (.tmp 36) (.cst (.p (.int .u8 10)))⟩,
       ⟨(some 38), none, .pick (.tmp 32) (.tmp 37) (.cst (.p (.bool false)))⟩,
       ⟨(some 39), none, .mov (.tmp 38)⟩,
       ⟨(some 40), (some (39, true)), .mov (.tmp 0)⟩,
       ⟨(some 41), (some (39, true)), .mov (.tmp 5)⟩,
       ⟨(some 42), (some (39, true)), .iadr 1 (.tmp 40) (.tmp 41)⟩,
       ⟨(some 43), (some (39, true)), .load 1 false (.tmp 42)⟩,
       ⟨(some 44), (some (39, true)), .bin .neq (.tmp 43) (.cst (.p (.int .u8 13)))⟩,
       ⟨(some 45), none, .pick (.tmp 39) (.tmp 44) (.cst (.p (.bool false)))⟩]) (
     .cond (.tmp 45) (
      .skip) (
      .exit 2))) (
    .block 3 (
     .region [
       ⟨(some 46), none, .mov (.tmp 5)⟩,
       ⟨(some 47), none, .bin .add (.tmp 46) (.cst (.p (.int .i64 1)))⟩,
       ⟨(some 5), none, .mov (.tmp 47)⟩]))))
def lf10_B1 : LCode := .block 0 (
  .loop (
   .seq (
    .seq (
     .region [
       ⟨(some 12), none, .mov (.tmp 5)⟩,
       ⟨(some 13), none, .mov (.tmp 0)⟩,
       ⟨(some 14), none, .len (.tmp 13)⟩,
       ⟨(some 15), none, .bin .lss (.tmp 12) (.tmp 14)⟩]) (
     .cond (.tmp 15) (
      .skip) (
      .exit 0))) (
    .block 1 (
     .seq (
      .seq (
       .region [
         ⟨(some 16), none, .mov (.tmp 0)⟩,
         ⟨(some 17), none, .mov (.tmp 5)⟩,
         ⟨(some 18), none, .iadr 1 (.tmp 16) (.tmp 17)⟩,
         ⟨(some 19), none, .load 1 false (.tmp 18)⟩,
         ⟨(some 20), none, .call 20 [(.tmp 19)]⟩]) (
       .cond (.tmp 20) (
        .seq (
         .region [
           ⟨(some 21), none, .mov (.tmp 5)⟩,
           ⟨(some 22), none, .bin .add (.tmp 21) (.cst (.p (.int .i64 1)))⟩,
           ⟨(some 5), none, .mov (.tmp 22)⟩]) (
         .exit 1)) (
        .skip))) (
      .seq (
       .seq (
        .region [
          ⟨(some 23), none, .mov (.tmp 0)⟩,
          ⟨(some 24), none, .mov (.tmp 5)⟩,
          ⟨(some 25), none, .iadr 1 (.tmp 23) (.tmp 24)⟩,
          ⟨(some 26), none, .load 1 false (.tmp 25)⟩,
          ⟨(some 27), none, .bin .eql (.tmp 26) (.cst (.p (.int .u8 59)))⟩]) (
        .cond (.tmp 27) (
         .seq (
          lf10_B0) (
          .exit 1)) (
         .skip))) (
       .seq (
        .region [
          ⟨(some 49), none, .mov (.tmp 0)⟩,
          ⟨(some 50), none, .mov (.tmp 5)⟩,
          ⟨(some 51), none, .call 21 [(.tmp 49), (.tmp 50)]⟩,
          ⟨(some 48), none, .mov (.tmp 51)⟩,
          ⟨(some 52), none, .ext (.tmp 48) 0⟩,
          ⟨(some 53), none, .ext (.tmp 48) 1⟩,
          ⟨(some 54), none, .ext (.tmp 48) 2⟩,
          ⟨(some 6), none, .newv 3 41 (.cst (.p (.agg [(.int .i64 0), (.str []), (.int .i64 0)])))⟩,
          ⟨none, none, .store 3 (.tmp 6) (.tmp 52)⟩,
          ⟨(some 7), none, .mov (.tmp 53)⟩,
          ⟨(some 8), none, .mov (.tmp 54)⟩]) (
        .seq (
         .seq (
          .region [
            ⟨(some 55), none, .mov (.tmp 8)⟩,
            ⟨(some 56), none, .un .not (.tmp 55)⟩]) (
          .cond (.tmp 56) (
           .seq (
            .region [
              ⟨(some 2), none, .mov (.cst (.tight []))⟩,
              ⟨(some 3), none, .mov (.cst (.p (.int .i64 2)))⟩]) (
            .ret)) (
           .skip))) (
         .seq (
          .region [
            ⟨(some 57), none, .mov (.tmp 4)⟩,
            ⟨(some 58), none, .load 3 true (.tmp 6)⟩,
            ⟨(some 59), none, .buildSl 3 41 (.p (.agg [(.int .i64 0), (.str []), (.int .i64 0)])) 1 [(0, (.tmp 58))]⟩,
            ⟨(some 60), none, .app 3 32 41 (.tmp 57) (.tmp 59)⟩,
            ⟨(some 4), none, .mov (.tmp 60)⟩]) (
          .region [
            ⟨(some 61), none, .mov (.tmp 7)⟩,
            ⟨(some 5), none, .mov (.tmp 61)⟩])))))))))
def lf10 : LFunc := ⟨63, [(.slot 2), (.slot 3)], (
  .seq (
   .region [
     ⟨(some 2), none, .mov (.cst (.tight []))⟩,
     ⟨(some 3), none, .mov (.cst (.p (.int .i64 0)))⟩]) (
   .seq (
    .seq (
     .region [
       ⟨(some 9), none, .mov (.tmp 0)⟩,
       ⟨(some 10), none, .len (.tmp 9)⟩,
       ⟨(some 11), none, .bin .gtr (.tmp 10) (.cst (.p (.int .i64 65536)))⟩]) (
     .cond (.tmp 11) (
      .seq (
       .region [
         ⟨(some 2), none, .mov (.cst (.tight []))⟩,
         ⟨(some 3), none, .mov (.cst (.p (.int .i64 4)))⟩]) (
       .ret)) (
      .skip))) (
    .seq (
     .region [
       ⟨(some 4), none, .mov (.cst (.tight []))⟩]) (
     .seq (
      .seq (
       .region [
         ⟨(some 5), none, .mov (.cst (.p (.int .i64 0)))⟩]) (
       lf10_B1)) (
      .seq (
       .region [
         ⟨(some 62), none, .mov (.tmp 4)⟩,
         ⟨(some 2), none, .mov (.tmp 62)⟩,
         ⟨(some 3), none, .mov (.cst (.p (.int .i64 0)))⟩]) (
       .ret))))))⟩
theorem low10 : lowFunc Tryd.prog gl0 10 = some lf10 := by kernel_rfl
def lf11_B0 : LCode := .block 0 (
  .loop (
   .seq (
    .region [
      ⟨(some 16), none, .bin .lss (.tmp 15) (.tmp 14)⟩]) (
    .seq (
     .cond (.tmp 16) (
      .skip) (
      .exit 0)) (
     .seq (
      .block 1 (
       .seq (
        .region [
          ⟨(some 17), none, .mov (.tmp 15)⟩,
          ⟨(some 4), none, .mov (.tmp 17)⟩]) (
        .seq (
         .region [
           ⟨(some 18), none, .mov (.tmp 0)⟩,
           ⟨(some 19), none, .mov (.tmp 4)⟩,
           ⟨(some 20), none, .istr (.tmp 18) (.tmp 19)⟩,
           ⟨(some 21), none, .bin .eql (.tmp 20) (.cst (.p (.int .u8 124)))⟩,
           ⟨(some 22), none, .mov (.tmp 21)⟩,
           ⟨(some 23), (some (22, false)), .mov (.tmp 0)⟩,
           ⟨(some 24), (some (22, false)), .mov (.tmp 4)⟩,
           ⟨(some 25), (some (22, false)), .istr (.tmp 23) (.tmp 24)⟩,
           ⟨(some 26), (some (22, false)), .bin .eql (.tmp 25) (.cst (.p (.int .u8 92)))⟩,
           ⟨(some 27), none, .pick (.tmp 22) (.cst (.p (.bool true))) (.tmp 26)⟩,
           ⟨(some 28), none, .mov (.tmp 27)⟩,
           ⟨(some 29), (some (28, false)), .mov (.tmp 0)⟩,
           ⟨(some 30), (some (28, false)), .mov (.tmp 4)⟩,
           ⟨(some 31), (some (28, false)), .istr (.tmp 29) (.tmp 30)⟩,
           ⟨(some 32), (some (28, false)), .call 23 [(.tmp 31)]⟩,
           ⟨(some 33), (some (28, false)), .un .not (.tmp 32)⟩,
           ⟨(some 34), none, .pick (.tmp 28) (.cst (.p (.bool true))) (.tmp 33)⟩]) (
         .cond (.tmp 34) (
          .seq (
           .region [
             ⟨(some 2), none, .mov (.cst (.p (.str [])))⟩,
             ⟨(some 3), none, .mov (.cst (.p (.int .i64 2)))⟩]) (
           .ret)) (
          .skip))))) (
      .region [
        ⟨(some 35), none, .bin .add (.tmp 15) (.cst (.p (.int .i64 1)))⟩,
        ⟨(some 15), none, .mov (.tmp 35)⟩])))))
def lf11 : LFunc := ⟨39, [(.slot 2), (.slot 3)], (
  .seq (
   .region [
     ⟨(some 2), none, .mov (.cst (.p (.str [])))⟩,
     ⟨(some 3), none, .mov (.cst (.p (.int .i64 0)))⟩]) (
   .seq (
    .seq (
     .region [
       ⟨(some 5), none, .mov (.tmp 0)⟩,
       ⟨(some 6), none, .call 14 [(.tmp 5)]⟩,
       ⟨(some 7), none, .mov (.tmp 6)⟩,
       ⟨(some 8), (some (7, true)), .mov (.tmp 0)⟩,
       ⟨(some 9), (some (7, true)), .call 22 [(.tmp 8)]⟩,
       ⟨(some 10), (some (7, true)), .un .not (.tmp 9)⟩,
       ⟨(some 11), none, .pick (.tmp 7) (.tmp 10) (.cst (.p (.bool false)))⟩]) (
     .cond (.tmp 11) (
      .seq (
       .region [
         ⟨(some 12), none, .mov (.tmp 0)⟩,
         ⟨(some 2), none, .mov (.tmp 12)⟩,
         ⟨(some 3), none, .mov (.cst (.p (.int .i64 0)))⟩]) (
       .ret)) (
      .skip))) (
    .seq (
     .seq (
      .region [
        ⟨(some 13), none, .mov (.tmp 0)⟩,
        ⟨(some 14), none, .lenS (.tmp 13)⟩,
        ⟨(some 15), none, .mov (.cst (.p (.int .i64 0)))⟩]) (
      lf11_B0)) (
     .seq (
      .region [
        ⟨(some 36), none, .mov (.tmp 0)⟩,
        ⟨(some 37), none, .bin .add (.cst (.p (.str [124]))) (.tmp 36)⟩,
        ⟨(some 38), none, .bin .add (.tmp 37) (.cst (.p (.str [124])))⟩,
        ⟨(some 2), none, .mov (.tmp 38)⟩,
        ⟨(some 3), none, .mov (.cst (.p (.int .i64 0)))⟩]) (
      .ret)))))⟩
theorem low11 : lowFunc Tryd.prog gl0 11 = some lf11 := by kernel_rfl
def lf12_B0 : LCode := .block 0 (
  .loop (
   .seq (
    .seq (
     .region [
       ⟨(some 13), none, .mov (.tmp 4)⟩,
       ⟨(some 14), none, .mov (.tmp 0)⟩,
       ⟨(some 15), none, .lenS (.tmp 14)⟩,
       ⟨(some 16), none, .bin .lss (.tmp 13) (.tmp 15)⟩]) (
     .cond (.tmp 16) (
      .skip) (
      .exit 0))) (
    .seq (
     .block 1 (
      .seq (
       .region [
         ⟨(some 19), none, .mov (.tmp 0)⟩,
         ⟨(some 20), none, .mov (.tmp 4)⟩,
         ⟨(some 21), none, .istr (.tmp 19) (.tmp 20)⟩,
         ⟨(some 22), none, .bin .eql (.tmp 21) (.cst (.p (.int .u8 124)))⟩,
         ⟨(some 23), none, .mov (.tmp 22)⟩,
         ⟨(some 24), (some (23, false)), .mov (.tmp 0)⟩,
         ⟨(some 25), (some (23, false)), .mov (.tmp 4)⟩,
         ⟨(some 26), (some (23, false)), .istr (.tmp 24) (.tmp 25)⟩,
         ⟨(some 27), (some (23, false)), .bin .eql (.tmp 26) (.cst (.p (.int .u8 92)))⟩,
         ⟨(some 28), none, .pick (.tmp 23) (.cst (.p (.bool true))) (.tmp 27)⟩,
         ⟨(some 29), none, .mov (.tmp 28)⟩,
         ⟨(some 30), (some (29, false)), .mov (.tmp 0)⟩,
         ⟨(some 31), (some (29, false)), .mov (.tmp 4)⟩,
         ⟨(some 32), (some (29, false)), .istr (.tmp 30) (.tmp 31)⟩,
         ⟨(some 33), (some (29, false)), .call 25 [(.tmp 32)]⟩,
         ⟨(some 34), (some (29, false)), .un .not (.tmp 33)⟩,
         ⟨(some 35), none, .pick (.tmp 29) (.cst (.p (.bool true))) (.tmp 34)⟩]) (
       .cond (.tmp 35) (
        .seq (
         .region [
           ⟨(some 2), none, .mov (.cst (.p (.str [])))⟩,
           ⟨(some 3), none, .mov (.cst (.p (.bool false)))⟩]) (
         .ret)) (
        .skip)))) (
     .region [
       ⟨(some 17), none, .mov (.tmp 4)⟩,
       ⟨(some 18), none, .bin .add (.tmp 17) (.cst (.p (.int .i64 1)))⟩,
       ⟨(some 4), none, .mov (.tmp 18)⟩]))))
def lf12 : LFunc := ⟨39, [(.slot 2), (.slot 3)], (
  .seq (
   .region [
     ⟨(some 2), none, .mov (.cst (.p (.str [])))⟩,
     ⟨(some 3), none, .mov (.cst (.p (.bool false)))⟩]) (
   .seq (
    .seq (
     .region [
       ⟨(some 5), none, .mov (.tmp 0)⟩,
       ⟨(some 6), none, .call 15 [(.tmp 5)]⟩,
       ⟨(some 7), none, .mov (.tmp 6)⟩,
       ⟨(some 8), (some (7, true)), .mov (.tmp 0)⟩,
       ⟨(some 9), (some (7, true)), .call 24 [(.tmp 8)]⟩,
       ⟨(some 10), (some (7, true)), .un .not (.tmp 9)⟩,
       ⟨(some 11), none, .pick (.tmp 7) (.tmp 10) (.cst (.p (.bool false)))⟩]) (
     .cond (.tmp 11) (
      .seq (
       .region [
         ⟨(some 12), none, .mov (.tmp 0)⟩,
         ⟨(some 2), none, .mov (.tmp 12)⟩,
         ⟨(some 3), none, .mov (.cst (.p (.bool true)))⟩]) (
       .ret)) (
      .skip))) (
    .seq (
     .seq (
      .region [
        ⟨(some 4), none, .mov (.cst (.p (.int .i64 0)))⟩]) (
      lf12_B0)) (
     .seq (
      .region [
        ⟨(some 36), none, .mov (.tmp 0)⟩,
        ⟨(some 37), none, .bin .add (.cst (.p (.str [124]))) (.tmp 36)⟩,
        ⟨(some 38), none, .bin .add (.tmp 37) (.cst (.p (.str [124])))⟩,
        ⟨(some 2), none, .mov (.tmp 38)⟩,
        ⟨(some 3), none, .mov (.cst (.p (.bool true)))⟩]) (
      .ret)))))⟩
theorem low12 : lowFunc Tryd.prog gl0 12 = some lf12 := by kernel_rfl
def lf13_B0 : LCode := .block 0 (
  .loop (
   .seq (
    .seq (
     .region [
       ⟨(some 11), none, .mov (.tmp 5)⟩,
       ⟨(some 12), none, .mov (.tmp 0)⟩,
       ⟨(some 13), none, .len (.tmp 12)⟩,
       ⟨(some 14), none, .bin .lss (.tmp 11) (.tmp 13)⟩]) (
     .cond (.tmp 14) (
      .skip) (
      .exit 0))) (
    .seq (
     .block 1 (
      .seq (
       .regionD [
         ⟨(some 17), none, .mov (.tmp 0)⟩,
         ⟨(some 18), none, .mov (.tmp 5)⟩,
         ⟨(some 19), none, .iadr 3 (.tmp 17) (.tmp 18)⟩,
         ⟨(some 20), none, .load 3 true (.tmp 19)⟩,
         ⟨(some 21), none, .mov (.tmp 1)⟩,
         ⟨(some 22), none, .mov (.tmp 5)⟩,
         ⟨(some 23), none, .iadr 3 (.tmp 21) (.tmp 22)⟩,
         ⟨(some 24), none, .load 3 true (.tmp 23)⟩,
         ⟨(some 25), none, .eqA true [.i, .s, .i] (.tmp 20) (.tmp 24)⟩]) (
       .cond (.tmp 25) (
        .seq (
         .region [
           ⟨(some 4), none, .mov (.cst (.p (.bool false)))⟩]) (
         .ret)) (
        .skip)))) (
     .region [
       ⟨(some 15), none, .mov (.tmp 5)⟩,
       ⟨(some 16), none, .bin .add (.tmp 15) (.cst (.p (.int .i64 1)))⟩,
       ⟨(some 5), none, .mov (.tmp 16)⟩]))))
def lf13 : LFunc := ⟨26, [(.slot 4)], (
  .seq (
   .region [
     ⟨(some 4), none, .mov (.cst (.p (.bool false)))⟩]) (
   .seq (
    .seq (
     .region [
       ⟨(some 6), none, .mov (.tmp 0)⟩,
       ⟨(some 7), none, .len (.tmp 6)⟩,
       ⟨(some 8), none, .mov (.tmp 1)⟩,
       ⟨(some 9), none, .len (.tmp 8)⟩,
       ⟨(some 10), none, .bin .neq (.tmp 7) (.tmp 9)⟩]) (
     .cond (.tmp 10) (
      .seq (
       .region [
         ⟨(some 4), none, .mov (.cst (.p (.bool false)))⟩]) (
       .ret)) (
      .skip))) (
    .seq (
     .seq (
      .region [
        ⟨(some 5), none, .mov (.cst (.p (.int .i64 0)))⟩]) (
      lf13_B0)) (
     .seq (
      .region [
        ⟨(some 4), none, .mov (.cst (.p (.bool true)))⟩]) (
      .ret)))))⟩
theorem low13 : lowFunc Tryd.prog gl0 13 = some lf13 := by kernel_rfl
def lf14_B0 : LCode := .block 0 (
  .loop (
   .seq (
    .region [
      ⟨(some 7), none, .bin .lss (.tmp 6) (.tmp 5)⟩]) (
    .seq (
     .cond (.tmp 7) (
      .skip) (
      .exit 0)) (
     .seq (
      .block 1 (
       .seq (
        .region [
          ⟨(some 8), none, .mov (.tmp 6)⟩,
          ⟨(some 3), none, .mov (.tmp 8)⟩]) (
        .seq (
         .region [
           ⟨(some 9), none, .mov (.tmp 0)⟩,
           ⟨(some 10), none, .mov (.tmp 3)⟩,
           ⟨(some 11), none, .istr (.tmp 9) (.tmp 10)⟩,
           ⟨(some 12), none, .call 26 [(.tmp 11)]⟩,
           ⟨(some 13), none, .un .not (.tmp 12)⟩]) (
         .cond (.tmp 13) (
          .seq (
           .region [
             ⟨(some 2), none, .mov (.cst (.p (.bool false)))⟩]) (
           .ret)) (
          .skip))))) (
      .region [
        ⟨(some 14), none, .bin .add (.tmp 6) (.cst (.p (.int .i64 1)))⟩,
        ⟨(some 6), none, .mov (.tmp 14)⟩])))))
def lf14 : LFunc := ⟨23, [(.slot 2)], (
  .seq (
   .region [
     ⟨(some 2), none, .mov (.cst (.p (.bool false)))⟩]) (
   .seq (
    .seq (
     .region [
       ⟨(some 4), none, .mov (.tmp 0)⟩,
       ⟨(some 5), none, .lenS (.tmp 4)⟩,
       ⟨(some 6), none, .mov (.cst (.p (.int .i64 0)))⟩]) (
     lf14_B0)) (
    .seq (
     .region [
       ⟨(some 15), none, .mov (.tmp 0)⟩,
       ⟨(some 16), none, .bin .neq (.tmp 15) (.cst (.p (.str [])))⟩,
       ⟨(some 17), none, .mov (.tmp 16)⟩,
       ⟨(some 18), (some (17, true)), .mov (.tmp 0)⟩,
       ⟨(some 19), (some (17, true)), .istr (.tmp 18) (.cst (.p (.int .i64 0)))⟩,
       ⟨(some 20), (some (17, true)), .call 27 [(.tmp 19)]⟩,
       ⟨(some 21), (some (17, true)), .un .not (.tmp 20)⟩,
       ⟨(some 22), none, .pick (.tmp 17) (.tmp 21) (.cst (.p (.bool false)))⟩,
       ⟨(some 2), none, .mov (.tmp 22)⟩]) (
     .ret))))⟩
theorem low14 : lowFunc Tryd.prog gl0 14 = some lf14 := by kernel_rfl
def lf15_B0 : LCode := .block 0 (
  .loop (
   .seq (
    .seq (
     .region [
       ⟨(some 4), none, .mov (.tmp 3)⟩,
       ⟨(some 5), none, .mov (.tmp 0)⟩,
       ⟨(some 6), none, .lenS (.tmp 5)⟩,
       ⟨(some 7), none, .bin .lss (.tmp 4) (.tmp 6)⟩]) (
     .cond (.tmp 7) (
      .skip) (
      .exit 0))) (
    .seq (
     .block 1 (
      .seq (
       .region [
         ⟨(some 10), none, .mov (.tmp 0)⟩,
         ⟨(some 11), none, .mov (.tmp 3)⟩,
         ⟨(some 12), none, .istr (.tmp 10) (.tmp 11)⟩,
         ⟨(some 13), none, .call 28 [(.tmp 12)]⟩,
         ⟨(some 14), none, .un .not (.tmp 13)⟩]) (
       .cond (.tmp 14) (
        .seq (
         .region [
           ⟨(some 2), none, .mov (.cst (.p (.bool false)))⟩]) (
         .ret)) (
        .skip)))) (
     .region [
       ⟨(some 8), none, .mov (.tmp 3)⟩,
       ⟨(some 9), none, .bin .add (.tmp 8) (.cst (.p (.int .i64 1)))⟩,
       ⟨(some 3), none, .mov (.tmp 9)⟩]))))
def lf15 : LFunc := ⟨24, [(.slot 2)], (
  .seq (
   .region [
     ⟨(some 2), none, .mov (.cst (.p (.bool false)))⟩]) (
   .seq (
    .seq (
     .region [
       ⟨(some 3), none, .mov (.cst (.p (.int .i64 0)))⟩]) (
     lf15_B0)) (
    .seq (
     .region [
       ⟨(some 15), none, .mov (.tmp 0)⟩,
       ⟨(some 16), none, .lenS (.tmp 15)⟩,
       ⟨(some 17), none, .bin .gtr (.tmp 16) (.cst (.p (.int .i64 0)))⟩,
       ⟨(some 18), none, .mov (.tmp 17)⟩,
       ⟨(some 19), (some (18, true)), .mov (.tmp 0)⟩,
       ⟨(some 20), (some (18, true)), .istr (.tmp 19) (.cst (.p (.int .i64 0)))⟩,
       ⟨(some 21), (some (18, true)), .call 29 [(.tmp 20)]⟩,
       ⟨(some 22), (some (18, true)), .un .not (.tmp 21)⟩,
       ⟨(some 23), none, .pick (.tmp 18) (.tmp 22) (.cst (.p (.bool false)))⟩,
       ⟨(some 2), none, .mov (.tmp 23)⟩]) (
     .ret))))⟩
theorem low15 : lowFunc Tryd.prog gl0 15 = some lf15 := by kernel_rfl
def lf16 : LFunc := ⟨12, [(.slot 4)], (
  .seq (
   .region [
     ⟨(some 4), none, .mov (.cst (.p (.int .i64 0)))⟩]) (
   .seq (
    .region [
      ⟨(some 5), none, .mov (.tmp 0)⟩,
      ⟨(some 6), none, .mov (.tmp 1)⟩,
      ⟨(some 7), none, .bin .rem (.tmp 5) (.tmp 6)⟩,
      ⟨(some 8), none, .mov (.tmp 1)⟩,
      ⟨(some 9), none, .bin .add (.tmp 7) (.tmp 8)⟩,
      ⟨(some 10), none, .mov (.tmp 1)⟩,
      ⟨(some 11), none, .bin .rem (.tmp 9) (.tmp 10)⟩,
      ⟨(some 4), none, .mov (.tmp 11)⟩]) (
    .ret)))⟩
theorem low16 : lowFunc Tryd.prog gl0 16 = some lf16 := by kernel_rfl
def lf17 : LFunc := ⟨8, [(.slot 2)], (
  .seq (
   .region [
     ⟨(some 2), none, .mov (.cst (.tight []))⟩]) (
   .seq (
    .seq (
     .region [
       ⟨(some 3), none, .mov (.tmp 0)⟩,
       ⟨(some 4), none, .eqS false (.tmp 3) (.cst (.tight []))⟩]) (
     .cond (.tmp 4) (
      .seq (
       .region [
         ⟨(some 2), none, .mov (.cst (.tight []))⟩]) (
       .ret)) (
      .skip))) (
    .seq (
     .region [
       ⟨(some 5), none, .buildSl 1 5 (.p (.int .u8 0)) 0 []⟩,
       ⟨(some 6), none, .mov (.tmp 0)⟩,
       ⟨(some 7), none, .app 1 1 5 (.tmp 5) (.tmp 6)⟩,
       ⟨(some 2), none, .mov (.tmp 7)⟩]) (
     .ret))))⟩
theorem low17 : lowFunc Tryd.prog gl0 17 = some lf17 := by kernel_rfl
def lf18_B0 : LCode := .block 0 (
  .loop (
   .block 1 (
    .seq (
     .region [
       ⟨(some 2), none, .mov (.tmp 0)⟩,
       ⟨(some 3), none, .call 30 [(.tmp 2), (.cst (.p (.clo 31 [])))]⟩]) (
     .seq (
      .seq (
       .regionD [
         ⟨(some 4), none, .mov (.tmp 0)⟩,
         ⟨(some 5), none, .nilc (.tmp 4)⟩,
         ⟨(some 6), none, .fadr 1 (.tmp 5)⟩,
         ⟨(some 7), none, .load 1 false (.tmp 6)⟩,
         ⟨(some 8), none, .mov (.tmp 0)⟩,
         ⟨(some 9), none, .nilc (.tmp 8)⟩,
         ⟨(some 10), none, .fadr 0 (.tmp 9)⟩,
         ⟨(some 11), none, .load 1 false (.tmp 10)⟩,
         ⟨(some 12), none, .len (.tmp 11)⟩,
         ⟨(some 13), none, .bin .geq (.tmp 7) (.tmp 12)⟩,
         ⟨(some 14), none, .mov (.tmp 13)⟩,
         ⟨(some 15), (some (14, false)), .mov (.tmp 0)⟩,
         ⟨(some 16), (some (14, false)), .nilc (.tmp 15)⟩,
         ⟨(some 17), (some (14, false)), .fadr 0 (.tmp 16)⟩,
         ⟨(some 18), (some (14, false)), .load 1 false (.tmp 17)⟩,
         ⟨(some 19), (some (14, false)), .mov (.tmp 0)⟩,
         ⟨(some 20), (some (14, false)), .nilc (.tmp 19)⟩,
         ⟨(some 21), (some (14, false)), .fadr 1 (.tmp 20)⟩,
         ⟨(some 22), (some (14, false)), .load 1 false (.tmp 21)⟩,
         ⟨(some 23), (some (14, false)), .iadr 1 (.tmp 18) (.tmp 22)⟩,
         ⟨(some 24), (some (14, false)), .load 1 false (.tmp 23)⟩,
         ⟨(some 25), (some (14, false)), .bin .neq (.tmp 24) (.cst (.p (.int .u8 59)))⟩,
         ⟨(some 26), none, .pick (.tmp 14) (.cst (.p (.bool true))) (.tmp 25)⟩]) (
       .cond (.tmp 26) (
        .ret) (
        .skip))) (
      .region [
        ⟨(some 27), none, .mov (.tmp 0)⟩,
        ⟨(some 28), none, .call 30 [(.tmp 27), (.cst (.p (.clo 33 [])))]⟩])))))
def lf18 : LFunc := ⟨29, [], (
  lf18_B0)⟩
theorem low18 : lowFunc Tryd.prog gl0 18 = some lf18 := by kernel_rfl
def lf19 : LFunc := ⟨82, [(.cell 2 3 true), (.slot 3)], (
  .seq (
   .region [
     ⟨(some 2), none, .newv 3 41 (.cst (.p (.agg [(.int .i64 0), (.str []), (.int .i64 0)])))⟩,
     ⟨(some 3), none, .mov (.cst (.p (.bool false)))⟩]) (
   .seq (
    .seq (
     .regionD [
       ⟨(some 7), none, .mov (.tmp 0)⟩,
       ⟨(some 8), none, .nilc (.tmp 7)⟩,
       ⟨(some 9), none, .fadr 0 (.tmp 8)⟩,
       ⟨(some 10), none, .load 1 false (.tmp 9)⟩,
       ⟨(some 11), none, .mov (.tmp 0)⟩,
       ⟨(some 12), none, .nilc (.tmp 11)⟩,
       ⟨(some 13), none, .fadr 1 (.tmp 12)⟩,
       ⟨(some 14), none, .load 1 false (.tmp 13)⟩,
       ⟨(some 15), none, .iadr 1 (.tmp 10) (.tmp 14)⟩,
       ⟨(some 16), none, .load 1 false (.tmp 15)⟩,
       ⟨(some 4), none, .mov (.tmp 16)⟩]) (
     .block 0 (
      .seq (
       .region [
         ⟨(some 18), none, .mov (.tmp 4)⟩,
         ⟨(some 19), none, .bin .eql (.tmp 18) (.cst (.p (.int .u8 40)))⟩,
         ⟨(some 17), none, .mov (.tmp 19)⟩]) (
       .cond (.tmp 17) (
        .seq (
         .region [
           ⟨(some 20), none, .mov (.tmp 0)⟩,
           ⟨(some 21), none, .nilc (.tmp 20)⟩,
           ⟨(some 22), none, .fadr 1 (.tmp 21)⟩,
           ⟨(some 23), none, .load 1 false (.tmp 22)⟩,
           ⟨(some 24), none, .bin .add (.tmp 23) (.cst (.p (.int .i64 1)))⟩,
           ⟨(some 25), none, .nilc (.tmp 20)⟩,
           ⟨(some 26), none, .fadr 1 (.tmp 25)⟩,
           ⟨none, none, .store 1 (.tmp 26) (.tmp 24)⟩]) (
         .seq (
          .region [
            ⟨(some 27), none, .build (.p (.agg [(.int .i64 0), (.str []), (.int .i64 0)])) [(0, 1, (.cst (.p (.int .i64 1))))]⟩,
            ⟨none, none, .store 3 (.tmp 2) (.tmp 27)⟩,
            ⟨(some 3), none, .mov (.cst (.p (.bool true)))⟩]) (
          .ret))) (
        .seq (
         .region [
           ⟨(some 29), none, .mov (.tmp 4)⟩,
           ⟨(some 30), none, .bin .eql (.tmp 29) (.cst (.p (.int .u8 41)))⟩,
           ⟨(some 28), none, .mov (.tmp 30)⟩]) (
         .cond (.tmp 28) (
          .seq (
           .region [
             ⟨(some 31), none, .mov (.tmp 0)⟩,
             ⟨(some 32), none, .nilc (.tmp 31)⟩,
             ⟨(some 33), none, .fadr 1 (.tmp 32)⟩,
             ⟨(some 34), none, .load 1 false (.tmp 33)⟩,
             ⟨(some 35), none, .bin .add (.tmp 34) (.cst (.p (.int .i64 1)))⟩,
             ⟨(some 36), none, .nilc (.tmp 31)⟩,
             ⟨(some 37), none, .fadr 1 (.tmp 36)⟩,
             ⟨none, none, .store 1 (.tmp 37) (.tmp 35)⟩]) (
           .seq (
            .region [
              ⟨(some 38), none, .build (.p (.agg [(.int .i64 0), (.str []), (.int .i64 0)])) [(0, 1, (.cst (.p (.int .i64 2))))]⟩,
              ⟨none, none, .store 3 (.tmp 2) (.tmp 38)⟩,
              ⟨(some 3), none, .mov (.cst (.p (.bool true)))⟩]) (
            .ret))) (
          .seq (
           .region [
             ⟨(some 40), none, .mov (.tmp 4)⟩,
             ⟨(some 41), none, .bin .eql (.tmp 40) (.cst (.p (.int .u8 34)))⟩,
             ⟨(some 39), none, .mov (.tmp 41)⟩]) (
           .cond (.tmp 39) (
            .seq (
             .region [
               ⟨(some 42), none, .mov (.tmp 0)⟩,
               ⟨(some 43), none, .call 34 [(.tmp 42)]⟩,
               ⟨(some 44), none, .ext (.tmp 43) 0⟩,
               ⟨(some 45), none, .ext (.tmp 43) 1⟩,
               ⟨none, none, .store 3 (.tmp 2) (.tmp 44)⟩,
               ⟨(some 3), none, .mov (.tmp 45)⟩]) (
             .ret)) (
            .seq (
             .region [
               ⟨(some 47), none, .mov (.tmp 4)⟩,
               ⟨(some 48), none, .bin .eql (.tmp 47) (.cst (.p (.int .u8 124)))⟩,
               ⟨(some 46), none, .mov (.tmp 48)⟩]) (
             .cond (.tmp 46) (
              .seq (
               .region [
                 ⟨(some 49), none, .mov (.tmp 0)⟩,
                 ⟨(some 50), none, .call 35 [(.tmp 49)]⟩,
                 ⟨(some 51), none, .ext (.tmp 50) 0⟩,
                 ⟨(some 52), none, .ext (.tmp 50) 1⟩,
                 ⟨none, none, .store 3 (.tmp 2) (.tmp 51)⟩,
                 ⟨(some 3), none, .mov (.tmp 52)⟩]) (
               .ret)) (
              .seq (
               .region [
                 ⟨(some 54), none, .mov (.tmp 4)⟩,
                 ⟨(some 55), none, .bin .eql (.tmp 54) (.cst (.p (.int .u8 58)))⟩,
                 ⟨(some 53), none, .mov (.tmp 55)⟩]) (
               .cond (.tmp 53) (
                .seq (
                 .region [
                   ⟨(some 56), none, .mov (.tmp 0)⟩,
                   ⟨(some 57), none, .nilc (.tmp 56)⟩,
                   ⟨(some 58), none, .fadr 1 (.tmp 57)⟩,
                   ⟨(some 59), none, .load 1 false (.tmp 58)⟩,
                   ⟨(some 60), none, .bin .add (.tmp 59) (.cst (.p (.int .i64 1)))⟩,
                   ⟨(some 61), none, .nilc (.tmp 56)⟩,
                   ⟨(some 62), none, .fadr 1 (.tmp 61)⟩,
                   ⟨none, none, .store 1 (.tmp 62) (.tmp 60)⟩]) (
                 .seq (
                  .region [
                    ⟨(some 63), none, .mov (.tmp 0)⟩,
                    ⟨(some 64), none, .call 30 [(.tmp 63), (.cst (.p (.clo 26 [])))]⟩,
                    ⟨(some 5), none, .mov (.tmp 64)⟩]) (
                  .seq (
                   .region [
                     ⟨(some 65), none, .mov (.tmp 5)⟩,
                     ⟨(some 66), none, .build (.p (.agg [(.int .i64 0), (.str []), (.int .i64 0)])) [(0, 1, (.cst (.p (.int .i64 4)))), (1, 1, (.tmp 65))]⟩,
                     ⟨(some 67), none, .mov (.tmp 5)⟩,
                     ⟨(some 68), none, .bin .neq (.tmp 67) (.cst (.p (.str [])))⟩,
                     ⟨none, none, .store 3 (.tmp 2) (.tmp 66)⟩,
                     ⟨(some 3), none, .mov (.tmp 68)⟩]) (
                   .ret)))) (
                .seq (
                 .region [
                   ⟨(some 70), none, .mov (.tmp 4)⟩,
                   ⟨(some 71), none, .call 27 [(.tmp 70)]⟩,
                   ⟨(some 69), none, .mov (.tmp 71)⟩]) (
                 .cond (.tmp 69) (
                  .seq (
                   .region [
                     ⟨(some 72), none, .mov (.tmp 0)⟩,
                     ⟨(some 73), none, .call 36 [(.tmp 72)]⟩,
                     ⟨(some 74), none, .ext (.tmp 73) 0⟩,
                     ⟨(some 75), none, .ext (.tmp 73) 1⟩,
                     ⟨none, none, .store 3 (.tmp 2) (.tmp 74)⟩,
                     ⟨(some 3), none, .mov (.tmp 75)⟩]) (
                   .ret)) (
                  .skip))))))))))))))) (
    .seq (
     .region [
       ⟨(some 76), none, .mov (.tmp 0)⟩,
       ⟨(some 77), none, .call 30 [(.tmp 76), (.cst (.p (.clo 26 [])))]⟩,
       ⟨(some 6), none, .mov (.tmp 77)⟩]) (
     .seq (
      .region [
        ⟨(some 78), none, .mov (.tmp 6)⟩,
        ⟨(some 79), none, .build (.p (.agg [(.int .i64 0), (.str []), (.int .i64 0)])) [(0, 1, (.cst (.p (.int .i64 3)))), (1, 1, (.tmp 78))]⟩,
        ⟨(some 80), none, .mov (.tmp 6)⟩,
        ⟨(some 81), none, .bin .neq (.tmp 80) (.cst (.p (.str [])))⟩,
        ⟨none, none, .store 3 (.tmp 2) (.tmp 79)⟩,
        ⟨(some 3), none, .mov (.tmp 81)⟩]) (
      .ret)))))⟩
theorem low19 : lowFunc Tryd.prog gl0 19 = some lf19 := by kernel_rfl
def lf20 : LFunc := ⟨17, [(.slot 2)], (
  .seq (
   .region [
     ⟨(some 2), none, .mov (.cst (.p (.bool false)))⟩]) (
   .seq (
    .region [
      ⟨(some 3), none, .mov (.tmp 0)⟩,
      ⟨(some 4), none, .bin .eql (.tmp 3) (.cst (.p (.int .u8 32)))⟩,
      ⟨(some 5), none, .mov (.tmp 4)⟩,
      ⟨(some 6), (some (5, false)), .mov (.tmp 0)⟩,
      ⟨(some 7), (some (5, false)), .bin .eql (.tmp 6) (.cst (.p (.int .u8 9)))⟩,
      ⟨(some 8), none, .pick (.tmp 5) (.cst (.p (.bool true))) (.tmp 7)⟩,
      ⟨(some 9), none, .mov (.tmp 8)⟩,
      ⟨(some 10), (some (9, false)), .mov (.tmp 0)⟩,
      ⟨(some 11), (some (9, false)), .bin .eql (.tmp 10) (.cst (.p (.int .u8 10)))⟩,
      ⟨(some 12), none, .pick (.tmp 9) (.cst (.p (.bool true))) (.tmp 11)⟩,
      ⟨(some 13), none, .mov (.tmp 12)⟩,
      ⟨(some 14), (some (13, false)), .mov (.tmp 0)⟩,
      ⟨(some 15), (some (13, false)), .bin .eql (.tmp 14) (.cst (.p (.int .u8 13)))⟩,
      ⟨(some 16), none, .pick (.tmp 13) (.cst (.p (.bool true))) (.tmp 15)⟩,
      ⟨(some 2), none, .mov (.tmp 16)⟩]) (
    .ret)))⟩
theorem low20 : lowFunc Tryd.prog gl0 20 = some lf20 := by kernel_rfl
def lf21_B0 : LCode := .block 1 (
  .loop (
   .seq (
    .seq (
     .region [
       ⟨(some 36), none, .mov (.tmp 9)⟩,
       ⟨(some 37), none, .mov (.tmp 0)⟩,
       ⟨(some 38), none, .len (.tmp 37)⟩,
       ⟨(some 39), none, .bin .lss (.tmp 36) (.tmp 38)⟩]) (
     .cond (.tmp 39) (
      .skip) (
      .exit 1))) (
    .block 2 (
     .seq (
      .seq (
       .region [
         ⟨(some 40), none, .mov (.tmp 0)⟩,
         ⟨(some 41), none, .mov (.tmp 9)⟩,
         ⟨(some 42), none, .iadr 1 (.tmp 40) (.tmp 41)⟩,
         ⟨(some 43), none, .load 1 false (.tmp 42)⟩,
         ⟨(some 44), none, .bin .neq (.tmp 43) (.cst (.p (.int .u8 34)))⟩]) (
       .cond (.tmp 44) (
        .seq (
         .seq (
          .region [
            ⟨(some 45), none, .mov (.tmp 0)⟩,
            ⟨(some 46), none, .mov (.tmp 9)⟩,
            ⟨(some 47), none, .iadr 1 (.tmp 45) (.tmp 46)⟩,
            ⟨(some 48), none, .load 1 false (.tmp 47)⟩,
            ⟨(some 49), none, .call 25 [(.tmp 48)]⟩,
            ⟨(some 50), none, .un .not (.tmp 49)⟩]) (
          .cond (.tmp 50) (
           .seq (
            .region [
              ⟨(some 51), none, .load 3 true (.tmp 8)⟩,
              ⟨(some 52), none, .mov (.tmp 9)⟩,
              ⟨none, none, .store 3 (.tmp 4) (.tmp 51)⟩,
              ⟨(some 5), none, .mov (.tmp 52)⟩,
              ⟨(some 6), none, .mov (.cst (.p (.bool false)))⟩]) (
            .ret)) (
           .skip))) (
         .seq (
          .regionW [
            (⟨(some 53), none, .fadr 1 (.tmp 8)⟩, true),
            (⟨(some 54), none, .load 1 false (.tmp 53)⟩, true),
            (⟨(some 55), none, .mov (.tmp 0)⟩, false),
            (⟨(some 56), none, .mov (.tmp 9)⟩, false),
            (⟨(some 57), none, .mov (.tmp 9)⟩, false),
            (⟨(some 58), none, .bin .add (.tmp 57) (.cst (.p (.int .i64 1)))⟩, false),
            (⟨(some 59), none, .slSl 1 (.tmp 55) (some (.tmp 56)) (some (.tmp 58)) none⟩, true),
            (⟨(some 60), none, .conv .b2s (.tmp 59)⟩, true),
            (⟨(some 61), none, .bin .add (.tmp 54) (.tmp 60)⟩, false),
            (⟨(some 62), none, .fadr 1 (.tmp 8)⟩, false),
            (⟨none, none, .store 1 (.tmp 62) (.tmp 61)⟩, false)]) (
          .seq (
           .region [
             ⟨(some 63), none, .mov (.tmp 9)⟩,
             ⟨(some 64), none, .bin .add (.tmp 63) (.cst (.p (.int .i64 1)))⟩,
             ⟨(some 9), none, .mov (.tmp 64)⟩]) (
           .exit 2)))) (
        .skip))) (
      .seq (
       .seq (
        .region [
          ⟨(some 65), none, .mov (.tmp 9)⟩,
          ⟨(some 66), none, .bin .add (.tmp 65) (.cst (.p (.int .i64 1)))⟩,
          ⟨(some 67), none, .mov (.tmp 0)⟩,
          ⟨(some 68), none, .len (.tmp 67)⟩,
          ⟨(some 69), none, .bin .geq (.tmp 66) (.tmp 68)⟩,
          ⟨(some 70), none, .mov (.tmp 69)⟩,
          ⟨(some 71), (some (70, false)), .mov (.tmp 0)⟩,
          ⟨(some 72), (some (70, false)), .mov (.tmp 9)⟩,
          ⟨(some 73), (some (70, false)), .bin .add (.tmp 72) (.cst (.p (.int .i64 1)))⟩,
          ⟨(some 74), (some (70, false)), .iadr 1 (.tmp 71) (.tmp 73)⟩,
          ⟨(some 75), (some (70, false)), .load 1 false (.tmp 74)⟩,
          ⟨(some 76), (some (70, false)), .bin .neq (.tmp 75) (.cst (.p (.int .u8 34)))⟩,
          ⟨(some 77), none, .pick (.tmp 70) (.cst (.p (.bool true))) (.tmp 76)⟩]) (
        .cond (.tmp 77) (
         .seq (
          .region [
            ⟨(some 78), none, .load 3 true (.tmp 8)⟩,
            ⟨(some 79), none, .mov (.tmp 9)⟩,
            ⟨(some 80), none, .bin .add (.tmp 79) (.cst (.p (.int .i64 1)))⟩,
            ⟨none, none, .store 3 (.tmp 4) (.tmp 78)⟩,
            ⟨(some 5), none, .mov (.tmp 80)⟩,
            ⟨(some 6), none, .mov (.cst (.p (.bool true)))⟩]) (
          .ret)) (
         .skip))) (
       .seq (
        .region [
          ⟨(some 81), none, .fadr 1 (.tmp 8)⟩,
          ⟨(some 82), none, .load 1 false (.tmp 81)⟩,
          ⟨(some 83), none, .bin .add (.tmp 82) (.cst (.p (.str [34])))⟩,
          ⟨(some 84), none, .fadr 1 (.tmp 8)⟩,
          ⟨none, none, .store 1 (.tmp 84) (.tmp 83)⟩]) (
        .region [
          ⟨(some 85), none, .mov (.tmp 9)⟩,
          ⟨(some 86), none, .bin .add (.tmp 85) (.cst (.p (.int .i64 2)))⟩,
          ⟨(some 9), none, .mov (.tmp 86)⟩])))))))
def lf21_B1 : LCode := .block 3 (
  .loop (
   .seq (
    .seq (
     .region [
       ⟨(some 93), none, .mov (.tmp 9)⟩,
       ⟨(some 94), none, .mov (.tmp 0)⟩,
       ⟨(some 95), none, .len (.tmp 94)⟩,
       ⟨(some 96), none, .bin .lss (.tmp 93) (.tmp 95)⟩,
       ⟨(some 97), none, .mov (.tmp 96)⟩,
       ⟨(some 98), (some (97, true)), .mov (.tmp 0)⟩,
       ⟨(some 99), (some (97, true)), .mov (.tmp 9)⟩,
       ⟨(some 100), (some (97, true)), .iadr 1 (.tmp 98) (.tmp 99)⟩,
       ⟨(some 101), (some (97, true)), .load 1 false (.tmp 100)⟩,
       ⟨(some 102), (some (97, true)), .bin .neq (.tmp 101) (.cst (.p (.int .u8 124)))⟩,
       ⟨(some 103), none, .pick (.tmp 97) (.tmp 102) (.cst (.p (.bool false)))⟩]) (
     .cond (.tmp 103) (
      .skip) (
      .exit 3))) (
    .block 4 (
     .seq (
      .seq (
       .region [
         ⟨(some 104), none, .mov (.tmp 0)⟩,
         ⟨(some 105), none, .mov (.tmp 9)⟩,
         ⟨(some 106), none, .iadr 1 (.tmp 104) (.tmp 105)⟩,
         ⟨(some 107), none, .load 1 false (.tmp 106)⟩,
         ⟨(some 108), none, .call 25 [(.tmp 107)]⟩,
         ⟨(some 109), none, .un .not (.tmp 108)⟩,
         ⟨(some 110), none, .mov (.tmp 109)⟩,
         ⟨(some 111), (some (110, false)), .mov (.tmp 0)⟩,
         ⟨(some 112), (some (110, false)), .mov (.tmp 9)⟩,
         ⟨(some 113), (some (110, false)), .iadr 1 (.tmp 111) (.tmp 112)⟩,
         ⟨(some 114), (some (110, false)), .load 1 false (.tmp 113)⟩,
         ⟨(some 115), (some (110, false)), .bin .eql (.tmp 114) (.cst (.p (.int .u8 92)))⟩,
         ⟨(some 116), none, .pick (.tmp 110) (.cst (.p (.bool true))) (.tmp 115)⟩]) (
       .cond (.tmp 116) (
        .seq (
         .region [
           ⟨(some 117), none, .load 3 true (.tmp 8)⟩,
           ⟨(some 118), none, .mov (.tmp 9)⟩,
           ⟨none, none, .store 3 (.tmp 4) (.tmp 117)⟩,
           ⟨(some 5), none, .mov (.tmp 118)⟩,
           ⟨(some 6), none, .mov (.cst (.p (.bool false)))⟩]) (
         .ret)) (
        .skip))) (
      .region [
        ⟨(some 119), none, .mov (.tmp 9)⟩,
        ⟨(some 120), none, .bin .add (.tmp 119) (.cst (.p (.int .i64 1)))⟩,
        ⟨(some 9), none, .mov (.tmp 120)⟩])))))
def lf21_B2 : LCode := .block 5 (
  .loop (
   .seq (
    .seq (
     .region [
       ⟨(some 141), none, .mov (.tmp 9)⟩,
       ⟨(some 142), none, .mov (.tmp 0)⟩,
       ⟨(some 143), none, .len (.tmp 142)⟩,
       ⟨(some 144), none, .bin .lss (.tmp 141) (.tmp 143)⟩,
       ⟨(some 145), none, .mov (.tmp 144)⟩,
       ⟨(some 146), (some (145, true)), .mov (.tmp 0)⟩,
       ⟨(some 147), (some (145, true)), .mov (.tmp 9)⟩,
       ⟨(some 148), (some (145, true)), .iadr 1 (.tmp 146) (.tmp 147)⟩,
       ⟨(some 149), (some (145, true)), .load 1 false (.tmp 148)⟩,
       ⟨(some 150), (some (145, true)), .call 28 [(.tmp 149)]⟩,
       ⟨(some 151), none, .pick (.tmp 145) (.tmp 150) (.cst (.p (.bool false)))⟩]) (
     .cond (.tmp 151) (
      .skip) (
      .exit 5))) (
    .block 6 (
     .region [
       ⟨(some 152), none, .mov (.tmp 9)⟩,
       ⟨(some 153), none, .bin .add (.tmp 152) (.cst (.p (.int .i64 1)))⟩,
       ⟨(some 9), none, .mov (.tmp 153)⟩]))))
def lf21_B3 : LCode := .block 7 (
  .loop (
   .seq (
    .seq (
     .region [
       ⟨(some 171), none, .mov (.tmp 9)⟩,
       ⟨(some 172), none, .mov (.tmp 0)⟩,
       ⟨(some 173), none, .len (.tmp 172)⟩,
       ⟨(some 174), none, .bin .lss (.tmp 171) (.tmp 173)⟩,
       ⟨(some 175), none, .mov (.tmp 174)⟩,
       ⟨(some 176), (some (175, true)), .mov (.tmp 0)⟩,
       ⟨(some 177), (some (175, true)), .mov (.tmp 9)⟩,
       ⟨(some 178), (some (175, true)), .iadr 1 (.tmp 176) (.tmp 177)⟩,
       ⟨(some 179), (some (175, true)), .load 1 false (.tmp 178)⟩,
       ⟨(some 180), (some (175, true)), .call 29 [(.tmp 179)]⟩,
       ⟨(some 181), none, .pick (.tmp 175) (.tmp 180) (.cst (.p (.bool false)))⟩]) (
     .cond (.tmp 181) (
      .skip) (
      .exit 7))) (
    .block 8 (
     .region [
       ⟨(some 182), none, .mov (.tmp 9)⟩,
       ⟨(some 183), none, .bin .add (.tmp 182) (.cst (.p (.int .i64 1)))⟩,
       ⟨(some 9), none, .mov (.tmp 183)⟩]))))
def lf21_B4 : LCode := .block 9 (
  .loop (
   .seq (
    .seq (
     .region [
       ⟨(some 208), none, .mov (.tmp 9)⟩,
       ⟨(some 209), none, .mov (.tmp 0)⟩,
       ⟨(some 210), none, .len (.tmp 209)⟩,
       ⟨(some 211), none, .bin .lss (.tmp 208) (.tmp 210)⟩,
       ⟨(some 212), none, .mov (.tmp 211)⟩,
       ⟨(some 213), (some (212, true)), .mov (.tmp 0)⟩,
       ⟨(some 214), (some (212, true)), .mov (.tmp 9)⟩,
       ⟨(some 215), (some (212, true)), .iadr 1 (.tmp 213) (.tmp 214)⟩,
       ⟨(some 216), (some (212, true)), .load 1 false (.tmp 215)⟩,
       ⟨(some 217), (some (212, true)), .call 29 [(.tmp 216)]⟩,
       ⟨(some 218), none, .pick (.tmp 212) (.tmp 217) (.cst (.p (.bool false)))⟩]) (
     .cond (.tmp 218) (
      .skip) (
      .exit 9))) (
    .block 10 (
     .region [
       ⟨(some 219), none, .mov (.tmp 9)⟩,
       ⟨(some 220), none, .bin .add (.tmp 219) (.cst (.p (.int .i64 1)))⟩,
       ⟨(some 9), none, .mov (.tmp 220)⟩]))))
def lf21_B5 : LCode := .block 11 (
  .loop (
   .seq (
    .seq (
     .region [
       ⟨(some 255), none, .mov (.tmp 9)⟩,
       ⟨(some 256), none, .mov (.tmp 0)⟩,
       ⟨(some 257), none, .len (.tmp 256)⟩,
       ⟨(some 258), none, .bin .lss (.tmp 255) (.tmp 257)⟩,
       ⟨(some 259), none, .mov (.tmp 258)⟩,
       ⟨(some 260), (some (259, true)), .mov (.tmp 0)⟩,
       ⟨(some 261), (some (259, true)), .mov (.tmp 9)⟩,
       ⟨(some 262), (some (259, true)), .iadr 1 (.tmp 260) (.tmp 261)⟩,
       ⟨(some 263), (some (259, true)), .load 1 false (.tmp 262)⟩,
       ⟨(some 264), (some (259, true)), .call 28 [(.tmp 263)]⟩,
       ⟨(some 265), none, .pick (.tmp 259) (.tmp 264) (.cst (.p (.bool false)))⟩]) (
     .cond (.tmp 265) (
      .skip) (
      .exit 11))) (
    .block 12 (
     .region [
       ⟨(some 266), none, .mov (.tmp 9)⟩,
       ⟨(some 267), none, .bin .add (.tmp 266) (.cst (.p (.int .i64 1)))⟩,
       ⟨(some 9), none, .mov (.tmp 267)⟩]))))
def lf21 : LFunc := ⟨278, [(.cell 4 3 true), (.slot 5), (.slot 6)], (
  .seq (
   .region [
     ⟨(some 4), none, .newv 3 41 (.cst (.p (.agg [(.int .i64 0), (.str []), (.int .i64 0)])))⟩,
     ⟨(some 5), none, .mov (.cst (.p (.int .i64 0)))⟩,
     ⟨(some 6), none, .mov (.cst (.p (.bool false)))⟩]) (
   .seq (
    .region [
      ⟨(some 11), none, .mov (.tmp 0)⟩,
      ⟨(some 12), none, .mov (.tmp 1)⟩,
      ⟨(some 13), none, .iadr 1 (.tmp 11) (.tmp 12)⟩,
      ⟨(some 14), none, .load 1 false (.tmp 13)⟩,
      ⟨(some 7), none, .mov (.tmp 14)⟩]) (
    .seq (
     .region [
       ⟨(some 15), none, .mov (.tmp 1)⟩,
       ⟨(some 16), none, .build (.p (.agg [(.int .i64 0), (.str []), (.int .i64 0)])) [(2, 1, (.tmp 15))]⟩,
       ⟨(some 8), none, .newv 3 41 (.cst (.p (.agg [(.int .i64 0), (.str []), (.int .i64 0)])))⟩,
       ⟨none, none, .store 3 (.tmp 8) (.tmp 16)⟩]) (
     .seq (
      .region [
        ⟨(some 17), none, .mov (.tmp 1)⟩,
        ⟨(some 18), none, .bin .add (.tmp 17) (.cst (.p (.int .i64 1)))⟩,
        ⟨(some 9), none, .mov (.tmp 18)⟩]) (
      .seq (
       .block 0 (
        .seq (
         .region [
           ⟨(some 20), none, .mov (.tmp 7)⟩,
           ⟨(some 21), none, .bin .eql (.tmp 20) (.cst (.p (.int .u8 40)))⟩,
           ⟨(some 22), none, .mov (.tmp 21)⟩,
           ⟨(some 23), (some (22, false)), .mov (.tmp 7)⟩,
           ⟨(some 24), (some (22, false)), .bin .eql (.tmp 23) (.cst (.p (.int .u8 41)))⟩,
           ⟨(some 25), none, .pick (.tmp 22) (.cst (.p (.bool true))) (.tmp 24)⟩,
           ⟨(some 19), none, .mov (.tmp 25)⟩]) (
         .cond (.tmp 19) (
          .seq (
           .region [
             ⟨(some 26), none, .fadr 0 (.tmp 8)⟩,
             ⟨none, none, .store 1 (.tmp 26) (.cst (.p (.int .i64 1)))⟩]) (
           .seq (
            .seq (
             .region [
               ⟨(some 27), none, .mov (.tmp 7)⟩,
               ⟨(some 28), none, .bin .eql (.tmp 27) (.cst (.p (.int .u8 41)))⟩]) (
             .cond (.tmp 28) (
              .region [
                ⟨(some 29), none, .fadr 0 (.tmp 8)⟩,
                ⟨none, none, .store 1 (.tmp 29) (.cst (.p (.int .i64 2)))⟩]) (
              .skip))) (
            .seq (
             .region [
               ⟨(some 30), none, .load 3 true (.tmp 8)⟩,
               ⟨(some 31), none, .mov (.tmp 9)⟩,
               ⟨none, none, .store 3 (.tmp 4) (.tmp 30)⟩,
               ⟨(some 5), none, .mov (.tmp 31)⟩,
               ⟨(some 6), none, .mov (.cst (.p (.bool true)))⟩]) (
             .ret)))) (
          .seq (
           .region [
             ⟨(some 33), none, .mov (.tmp 7)⟩,
             ⟨(some 34), none, .bin .eql (.tmp 33) (.cst (.p (.int .u8 34)))⟩,
             ⟨(some 32), none, .mov (.tmp 34)⟩]) (
           .cond (.tmp 32) (
            .seq (
             .region [
               ⟨(some 35), none, .fadr 0 (.tmp 8)⟩,
               ⟨none, none, .store 1 (.tmp 35) (.cst (.p (.int .i64 7)))⟩]) (
             .seq (
              lf21_B0) (
              .seq (
               .region [
                 ⟨(some 87), none, .load 3 true (.tmp 8)⟩,
                 ⟨(some 88), none, .mov (.tmp 9)⟩,
                 ⟨none, none, .store 3 (.tmp 4) (.tmp 87)⟩,
                 ⟨(some 5), none, .mov (.tmp 88)⟩,
                 ⟨(some 6), none, .mov (.cst (.p (.bool false)))⟩]) (
               .ret)))) (
            .seq (
             .region [
               ⟨(some 90), none, .mov (.tmp 7)⟩,
               ⟨(some 91), none, .bin .eql (.tmp 90) (.cst (.p (.int .u8 124)))⟩,
               ⟨(some 89), none, .mov (.tmp 91)⟩]) (
             .cond (.tmp 89) (
              .seq (
               .region [
                 ⟨(some 92), none, .fadr 0 (.tmp 8)⟩,
                 ⟨none, none, .store 1 (.tmp 92) (.cst (.p (.int .i64 3)))⟩]) (
               .seq (
                lf21_B1) (
                .seq (
                 .seq (
                  .region [
                    ⟨(some 121), none, .mov (.tmp 9)⟩,
                    ⟨(some 122), none, .mov (.tmp 0)⟩,
                    ⟨(some 123), none, .len (.tmp 122)⟩,
                    ⟨(some 124), none, .bin .geq (.tmp 121) (.tmp 123)⟩]) (
                  .cond (.tmp 124) (
                   .seq (
                    .region [
                      ⟨(some 125), none, .load 3 true (.tmp 8)⟩,
                      ⟨(some 126), none, .mov (.tmp 9)⟩,
                      ⟨none, none, .store 3 (.tmp 4) (.tmp 125)⟩,
                      ⟨(some 5), none, .mov (.tmp 126)⟩,
                      ⟨(some 6), none, .mov (.cst (.p (.bool false)))⟩]) (
                    .ret)) (
                   .skip))) (
                 .seq (
                  .region [
                    ⟨(some 127), none, .mov (.tmp 0)⟩,
                    ⟨(some 128), none, .mov (.tmp 1)⟩,
                    ⟨(some 129), none, .bin .add (.tmp 128) (.cst (.p (.int .i64 1)))⟩,
                    ⟨(some 130), none, .mov (.tmp 9)⟩,
                    ⟨(some 131), none, .slSl 1 (.tmp 127) (some (.tmp 129)) (some (.tmp 130)) none⟩,
                    ⟨(some 132), none, .conv .b2s (.tmp 131)⟩,
                    ⟨(some 133), none, .fadr 1 (.tmp 8)⟩,
                    ⟨none, none, .store 1 (.tmp 133) (.tmp 132)⟩]) (
                  .seq (
                   .region [
                     ⟨(some 134), none, .load 3 true (.tmp 8)⟩,
                     ⟨(some 135), none, .mov (.tmp 9)⟩,
                     ⟨(some 136), none, .bin .add (.tmp 135) (.cst (.p (.int .i64 1)))⟩,
                     ⟨none, none, .store 3 (.tmp 4) (.tmp 134)⟩,
                     ⟨(some 5), none, .mov (.tmp 136)⟩,
                     ⟨(some 6), none, .mov (.cst (.p (.bool true)))⟩]) (
                   .ret)))))) (
              .seq (
               .region [
                 ⟨(some 138), none, .mov (.tmp 7)⟩,
                 ⟨(some 139), none, .bin .eql (.tmp 138) (.cst (.p (.int .u8 58)))⟩,
                 ⟨(some 137), none, .mov (.tmp 139)⟩]) (
               .cond (.tmp 137) (
                .seq (
                 .region [
                   ⟨(some 140), none, .fadr 0 (.tmp 8)⟩,
                   ⟨none, none, .store 1 (.tmp 140) (.cst (.p (.int .i64 4)))⟩]) (
                 .seq (
                  lf21_B2) (
                  .seq (
                   .region [
                     ⟨(some 154), none, .mov (.tmp 0)⟩,
                     ⟨(some 155), none, .mov (.tmp 1)⟩,
                     ⟨(some 156), none, .bin .add (.tmp 155) (.cst (.p (.int .i64 1)))⟩,
                     ⟨(some 157), none, .mov (.tmp 9)⟩,
                     ⟨(some 158), none, .slSl 1 (.tmp 154) (some (.tmp 156)) (some (.tmp 157)) none⟩,
                     ⟨(some 159), none, .conv .b2s (.tmp 158)⟩,
                     ⟨(some 160), none, .fadr 1 (.tmp 8)⟩,
                     ⟨none, none, .store 1 (.tmp 160) (.tmp 159)⟩]) (
                   .seq (
                    .region [
                      ⟨(some 161), none, .load 3 true (.tmp 8)⟩,
                      ⟨(some 162), none, .mov (.tmp 9)⟩,
                      ⟨(some 163), none, .mov (.tmp 9)⟩,
                      ⟨(some 164), none, .mov (.tmp 1)⟩,
                      ⟨(some 165), none, .bin .add (.tmp 164) (.cst (.p (.int .i64 1)))⟩,
                      ⟨(some 166), none, .bin .gtr (.tmp 163) (.tmp 165)⟩,
                      ⟨none, none, .store 3 (.tmp 4) (.tmp 161)⟩,
                      ⟨(some 5), none, .mov (.tmp 162)⟩,
                      ⟨(some 6), none, .mov (.tmp 166)⟩]) (
                    .ret))))) (
                .seq (
                 .region [
                   ⟨(some 168), none, .mov (.tmp 7)⟩,
                   ⟨(some 169), none, .call 29 [(.tmp 168)]⟩,
                   ⟨(some 167), none, .mov (.tmp 169)⟩]) (
                 .cond (.tmp 167) (
                  .seq (
                   .region [
                     ⟨(some 170), none, .fadr 0 (.tmp 8)⟩,
                     ⟨none, none, .store 1 (.tmp 170) (.cst (.p (.int .i64 5)))⟩]) (
                   .seq (
                    lf21_B3) (
                    .seq (
                     .region [
                       ⟨(some 184), none, .mov (.tmp 9)⟩,
                       ⟨(some 10), none, .mov (.tmp 184)⟩]) (
                     .seq (
                      .seq (
                       .region [
                         ⟨(some 185), none, .mov (.tmp 9)⟩,
                         ⟨(some 186), none, .bin .add (.tmp 185) (.cst (.p (.int .i64 1)))⟩,
                         ⟨(some 187), none, .mov (.tmp 0)⟩,
                         ⟨(some 188), none, .len (.tmp 187)⟩,
                         ⟨(some 189), none, .bin .lss (.tmp 186) (.tmp 188)⟩,
                         ⟨(some 190), none, .mov (.tmp 189)⟩,
                         ⟨(some 191), (some (190, true)), .mov (.tmp 0)⟩,
                         ⟨(some 192), (some (190, true)), .mov (.tmp 9)⟩,
                         ⟨(some 193), (some (190, true)), .iadr 1 (.tmp 191) (.tmp 192)⟩,
                         ⟨(some 194), (some (190, true)), .load 1 false (.tmp 193)⟩,
                         ⟨(some 195), (some (190, true)), .bin .eql (.tmp 194) (.cst (.p (.int .u8 46)))⟩,
                         ⟨(some 196), none, .pick (.tmp 190) (.tmp 195) (.cst (.p (.bool false)))⟩,
                         ⟨(some 197), none, .mov (.tmp 196)⟩,
                         ⟨(some 198), (some (197, true)), .mov (.tmp 0)⟩,
                         ⟨(some 199), (some (197, true)), .mov (.tmp 9)⟩,
                         ⟨(some 200), (some (197, true)), .bin .add (.tmp 199) (.cst (.p (.int .i64 1)))⟩,
                         ⟨(some 201), (some (197, true)), .iadr 1 (.tmp 198) (.tmp 200)⟩,
                         ⟨(some 202), (some (197, true)), .load 1 false (.tmp 201)⟩,
                         ⟨(some 203), (some (197, true)), .call 29 [(.tmp 202)]⟩,
                         ⟨(some 204), none, .pick (.tmp 197) (.tmp 203) (.cst (.p (.bool false)))⟩]) (
                       .cond (.tmp 204) (
                        .seq (
                         .region [
                           ⟨(some 205), none, .fadr 0 (.tmp 8)⟩,
                           ⟨none, none, .store 1 (.tmp 205) (.cst (.p (.int .i64 6)))⟩]) (
                         .seq (
                          .region [
                            ⟨(some 206), none, .mov (.tmp 9)⟩,
                            ⟨(some 207), none, .bin .add (.tmp 206) (.cst (.p (.int .i64 1)))⟩,
                            ⟨(some 9), none, .mov (.tmp 207)⟩]) (
                          lf21_B4))) (
                        .skip))) (
                      .seq (
                       .region [
                         ⟨(some 221), none, .mov (.tmp 0)⟩,
                         ⟨(some 222), none, .mov (.tmp 1)⟩,
                         ⟨(some 223), none, .mov (.tmp 9)⟩,
                         ⟨(some 224), none, .slSl 1 (.tmp 221) (some (.tmp 222)) (some (.tmp 223)) none⟩,
                         ⟨(some 225), none, .conv .b2s (.tmp 224)⟩,
                         ⟨(some 226), none, .fadr 1 (.tmp 8)⟩,
                         ⟨none, none, .store 1 (.tmp 226) (.tmp 225)⟩]) (
                       .seq (
                        .regionW [
                          (⟨(some 227), none, .load 3 true (.tmp 8)⟩, true),
                          (⟨(some 228), none, .mov (.tmp 9)⟩, false),
                          (⟨(some 229), none, .mov (.tmp 7)⟩, false),
                          (⟨(some 230), none, .bin .neq (.tmp 229) (.cst (.p (.int .u8 48)))⟩, false),
                          (⟨(some 231), none, .mov (.tmp 230)⟩, false),
                          (⟨(some 232), (some (231, false)), .mov (.tmp 10)⟩, false),
                          (⟨(some 233), (some (231, false)), .mov (.tmp 1)⟩, false),
                          (⟨(some 234), (some (231, false)), .bin .add (.tmp 233) (.cst (.p (.int .i64 1)))⟩, false),
                          (⟨(some 235), (some (231, false)), .bin .eql (.tmp 232) (.tmp 234)⟩, false),
                          (⟨(some 236), none, .pick (.tmp 231) (.cst (.p (.bool true))) (.tmp 235)⟩, false),
                          (⟨(some 237), none, .mov (.tmp 236)⟩, false),
                          (⟨(some 238), (some (237, true)), .mov (.tmp 9)⟩, false),
                          (⟨(some 239), (some (237, true)), .mov (.tmp 0)⟩, false),
                          (⟨(some 240), (some (237, true)), .len (.tmp 239)⟩, false),
                          (⟨(some 241), (some (237, true)), .bin .geq (.tmp 238) (.tmp 240)⟩, false),
                          (⟨(some 242), (some (237, true)), .mov (.tmp 241)⟩, false),
                          (⟨(some 243), (some (242, false)), .mov (.tmp 0)⟩, false),
                          (⟨(some 244), (some (242, false)), .mov (.tmp 9)⟩, false),
                          (⟨(some 245), (some (242, false)), .iadr 1 (.tmp 243) (.tmp 244)⟩, false),
                          (⟨(some 246), (some (242, false)), .load 1 false (.tmp 245)⟩, false),
                          (⟨(some 247), (some (242, false)), .call 28 [(.tmp 246)]⟩, true),
                          (⟨(some 248), (some (242, false)), .un .not (.tmp 247)⟩, false),
                          (⟨(some 249), (some (237, true)), .pick (.tmp 242) (.cst (.p (.bool true))) (.tmp 248)⟩, false),
                          (⟨(some 250), none, .pick (.tmp 237) (.tmp 249) (.cst (.p (.bool false)))⟩, false),
                          (⟨none, none, .store 3 (.tmp 4) (.tmp 227)⟩, false),
                          (⟨(some 5), none, .mov (.tmp 228)⟩, false),
                          (⟨(some 6), none, .mov (.tmp 250)⟩, false)]) (
                        .ret))))))) (
                  .seq (
                   .region [
                     ⟨(some 252), none, .mov (.tmp 7)⟩,
                     ⟨(some 253), none, .call 28 [(.tmp 252)]⟩,
                     ⟨(some 251), none, .mov (.tmp 253)⟩]) (
                   .cond (.tmp 251) (
                    .seq (
                     .region [
                       ⟨(some 254), none, .fadr 0 (.tmp 8)⟩,
                       ⟨none, none, .store 1 (.tmp 254) (.cst (.p (.int .i64 3)))⟩]) (
                     .seq (
                      lf21_B5) (
                      .seq (
                       .region [
                         ⟨(some 268), none, .mov (.tmp 0)⟩,
                         ⟨(some 269), none, .mov (.tmp 1)⟩,
                         ⟨(some 270), none, .mov (.tmp 9)⟩,
                         ⟨(some 271), none, .slSl 1 (.tmp 268) (some (.tmp 269)) (some (.tmp 270)) none⟩,
                         ⟨(some 272), none, .conv .b2s (.tmp 271)⟩,
                         ⟨(some 273), none, .fadr 1 (.tmp 8)⟩,
                         ⟨none, none, .store 1 (.tmp 273) (.tmp 272)⟩]) (
                       .seq (
                        .region [
                          ⟨(some 274), none, .load 3 true (.tmp 8)⟩,
                          ⟨(some 275), none, .mov (.tmp 9)⟩,
                          ⟨none, none, .store 3 (.tmp 4) (.tmp 274)⟩,
                          ⟨(some 5), none, .mov (.tmp 275)⟩,
                          ⟨(some 6), none, .mov (.cst (.p (.bool true)))⟩]) (
                        .ret))))) (
                    .skip)))))))))))))) (
       .seq (
        .region [
          ⟨(some 276), none, .load 3 true (.tmp 8)⟩,
          ⟨(some 277), none, .mov (.tmp 9)⟩,
          ⟨none, none, .store 3 (.tmp 4) (.tmp 276)⟩,
          ⟨(some 5), none, .mov (.tmp 277)⟩,
          ⟨(some 6), none, .mov (.cst (.p (.bool false)))⟩]) (
        .ret)))))))⟩
theorem low21 : lowFunc Tryd.prog gl0 21 = some lf21 := by kernel_rfl
def lf22 : LFunc := ⟨6, [(.slot 2)], (
  .seq (
   .region [
     ⟨(some 2), none, .mov (.cst (.p (.bool false)))⟩]) (
   .seq (
    .region [
      ⟨(some 3), none, .call 38 [(.cst (.p (.str [116, 114, 117, 101, 32, 102, 97, 108, 115, 101, 32, 110, 111, 116, 32, 97, 110, 100, 32, 111, 114, 32, 61, 62, 32, 120, 111, 114, 32, 61, 32, 100, 105, 115, 116, 105, 110, 99, 116, 32, 105, 116, 101, 32, 108, 101, 116, 32, 43, 32, 45, 32, 42, 32, 47, 32, 60, 61, 32, 60, 32, 62, 61, 32, 62, 32, 66, 111, 111, 108, 32, 82, 101, 97, 108, 32, 95, 32, 33, 32, 97, 115, 32, 101, 120, 105, 115, 116, 115, 32, 102, 111, 114, 97, 108, 108, 32, 112, 97, 114])))]⟩,
      ⟨(some 4), none, .mov (.tmp 0)⟩,
      ⟨(some 5), none, .call 37 [(.tmp 3), (.tmp 4)]⟩,
      ⟨(some 2), none, .mov (.tmp 5)⟩]) (
    .ret)))⟩
theorem low22 : lowFunc Tryd.prog gl0 22 = some lf22 := by kernel_rfl
def lf23 : LFunc := ⟨14, [(.slot 2)], (
  .seq (
   .region [
     ⟨(some 2), none, .mov (.cst (.p (.bool false)))⟩]) (
   .seq (
    .region [
      ⟨(some 3), none, .mov (.tmp 0)⟩,
      ⟨(some 4), none, .bin .gtr (.tmp 3) (.cst (.p (.int .u8 32)))⟩,
      ⟨(some 5), none, .mov (.tmp 4)⟩,
      ⟨(some 6), (some (5, true)), .mov (.tmp 0)⟩,
      ⟨(some 7), (some (5, true)), .bin .neq (.tmp 6) (.cst (.p (.int .u8 127)))⟩,
      ⟨(some 8), none, .pick (.tmp 5) (.tmp 7) (.cst (.p (.bool false)))⟩,
      ⟨(some 9), none, .mov (.tmp 8)⟩,
      ⟨(some 10), (some (9, false)), .mov (.tmp 0)⟩,
      ⟨(some 11), (some (9, false)), .call 32 [(.cst (.p (.str [32, 9, 10, 13]))), (.tmp 10)]⟩,
      ⟨(some 12), (some (9, false)), .bin .geq (.tmp 11) (.cst (.p (.int .i64 0)))⟩,
      ⟨(some 13), none, .pick (.tmp 9) (.cst (.p (.bool true))) (.tmp 12)⟩,
      ⟨(some 2), none, .mov (.tmp 13)⟩]) (
    .ret)))⟩
theorem low23 : lowFunc Tryd.prog gl0 23 = some lf23 := by kernel_rfl
def lf24_B0 : LCode := .block 0 (
  .loop (
   .seq (
    .seq (
     .region [
       ⟨(some 6), none, .mov (.tmp 4)⟩,
       ⟨(some 7), none, .mov (.tmp 3)⟩,
       ⟨(some 8), none, .len (.tmp 7)⟩,
       ⟨(some 9), none, .bin .lss (.tmp 6) (.tmp 8)⟩]) (
     .cond (.tmp 9) (
      .skip) (
      .exit 0))) (
    .seq (
     .block 1 (
      .seq (
       .region [
         ⟨(some 12), none, .mov (.tmp 3)⟩,
         ⟨(some 13), none, .mov (.tmp 4)⟩,
         ⟨(some 14), none, .iadr 1 (.tmp 12) (.tmp 13)⟩,
         ⟨(some 15), none, .load 1 false (.tmp 14)⟩,
         ⟨(some 16), none, .mov (.tmp 0)⟩,
         ⟨(some 17), none, .bin .eql (.tmp 15) (.tmp 16)⟩]) (
       .cond (.tmp 17) (
        .seq (
         .region [
           ⟨(some 2), none, .mov (.cst (.p (.bool true)))⟩]) (
         .ret)) (
        .skip)))) (
     .region [
       ⟨(some 10), none, .mov (.tmp 4)⟩,
       ⟨(some 11), none, .bin .add (.tmp 10) (.cst (.p (.int .i64 1)))⟩,
       ⟨(some 4), none, .mov (.tmp 11)⟩]))))
def lf24 : LFunc := ⟨18, [(.slot 2)], (
  .seq (
   .region [
     ⟨(some 2), none, .mov (.cst (.p (.bool false)))⟩]) (
   .seq (
    .region [
      ⟨(some 5), none, .buildSl 1 9 (.p (.str [])) 27 [(0, (.cst (.p (.str [116, 114, 117, 101])))), (1, (.cst (.p (.str [102, 97, 108, 115, 101])))), (2, (.cst (.p (.str [110, 111, 116])))), (3, (.cst (.p (.str [97, 110, 100])))), (4, (.cst (.p (.str [111, 114])))), (5, (.cst (.p (.str [61, 62])))), (6, (.cst (.p (.str [120, 111, 114])))), (7, (.cst (.p (.str [61])))), (8, (.cst (.p (.str [100, 105, 115, 116, 105, 110, 99, 116])))), (9, (.cst (.p (.str [105, 116, 101])))), (10, (.cst (.p (.str [108, 101, 116])))), (11, (.cst (.p (.str [43])))), (12, (.cst (.p (.str [45])))), (13, (.cst (.p (.str [42])))), (14, (.cst (.p (.str [47])))), (15, (.cst (.p (.str [60, 61])))), (16, (.cst (.p (.str [60])))), (17, (.cst (.p (.str [62, 61])))), (18, (.cst (.p (.str [62])))), (19, (.cst (.p (.str [66, 111, 111, 108])))), (20, (.cst (.p (.str [82, 101, 97, 108])))), (21, (.cst (.p (.str [95])))), (22, (.cst (.p (.str [33])))), (23, (.cst (.p (.str [97, 115])))), (24, (.cst (.p (.str [101, 120, 105, 115, 116, 115])))), (25, (.cst (.p (.str [102, 111, 114, 97, 108, 108])))), (26, (.cst (.p (.str [112, 97, 114]))))]⟩,
      ⟨(some 3), none, .mov (.tmp 5)⟩]) (
    .seq (
     .seq (
      .region [
        ⟨(some 4), none, .mov (.cst (.p (.int .i64 0)))⟩]) (
      lf24_B0)) (
     .seq (
      .region [
        ⟨(some 2), none, .mov (.cst (.p (.bool false)))⟩]) (
      .ret)))))⟩
theorem low24 : lowFunc Tryd.prog gl0 24 = some lf24 := by kernel_rfl
def lf25 : LFunc := ⟨17, [(.slot 2)], (
  .seq (
   .region [
     ⟨(some 2), none, .mov (.cst (.p (.bool false)))⟩]) (
   .seq (
    .region [
      ⟨(some 3), none, .mov (.tmp 0)⟩,
      ⟨(some 4), none, .bin .geq (.tmp 3) (.cst (.p (.int .u8 33)))⟩,
      ⟨(some 5), none, .mov (.tmp 4)⟩,
      ⟨(some 6), (some (5, true)), .mov (.tmp 0)⟩,
      ⟨(some 7), (some (5, true)), .bin .leq (.tmp 6) (.cst (.p (.int .u8 126)))⟩,
      ⟨(some 8), none, .pick (.tmp 5) (.tmp 7) (.cst (.p (.bool false)))⟩,
      ⟨(some 9), none, .mov (.tmp 8)⟩,
      ⟨(some 10), (some (9, false)), .mov (.tmp 0)⟩,
      ⟨(some 11), (some (9, false)), .bin .geq (.tmp 10) (.cst (.p (.int .u8 128)))⟩,
      ⟨(some 12), none, .pick (.tmp 9) (.cst (.p (.bool true))) (.tmp 11)⟩,
      ⟨(some 13), none, .mov (.tmp 12)⟩,
      ⟨(some 14), (some (13, false)), .mov (.tmp 0)⟩,
      ⟨(some 15), (some (13, false)), .call 20 [(.tmp 14)]⟩,
      ⟨(some 16), none, .pick (.tmp 13) (.cst (.p (.bool true))) (.tmp 15)⟩,
      ⟨(some 2), none, .mov (.tmp 16)⟩]) (
    .ret)))⟩
theorem low25 : lowFunc Tryd.prog gl0 25 = some lf25 := by kernel_rfl
def lf26 : LFunc := ⟨26, [(.slot 2)], (
  .seq (
   .region [
     ⟨(some 2), none, .mov (.cst (.p (.bool false)))⟩]) (
   .seq (
    .region [
      ⟨(some 3), none, .mov (.tmp 0)⟩,
      ⟨(some 4), none, .call 27 [(.tmp 3)]⟩,
      ⟨(some 5), none, .mov (.tmp 4)⟩,
      ⟨(some 6), (some (5, false)), .mov (.tmp 0)⟩,
      ⟨(some 7), (some (5, false)), .bin .geq (.tmp 6) (.cst (.p (.int .u8 97)))⟩,
      ⟨(some 8), (some (5, false)), .mov (.tmp 7)⟩,
      ⟨(some 9), (some (8, true)), .mov (.tmp 0)⟩,
      ⟨(some 10), (some (8, true)), .bin .leq (.tmp 9) (.cst (.p (.int .u8 122)))⟩,
      ⟨(some 11), (some (5, false)), .pick (.tmp 8) (.tmp 10) (.cst (.p (.bool false)))⟩,
      ⟨(some 12), none, .pick (.tmp 5) (.cst (.p (.bool true))) (.tmp 11)⟩,
      ⟨(some 13), none, .mov (.tmp 12)⟩,
      ⟨(some 14), (some (13, false)), .mov (.tmp 0)⟩,
      ⟨(some 15), (some (13, false)), .bin .geq (.tmp 14) (.cst (.p (.int .u8 65)))⟩,
      ⟨(some 16), (some (13, false)), .mov (.tmp 15)⟩,
      ⟨(some 17), (some (16, true)), .mov (.tmp 0)⟩,
      ⟨(some 18), (some (16, true)), .bin .leq (.tmp 17) (.cst (.p (.int .u8 90)))⟩,
      ⟨(some 19), (some (13, false)), .pick (.tmp 16) (.tmp 18) (.cst (.p (.bool false)))⟩,
      ⟨(some 20), none, .pick (.tmp 13) (.cst (.p (.bool true))) (.tmp 19)⟩,
      ⟨(some 21), none, .mov (.tmp 20)⟩,
      ⟨(some 22), (some (21, false)), .mov (.tmp 0)⟩,
      ⟨(some 23), (some (21, false)), .call 32 [(.cst (.p (.str [126, 33, 64, 36, 37, 94, 38, 42, 95, 45, 43, 61, 60, 62, 46, 63, 47]))), (.tmp 22)]⟩,
      ⟨(some 24), (some (21, false)), .bin .geq (.tmp 23) (.cst (.p (.int .i64 0)))⟩,
      ⟨(some 25), none, .pick (.tmp 21) (.cst (.p (.bool true))) (.tmp 24)⟩,
      ⟨(some 2), none, .mov (.tmp 25)⟩]) (
    .ret)))⟩
theorem low26 : lowFunc Tryd.prog gl0 26 = some lf26 := by kernel_rfl
def lf27 : LFunc := ⟨9, [(.slot 2)], (
  .seq (
   .region [
     ⟨(some 2), none, .mov (.cst (.p (.bool false)))⟩]) (
   .seq (
    .region [
      ⟨(some 3), none, .mov (.tmp 0)⟩,
      ⟨(some 4), none, .bin .geq (.tmp 3) (.cst (.p (.int .u8 48)))⟩,
      ⟨(some 5), none, .mov (.tmp 4)⟩,
      ⟨(some 6), (some (5, true)), .mov (.tmp 0)⟩,
      ⟨(some 7), (some (5, true)), .bin .leq (.tmp 6) (.cst (.p (.int .u8 57)))⟩,
      ⟨(some 8), none, .pick (.tmp 5) (.tmp 7) (.cst (.p (.bool false)))⟩,
      ⟨(some 2), none, .mov (.tmp 8)⟩]) (
    .ret)))⟩
theorem low27 : lowFunc Tryd.prog gl0 27 = some lf27 := by kernel_rfl
def lf28_B0 : LCode := .block 0 (
  .loop (
   .seq (
    .seq (
     .region [
       ⟨(some 23), none, .mov (.tmp 4)⟩,
       ⟨(some 24), none, .mov (.tmp 3)⟩,
       ⟨(some 25), none, .lenS (.tmp 24)⟩,
       ⟨(some 26), none, .bin .lss (.tmp 23) (.tmp 25)⟩]) (
     .cond (.tmp 26) (
      .skip) (
      .exit 0))) (
    .seq (
     .block 1 (
      .seq (
       .region [
         ⟨(some 29), none, .mov (.tmp 3)⟩,
         ⟨(some 30), none, .mov (.tmp 4)⟩,
         ⟨(some 31), none, .istr (.tmp 29) (.tmp 30)⟩,
         ⟨(some 32), none, .mov (.tmp 0)⟩,
         ⟨(some 33), none, .bin .eql (.tmp 31) (.tmp 32)⟩]) (
       .cond (.tmp 33) (
        .seq (
         .region [
           ⟨(some 2), none, .mov (.cst (.p (.bool true)))⟩]) (
         .ret)) (
        .skip)))) (
     .region [
       ⟨(some 27), none, .mov (.tmp 4)⟩,
       ⟨(some 28), none, .bin .add (.tmp 27) (.cst (.p (.int .i64 1)))⟩,
       ⟨(some 4), none, .mov (.tmp 28)⟩]))))
def lf28 : LFunc := ⟨34, [(.slot 2)], (
  .seq (
   .region [
     ⟨(some 2), none, .mov (.cst (.p (.bool false)))⟩]) (
   .seq (
    .seq (
     .region [
       ⟨(some 5), none, .mov (.tmp 0)⟩,
       ⟨(some 6), none, .call 29 [(.tmp 5)]⟩,
       ⟨(some 7), none, .mov (.tmp 6)⟩,
       ⟨(some 8), (some (7, false)), .mov (.tmp 0)⟩,
       ⟨(some 9), (some (7, false)), .bin .geq (.tmp 8) (.cst (.p (.int .u8 97)))⟩,
       ⟨(some 10), (some (7, false)), .mov (.tmp 9)⟩,
       ⟨(some 11), (some (10, true)), .mov (.tmp 0)⟩,
       ⟨(some 12), (some (10, true)), .bin .leq (.tmp 11) (.cst (.p (.int .u8 122)))⟩,
       ⟨(some 13), (some (7, false)), .pick (.tmp 10) (.tmp 12) (.cst (.p (.bool false)))⟩,
       ⟨(some 14), none, .pick (.tmp 7) (.cst (.p (.bool true))) (.tmp 13)⟩,
       ⟨(some 15), none, .mov (.tmp 14)⟩,
       ⟨(some 16), (some (15, false)), .mov (.tmp 0)⟩,
       ⟨(some 17), (some (15, false)), .bin .geq (.tmp 16) (.cst (.p (.int .u8 65)))⟩,
       ⟨(some 18), (some (15, false)), .mov (.tmp 17)⟩,
       ⟨(some 19), (some (18, true)), .mov (.tmp 0)⟩,
       ⟨(some 20), (some (18, true)), .bin .leq (.tmp 19) (.cst (.p (.int .u8 90)))⟩,
       ⟨(some 21), (some (15, false)), .pick (.tmp 18) (.tmp 20) (.cst (.p (.bool false)))⟩,
       ⟨(some 22), none, .pick (.tmp 15) (.cst (.p (.bool true))) (.tmp 21)⟩]) (
     .cond (.tmp 22) (
      .seq (
       .region [
         ⟨(some 2), none, .mov (.cst (.p (.bool true)))⟩]) (
       .ret)) (
      .skip))) (
    .seq (
     .region [
       ⟨(some 3), none, .mov (.cst (.p (.str [126, 33, 64, 36, 37, 94, 38, 42, 95, 45, 43, 61, 60, 62, 46, 63, 47])))⟩]) (
     .seq (
      .seq (
       .region [
         ⟨(some 4), none, .mov (.cst (.p (.int .i64 0)))⟩]) (
       lf28_B0)) (
      .seq (
       .region [
         ⟨(some 2), none, .mov (.cst (.p (.bool false)))⟩]) (
       .ret))))))⟩
theorem low28 : lowFunc Tryd.prog gl0 28 = some lf28 := by kernel_rfl
def lf29 : LFunc := ⟨9, [(.slot 2)], (
  .seq (
   .region [
     ⟨(some 2), none, .mov (.cst (.p (.bool false)))⟩]) (
   .seq (
    .region [
      ⟨(some 3), none, .mov (.tmp 0)⟩,
      ⟨(some 4), none, .bin .geq (.tmp 3) (.cst (.p (.int .u8 48)))⟩,
      ⟨(some 5), none, .mov (.tmp 4)⟩,
      ⟨(some 6), (some (5, true)), .mov (.tmp 0)⟩,
      ⟨(some 7), (some (5, true)), .bin .leq (.tmp 6) (.cst (.p (.int .u8 57)))⟩,
      ⟨(some 8), none, .pick (.tmp 5) (.tmp 7) (.cst (.p (.bool false)))⟩,
      ⟨(some 2), none, .mov (.tmp 8)⟩]) (
    .ret)))⟩
theorem low29 : lowFunc Tryd.prog gl0 29 = some lf29 := by kernel_rfl
def lf30_B0 : LCode := .block 0 (
  .loop (
   .seq (
    .seq (
     .regionD [
       ⟨(some 10), none, .mov (.tmp 0)⟩,
       ⟨(some 11), none, .nilc (.tmp 10)⟩,
       ⟨(some 12), none, .fadr 1 (.tmp 11)⟩,
       ⟨(some 13), none, .load 1 false (.tmp 12)⟩,
       ⟨(some 14), none, .mov (.tmp 0)⟩,
       ⟨(some 15), none, .nilc (.tmp 14)⟩,
       ⟨(some 16), none, .fadr 0 (.tmp 15)⟩,
       ⟨(some 17), none, .load 1 false (.tmp 16)⟩,
       ⟨(some 18), none, .len (.tmp 17)⟩,
       ⟨(some 19), none, .bin .lss (.tmp 13) (.tmp 18)⟩,
       ⟨(some 20), none, .mov (.tmp 19)⟩,
       ⟨(some 21), (some (20, true)), .mov (.tmp 1)⟩,
       ⟨(some 22), (some (20, true)), .mov (.tmp 0)⟩,
       ⟨(some 23), (some (20, true)), .nilc (.tmp 22)⟩,
       ⟨(some 24), (some (20, true)), .fadr 0 (.tmp 23)⟩,
       ⟨(some 25), (some (20, true)), .load 1 false (.tmp 24)⟩,
       ⟨(some 26), (some (20, true)), .mov (.tmp 0)⟩,
       ⟨(some 27), (some (20, true)), .nilc (.tmp 26)⟩,
       ⟨(some 28), (some (20, true)), .fadr 1 (.tmp 27)⟩,
       ⟨(some 29), (some (20, true)), .load 1 false (.tmp 28)⟩,
       ⟨(some 30), (some (20, true)), .iadr 1 (.tmp 25) (.tmp 29)⟩,
       ⟨(some 31), (some (20, true)), .load 1 false (.tmp 30)⟩,
       ⟨(some 32), (some (20, true)), .callv (.tmp 21) [(.tmp 31)]⟩,
       ⟨(some 33), none, .pick (.tmp 20) (.tmp 32) (.cst (.p (.bool false)))⟩]) (
     .cond (.tmp 33) (
      .skip) (
      .exit 0))) (
    .block 1 (
     .region [
       ⟨(some 34), none, .mov (.tmp 0)⟩,
       ⟨(some 35), none, .nilc (.tmp 34)⟩,
       ⟨(some 36), none, .fadr 1 (.tmp 35)⟩,
       ⟨(some 37), none, .load 1 false (.tmp 36)⟩,
       ⟨(some 38), none, .bin .add (.tmp 37) (.cst (.p (.int .i64 1)))⟩,
       ⟨(some 39), none, .nilc (.tmp 34)⟩,
       ⟨(some 40), none, .fadr 1 (.tmp 39)⟩,
       ⟨none, none, .store 1 (.tmp 40) (.tmp 38)⟩]))))
def lf30 : LFunc := ⟨52, [(.slot 4)], (
  .seq (
   .region [
     ⟨(some 4), none, .mov (.cst (.p (.str [])))⟩]) (
   .seq (
    .region [
      ⟨(some 6), none, .mov (.tmp 0)⟩,
      ⟨(some 7), none, .nilc (.tmp 6)⟩,
      ⟨(some 8), none, .fadr 1 (.tmp 7)⟩,
      ⟨(some 9), none, .load 1 false (.tmp 8)⟩,
      ⟨(some 5), none, .mov (.tmp 9)⟩]) (
    .seq (
     lf30_B0) (
     .seq (
      .regionD [
        ⟨(some 41), none, .mov (.tmp 0)⟩,
        ⟨(some 42), none, .nilc (.tmp 41)⟩,
        ⟨(some 43), none, .fadr 0 (.tmp 42)⟩,
        ⟨(some 44), none, .load 1 false (.tmp 43)⟩,
        ⟨(some 45), none, .mov (.tmp 5)⟩,
        ⟨(some 46), none, .mov (.tmp 0)⟩,
        ⟨(some 47), none, .nilc (.tmp 46)⟩,
        ⟨(some 48), none, .fadr 1 (.tmp 47)⟩,
        ⟨(some 49), none, .load 1 false (.tmp 48)⟩,
        ⟨(some 50), none, .slSl 1 (.tmp 44) (some (.tmp 45)) (some (.tmp 49)) none⟩,
        ⟨(some 51), none, .conv .b2s (.tmp 50)⟩,
        ⟨(some 4), none, .mov (.tmp 51)⟩]) (
      .ret)))))⟩
theorem low30 : lowFunc Tryd.prog gl0 30 = some lf30 := by kernel_rfl
def lf31 : LFunc := ⟨6, [(.slot 2)], (
  .seq (
   .region [
     ⟨(some 2), none, .mov (.cst (.p (.bool false)))⟩]) (
   .seq (
    .region [
      ⟨(some 3), none, .mov (.tmp 0)⟩,
      ⟨(some 4), none, .call 32 [(.cst (.p (.str [32, 9, 10, 13]))), (.tmp 3)]⟩,
      ⟨(some 5), none, .bin .geq (.tmp 4) (.cst (.p (.int .i64 0)))⟩,
      ⟨(some 2), none, .mov (.tmp 5)⟩]) (
    .ret)))⟩
theorem low31 : lowFunc Tryd.prog gl0 31 = some lf31 := by kernel_rfl
def lf32 : LFunc := ⟨8, [(.slot 4)], (
  .seq (
   .region [
     ⟨(some 4), none, .mov (.cst (.p (.int .i64 0)))⟩]) (
   .seq (
    .region [
      ⟨(some 5), none, .mov (.tmp 0)⟩,
      ⟨(some 6), none, .mov (.tmp 1)⟩,
      ⟨(some 7), none, .call 39 [(.tmp 5), (.tmp 6)]⟩,
      ⟨(some 4), none, .mov (.tmp 7)⟩]) (
    .ret)))⟩
theorem low32 : lowFunc Tryd.prog gl0 32 = some lf32 := by kernel_rfl
def lf33 : LFunc := ⟨9, [(.slot 2)], (
  .seq (
   .region [
     ⟨(some 2), none, .mov (.cst (.p (.bool false)))⟩]) (
   .seq (
    .region [
      ⟨(some 3), none, .mov (.tmp 0)⟩,
      ⟨(some 4), none, .bin .neq (.tmp 3) (.cst (.p (.int .u8 10)))⟩,
      ⟨(some 5), none, .mov (.tmp 4)⟩,
      ⟨(some 6), (some (5, true)), .mov (.tmp 0)⟩,
      ⟨(some 7), (some (5, true)), .bin .neq (.tmp 6) (.cst (.p (.int .u8 13)))⟩,
      ⟨(some 8), none, .pick (.tmp 5) (.tmp 7) (.cst (.p (.bool false)))⟩,
      ⟨(some 2), none, .mov (.tmp 8)⟩]) (
    .ret)))⟩
theorem low33 : lowFunc Tryd.prog gl0 33 = some lf33 := by kernel_rfl
def lf34_B0 : LCode := .block 0 (
  .loop (
   .block 1 (
    .seq (
     .region [
       ⟨(some 5), none, .mov (.tmp 0)⟩,
       ⟨(some 6), none, .nilc (.tmp 5)⟩,
       ⟨(some 7), none, .fadr 1 (.tmp 6)⟩,
       ⟨(some 8), none, .load 1 false (.tmp 7)⟩,
       ⟨(some 9), none, .bin .add (.tmp 8) (.cst (.p (.int .i64 1)))⟩,
       ⟨(some 10), none, .nilc (.tmp 5)⟩,
       ⟨(some 11), none, .fadr 1 (.tmp 10)⟩,
       ⟨none, none, .store 1 (.tmp 11) (.tmp 9)⟩]) (
     .seq (
      .region [
        ⟨(some 12), none, .mov (.tmp 0)⟩,
        ⟨(some 13), none, .call 30 [(.tmp 12), (.cst (.p (.clo 41 [])))]⟩,
        ⟨(some 14), none, .call 40 [(.tmp 4), (.tmp 13)]⟩]) (
      .seq (
       .seq (
        .regionD [
          ⟨(some 15), none, .mov (.tmp 0)⟩,
          ⟨(some 16), none, .nilc (.tmp 15)⟩,
          ⟨(some 17), none, .fadr 1 (.tmp 16)⟩,
          ⟨(some 18), none, .load 1 false (.tmp 17)⟩,
          ⟨(some 19), none, .mov (.tmp 0)⟩,
          ⟨(some 20), none, .nilc (.tmp 19)⟩,
          ⟨(some 21), none, .fadr 0 (.tmp 20)⟩,
          ⟨(some 22), none, .load 1 false (.tmp 21)⟩,
          ⟨(some 23), none, .len (.tmp 22)⟩,
          ⟨(some 24), none, .bin .geq (.tmp 18) (.tmp 23)⟩,
          ⟨(some 25), none, .mov (.tmp 24)⟩,
          ⟨(some 26), (some (25, false)), .mov (.tmp 0)⟩,
          ⟨(some 27), (some (25, false)), .nilc (.tmp 26)⟩,
          ⟨(some 28), (some (25, false)), .fadr 0 (.tmp 27)⟩,
          ⟨(some 29), (some (25, false)), .load 1 false (.tmp 28)⟩,
          ⟨(some 30), (some (25, false)), .mov (.tmp 0)⟩,
          ⟨(some 31), (some (25, false)), .nilc (.tmp 30)⟩,
          ⟨(some 32), (some (25, false)), .fadr 1 (.tmp 31)⟩,
          ⟨(some 33), (some (25, false)), .load 1 false (.tmp 32)⟩,
          ⟨(some 34), (some (25, false)), .iadr 1 (.tmp 29) (.tmp 33)⟩,
          ⟨(some 35), (some (25, false)), .load 1 false (.tmp 34)⟩,
          ⟨(some 36), (some (25, false)), .bin .neq (.tmp 35) (.cst (.p (.int .u8 34)))⟩,
          ⟨(some 37), none, .pick (.tmp 25) (.cst (.p (.bool true))) (.tmp 36)⟩]) (
        .cond (.tmp 37) (
         .seq (
          .region [
            ⟨(some 38), none, .load 3 true (.tmp 2)⟩,
            ⟨none, none, .store 3 (.tmp 2) (.tmp 38)⟩,
            ⟨(some 3), none, .mov (.cst (.p (.bool false)))⟩]) (
          .ret)) (
         .skip))) (
       .seq (
        .seq (
         .region [
           ⟨(some 39), none, .mov (.tmp 0)⟩,
           ⟨(some 40), none, .nilc (.tmp 39)⟩,
           ⟨(some 41), none, .fadr 1 (.tmp 40)⟩,
           ⟨(some 42), none, .load 1 false (.tmp 41)⟩,
           ⟨(some 43), none, .bin .add (.tmp 42) (.cst (.p (.int .i64 1)))⟩,
           ⟨(some 44), none, .nilc (.tmp 39)⟩,
           ⟨(some 45), none, .fadr 1 (.tmp 44)⟩,
           ⟨none, none, .store 1 (.tmp 45) (.tmp 43)⟩]) (
         .seq (
          .regionD [
            ⟨(some 46), none, .mov (.tmp 0)⟩,
            ⟨(some 47), none, .nilc (.tmp 46)⟩,
            ⟨(some 48), none, .fadr 1 (.tmp 47)⟩,
            ⟨(some 49), none, .load 1 false (.tmp 48)⟩,
            ⟨(some 50), none, .mov (.tmp 0)⟩,
            ⟨(some 51), none, .nilc (.tmp 50)⟩,
            ⟨(some 52), none, .fadr 0 (.tmp 51)⟩,
            ⟨(some 53), none, .load 1 false (.tmp 52)⟩,
            ⟨(some 54), none, .len (.tmp 53)⟩,
            ⟨(some 55), none, .bin .geq (.tmp 49) (.tmp 54)⟩,
            ⟨(some 56), none, .mov (.tmp 55)⟩,
            ⟨(some 57), (some (56, false)), .mov (.tmp 0)⟩,
            ⟨(some 58), (some (56, false)), .nilc (.tmp 57)⟩,
            ⟨(some 59), (some (56, false)), .fadr 0 (.tmp 58)⟩,
            ⟨(some 60), (some (56, false)), .load 1 false (.tmp 59)⟩,
            ⟨(some 61), (some (56, false)), .mov (.tmp 0)⟩,
            ⟨(some 62), (some (56, false)), .nilc (.tmp 61)⟩,
            ⟨(some 63), (some (56, false)), .fadr 1 (.tmp 62)⟩,
            ⟨(some 64), (some (56, false)), .load 1 false (.tmp 63)⟩,
            ⟨(some 65), (some (56, false)), .iadr 1 (.tmp 60) (.tmp 64)⟩,
            ⟨(some 66), (some (56, false)), .load 1 false (.tmp 65)⟩,
            ⟨(some 67), (some (56, false)), .bin .neq (.tmp 66) (.cst (.p (.int .u8 34)))⟩,
            ⟨(some 68), none, .pick (.tmp 56) (.cst (.p (.bool true))) (.tmp 67)⟩]) (
          .cond (.tmp 68) (
           .seq (
            .region [
              ⟨(some 69), none, .call 42 [(.tmp 4)]⟩,
              ⟨(some 70), none, .build (.p (.agg [(.int .i64 0), (.str []), (.int .i64 0)])) [(0, 1, (.cst (.p (.int .i64 7)))), (1, 1, (.tmp 69))]⟩,
              ⟨none, none, .store 3 (.tmp 2) (.tmp 70)⟩,
              ⟨(some 3), none, .mov (.cst (.p (.bool true)))⟩]) (
            .ret)) (
           .skip)))) (
        .region [
          ⟨(some 71), none, .call 43 [(.tmp 4), (.cst (.p (.int .u8 34)))]⟩])))))))
def lf34 : LFunc := ⟨72, [(.cell 2 3 true), (.slot 3)], (
  .seq (
   .region [
     ⟨(some 2), none, .newv 3 41 (.cst (.p (.agg [(.int .i64 0), (.str []), (.int .i64 0)])))⟩,
     ⟨(some 3), none, .mov (.cst (.p (.bool false)))⟩]) (
   .seq (
    .region [
      ⟨(some 4), none, .newv 2 61 (.cst (.agg [(.p .nilp), (.tight [])]))⟩]) (
    lf34_B0)))⟩
theorem low34 : lowFunc Tryd.prog gl0 34 = some lf34 := by kernel_rfl
def lf35 : LFunc := ⟨47, [(.cell 2 3 true), (.slot 3)], (
  .seq (
   .region [
     ⟨(some 2), none, .newv 3 41 (.cst (.p (.agg [(.int .i64 0), (.str []), (.int .i64 0)])))⟩,
     ⟨(some 3), none, .mov (.cst (.p (.bool false)))⟩]) (
   .seq (
    .region [
      ⟨(some 5), none, .mov (.tmp 0)⟩,
      ⟨(some 6), none, .nilc (.tmp 5)⟩,
      ⟨(some 7), none, .fadr 1 (.tmp 6)⟩,
      ⟨(some 8), none, .load 1 false (.tmp 7)⟩,
      ⟨(some 9), none, .bin .add (.tmp 8) (.cst (.p (.int .i64 1)))⟩,
      ⟨(some 10), none, .nilc (.tmp 5)⟩,
      ⟨(some 11), none, .fadr 1 (.tmp 10)⟩,
      ⟨none, none, .store 1 (.tmp 11) (.tmp 9)⟩]) (
    .seq (
     .region [
       ⟨(some 12), none, .mov (.tmp 0)⟩,
       ⟨(some 13), none, .call 30 [(.tmp 12), (.cst (.p (.clo 44 [])))]⟩,
       ⟨(some 4), none, .mov (.tmp 13)⟩]) (
     .seq (
      .seq (
       .regionD [
         ⟨(some 14), none, .mov (.tmp 0)⟩,
         ⟨(some 15), none, .nilc (.tmp 14)⟩,
         ⟨(some 16), none, .fadr 1 (.tmp 15)⟩,
         ⟨(some 17), none, .load 1 false (.tmp 16)⟩,
         ⟨(some 18), none, .mov (.tmp 0)⟩,
         ⟨(some 19), none, .nilc (.tmp 18)⟩,
         ⟨(some 20), none, .fadr 0 (.tmp 19)⟩,
         ⟨(some 21), none, .load 1 false (.tmp 20)⟩,
         ⟨(some 22), none, .len (.tmp 21)⟩,
         ⟨(some 23), none, .bin .geq (.tmp 17) (.tmp 22)⟩,
         ⟨(some 24), none, .mov (.tmp 23)⟩,
         ⟨(some 25), (some (24, false)), .mov (.tmp 0)⟩,
         ⟨(some 26), (some (24, false)), .nilc (.tmp 25)⟩,
         ⟨(some 27), (some (24, false)), .fadr 0 (.tmp 26)⟩,
         ⟨(some 28), (some (24, false)), .load 1 false (.tmp 27)⟩,
         ⟨(some 29), (some (24, false)), .mov (.tmp 0)⟩,
         ⟨(some 30), (some (24, false)), .nilc (.tmp 29)⟩,
         ⟨(some 31), (some (24, false)), .fadr 1 (.tmp 30)⟩,
         ⟨(some 32), (some (24, false)), .load 1 false (.tmp 31)⟩,
         ⟨(some 33), (some (24, false)), .iadr 1 (.tmp 28) (.tmp 32)⟩,
         ⟨(some 34), (some (24, false)), .load 1 false (.tmp 33)⟩,
         ⟨(some 35), (some (24, false)), .bin .neq (.tmp 34) (.cst (.p (.int .u8 124)))⟩,
         ⟨(some 36), none, .pick (.tmp 24) (.cst (.p (.bool true))) (.tmp 35)⟩]) (
       .cond (.tmp 36) (
        .seq (
         .region [
           ⟨(some 37), none, .load 3 true (.tmp 2)⟩,
           ⟨none, none, .store 3 (.tmp 2) (.tmp 37)⟩,
           ⟨(some 3), none, .mov (.cst (.p (.bool false)))⟩]) (
         .ret)) (
        .skip))) (
      .seq (
       .region [
         ⟨(some 38), none, .mov (.tmp 0)⟩,
         ⟨(some 39), none, .nilc (.tmp 38)⟩,
         ⟨(some 40), none, .fadr 1 (.tmp 39)⟩,
         ⟨(some 41), none, .load 1 false (.tmp 40)⟩,
         ⟨(some 42), none, .bin .add (.tmp 41) (.cst (.p (.int .i64 1)))⟩,
         ⟨(some 43), none, .nilc (.tmp 38)⟩,
         ⟨(some 44), none, .fadr 1 (.tmp 43)⟩,
         ⟨none, none, .store 1 (.tmp 44) (.tmp 42)⟩]) (
       .seq (
        .region [
          ⟨(some 45), none, .mov (.tmp 4)⟩,
          ⟨(some 46), none, .build (.p (.agg [(.int .i64 0), (.str []), (.int .i64 0)])) [(0, 1, (.cst (.p (.int .i64 3)))), (1, 1, (.tmp 45))]⟩,
          ⟨none, none, .store 3 (.tmp 2) (.tmp 46)⟩,
          ⟨(some 3), none, .mov (.cst (.p (.bool true)))⟩]) (
        .ret)))))))⟩
theorem low35 : lowFunc Tryd.prog gl0 35 = some lf35 := by kernel_rfl
def lf36 : LFunc := ⟨97, [(.cell 2 3 true), (.slot 3)], (
  .seq (
   .region [
     ⟨(some 2), none, .newv 3 41 (.cst (.p (.agg [(.int .i64 0), (.str []), (.int .i64 0)])))⟩,
     ⟨(some 3), none, .mov (.cst (.p (.bool false)))⟩]) (
   .seq (
    .region [
      ⟨(some 4), none, .mov (.tmp 0)⟩,
      ⟨(some 5), none, .call 30 [(.tmp 4), (.cst (.p (.clo 27 [])))]⟩,
      ⟨(some 6), none, .build (.p (.agg [(.int .i64 0), (.str []), (.int .i64 0)])) [(0, 1, (.cst (.p (.int .i64 5)))), (1, 1, (.tmp 5))]⟩,
      ⟨none, none, .store 3 (.tmp 2) (.tmp 6)⟩]) (
    .seq (
     .region [
       ⟨(some 7), none, .fadr 1 (.tmp 2)⟩,
       ⟨(some 8), none, .load 1 false (.tmp 7)⟩,
       ⟨(some 9), none, .bin .eql (.tmp 8) (.cst (.p (.str [48])))⟩,
       ⟨(some 10), none, .mov (.tmp 9)⟩,
       ⟨(some 11), (some (10, false)), .fadr 1 (.tmp 2)⟩,
       ⟨(some 12), (some (10, false)), .load 1 false (.tmp 11)⟩,
       ⟨(some 13), (some (10, false)), .istr (.tmp 12) (.cst (.p (.int .i64 0)))⟩,
       ⟨(some 14), (some (10, false)), .bin .neq (.tmp 13) (.cst (.p (.int .u8 48)))⟩,
       ⟨(some 15), none, .pick (.tmp 10) (.cst (.p (.bool true))) (.tmp 14)⟩,
       ⟨(some 3), none, .mov (.tmp 15)⟩]) (
     .seq (
      .seq (
       .regionD [
         ⟨(some 16), none, .mov (.tmp 0)⟩,
         ⟨(some 17), none, .nilc (.tmp 16)⟩,
         ⟨(some 18), none, .fadr 1 (.tmp 17)⟩,
         ⟨(some 19), none, .load 1 false (.tmp 18)⟩,
         ⟨(some 20), none, .bin .add (.tmp 19) (.cst (.p (.int .i64 1)))⟩,
         ⟨(some 21), none, .mov (.tmp 0)⟩,
         ⟨(some 22), none, .nilc (.tmp 21)⟩,
         ⟨(some 23), none, .fadr 0 (.tmp 22)⟩,
         ⟨(some 24), none, .load 1 false (.tmp 23)⟩,
         ⟨(some 25), none, .len (.tmp 24)⟩,
         ⟨(some 26), none, .bin .lss (.tmp 20) (.tmp 25)⟩,
         ⟨(some 27), none, .mov (.tmp 26)⟩,
         ⟨(some 28), (some (27, true)), .mov (.tmp 0)⟩,
         ⟨(some 29), (some (27, true)), .nilc (.tmp 28)⟩,
         ⟨(some 30), (some (27, true)), .fadr 0 (.tmp 29)⟩,
         ⟨(some 31), (some (27, true)), .load 1 false (.tmp 30)⟩,
         ⟨(some 32), (some (27, true)), .mov (.tmp 0)⟩,
         ⟨(some 33), (some (27, true)), .nilc (.tmp 32)⟩,
         ⟨(some 34), (some (27, true)), .fadr 1 (.tmp 33)⟩,
         ⟨(some 35), (some (27, true)), .load 1 false (.tmp 34)⟩,
         ⟨(some 36), (some (27, true)), .iadr 1 (.tmp 31) (.tmp 35)⟩,
         ⟨(some 37), (some (27, true)), .load 1 false (.tmp 36)⟩,
         ⟨(some 38), (some (27, true)), .bin .eql (.tmp 37) (.cst (.p (.int .u8 46)))⟩,
         ⟨(some 39), none, .pick (.tmp 27) (.tmp 38) (.cst (.p (.bool false)))⟩,
         ⟨(some 40), none, .mov (.tmp 39)⟩,
         ⟨(some 41), (some (40, true)), .mov (.tmp 0)⟩,
         ⟨(some 42), (some (40, true)), .nilc (.tmp 41)⟩,
         ⟨(some 43), (some (40, true)), .fadr 0 (.tmp 42)⟩,
         ⟨(some 44), (some (40, true)), .load 1 false (.tmp 43)⟩,
         ⟨(some 45), (some (40, true)), .mov (.tmp 0)⟩,
         ⟨(some 46), (some (40, true)), .nilc (.tmp 45)⟩,
         ⟨(some 47), (some (40, true)), .fadr 1 (.tmp 46)⟩,
         ⟨(some 48), (some (40, true)), .load 1 false (.tmp 47)⟩,
         ⟨(some 49), (some (40, true)), .bin .add (.tmp 48) (.cst (.p (.int .i64 1)))⟩,
         ⟨(some 50), (some (40, true)), .iadr 1 (.tmp 44) (.tmp 49)⟩,
         ⟨(some 51), (some (40, true)), .load 1 false (.tmp 50)⟩,
         ⟨(some 52), (some (40, true)), .call 27 [(.tmp 51)]⟩,
         ⟨(some 53), none, .pick (.tmp 40) (.tmp 52) (.cst (.p (.bool false)))⟩]) (
       .cond (.tmp 53) (
        .seq (
         .region [
           ⟨(some 54), none, .mov (.tmp 0)⟩,
           ⟨(some 55), none, .nilc (.tmp 54)⟩,
           ⟨(some 56), none, .fadr 1 (.tmp 55)⟩,
           ⟨(some 57), none, .load 1 false (.tmp 56)⟩,
           ⟨(some 58), none, .bin .add (.tmp 57) (.cst (.p (.int .i64 1)))⟩,
           ⟨(some 59), none, .nilc (.tmp 54)⟩,
           ⟨(some 60), none, .fadr 1 (.tmp 59)⟩,
           ⟨none, none, .store 1 (.tmp 60) (.tmp 58)⟩]) (
         .regionW [
           (⟨(some 61), none, .fadr 1 (.tmp 2)⟩, true),
           (⟨(some 62), none, .load 1 false (.tmp 61)⟩, true),
           (⟨(some 63), none, .bin .add (.tmp 62) (.cst (.p (.str [46])))⟩, false),
           (⟨(some 64), none, .mov (.tmp 0)⟩, false),
           (⟨(some 65), none, .call 30 [(.tmp 64), (.cst (.p (.clo 27 [])))]⟩, true),
           (⟨(some 66), none, .bin .add (.tmp 63) (.tmp 65)⟩, false),
           (⟨(some 67), none, .fadr 0 (.tmp 2)⟩, true),
           (⟨none, none, .store 1 (.tmp 67) (.cst (.p (.int .i64 6)))⟩, false),
           (⟨(some 68), none, .fadr 1 (.tmp 2)⟩, false),
           (⟨none, none, .store 1 (.tmp 68) (.tmp 66)⟩, false)])) (
        .skip))) (
      .seq (
       .regionW [
         (⟨(some 69), none, .load 3 true (.tmp 2)⟩, true),
         (⟨(some 70), none, .mov (.tmp 3)⟩, false),
         (⟨(some 71), none, .mov (.tmp 70)⟩, false),
         (⟨(some 72), (some (71, true)), .mov (.tmp 0)⟩, false),
         (⟨(some 73), (some (71, true)), .nilc (.tmp 72)⟩, false),
         (⟨(some 74), (some (71, true)), .fadr 1 (.tmp 73)⟩, false),
         (⟨(some 75), (some (71, true)), .load 1 false (.tmp 74)⟩, false),
         (⟨(some 76), (some (71, true)), .mov (.tmp 0)⟩, false),
         (⟨(some 77), (some (71, true)), .nilc (.tmp 76)⟩, false),
         (⟨(some 78), (some (71, true)), .fadr 0 (.tmp 77)⟩, false),
         (⟨(some 79), (some (71, true)), .load 1 false (.tmp 78)⟩, false),
         (⟨(some 80), (some (71, true)), .len (.tmp 79)⟩, false),
         (⟨(some 81), (some (71, true)), .bin .geq (.tmp 75) (.tmp 80)⟩, false),
         (⟨(some 82), (some (71, true)), .mov (.tmp 81)⟩, false),
         (⟨(some 83), (some (82, false)), .mov (.tmp 0)⟩, false),
         (⟨(some 84), (some (82, false)), .nilc (.tmp 83)⟩, false),
         (⟨(some 85), (some (82, false)), .fadr 0 (.tmp 84)⟩, false),
         (⟨(some 86), (some (82, false)), .load 1 false (.tmp 85)⟩, false),
         (⟨(some 87), (some (82, false)), .mov (.tmp 0)⟩, false),
         (⟨(some 88), (some (82, false)), .nilc (.tmp 87)⟩, false),
         (⟨(some 89), (some (82, false)), .fadr 1 (.tmp 88)⟩, false),
         (⟨(some 90), (some (82, false)), .load 1 false (.tmp 89)⟩, false),
         (⟨(some 91), (some (82, false)), .iadr 1 (.tmp 86) (.tmp 90)⟩, false),
         (⟨(some 92), (some (82, false)), .load 1 false (.tmp 91)⟩, false),
         (⟨(some 93), (some (82, false)), .call 26 [(.tmp 92)]⟩, true),
         (⟨(some 94), (some (82, false)), .un .not (.tmp 93)⟩, false),
         (⟨(some 95), (some (71, true)), .pick (.tmp 82) (.cst (.p (.bool true))) (.tmp 94)⟩, false),
         (⟨(some 96), none, .pick (.tmp 71) (.tmp 95) (.cst (.p (.bool false)))⟩, false),
         (⟨none, none, .store 3 (.tmp 2) (.tmp 69)⟩, false),
         (⟨(some 3), none, .mov (.tmp 96)⟩, false)]) (
       .ret))))))⟩
theorem low36 : lowFunc Tryd.prog gl0 36 = some lf36 := by kernel_rfl
def lf37 : LFunc := ⟨9, [(.slot 4)], (
  .seq (
   .region [
     ⟨(some 4), none, .mov (.cst (.p (.bool false)))⟩]) (
   .seq (
    .region [
      ⟨(some 5), none, .mov (.tmp 0)⟩,
      ⟨(some 6), none, .mov (.tmp 1)⟩,
      ⟨(some 7), none, .call 45 [(.tmp 5), (.tmp 6)]⟩,
      ⟨(some 8), none, .bin .geq (.tmp 7) (.cst (.p (.int .i64 0)))⟩,
      ⟨(some 4), none, .mov (.tmp 8)⟩]) (
    .ret)))⟩
theorem low37 : lowFunc Tryd.prog gl0 37 = some lf37 := by kernel_rfl
def lf39 : LFunc := ⟨8, [(.slot 4)], (
  .seq (
   .region [
     ⟨(some 4), none, .mov (.cst (.p (.int .i64 0)))⟩]) (
   .seq (
    .region [
      ⟨(some 5), none, .mov (.tmp 0)⟩,
      ⟨(some 6), none, .mov (.tmp 1)⟩,
      ⟨(some 7), none, .calle 48 [(.tmp 5), (.tmp 6)]⟩,
      ⟨(some 4), none, .mov (.tmp 7)⟩]) (
    .ret)))⟩
theorem low39 : lowFunc Tryd.prog gl0 39 = some lf39 := by kernel_rfl
def lf40 : LFunc := ⟨19, [(.slot 4), (.slot 5)], (
  .seq (
   .region [
     ⟨(some 4), none, .mov (.cst (.p (.int .i64 0)))⟩,
     ⟨(some 5), none, .mov (.cst (.p .nili))⟩]) (
   .seq (
    .region [
      ⟨(some 6), none, .mov (.tmp 0)⟩,
      ⟨(some 7), none, .call 49 [(.tmp 6)]⟩]) (
    .seq (
     .region [
       ⟨(some 8), none, .mov (.tmp 0)⟩,
       ⟨(some 9), none, .mov (.tmp 0)⟩,
       ⟨(some 10), none, .nilc (.tmp 9)⟩,
       ⟨(some 11), none, .fadr 1 (.tmp 10)⟩,
       ⟨(some 12), none, .load 1 false (.tmp 11)⟩,
       ⟨(some 13), none, .mov (.tmp 1)⟩,
       ⟨(some 14), none, .appS 1 5 (.tmp 12) (.tmp 13)⟩,
       ⟨(some 15), none, .nilc (.tmp 8)⟩,
       ⟨(some 16), none, .fadr 1 (.tmp 15)⟩,
       ⟨none, none, .store 1 (.tmp 16) (.tmp 14)⟩]) (
     .seq (
      .region [
        ⟨(some 17), none, .mov (.tmp 1)⟩,
        ⟨(some 18), none, .lenS (.tmp 17)⟩,
        ⟨(some 4), none, .mov (.tmp 18)⟩,
        ⟨(some 5), none, .mov (.cst (.p .nili))⟩]) (
      .ret)))))⟩
theorem low40 : lowFunc Tryd.prog gl0 40 = some lf40 := by kernel_rfl
def lf41 : LFunc := ⟨9, [(.slot 2)], (
  .seq (
   .region [
     ⟨(some 2), none, .mov (.cst (.p (.bool false)))⟩]) (
   .seq (
    .region [
      ⟨(some 3), none, .mov (.tmp 0)⟩,
      ⟨(some 4), none, .bin .neq (.tmp 3) (.cst (.p (.int .u8 34)))⟩,
      ⟨(some 5), none, .mov (.tmp 4)⟩,
      ⟨(some 6), (some (5, true)), .mov (.tmp 0)⟩,
      ⟨(some 7), (some (5, true)), .call 23 [(.tmp 6)]⟩,
      ⟨(some 8), none, .pick (.tmp 5) (.tmp 7) (.cst (.p (.bool false)))⟩,
      ⟨(some 2), none, .mov (.tmp 8)⟩]) (
    .ret)))⟩
theorem low41 : lowFunc Tryd.prog gl0 41 = some lf41 := by kernel_rfl
def lf43 : LFunc := ⟨17, [(.slot 4)], (
  .seq (
   .region [
     ⟨(some 4), none, .mov (.cst (.p .nili))⟩]) (
   .seq (
    .region [
      ⟨(some 5), none, .mov (.tmp 0)⟩,
      ⟨(some 6), none, .call 49 [(.tmp 5)]⟩]) (
    .seq (
     .region [
       ⟨(some 7), none, .mov (.tmp 0)⟩,
       ⟨(some 8), none, .mov (.tmp 0)⟩,
       ⟨(some 9), none, .nilc (.tmp 8)⟩,
       ⟨(some 10), none, .fadr 1 (.tmp 9)⟩,
       ⟨(some 11), none, .load 1 false (.tmp 10)⟩,
       ⟨(some 12), none, .mov (.tmp 1)⟩,
       ⟨(some 13), none, .buildSl 1 5 (.p (.int .u8 0)) 1 [(0, (.tmp 12))]⟩,
       ⟨(some 14), none, .app 1 1 5 (.tmp 11) (.tmp 13)⟩,
       ⟨(some 15), none, .nilc (.tmp 7)⟩,
       ⟨(some 16), none, .fadr 1 (.tmp 15)⟩,
       ⟨none, none, .store 1 (.tmp 16) (.tmp 14)⟩]) (
     .seq (
      .region [
        ⟨(some 4), none, .mov (.cst (.p .nili))⟩]) (
      .ret)))))⟩
theorem low43 : lowFunc Tryd.prog gl0 43 = some lf43 := by kernel_rfl
def lf44 : LFunc := ⟨13, [(.slot 2)], (
  .seq (
   .region [
     ⟨(some 2), none, .mov (.cst (.p (.bool false)))⟩]) (
   .seq (
    .region [
      ⟨(some 3), none, .mov (.tmp 0)⟩,
      ⟨(some 4), none, .bin .neq (.tmp 3) (.cst (.p (.int .u8 124)))⟩,
      ⟨(some 5), none, .mov (.tmp 4)⟩,
      ⟨(some 6), (some (5, true)), .mov (.tmp 0)⟩,
      ⟨(some 7), (some (5, true)), .bin .neq (.tmp 6) (.cst (.p (.int .u8 92)))⟩,
      ⟨(some 8), none, .pick (.tmp 5) (.tmp 7) (.cst (.p (.bool false)))⟩,
      ⟨(some 9), none, .mov (.tmp 8)⟩,
      ⟨(some 10), (some (9, true)), .mov (.tmp 0)⟩,
      ⟨(some 11), (some (9, true)), .call 23 [(.tmp 10)]⟩,
      ⟨(some 12), none, .pick (.tmp 9) (.tmp 11) (.cst (.p (.bool false)))⟩,
      ⟨(some 2), none, .mov (.tmp 12)⟩]) (
    .ret)))⟩
theorem low44 : lowFunc Tryd.prog gl0 44 = some lf44 := by kernel_rfl
def lf45_B0 : LCode := .block 0 (
  .loop (
   .seq (
    .region [
      ⟨(some 9), none, .bin .lss (.tmp 8) (.tmp 7)⟩]) (
    .seq (
     .cond (.tmp 9) (
      .skip) (
      .exit 0)) (
     .seq (
      .block 1 (
       .seq (
        .region [
          ⟨(some 10), none, .mov (.tmp 8)⟩,
          ⟨(some 5), none, .mov (.tmp 10)⟩]) (
        .seq (
         .region [
           ⟨(some 11), none, .mov (.tmp 1)⟩,
           ⟨(some 12), none, .mov (.tmp 0)⟩,
           ⟨(some 13), none, .mov (.tmp 5)⟩,
           ⟨(some 14), none, .iadr 1 (.tmp 12) (.tmp 13)⟩,
           ⟨(some 15), none, .load 1 false (.tmp 14)⟩,
           ⟨(some 16), none, .bin .eql (.tmp 11) (.tmp 15)⟩]) (
         .cond (.tmp 16) (
          .seq (
           .region [
             ⟨(some 17), none, .mov (.tmp 5)⟩,
             ⟨(some 4), none, .mov (.tmp 17)⟩]) (
           .ret)) (
          .skip))))) (
      .region [
        ⟨(some 18), none, .bin .add (.tmp 8) (.cst (.p (.int .i64 1)))⟩,
        ⟨(some 8), none, .mov (.tmp 18)⟩])))))
def lf45 : LFunc := ⟨19, [(.slot 4)], (
  .seq (
   .region [
     ⟨(some 4), none, .mov (.cst (.p (.int .i64 0)))⟩]) (
   .seq (
    .seq (
     .region [
       ⟨(some 6), none, .mov (.tmp 0)⟩,
       ⟨(some 7), none, .len (.tmp 6)⟩,
       ⟨(some 8), none, .mov (.cst (.p (.int .i64 0)))⟩]) (
     lf45_B0)) (
    .seq (
     .region [
       ⟨(some 4), none, .mov (.cst (.p (.int .i64 (-1))))⟩]) (
     .ret))))⟩
theorem low45 : lowFunc Tryd.prog gl0 45 = some lf45 := by kernel_rfl
end Go.Proofs.YthnkmebnigefaaaDoor
