/-
  The lowered code of whole, law2 and the reference's whole numbers, each equal to what the program's form lowers to. No conditions.
-/
import Derived.Test.YtjjpfffclcofnaaGreatDoorAbsTwo
import Derived.Test.YtjjpfffclcofnaaGreatDoorProg
import Derived.Test.YtjjpfffclcofnaaGreatDoorNatA
import Derived.KernelRfl
set_option linter.unusedSimpArgs false
set_option linter.unusedVariables false
set_option linter.constructorNameAsVariable false

/-
  The lowered code of the functions, as the program's form has it.
-/
namespace Go.Proofs.YtjjpfffclcofnaaGreatDoor
open Go Go.Abs
def lf11 : LFunc := ⟨119, [(.slot 6)], (
  .seq (
   .region [
     ⟨(some 3), none, .newv 2 51 (.tmp 0)⟩,
     ⟨(some 4), none, .newv 2 51 (.tmp 1)⟩,
     ⟨(some 5), none, .newv 2 51 (.tmp 2)⟩,
     ⟨(some 6), none, .mov (.cst (.p (.bool false)))⟩]) (
   .seq (
    .seq (
     .region [
       ⟨(some 14), none, .fadr 1 (.tmp 3)⟩,
       ⟨(some 15), none, .load 1 false (.tmp 14)⟩,
       ⟨(some 16), none, .len (.tmp 15)⟩,
       ⟨(some 17), none, .bin .gtr (.tmp 16) (.cst (.p (.int .i64 8)))⟩,
       ⟨(some 18), none, .mov (.tmp 17)⟩,
       ⟨(some 19), (some (18, false)), .fadr 1 (.tmp 4)⟩,
       ⟨(some 20), (some (18, false)), .load 1 false (.tmp 19)⟩,
       ⟨(some 21), (some (18, false)), .len (.tmp 20)⟩,
       ⟨(some 22), (some (18, false)), .bin .gtr (.tmp 21) (.cst (.p (.int .i64 8)))⟩,
       ⟨(some 23), none, .pick (.tmp 18) (.cst (.p (.bool true))) (.tmp 22)⟩,
       ⟨(some 24), none, .mov (.tmp 23)⟩,
       ⟨(some 25), (some (24, false)), .fadr 1 (.tmp 5)⟩,
       ⟨(some 26), (some (24, false)), .load 1 false (.tmp 25)⟩,
       ⟨(some 27), (some (24, false)), .len (.tmp 26)⟩,
       ⟨(some 28), (some (24, false)), .bin .gtr (.tmp 27) (.cst (.p (.int .i64 8)))⟩,
       ⟨(some 29), none, .pick (.tmp 24) (.cst (.p (.bool true))) (.tmp 28)⟩,
       ⟨(some 30), none, .mov (.tmp 29)⟩,
       ⟨(some 31), (some (30, false)), .load 2 true (.tmp 3)⟩,
       ⟨(some 32), (some (30, false)), .call 42 [(.tmp 31)]⟩,
       ⟨(some 33), (some (30, false)), .un .not (.tmp 32)⟩,
       ⟨(some 34), none, .pick (.tmp 30) (.cst (.p (.bool true))) (.tmp 33)⟩,
       ⟨(some 35), none, .mov (.tmp 34)⟩,
       ⟨(some 36), (some (35, false)), .load 2 true (.tmp 4)⟩,
       ⟨(some 37), (some (35, false)), .call 42 [(.tmp 36)]⟩,
       ⟨(some 38), (some (35, false)), .un .not (.tmp 37)⟩,
       ⟨(some 39), none, .pick (.tmp 35) (.cst (.p (.bool true))) (.tmp 38)⟩,
       ⟨(some 40), none, .mov (.tmp 39)⟩,
       ⟨(some 41), (some (40, false)), .load 2 true (.tmp 5)⟩,
       ⟨(some 42), (some (40, false)), .call 42 [(.tmp 41)]⟩,
       ⟨(some 43), (some (40, false)), .un .not (.tmp 42)⟩,
       ⟨(some 44), none, .pick (.tmp 40) (.cst (.p (.bool true))) (.tmp 43)⟩]) (
     .cond (.tmp 44) (
      .seq (
       .region [
         ⟨(some 45), none, .call 43 []⟩,
         ⟨(some 6), none, .mov (.tmp 45)⟩]) (
       .ret)) (
      .skip))) (
    .seq (
     .region [
       ⟨(some 46), none, .load 2 true (.tmp 3)⟩,
       ⟨(some 47), none, .load 2 true (.tmp 4)⟩,
       ⟨(some 48), none, .call 44 [(.tmp 46), (.tmp 47)]⟩,
       ⟨(some 7), none, .mov (.tmp 48)⟩]) (
     .seq (
      .region [
        ⟨(some 50), none, .load 2 true (.tmp 3)⟩,
        ⟨(some 51), none, .load 2 true (.tmp 5)⟩,
        ⟨(some 52), none, .call 45 [(.tmp 50), (.tmp 51)]⟩,
        ⟨(some 49), none, .mov (.tmp 52)⟩,
        ⟨(some 53), none, .ext (.tmp 49) 0⟩,
        ⟨(some 54), none, .ext (.tmp 49) 1⟩,
        ⟨(some 8), none, .newv 2 51 (.cst (.agg [(.p (.bool false)), (.tight [])]))⟩,
        ⟨none, none, .store 2 (.tmp 8) (.tmp 53)⟩,
        ⟨(some 9), none, .mov (.tmp 54)⟩]) (
      .seq (
       .region [
         ⟨(some 56), none, .load 2 true (.tmp 4)⟩,
         ⟨(some 57), none, .load 2 true (.tmp 5)⟩,
         ⟨(some 58), none, .call 45 [(.tmp 56), (.tmp 57)]⟩,
         ⟨(some 55), none, .mov (.tmp 58)⟩,
         ⟨(some 59), none, .ext (.tmp 55) 0⟩,
         ⟨(some 60), none, .ext (.tmp 55) 1⟩,
         ⟨(some 10), none, .newv 2 51 (.cst (.agg [(.p (.bool false)), (.tight [])]))⟩,
         ⟨none, none, .store 2 (.tmp 10) (.tmp 59)⟩,
         ⟨(some 11), none, .mov (.tmp 60)⟩]) (
       .seq (
        .region [
          ⟨(some 62), none, .load 2 true (.tmp 3)⟩,
          ⟨(some 63), none, .load 2 true (.tmp 4)⟩,
          ⟨(some 64), none, .call 46 [(.tmp 62), (.tmp 63)]⟩,
          ⟨(some 61), none, .mov (.tmp 64)⟩,
          ⟨(some 65), none, .ext (.tmp 61) 0⟩,
          ⟨(some 66), none, .ext (.tmp 61) 1⟩,
          ⟨(some 12), none, .newv 2 51 (.cst (.agg [(.p (.bool false)), (.tight [])]))⟩,
          ⟨none, none, .store 2 (.tmp 12) (.tmp 65)⟩,
          ⟨(some 13), none, .mov (.tmp 66)⟩]) (
        .seq (
         .regionD [
           ⟨(some 67), none, .mov (.tmp 9)⟩,
           ⟨(some 68), none, .bin .eql (.tmp 67) (.cst (.p (.int .i64 0)))⟩,
           ⟨(some 69), none, .mov (.tmp 68)⟩,
           ⟨(some 70), (some (69, true)), .mov (.tmp 11)⟩,
           ⟨(some 71), (some (69, true)), .bin .eql (.tmp 70) (.cst (.p (.int .i64 0)))⟩,
           ⟨(some 72), none, .pick (.tmp 69) (.tmp 71) (.cst (.p (.bool false)))⟩,
           ⟨(some 73), none, .mov (.tmp 72)⟩,
           ⟨(some 74), (some (73, true)), .mov (.tmp 13)⟩,
           ⟨(some 75), (some (73, true)), .bin .eql (.tmp 74) (.cst (.p (.int .i64 0)))⟩,
           ⟨(some 76), none, .pick (.tmp 73) (.tmp 75) (.cst (.p (.bool false)))⟩,
           ⟨(some 77), none, .mov (.tmp 76)⟩,
           ⟨(some 78), (some (77, true)), .mov (.tmp 7)⟩,
           ⟨(some 79), (some (77, true)), .load 2 true (.tmp 4)⟩,
           ⟨(some 80), (some (77, true)), .load 2 true (.tmp 3)⟩,
           ⟨(some 81), (some (77, true)), .call 44 [(.tmp 79), (.tmp 80)]⟩,
           ⟨(some 82), (some (77, true)), .un .neg (.tmp 81)⟩,
           ⟨(some 83), (some (77, true)), .bin .eql (.tmp 78) (.tmp 82)⟩,
           ⟨(some 84), none, .pick (.tmp 77) (.tmp 83) (.cst (.p (.bool false)))⟩,
           ⟨(some 85), none, .mov (.tmp 84)⟩,
           ⟨(some 86), (some (85, true)), .mov (.tmp 7)⟩,
           ⟨(some 87), (some (85, true)), .bin .eql (.tmp 86) (.cst (.p (.int .i64 0)))⟩,
           ⟨(some 88), (some (85, true)), .load 2 true (.tmp 3)⟩,
           ⟨(some 89), (some (85, true)), .load 2 true (.tmp 4)⟩,
           ⟨(some 90), (some (85, true)), .call 47 [(.tmp 88), (.tmp 89)]⟩,
           ⟨(some 91), (some (85, true)), .eqB false (.tmp 87) (.tmp 90)⟩,
           ⟨(some 92), none, .pick (.tmp 85) (.tmp 91) (.cst (.p (.bool false)))⟩,
           ⟨(some 93), none, .mov (.tmp 92)⟩,
           ⟨(some 94), (some (93, true)), .load 2 true (.tmp 3)⟩,
           ⟨(some 95), (some (93, true)), .call 48 [(.tmp 94)]⟩,
           ⟨(some 96), (some (93, true)), .load 2 true (.tmp 4)⟩,
           ⟨(some 97), (some (93, true)), .call 48 [(.tmp 96)]⟩,
           ⟨(some 98), (some (93, true)), .call 44 [(.tmp 95), (.tmp 97)]⟩,
           ⟨(some 99), (some (93, true)), .mov (.tmp 7)⟩,
           ⟨(some 100), (some (93, true)), .un .neg (.tmp 99)⟩,
           ⟨(some 101), (some (93, true)), .bin .eql (.tmp 98) (.tmp 100)⟩,
           ⟨(some 102), none, .pick (.tmp 93) (.tmp 101) (.cst (.p (.bool false)))⟩,
           ⟨(some 103), none, .mov (.tmp 102)⟩,
           ⟨(some 104), (some (103, true)), .load 2 true (.tmp 8)⟩,
           ⟨(some 105), (some (103, true)), .load 2 true (.tmp 10)⟩,
           ⟨(some 106), (some (103, true)), .call 44 [(.tmp 104), (.tmp 105)]⟩,
           ⟨(some 107), (some (103, true)), .mov (.tmp 7)⟩,
           ⟨(some 108), (some (103, true)), .bin .eql (.tmp 106) (.tmp 107)⟩,
           ⟨(some 109), none, .pick (.tmp 103) (.tmp 108) (.cst (.p (.bool false)))⟩,
           ⟨(some 110), none, .mov (.tmp 109)⟩,
           ⟨(some 111), (some (110, true)), .load 2 true (.tmp 12)⟩,
           ⟨(some 112), (some (110, true)), .call 49 [(.tmp 111)]⟩,
           ⟨(some 113), (some (110, true)), .mov (.tmp 7)⟩,
           ⟨(some 114), (some (110, true)), .bin .eql (.tmp 112) (.tmp 113)⟩,
           ⟨(some 115), none, .pick (.tmp 110) (.tmp 114) (.cst (.p (.bool false)))⟩,
           ⟨(some 116), none, .mov (.tmp 115)⟩,
           ⟨(some 117), (some (116, true)), .call 43 []⟩,
           ⟨(some 118), none, .pick (.tmp 116) (.tmp 117) (.cst (.p (.bool false)))⟩,
           ⟨(some 6), none, .mov (.tmp 118)⟩]) (
         .ret))))))))⟩
theorem low11 : lowFunc Tryz.prog gl0 11 = some lf11 := by kernel_rfl
def lf13 : LFunc := ⟨155, [(.slot 6)], (
  .seq (
   .region [
     ⟨(some 3), none, .newv 2 51 (.tmp 0)⟩,
     ⟨(some 4), none, .newv 2 51 (.tmp 1)⟩,
     ⟨(some 6), none, .mov (.cst (.p (.bool false)))⟩]) (
   .seq (
    .seq (
     .region [
       ⟨(some 24), none, .load 2 true (.tmp 3)⟩,
       ⟨(some 25), none, .load 2 true (.tmp 4)⟩,
       ⟨(some 26), none, .call 54 [(.tmp 24), (.tmp 25)]⟩,
       ⟨(some 27), none, .un .not (.tmp 26)⟩]) (
     .cond (.tmp 27) (
      .seq (
       .region [
         ⟨(some 28), none, .call 43 []⟩,
         ⟨(some 6), none, .mov (.tmp 28)⟩]) (
       .ret)) (
      .skip))) (
    .seq (
     .region [
       ⟨(some 30), none, .load 2 true (.tmp 3)⟩,
       ⟨(some 31), none, .load 2 true (.tmp 4)⟩,
       ⟨(some 32), none, .call 45 [(.tmp 30), (.tmp 31)]⟩,
       ⟨(some 29), none, .mov (.tmp 32)⟩,
       ⟨(some 33), none, .ext (.tmp 29) 0⟩,
       ⟨(some 34), none, .ext (.tmp 29) 1⟩,
       ⟨(some 7), none, .newv 2 51 (.cst (.agg [(.p (.bool false)), (.tight [])]))⟩,
       ⟨none, none, .store 2 (.tmp 7) (.tmp 33)⟩,
       ⟨(some 8), none, .mov (.tmp 34)⟩]) (
     .seq (
      .region [
        ⟨(some 36), none, .load 2 true (.tmp 3)⟩,
        ⟨(some 37), none, .load 2 true (.tmp 4)⟩,
        ⟨(some 38), none, .call 55 [(.tmp 36), (.tmp 37)]⟩,
        ⟨(some 35), none, .mov (.tmp 38)⟩,
        ⟨(some 39), none, .ext (.tmp 35) 0⟩,
        ⟨(some 40), none, .ext (.tmp 35) 1⟩,
        ⟨(some 9), none, .newv 2 51 (.cst (.agg [(.p (.bool false)), (.tight [])]))⟩,
        ⟨none, none, .store 2 (.tmp 9) (.tmp 39)⟩,
        ⟨(some 10), none, .mov (.tmp 40)⟩]) (
      .seq (
       .region [
         ⟨(some 42), none, .load 2 true (.tmp 3)⟩,
         ⟨(some 43), none, .load 2 true (.tmp 4)⟩,
         ⟨(some 44), none, .call 46 [(.tmp 42), (.tmp 43)]⟩,
         ⟨(some 41), none, .mov (.tmp 44)⟩,
         ⟨(some 45), none, .ext (.tmp 41) 0⟩,
         ⟨(some 46), none, .ext (.tmp 41) 1⟩,
         ⟨(some 11), none, .newv 2 51 (.cst (.agg [(.p (.bool false)), (.tight [])]))⟩,
         ⟨none, none, .store 2 (.tmp 11) (.tmp 45)⟩,
         ⟨(some 12), none, .mov (.tmp 46)⟩]) (
       .seq (
        .region [
          ⟨(some 48), none, .load 2 true (.tmp 3)⟩,
          ⟨(some 49), none, .load 2 true (.tmp 4)⟩,
          ⟨(some 50), none, .call 56 [(.tmp 48), (.tmp 49)]⟩,
          ⟨(some 47), none, .mov (.tmp 50)⟩,
          ⟨(some 51), none, .ext (.tmp 47) 0⟩,
          ⟨(some 52), none, .ext (.tmp 47) 1⟩,
          ⟨(some 13), none, .newv 2 51 (.cst (.agg [(.p (.bool false)), (.tight [])]))⟩,
          ⟨none, none, .store 2 (.tmp 13) (.tmp 51)⟩,
          ⟨(some 14), none, .mov (.tmp 52)⟩]) (
        .seq (
         .region [
           ⟨(some 54), none, .load 2 true (.tmp 3)⟩,
           ⟨(some 55), none, .load 2 true (.tmp 4)⟩,
           ⟨(some 56), none, .call 51 [(.tmp 54), (.tmp 55)]⟩,
           ⟨(some 53), none, .mov (.tmp 56)⟩,
           ⟨(some 57), none, .ext (.tmp 53) 0⟩,
           ⟨(some 58), none, .ext (.tmp 53) 1⟩,
           ⟨(some 15), none, .newv 2 51 (.cst (.agg [(.p (.bool false)), (.tight [])]))⟩,
           ⟨none, none, .store 2 (.tmp 15) (.tmp 57)⟩,
           ⟨(some 16), none, .mov (.tmp 58)⟩]) (
         .seq (
          .region [
            ⟨(some 60), none, .load 2 true (.tmp 3)⟩,
            ⟨(some 61), none, .load 2 true (.tmp 4)⟩,
            ⟨(some 62), none, .call 57 [(.tmp 60), (.tmp 61)]⟩,
            ⟨(some 59), none, .mov (.tmp 62)⟩,
            ⟨(some 63), none, .ext (.tmp 59) 0⟩,
            ⟨(some 64), none, .ext (.tmp 59) 1⟩,
            ⟨(some 17), none, .newv 2 51 (.cst (.agg [(.p (.bool false)), (.tight [])]))⟩,
            ⟨none, none, .store 2 (.tmp 17) (.tmp 63)⟩,
            ⟨(some 18), none, .mov (.tmp 64)⟩]) (
          .seq (
           .region [
             ⟨(some 66), none, .load 2 true (.tmp 3)⟩,
             ⟨(some 67), none, .call 58 [(.tmp 66)]⟩,
             ⟨(some 65), none, .mov (.tmp 67)⟩,
             ⟨(some 68), none, .ext (.tmp 65) 0⟩,
             ⟨(some 69), none, .ext (.tmp 65) 1⟩,
             ⟨(some 19), none, .mov (.tmp 68)⟩,
             ⟨(some 20), none, .mov (.tmp 69)⟩]) (
           .seq (
            .region [
              ⟨(some 71), none, .load 2 true (.tmp 3)⟩,
              ⟨(some 72), none, .call 59 [(.tmp 71)]⟩,
              ⟨(some 70), none, .mov (.tmp 72)⟩,
              ⟨(some 73), none, .ext (.tmp 70) 0⟩,
              ⟨(some 74), none, .ext (.tmp 70) 1⟩,
              ⟨(some 21), none, .mov (.tmp 73)⟩,
              ⟨(some 22), none, .mov (.tmp 74)⟩]) (
            .seq (
             .region [
               ⟨(some 75), none, .call 60 [(.cst (.p (.int .i64 0)))]⟩,
               ⟨(some 23), none, .newv 2 51 (.cst (.agg [(.p (.bool false)), (.tight [])]))⟩,
               ⟨none, none, .store 2 (.tmp 23) (.tmp 75)⟩]) (
             .seq (
              .regionD [
                ⟨(some 76), none, .load 2 true (.tmp 7)⟩,
                ⟨(some 77), none, .load 2 true (.tmp 9)⟩,
                ⟨(some 78), none, .call 47 [(.tmp 76), (.tmp 77)]⟩,
                ⟨(some 79), none, .mov (.tmp 78)⟩,
                ⟨(some 80), (some (79, true)), .mov (.tmp 8)⟩,
                ⟨(some 81), (some (79, true)), .mov (.tmp 10)⟩,
                ⟨(some 82), (some (79, true)), .bin .eql (.tmp 80) (.tmp 81)⟩,
                ⟨(some 83), none, .pick (.tmp 79) (.tmp 82) (.cst (.p (.bool false)))⟩,
                ⟨(some 84), none, .mov (.tmp 83)⟩,
                ⟨(some 85), (some (84, true)), .load 2 true (.tmp 11)⟩,
                ⟨(some 86), (some (84, true)), .load 2 true (.tmp 13)⟩,
                ⟨(some 87), (some (84, true)), .call 47 [(.tmp 85), (.tmp 86)]⟩,
                ⟨(some 88), none, .pick (.tmp 84) (.tmp 87) (.cst (.p (.bool false)))⟩,
                ⟨(some 89), none, .mov (.tmp 88)⟩,
                ⟨(some 90), (some (89, true)), .mov (.tmp 12)⟩,
                ⟨(some 91), (some (89, true)), .mov (.tmp 14)⟩,
                ⟨(some 92), (some (89, true)), .bin .eql (.tmp 90) (.tmp 91)⟩,
                ⟨(some 93), none, .pick (.tmp 89) (.tmp 92) (.cst (.p (.bool false)))⟩,
                ⟨(some 94), none, .mov (.tmp 93)⟩,
                ⟨(some 95), (some (94, true)), .load 2 true (.tmp 15)⟩,
                ⟨(some 96), (some (94, true)), .load 2 true (.tmp 17)⟩,
                ⟨(some 97), (some (94, true)), .call 47 [(.tmp 95), (.tmp 96)]⟩,
                ⟨(some 98), none, .pick (.tmp 94) (.tmp 97) (.cst (.p (.bool false)))⟩,
                ⟨(some 99), none, .mov (.tmp 98)⟩,
                ⟨(some 100), (some (99, true)), .mov (.tmp 16)⟩,
                ⟨(some 101), (some (99, true)), .mov (.tmp 18)⟩,
                ⟨(some 102), (some (99, true)), .bin .eql (.tmp 100) (.tmp 101)⟩,
                ⟨(some 103), none, .pick (.tmp 99) (.tmp 102) (.cst (.p (.bool false)))⟩,
                ⟨(some 104), none, .mov (.tmp 103)⟩,
                ⟨(some 105), (some (104, true)), .load 2 true (.tmp 3)⟩,
                ⟨(some 106), (some (104, true)), .load 2 true (.tmp 4)⟩,
                ⟨(some 107), (some (104, true)), .call 44 [(.tmp 105), (.tmp 106)]⟩,
                ⟨(some 108), (some (104, true)), .load 2 true (.tmp 3)⟩,
                ⟨(some 109), (some (104, true)), .load 2 true (.tmp 4)⟩,
                ⟨(some 110), (some (104, true)), .call 61 [(.tmp 108), (.tmp 109)]⟩,
                ⟨(some 111), (some (104, true)), .bin .eql (.tmp 107) (.tmp 110)⟩,
                ⟨(some 112), none, .pick (.tmp 104) (.tmp 111) (.cst (.p (.bool false)))⟩,
                ⟨(some 113), none, .mov (.tmp 112)⟩,
                ⟨(some 114), (some (113, true)), .load 2 true (.tmp 3)⟩,
                ⟨(some 115), (some (113, true)), .call 49 [(.tmp 114)]⟩,
                ⟨(some 116), (some (113, true)), .load 2 true (.tmp 3)⟩,
                ⟨(some 117), (some (113, true)), .load 2 true (.tmp 23)⟩,
                ⟨(some 118), (some (113, true)), .call 61 [(.tmp 116), (.tmp 117)]⟩,
                ⟨(some 119), (some (113, true)), .bin .eql (.tmp 115) (.tmp 118)⟩,
                ⟨(some 120), none, .pick (.tmp 113) (.tmp 119) (.cst (.p (.bool false)))⟩,
                ⟨(some 121), none, .mov (.tmp 120)⟩,
                ⟨(some 122), (some (121, true)), .load 2 true (.tmp 3)⟩,
                ⟨(some 123), (some (121, true)), .call 48 [(.tmp 122)]⟩,
                ⟨(some 124), (some (121, true)), .load 2 true (.tmp 3)⟩,
                ⟨(some 125), (some (121, true)), .call 62 [(.tmp 124)]⟩,
                ⟨(some 126), (some (121, true)), .call 47 [(.tmp 123), (.tmp 125)]⟩,
                ⟨(some 127), none, .pick (.tmp 121) (.tmp 126) (.cst (.p (.bool false)))⟩,
                ⟨(some 128), none, .mov (.tmp 127)⟩,
                ⟨(some 129), (some (128, true)), .mov (.tmp 19)⟩,
                ⟨(some 130), (some (128, true)), .mov (.tmp 21)⟩,
                ⟨(some 131), (some (128, true)), .bin .eql (.tmp 129) (.tmp 130)⟩,
                ⟨(some 132), none, .pick (.tmp 128) (.tmp 131) (.cst (.p (.bool false)))⟩,
                ⟨(some 133), none, .mov (.tmp 132)⟩,
                ⟨(some 134), (some (133, true)), .mov (.tmp 20)⟩,
                ⟨(some 135), (some (133, true)), .mov (.tmp 22)⟩,
                ⟨(some 136), (some (133, true)), .eqB false (.tmp 134) (.tmp 135)⟩,
                ⟨(some 137), none, .pick (.tmp 133) (.tmp 136) (.cst (.p (.bool false)))⟩,
                ⟨(some 138), none, .mov (.tmp 137)⟩,
                ⟨(some 139), (some (138, true)), .load 2 true (.tmp 3)⟩,
                ⟨(some 140), (some (138, true)), .call 42 [(.tmp 139)]⟩,
                ⟨(some 141), (some (138, true)), .load 2 true (.tmp 3)⟩,
                ⟨(some 142), (some (138, true)), .call 63 [(.tmp 141)]⟩,
                ⟨(some 143), (some (138, true)), .eqB false (.tmp 140) (.tmp 142)⟩,
                ⟨(some 144), none, .pick (.tmp 138) (.tmp 143) (.cst (.p (.bool false)))⟩,
                ⟨(some 145), none, .mov (.tmp 144)⟩,
                ⟨(some 146), (some (145, true)), .mov (.tmp 2)⟩,
                ⟨(some 147), (some (145, true)), .call 64 [(.tmp 146)]⟩,
                ⟨(some 148), (some (145, true)), .mov (.tmp 2)⟩,
                ⟨(some 149), (some (145, true)), .call 60 [(.tmp 148)]⟩,
                ⟨(some 150), (some (145, true)), .call 47 [(.tmp 147), (.tmp 149)]⟩,
                ⟨(some 151), none, .pick (.tmp 145) (.tmp 150) (.cst (.p (.bool false)))⟩,
                ⟨(some 152), none, .mov (.tmp 151)⟩,
                ⟨(some 153), (some (152, true)), .call 43 []⟩,
                ⟨(some 154), none, .pick (.tmp 152) (.tmp 153) (.cst (.p (.bool false)))⟩,
                ⟨(some 6), none, .mov (.tmp 154)⟩]) (
              .ret)))))))))))))⟩
theorem low13 : lowFunc Tryz.prog gl0 13 = some lf13 := by kernel_rfl
def lf14 : LFunc := ⟨156, [(.slot 4)], (
  .seq (
   .region [
     ⟨(some 4), none, .mov (.cst (.p (.bool false)))⟩]) (
   .seq (
    .region [
      ⟨(some 22), none, .mov (.tmp 0)⟩,
      ⟨(some 23), none, .call 64 [(.tmp 22)]⟩,
      ⟨(some 24), none, .mov (.tmp 1)⟩,
      ⟨(some 25), none, .call 64 [(.tmp 24)]⟩,
      ⟨(some 5), none, .newv 2 51 (.cst (.agg [(.p (.bool false)), (.tight [])]))⟩,
      ⟨(some 6), none, .newv 2 51 (.cst (.agg [(.p (.bool false)), (.tight [])]))⟩,
      ⟨none, none, .store 2 (.tmp 5) (.tmp 23)⟩,
      ⟨none, none, .store 2 (.tmp 6) (.tmp 25)⟩]) (
    .seq (
     .region [
       ⟨(some 27), none, .load 2 true (.tmp 5)⟩,
       ⟨(some 28), none, .call 58 [(.tmp 27)]⟩,
       ⟨(some 26), none, .mov (.tmp 28)⟩,
       ⟨(some 29), none, .ext (.tmp 26) 0⟩,
       ⟨(some 30), none, .ext (.tmp 26) 1⟩,
       ⟨(some 7), none, .mov (.tmp 29)⟩,
       ⟨(some 8), none, .mov (.tmp 30)⟩]) (
     .seq (
      .seq (
       .region [
         ⟨(some 31), none, .mov (.tmp 8)⟩,
         ⟨(some 32), none, .un .not (.tmp 31)⟩,
         ⟨(some 33), none, .mov (.tmp 32)⟩,
         ⟨(some 34), (some (33, false)), .mov (.tmp 7)⟩,
         ⟨(some 35), (some (33, false)), .mov (.tmp 0)⟩,
         ⟨(some 36), (some (33, false)), .bin .neq (.tmp 34) (.tmp 35)⟩,
         ⟨(some 37), none, .pick (.tmp 33) (.cst (.p (.bool true))) (.tmp 36)⟩,
         ⟨(some 38), none, .mov (.tmp 37)⟩,
         ⟨(some 39), (some (38, false)), .load 2 true (.tmp 5)⟩,
         ⟨(some 40), (some (38, false)), .call 42 [(.tmp 39)]⟩,
         ⟨(some 41), (some (38, false)), .un .not (.tmp 40)⟩,
         ⟨(some 42), none, .pick (.tmp 38) (.cst (.p (.bool true))) (.tmp 41)⟩,
         ⟨(some 43), none, .mov (.tmp 42)⟩,
         ⟨(some 44), (some (43, false)), .load 2 true (.tmp 5)⟩,
         ⟨(some 45), (some (43, false)), .call 49 [(.tmp 44)]⟩,
         ⟨(some 46), (some (43, false)), .mov (.tmp 0)⟩,
         ⟨(some 47), (some (43, false)), .call 60 [(.tmp 46)]⟩,
         ⟨(some 48), (some (43, false)), .call 60 [(.cst (.p (.int .i64 0)))]⟩,
         ⟨(some 49), (some (43, false)), .call 61 [(.tmp 47), (.tmp 48)]⟩,
         ⟨(some 50), (some (43, false)), .bin .neq (.tmp 45) (.tmp 49)⟩,
         ⟨(some 51), none, .pick (.tmp 43) (.cst (.p (.bool true))) (.tmp 50)⟩]) (
       .cond (.tmp 51) (
        .seq (
         .region [
           ⟨(some 4), none, .mov (.cst (.p (.bool false)))⟩]) (
         .ret)) (
        .skip))) (
      .seq (
       .seq (
        .region [
          ⟨(some 52), none, .mov (.tmp 0)⟩,
          ⟨(some 53), none, .bin .gtr (.tmp 52) (.cst (.p (.int .i64 2147483648)))⟩,
          ⟨(some 54), none, .mov (.tmp 53)⟩,
          ⟨(some 55), (some (54, false)), .mov (.tmp 0)⟩,
          ⟨(some 56), (some (54, false)), .bin .lss (.tmp 55) (.cst (.p (.int .i64 (-2147483648))))⟩,
          ⟨(some 57), none, .pick (.tmp 54) (.cst (.p (.bool true))) (.tmp 56)⟩,
          ⟨(some 58), none, .mov (.tmp 57)⟩,
          ⟨(some 59), (some (58, false)), .mov (.tmp 1)⟩,
          ⟨(some 60), (some (58, false)), .bin .gtr (.tmp 59) (.cst (.p (.int .i64 2147483648)))⟩,
          ⟨(some 61), none, .pick (.tmp 58) (.cst (.p (.bool true))) (.tmp 60)⟩,
          ⟨(some 62), none, .mov (.tmp 61)⟩,
          ⟨(some 63), (some (62, false)), .mov (.tmp 1)⟩,
          ⟨(some 64), (some (62, false)), .bin .lss (.tmp 63) (.cst (.p (.int .i64 (-2147483648))))⟩,
          ⟨(some 65), none, .pick (.tmp 62) (.cst (.p (.bool true))) (.tmp 64)⟩]) (
        .cond (.tmp 65) (
         .seq (
          .region [
            ⟨(some 66), none, .call 43 []⟩,
            ⟨(some 4), none, .mov (.tmp 66)⟩]) (
          .ret)) (
         .skip))) (
       .seq (
        .region [
          ⟨(some 68), none, .load 2 true (.tmp 5)⟩,
          ⟨(some 69), none, .load 2 true (.tmp 6)⟩,
          ⟨(some 70), none, .call 45 [(.tmp 68), (.tmp 69)]⟩,
          ⟨(some 67), none, .mov (.tmp 70)⟩,
          ⟨(some 71), none, .ext (.tmp 67) 0⟩,
          ⟨(some 72), none, .ext (.tmp 67) 1⟩,
          ⟨(some 9), none, .newv 2 51 (.cst (.agg [(.p (.bool false)), (.tight [])]))⟩,
          ⟨none, none, .store 2 (.tmp 9) (.tmp 71)⟩,
          ⟨(some 10), none, .mov (.tmp 72)⟩]) (
        .seq (
         .region [
           ⟨(some 74), none, .load 2 true (.tmp 5)⟩,
           ⟨(some 75), none, .load 2 true (.tmp 6)⟩,
           ⟨(some 76), none, .call 46 [(.tmp 74), (.tmp 75)]⟩,
           ⟨(some 73), none, .mov (.tmp 76)⟩,
           ⟨(some 77), none, .ext (.tmp 73) 0⟩,
           ⟨(some 78), none, .ext (.tmp 73) 1⟩,
           ⟨(some 11), none, .newv 2 51 (.cst (.agg [(.p (.bool false)), (.tight [])]))⟩,
           ⟨none, none, .store 2 (.tmp 11) (.tmp 77)⟩,
           ⟨(some 12), none, .mov (.tmp 78)⟩]) (
         .seq (
          .region [
            ⟨(some 80), none, .load 2 true (.tmp 5)⟩,
            ⟨(some 81), none, .load 2 true (.tmp 6)⟩,
            ⟨(some 82), none, .call 51 [(.tmp 80), (.tmp 81)]⟩,
            ⟨(some 79), none, .mov (.tmp 82)⟩,
            ⟨(some 83), none, .ext (.tmp 79) 0⟩,
            ⟨(some 84), none, .ext (.tmp 79) 1⟩,
            ⟨(some 13), none, .newv 2 51 (.cst (.agg [(.p (.bool false)), (.tight [])]))⟩,
            ⟨none, none, .store 2 (.tmp 13) (.tmp 83)⟩,
            ⟨(some 14), none, .mov (.tmp 84)⟩]) (
          .seq (
           .region [
             ⟨(some 86), none, .load 2 true (.tmp 9)⟩,
             ⟨(some 87), none, .call 58 [(.tmp 86)]⟩,
             ⟨(some 85), none, .mov (.tmp 87)⟩,
             ⟨(some 88), none, .ext (.tmp 85) 0⟩,
             ⟨(some 89), none, .ext (.tmp 85) 1⟩,
             ⟨(some 15), none, .mov (.tmp 88)⟩,
             ⟨(some 16), none, .mov (.tmp 89)⟩]) (
           .seq (
            .region [
              ⟨(some 91), none, .load 2 true (.tmp 11)⟩,
              ⟨(some 92), none, .call 58 [(.tmp 91)]⟩,
              ⟨(some 90), none, .mov (.tmp 92)⟩,
              ⟨(some 93), none, .ext (.tmp 90) 0⟩,
              ⟨(some 94), none, .ext (.tmp 90) 1⟩,
              ⟨(some 17), none, .mov (.tmp 93)⟩,
              ⟨(some 18), none, .mov (.tmp 94)⟩]) (
            .seq (
             .region [
               ⟨(some 96), none, .load 2 true (.tmp 13)⟩,
               ⟨(some 97), none, .call 58 [(.tmp 96)]⟩,
               ⟨(some 95), none, .mov (.tmp 97)⟩,
               ⟨(some 98), none, .ext (.tmp 95) 0⟩,
               ⟨(some 99), none, .ext (.tmp 95) 1⟩,
               ⟨(some 19), none, .mov (.tmp 98)⟩,
               ⟨(some 20), none, .mov (.tmp 99)⟩]) (
             .seq (
              .region [
                ⟨(some 21), none, .mov (.cst (.p (.int .i64 0)))⟩]) (
              .seq (
               .seq (
                .region [
                  ⟨(some 100), none, .mov (.tmp 0)⟩,
                  ⟨(some 101), none, .mov (.tmp 1)⟩,
                  ⟨(some 102), none, .bin .lss (.tmp 100) (.tmp 101)⟩]) (
                .cond (.tmp 102) (
                 .region [
                   ⟨(some 21), none, .mov (.cst (.p (.int .i64 (-1))))⟩]) (
                 .skip))) (
               .seq (
                .seq (
                 .region [
                   ⟨(some 103), none, .mov (.tmp 0)⟩,
                   ⟨(some 104), none, .mov (.tmp 1)⟩,
                   ⟨(some 105), none, .bin .gtr (.tmp 103) (.tmp 104)⟩]) (
                 .cond (.tmp 105) (
                  .region [
                    ⟨(some 21), none, .mov (.cst (.p (.int .i64 1)))⟩]) (
                  .skip))) (
                .seq (
                 .region [
                   ⟨(some 106), none, .mov (.tmp 10)⟩,
                   ⟨(some 107), none, .bin .eql (.tmp 106) (.cst (.p (.int .i64 0)))⟩,
                   ⟨(some 108), none, .mov (.tmp 107)⟩,
                   ⟨(some 109), (some (108, true)), .mov (.tmp 12)⟩,
                   ⟨(some 110), (some (108, true)), .bin .eql (.tmp 109) (.cst (.p (.int .i64 0)))⟩,
                   ⟨(some 111), none, .pick (.tmp 108) (.tmp 110) (.cst (.p (.bool false)))⟩,
                   ⟨(some 112), none, .mov (.tmp 111)⟩,
                   ⟨(some 113), (some (112, true)), .mov (.tmp 14)⟩,
                   ⟨(some 114), (some (112, true)), .bin .eql (.tmp 113) (.cst (.p (.int .i64 0)))⟩,
                   ⟨(some 115), none, .pick (.tmp 112) (.tmp 114) (.cst (.p (.bool false)))⟩,
                   ⟨(some 116), none, .mov (.tmp 115)⟩,
                   ⟨(some 117), (some (116, true)), .mov (.tmp 16)⟩,
                   ⟨(some 118), none, .pick (.tmp 116) (.tmp 117) (.cst (.p (.bool false)))⟩,
                   ⟨(some 119), none, .mov (.tmp 118)⟩,
                   ⟨(some 120), (some (119, true)), .mov (.tmp 18)⟩,
                   ⟨(some 121), none, .pick (.tmp 119) (.tmp 120) (.cst (.p (.bool false)))⟩,
                   ⟨(some 122), none, .mov (.tmp 121)⟩,
                   ⟨(some 123), (some (122, true)), .mov (.tmp 20)⟩,
                   ⟨(some 124), none, .pick (.tmp 122) (.tmp 123) (.cst (.p (.bool false)))⟩,
                   ⟨(some 125), none, .mov (.tmp 124)⟩,
                   ⟨(some 126), (some (125, true)), .mov (.tmp 15)⟩,
                   ⟨(some 127), (some (125, true)), .mov (.tmp 0)⟩,
                   ⟨(some 128), (some (125, true)), .mov (.tmp 1)⟩,
                   ⟨(some 129), (some (125, true)), .bin .add (.tmp 127) (.tmp 128)⟩,
                   ⟨(some 130), (some (125, true)), .bin .eql (.tmp 126) (.tmp 129)⟩,
                   ⟨(some 131), none, .pick (.tmp 125) (.tmp 130) (.cst (.p (.bool false)))⟩,
                   ⟨(some 132), none, .mov (.tmp 131)⟩,
                   ⟨(some 133), (some (132, true)), .mov (.tmp 17)⟩,
                   ⟨(some 134), (some (132, true)), .mov (.tmp 0)⟩,
                   ⟨(some 135), (some (132, true)), .mov (.tmp 1)⟩,
                   ⟨(some 136), (some (132, true)), .bin .sub (.tmp 134) (.tmp 135)⟩,
                   ⟨(some 137), (some (132, true)), .bin .eql (.tmp 133) (.tmp 136)⟩,
                   ⟨(some 138), none, .pick (.tmp 132) (.tmp 137) (.cst (.p (.bool false)))⟩,
                   ⟨(some 139), none, .mov (.tmp 138)⟩,
                   ⟨(some 140), (some (139, true)), .mov (.tmp 19)⟩,
                   ⟨(some 141), (some (139, true)), .mov (.tmp 0)⟩,
                   ⟨(some 142), (some (139, true)), .mov (.tmp 1)⟩,
                   ⟨(some 143), (some (139, true)), .bin .mul (.tmp 141) (.tmp 142)⟩,
                   ⟨(some 144), (some (139, true)), .bin .eql (.tmp 140) (.tmp 143)⟩,
                   ⟨(some 145), none, .pick (.tmp 139) (.tmp 144) (.cst (.p (.bool false)))⟩,
                   ⟨(some 146), none, .mov (.tmp 145)⟩,
                   ⟨(some 147), (some (146, true)), .load 2 true (.tmp 5)⟩,
                   ⟨(some 148), (some (146, true)), .load 2 true (.tmp 6)⟩,
                   ⟨(some 149), (some (146, true)), .call 44 [(.tmp 147), (.tmp 148)]⟩,
                   ⟨(some 150), (some (146, true)), .mov (.tmp 21)⟩,
                   ⟨(some 151), (some (146, true)), .bin .eql (.tmp 149) (.tmp 150)⟩,
                   ⟨(some 152), none, .pick (.tmp 146) (.tmp 151) (.cst (.p (.bool false)))⟩,
                   ⟨(some 153), none, .mov (.tmp 152)⟩,
                   ⟨(some 154), (some (153, true)), .call 43 []⟩,
                   ⟨(some 155), none, .pick (.tmp 153) (.tmp 154) (.cst (.p (.bool false)))⟩,
                   ⟨(some 4), none, .mov (.tmp 155)⟩]) (
                 .ret))))))))))))))))⟩
theorem low14 : lowFunc Tryz.prog gl0 14 = some lf14 := by kernel_rfl
def lf43 : LFunc := ⟨111, [(.slot 0)], (
  .seq (
   .region [
     ⟨(some 0), none, .mov (.cst (.p (.bool false)))⟩]) (
   .seq (
    .region [
      ⟨(some 16), none, .call 64 [(.cst (.p (.int .i64 (-7))))]⟩,
      ⟨(some 17), none, .call 64 [(.cst (.p (.int .i64 2)))]⟩,
      ⟨(some 18), none, .call 50 [(.tmp 16), (.tmp 17)]⟩,
      ⟨(some 15), none, .mov (.tmp 18)⟩,
      ⟨(some 19), none, .ext (.tmp 15) 0⟩,
      ⟨(some 20), none, .ext (.tmp 15) 1⟩,
      ⟨(some 21), none, .ext (.tmp 15) 2⟩,
      ⟨(some 1), none, .newv 2 51 (.cst (.agg [(.p (.bool false)), (.tight [])]))⟩,
      ⟨(some 2), none, .newv 2 51 (.cst (.agg [(.p (.bool false)), (.tight [])]))⟩,
      ⟨none, none, .store 2 (.tmp 1) (.tmp 19)⟩,
      ⟨none, none, .store 2 (.tmp 2) (.tmp 20)⟩,
      ⟨(some 3), none, .mov (.tmp 21)⟩]) (
    .seq (
     .region [
       ⟨(some 23), none, .call 64 [(.cst (.p (.int .i64 1)))]⟩,
       ⟨(some 24), none, .call 64 [(.cst (.p (.int .i64 0)))]⟩,
       ⟨(some 25), none, .call 50 [(.tmp 23), (.tmp 24)]⟩,
       ⟨(some 22), none, .mov (.tmp 25)⟩,
       ⟨(some 26), none, .ext (.tmp 22) 0⟩,
       ⟨(some 27), none, .ext (.tmp 22) 1⟩,
       ⟨(some 28), none, .ext (.tmp 22) 2⟩,
       ⟨(some 4), none, .newv 2 51 (.cst (.agg [(.p (.bool false)), (.tight [])]))⟩,
       ⟨(some 5), none, .newv 2 51 (.cst (.agg [(.p (.bool false)), (.tight [])]))⟩,
       ⟨none, none, .store 2 (.tmp 4) (.tmp 26)⟩,
       ⟨none, none, .store 2 (.tmp 5) (.tmp 27)⟩,
       ⟨(some 6), none, .mov (.tmp 28)⟩]) (
     .seq (
      .region [
        ⟨(some 30), none, .call 52 [(.cst (.p (.str [45, 48])))]⟩,
        ⟨(some 29), none, .mov (.tmp 30)⟩,
        ⟨(some 31), none, .ext (.tmp 29) 0⟩,
        ⟨(some 32), none, .ext (.tmp 29) 1⟩,
        ⟨(some 7), none, .newv 2 51 (.cst (.agg [(.p (.bool false)), (.tight [])]))⟩,
        ⟨none, none, .store 2 (.tmp 7) (.tmp 31)⟩,
        ⟨(some 8), none, .mov (.tmp 32)⟩]) (
      .seq (
       .region [
         ⟨(some 34), none, .call 64 [(.cst (.p (.int .i64 (-9223372036854775808))))]⟩,
         ⟨(some 35), none, .call 58 [(.tmp 34)]⟩,
         ⟨(some 33), none, .mov (.tmp 35)⟩,
         ⟨(some 36), none, .ext (.tmp 33) 0⟩,
         ⟨(some 37), none, .ext (.tmp 33) 1⟩,
         ⟨(some 9), none, .mov (.tmp 36)⟩,
         ⟨(some 10), none, .mov (.tmp 37)⟩]) (
       .seq (
        .region [
          ⟨(some 39), none, .call 64 [(.cst (.p (.int .i64 4611686018427387904)))]⟩,
          ⟨(some 40), none, .call 64 [(.cst (.p (.int .i64 4611686018427387904)))]⟩,
          ⟨(some 41), none, .call 45 [(.tmp 39), (.tmp 40)]⟩,
          ⟨(some 38), none, .mov (.tmp 41)⟩,
          ⟨(some 42), none, .ext (.tmp 38) 0⟩,
          ⟨(some 43), none, .ext (.tmp 38) 1⟩,
          ⟨(some 11), none, .newv 2 51 (.cst (.agg [(.p (.bool false)), (.tight [])]))⟩,
          ⟨none, none, .store 2 (.tmp 11) (.tmp 42)⟩,
          ⟨(some 12), none, .mov (.tmp 43)⟩]) (
        .seq (
         .region [
           ⟨(some 45), none, .load 2 true (.tmp 11)⟩,
           ⟨(some 46), none, .call 58 [(.tmp 45)]⟩,
           ⟨(some 44), none, .mov (.tmp 46)⟩,
           ⟨(some 47), none, .ext (.tmp 44) 0⟩,
           ⟨(some 48), none, .ext (.tmp 44) 1⟩,
           ⟨(some 13), none, .mov (.tmp 47)⟩,
           ⟨(some 14), none, .mov (.tmp 48)⟩]) (
         .seq (
          .regionD [
            ⟨(some 49), none, .mov (.tmp 3)⟩,
            ⟨(some 50), none, .bin .eql (.tmp 49) (.cst (.p (.int .i64 0)))⟩,
            ⟨(some 51), none, .mov (.tmp 50)⟩,
            ⟨(some 52), (some (51, true)), .load 2 true (.tmp 1)⟩,
            ⟨(some 53), (some (51, true)), .call 64 [(.cst (.p (.int .i64 (-4))))]⟩,
            ⟨(some 54), (some (51, true)), .call 47 [(.tmp 52), (.tmp 53)]⟩,
            ⟨(some 55), none, .pick (.tmp 51) (.tmp 54) (.cst (.p (.bool false)))⟩,
            ⟨(some 56), none, .mov (.tmp 55)⟩,
            ⟨(some 57), (some (56, true)), .load 2 true (.tmp 2)⟩,
            ⟨(some 58), (some (56, true)), .call 64 [(.cst (.p (.int .i64 1)))]⟩,
            ⟨(some 59), (some (56, true)), .call 47 [(.tmp 57), (.tmp 58)]⟩,
            ⟨(some 60), none, .pick (.tmp 56) (.tmp 59) (.cst (.p (.bool false)))⟩,
            ⟨(some 61), none, .mov (.tmp 60)⟩,
            ⟨(some 62), (some (61, true)), .mov (.tmp 6)⟩,
            ⟨(some 63), (some (61, true)), .bin .eql (.tmp 62) (.cst (.p (.int .i64 1)))⟩,
            ⟨(some 64), none, .pick (.tmp 61) (.tmp 63) (.cst (.p (.bool false)))⟩,
            ⟨(some 65), none, .mov (.tmp 64)⟩,
            ⟨(some 66), (some (65, true)), .mov (.tmp 8)⟩,
            ⟨(some 67), (some (65, true)), .bin .eql (.tmp 66) (.cst (.p (.int .i64 0)))⟩,
            ⟨(some 68), none, .pick (.tmp 65) (.tmp 67) (.cst (.p (.bool false)))⟩,
            ⟨(some 69), none, .mov (.tmp 68)⟩,
            ⟨(some 70), (some (69, true)), .load 2 true (.tmp 7)⟩,
            ⟨(some 71), (some (69, true)), .call 64 [(.cst (.p (.int .i64 0)))]⟩,
            ⟨(some 72), (some (69, true)), .call 47 [(.tmp 70), (.tmp 71)]⟩,
            ⟨(some 73), none, .pick (.tmp 69) (.tmp 72) (.cst (.p (.bool false)))⟩,
            ⟨(some 74), none, .mov (.tmp 73)⟩,
            ⟨(some 75), (some (74, true)), .mov (.tmp 10)⟩,
            ⟨(some 76), none, .pick (.tmp 74) (.tmp 75) (.cst (.p (.bool false)))⟩,
            ⟨(some 77), none, .mov (.tmp 76)⟩,
            ⟨(some 78), (some (77, true)), .mov (.tmp 9)⟩,
            ⟨(some 79), (some (77, true)), .bin .eql (.tmp 78) (.cst (.p (.int .i64 (-9223372036854775808))))⟩,
            ⟨(some 80), none, .pick (.tmp 77) (.tmp 79) (.cst (.p (.bool false)))⟩,
            ⟨(some 81), none, .mov (.tmp 80)⟩,
            ⟨(some 82), (some (81, true)), .mov (.tmp 12)⟩,
            ⟨(some 83), (some (81, true)), .bin .eql (.tmp 82) (.cst (.p (.int .i64 0)))⟩,
            ⟨(some 84), none, .pick (.tmp 81) (.tmp 83) (.cst (.p (.bool false)))⟩,
            ⟨(some 85), none, .mov (.tmp 84)⟩,
            ⟨(some 86), (some (85, true)), .mov (.tmp 14)⟩,
            ⟨(some 87), (some (85, true)), .un .not (.tmp 86)⟩,
            ⟨(some 88), none, .pick (.tmp 85) (.tmp 87) (.cst (.p (.bool false)))⟩,
            ⟨(some 89), none, .mov (.tmp 88)⟩,
            ⟨(some 90), (some (89, true)), .load 2 true (.tmp 11)⟩,
            ⟨(some 91), (some (89, true)), .call 53 [(.tmp 90)]⟩,
            ⟨(some 92), (some (89, true)), .bin .eql (.tmp 91) (.cst (.p (.str [57, 50, 50, 51, 51, 55, 50, 48, 51, 54, 56, 53, 52, 55, 55, 53, 56, 48, 56])))⟩,
            ⟨(some 93), none, .pick (.tmp 89) (.tmp 92) (.cst (.p (.bool false)))⟩,
            ⟨(some 94), none, .mov (.tmp 93)⟩,
            ⟨(some 95), (some (94, true)), .load 2 true (.tmp 11)⟩,
            ⟨(some 96), (some (94, true)), .call 48 [(.tmp 95)]⟩,
            ⟨(some 97), (some (94, true)), .call 49 [(.tmp 96)]⟩,
            ⟨(some 98), (some (94, true)), .bin .eql (.tmp 97) (.cst (.p (.int .i64 (-1))))⟩,
            ⟨(some 99), none, .pick (.tmp 94) (.tmp 98) (.cst (.p (.bool false)))⟩,
            ⟨(some 100), none, .mov (.tmp 99)⟩,
            ⟨(some 101), (some (100, true)), .call 64 [(.cst (.p (.int .i64 (-3))))]⟩,
            ⟨(some 102), (some (100, true)), .call 64 [(.cst (.p (.int .i64 2)))]⟩,
            ⟨(some 103), (some (100, true)), .call 44 [(.tmp 101), (.tmp 102)]⟩,
            ⟨(some 104), (some (100, true)), .bin .eql (.tmp 103) (.cst (.p (.int .i64 (-1))))⟩,
            ⟨(some 105), none, .pick (.tmp 100) (.tmp 104) (.cst (.p (.bool false)))⟩,
            ⟨(some 106), none, .mov (.tmp 105)⟩,
            ⟨(some 107), (some (106, true)), .build (.agg [(.p (.bool false)), (.tight [])]) [(0, 1, (.cst (.p (.bool true))))]⟩,
            ⟨(some 108), (some (106, true)), .call 42 [(.tmp 107)]⟩,
            ⟨(some 109), (some (106, true)), .un .not (.tmp 108)⟩,
            ⟨(some 110), none, .pick (.tmp 106) (.tmp 109) (.cst (.p (.bool false)))⟩,
            ⟨(some 0), none, .mov (.tmp 110)⟩]) (
          .ret)))))))))⟩
theorem low43 : lowFunc Tryz.prog gl0 43 = some lf43 := by kernel_rfl
def lf47 : LFunc := ⟨8, [(.slot 4)], (
  .seq (
   .region [
     ⟨(some 2), none, .newv 2 51 (.tmp 0)⟩,
     ⟨(some 3), none, .newv 2 51 (.tmp 1)⟩,
     ⟨(some 4), none, .mov (.cst (.p (.bool false)))⟩]) (
   .seq (
    .region [
      ⟨(some 5), none, .load 2 true (.tmp 2)⟩,
      ⟨(some 6), none, .load 2 true (.tmp 3)⟩,
      ⟨(some 7), none, .call 101 [(.tmp 5), (.tmp 6)]⟩,
      ⟨(some 4), none, .mov (.tmp 7)⟩]) (
    .ret)))⟩
theorem low47 : lowFunc Tryz.prog gl0 47 = some lf47 := by kernel_rfl
def lf54 : LFunc := ⟨15, [(.slot 4)], (
  .seq (
   .region [
     ⟨(some 2), none, .newv 2 51 (.tmp 0)⟩,
     ⟨(some 3), none, .newv 2 51 (.tmp 1)⟩,
     ⟨(some 4), none, .mov (.cst (.p (.bool false)))⟩]) (
   .seq (
    .region [
      ⟨(some 5), none, .fadr 1 (.tmp 2)⟩,
      ⟨(some 6), none, .load 1 false (.tmp 5)⟩,
      ⟨(some 7), none, .len (.tmp 6)⟩,
      ⟨(some 8), none, .bin .leq (.tmp 7) (.cst (.p (.int .i64 66)))⟩,
      ⟨(some 9), none, .mov (.tmp 8)⟩,
      ⟨(some 10), (some (9, true)), .fadr 1 (.tmp 3)⟩,
      ⟨(some 11), (some (9, true)), .load 1 false (.tmp 10)⟩,
      ⟨(some 12), (some (9, true)), .len (.tmp 11)⟩,
      ⟨(some 13), (some (9, true)), .bin .leq (.tmp 12) (.cst (.p (.int .i64 66)))⟩,
      ⟨(some 14), none, .pick (.tmp 9) (.tmp 13) (.cst (.p (.bool false)))⟩,
      ⟨(some 4), none, .mov (.tmp 14)⟩]) (
    .ret)))⟩
theorem low54 : lowFunc Tryz.prog gl0 54 = some lf54 := by kernel_rfl
def lf42 : LFunc := ⟨17, [(.slot 2)], (
  .seq (
   .region [
     ⟨(some 1), none, .newv 2 51 (.tmp 0)⟩,
     ⟨(some 2), none, .mov (.cst (.p (.bool false)))⟩]) (
   .seq (
    .region [
      ⟨(some 3), none, .fadr 1 (.tmp 1)⟩,
      ⟨(some 4), none, .load 1 false (.tmp 3)⟩,
      ⟨(some 5), none, .call 21 [(.tmp 4)]⟩,
      ⟨(some 6), none, .mov (.tmp 5)⟩,
      ⟨(some 7), (some (6, true)), .fadr 0 (.tmp 1)⟩,
      ⟨(some 8), (some (6, true)), .load 1 false (.tmp 7)⟩,
      ⟨(some 9), (some (6, true)), .un .not (.tmp 8)⟩,
      ⟨(some 10), (some (6, true)), .mov (.tmp 9)⟩,
      ⟨(some 11), (some (10, false)), .fadr 1 (.tmp 1)⟩,
      ⟨(some 12), (some (10, false)), .load 1 false (.tmp 11)⟩,
      ⟨(some 13), (some (10, false)), .len (.tmp 12)⟩,
      ⟨(some 14), (some (10, false)), .bin .gtr (.tmp 13) (.cst (.p (.int .i64 0)))⟩,
      ⟨(some 15), (some (6, true)), .pick (.tmp 10) (.cst (.p (.bool true))) (.tmp 14)⟩,
      ⟨(some 16), none, .pick (.tmp 6) (.tmp 15) (.cst (.p (.bool false)))⟩,
      ⟨(some 2), none, .mov (.tmp 16)⟩]) (
    .ret)))⟩
theorem low42 : lowFunc Tryz.prog gl0 42 = some lf42 := by kernel_rfl
def lf64 : LFunc := ⟨13, [(.cell 2 2 true)], (
  .seq (
   .region [
     ⟨(some 2), none, .newv 2 51 (.cst (.agg [(.p (.bool false)), (.tight [])]))⟩]) (
   .seq (
    .seq (
     .region [
       ⟨(some 3), none, .mov (.tmp 0)⟩,
       ⟨(some 4), none, .bin .geq (.tmp 3) (.cst (.p (.int .i64 0)))⟩]) (
     .cond (.tmp 4) (
      .seq (
       .region [
         ⟨(some 5), none, .mov (.tmp 0)⟩,
         ⟨(some 6), none, .call 40 [(.tmp 5)]⟩,
         ⟨(some 7), none, .build (.agg [(.p (.bool false)), (.tight [])]) [(1, 1, (.tmp 6))]⟩,
         ⟨none, none, .store 2 (.tmp 2) (.tmp 7)⟩]) (
       .ret)) (
      .skip))) (
    .seq (
     .region [
       ⟨(some 8), none, .mov (.tmp 0)⟩,
       ⟨(some 9), none, .conv (.toInt .u64) (.tmp 8)⟩,
       ⟨(some 10), none, .un .neg (.tmp 9)⟩,
       ⟨(some 11), none, .buildSl 1 40 (.p (.int .u64 0)) 1 [(0, (.tmp 10))]⟩,
       ⟨(some 12), none, .build (.agg [(.p (.bool false)), (.tight [])]) [(0, 1, (.cst (.p (.bool true)))), (1, 1, (.tmp 11))]⟩,
       ⟨none, none, .store 2 (.tmp 2) (.tmp 12)⟩]) (
     .ret))))⟩
theorem low64 : lowFunc Tryz.prog gl0 64 = some lf64 := by kernel_rfl
def lf58 : LFunc := ⟨51, [(.slot 2), (.slot 3)], (
  .seq (
   .region [
     ⟨(some 1), none, .newv 2 51 (.tmp 0)⟩,
     ⟨(some 2), none, .mov (.cst (.p (.int .i64 0)))⟩,
     ⟨(some 3), none, .mov (.cst (.p (.bool false)))⟩]) (
   .seq (
    .block 0 (
     .seq (
      .region [
        ⟨(some 5), none, .load 2 true (.tmp 1)⟩,
        ⟨(some 6), none, .call 42 [(.tmp 5)]⟩,
        ⟨(some 7), none, .un .not (.tmp 6)⟩,
        ⟨(some 8), none, .mov (.tmp 7)⟩,
        ⟨(some 9), (some (8, false)), .fadr 1 (.tmp 1)⟩,
        ⟨(some 10), (some (8, false)), .load 1 false (.tmp 9)⟩,
        ⟨(some 11), (some (8, false)), .len (.tmp 10)⟩,
        ⟨(some 12), (some (8, false)), .bin .gtr (.tmp 11) (.cst (.p (.int .i64 1)))⟩,
        ⟨(some 13), none, .pick (.tmp 8) (.cst (.p (.bool true))) (.tmp 12)⟩,
        ⟨(some 4), none, .mov (.tmp 13)⟩]) (
      .cond (.tmp 4) (
       .seq (
        .region [
          ⟨(some 2), none, .mov (.cst (.p (.int .i64 0)))⟩,
          ⟨(some 3), none, .mov (.cst (.p (.bool false)))⟩]) (
        .ret)) (
       .seq (
        .region [
          ⟨(some 15), none, .fadr 1 (.tmp 1)⟩,
          ⟨(some 16), none, .load 1 false (.tmp 15)⟩,
          ⟨(some 17), none, .len (.tmp 16)⟩,
          ⟨(some 18), none, .bin .eql (.tmp 17) (.cst (.p (.int .i64 0)))⟩,
          ⟨(some 14), none, .mov (.tmp 18)⟩]) (
        .cond (.tmp 14) (
         .seq (
          .region [
            ⟨(some 2), none, .mov (.cst (.p (.int .i64 0)))⟩,
            ⟨(some 3), none, .mov (.cst (.p (.bool true)))⟩]) (
          .ret)) (
         .seq (
          .region [
            ⟨(some 20), none, .fadr 0 (.tmp 1)⟩,
            ⟨(some 21), none, .load 1 false (.tmp 20)⟩,
            ⟨(some 22), none, .mov (.tmp 21)⟩,
            ⟨(some 23), (some (22, true)), .fadr 1 (.tmp 1)⟩,
            ⟨(some 24), (some (22, true)), .load 1 false (.tmp 23)⟩,
            ⟨(some 25), (some (22, true)), .iadr 1 (.tmp 24) (.cst (.p (.int .i64 0)))⟩,
            ⟨(some 26), (some (22, true)), .load 1 false (.tmp 25)⟩,
            ⟨(some 27), (some (22, true)), .bin .leq (.tmp 26) (.cst (.p (.int .u64 9223372036854775808)))⟩,
            ⟨(some 28), none, .pick (.tmp 22) (.tmp 27) (.cst (.p (.bool false)))⟩,
            ⟨(some 19), none, .mov (.tmp 28)⟩]) (
          .cond (.tmp 19) (
           .seq (
            .region [
              ⟨(some 29), none, .fadr 1 (.tmp 1)⟩,
              ⟨(some 30), none, .load 1 false (.tmp 29)⟩,
              ⟨(some 31), none, .iadr 1 (.tmp 30) (.cst (.p (.int .i64 0)))⟩,
              ⟨(some 32), none, .load 1 false (.tmp 31)⟩,
              ⟨(some 33), none, .un .neg (.tmp 32)⟩,
              ⟨(some 34), none, .conv (.toInt .i64) (.tmp 33)⟩,
              ⟨(some 2), none, .mov (.tmp 34)⟩,
              ⟨(some 3), none, .mov (.cst (.p (.bool true)))⟩]) (
            .ret)) (
           .seq (
            .region [
              ⟨(some 36), none, .fadr 0 (.tmp 1)⟩,
              ⟨(some 37), none, .load 1 false (.tmp 36)⟩,
              ⟨(some 38), none, .un .not (.tmp 37)⟩,
              ⟨(some 39), none, .mov (.tmp 38)⟩,
              ⟨(some 40), (some (39, true)), .fadr 1 (.tmp 1)⟩,
              ⟨(some 41), (some (39, true)), .load 1 false (.tmp 40)⟩,
              ⟨(some 42), (some (39, true)), .iadr 1 (.tmp 41) (.cst (.p (.int .i64 0)))⟩,
              ⟨(some 43), (some (39, true)), .load 1 false (.tmp 42)⟩,
              ⟨(some 44), (some (39, true)), .bin .lss (.tmp 43) (.cst (.p (.int .u64 9223372036854775808)))⟩,
              ⟨(some 45), none, .pick (.tmp 39) (.tmp 44) (.cst (.p (.bool false)))⟩,
              ⟨(some 35), none, .mov (.tmp 45)⟩]) (
            .cond (.tmp 35) (
             .seq (
              .region [
                ⟨(some 46), none, .fadr 1 (.tmp 1)⟩,
                ⟨(some 47), none, .load 1 false (.tmp 46)⟩,
                ⟨(some 48), none, .iadr 1 (.tmp 47) (.cst (.p (.int .i64 0)))⟩,
                ⟨(some 49), none, .load 1 false (.tmp 48)⟩,
                ⟨(some 50), none, .conv (.toInt .i64) (.tmp 49)⟩,
                ⟨(some 2), none, .mov (.tmp 50)⟩,
                ⟨(some 3), none, .mov (.cst (.p (.bool true)))⟩]) (
              .ret)) (
             .skip)))))))))) (
    .seq (
     .region [
       ⟨(some 2), none, .mov (.cst (.p (.int .i64 0)))⟩,
       ⟨(some 3), none, .mov (.cst (.p (.bool false)))⟩]) (
     .ret))))⟩
theorem low58 : lowFunc Tryz.prog gl0 58 = some lf58 := by kernel_rfl
def lf102 : LFunc := ⟨13, [(.cell 4 2 true)], (
  .seq (
   .region [
     ⟨(some 4), none, .newv 2 51 (.cst (.agg [(.p (.bool false)), (.tight [])]))⟩]) (
   .seq (
    .region [
      ⟨(some 5), none, .mov (.tmp 0)⟩,
      ⟨(some 6), none, .mov (.tmp 5)⟩,
      ⟨(some 7), (some (6, true)), .mov (.tmp 1)⟩,
      ⟨(some 8), (some (6, true)), .len (.tmp 7)⟩,
      ⟨(some 9), (some (6, true)), .bin .gtr (.tmp 8) (.cst (.p (.int .i64 0)))⟩,
      ⟨(some 10), none, .pick (.tmp 6) (.tmp 9) (.cst (.p (.bool false)))⟩,
      ⟨(some 11), none, .mov (.tmp 1)⟩,
      ⟨(some 12), none, .build (.agg [(.p (.bool false)), (.tight [])]) [(0, 1, (.tmp 10)), (1, 1, (.tmp 11))]⟩,
      ⟨none, none, .store 2 (.tmp 4) (.tmp 12)⟩]) (
    .ret)))⟩
theorem low102 : lowFunc Tryz.prog gl0 102 = some lf102 := by kernel_rfl
def lf98 : LFunc := ⟨34, [(.slot 4)], (
  .seq (
   .region [
     ⟨(some 2), none, .newv 2 51 (.tmp 0)⟩,
     ⟨(some 3), none, .newv 2 51 (.tmp 1)⟩,
     ⟨(some 4), none, .mov (.cst (.p (.int .i64 0)))⟩]) (
   .seq (
    .block 0 (
     .seq (
      .region [
        ⟨(some 6), none, .fadr 0 (.tmp 2)⟩,
        ⟨(some 7), none, .load 1 false (.tmp 6)⟩,
        ⟨(some 8), none, .fadr 0 (.tmp 3)⟩,
        ⟨(some 9), none, .load 1 false (.tmp 8)⟩,
        ⟨(some 10), none, .eqB true (.tmp 7) (.tmp 9)⟩,
        ⟨(some 11), none, .mov (.tmp 10)⟩,
        ⟨(some 12), (some (11, true)), .fadr 0 (.tmp 2)⟩,
        ⟨(some 13), (some (11, true)), .load 1 false (.tmp 12)⟩,
        ⟨(some 14), none, .pick (.tmp 11) (.tmp 13) (.cst (.p (.bool false)))⟩,
        ⟨(some 5), none, .mov (.tmp 14)⟩]) (
      .cond (.tmp 5) (
       .seq (
        .region [
          ⟨(some 4), none, .mov (.cst (.p (.int .i64 (-1))))⟩]) (
        .ret)) (
       .seq (
        .region [
          ⟨(some 16), none, .fadr 0 (.tmp 2)⟩,
          ⟨(some 17), none, .load 1 false (.tmp 16)⟩,
          ⟨(some 18), none, .fadr 0 (.tmp 3)⟩,
          ⟨(some 19), none, .load 1 false (.tmp 18)⟩,
          ⟨(some 20), none, .eqB true (.tmp 17) (.tmp 19)⟩,
          ⟨(some 15), none, .mov (.tmp 20)⟩]) (
        .cond (.tmp 15) (
         .seq (
          .region [
            ⟨(some 4), none, .mov (.cst (.p (.int .i64 1)))⟩]) (
          .ret)) (
         .seq (
          .region [
            ⟨(some 22), none, .fadr 0 (.tmp 2)⟩,
            ⟨(some 23), none, .load 1 false (.tmp 22)⟩,
            ⟨(some 21), none, .mov (.tmp 23)⟩]) (
          .cond (.tmp 21) (
           .seq (
            .region [
              ⟨(some 24), none, .fadr 1 (.tmp 3)⟩,
              ⟨(some 25), none, .load 1 false (.tmp 24)⟩,
              ⟨(some 26), none, .fadr 1 (.tmp 2)⟩,
              ⟨(some 27), none, .load 1 false (.tmp 26)⟩,
              ⟨(some 28), none, .call 82 [(.tmp 25), (.tmp 27)]⟩,
              ⟨(some 4), none, .mov (.tmp 28)⟩]) (
            .ret)) (
           .skip)))))))) (
    .seq (
     .region [
       ⟨(some 29), none, .fadr 1 (.tmp 2)⟩,
       ⟨(some 30), none, .load 1 false (.tmp 29)⟩,
       ⟨(some 31), none, .fadr 1 (.tmp 3)⟩,
       ⟨(some 32), none, .load 1 false (.tmp 31)⟩,
       ⟨(some 33), none, .call 82 [(.tmp 30), (.tmp 32)]⟩,
       ⟨(some 4), none, .mov (.tmp 33)⟩]) (
     .ret))))⟩
theorem low98 : lowFunc Tryz.prog gl0 98 = some lf98 := by kernel_rfl
def lf44 : LFunc := ⟨16, [(.slot 4)], (
  .seq (
   .region [
     ⟨(some 2), none, .newv 2 51 (.tmp 0)⟩,
     ⟨(some 3), none, .newv 2 51 (.tmp 1)⟩,
     ⟨(some 4), none, .mov (.cst (.p (.int .i64 0)))⟩]) (
   .seq (
    .seq (
     .region [
       ⟨(some 5), none, .load 2 true (.tmp 2)⟩,
       ⟨(some 6), none, .call 42 [(.tmp 5)]⟩,
       ⟨(some 7), none, .un .not (.tmp 6)⟩,
       ⟨(some 8), none, .mov (.tmp 7)⟩,
       ⟨(some 9), (some (8, false)), .load 2 true (.tmp 3)⟩,
       ⟨(some 10), (some (8, false)), .call 42 [(.tmp 9)]⟩,
       ⟨(some 11), (some (8, false)), .un .not (.tmp 10)⟩,
       ⟨(some 12), none, .pick (.tmp 8) (.cst (.p (.bool true))) (.tmp 11)⟩]) (
     .cond (.tmp 12) (
      .seq (
       .region [
         ⟨(some 4), none, .mov (.cst (.p (.int .i64 0)))⟩]) (
       .ret)) (
      .skip))) (
    .seq (
     .region [
       ⟨(some 13), none, .load 2 true (.tmp 2)⟩,
       ⟨(some 14), none, .load 2 true (.tmp 3)⟩,
       ⟨(some 15), none, .call 98 [(.tmp 13), (.tmp 14)]⟩,
       ⟨(some 4), none, .mov (.tmp 15)⟩]) (
     .ret))))⟩
theorem low44 : lowFunc Tryz.prog gl0 44 = some lf44 := by kernel_rfl
def lf49 : LFunc := ⟨16, [(.slot 2)], (
  .seq (
   .region [
     ⟨(some 1), none, .newv 2 51 (.tmp 0)⟩,
     ⟨(some 2), none, .mov (.cst (.p (.int .i64 0)))⟩]) (
   .seq (
    .block 0 (
     .seq (
      .region [
        ⟨(some 4), none, .load 2 true (.tmp 1)⟩,
        ⟨(some 5), none, .call 42 [(.tmp 4)]⟩,
        ⟨(some 6), none, .un .not (.tmp 5)⟩,
        ⟨(some 7), none, .mov (.tmp 6)⟩,
        ⟨(some 8), (some (7, false)), .fadr 1 (.tmp 1)⟩,
        ⟨(some 9), (some (7, false)), .load 1 false (.tmp 8)⟩,
        ⟨(some 10), (some (7, false)), .len (.tmp 9)⟩,
        ⟨(some 11), (some (7, false)), .bin .eql (.tmp 10) (.cst (.p (.int .i64 0)))⟩,
        ⟨(some 12), none, .pick (.tmp 7) (.cst (.p (.bool true))) (.tmp 11)⟩,
        ⟨(some 3), none, .mov (.tmp 12)⟩]) (
      .cond (.tmp 3) (
       .seq (
        .region [
          ⟨(some 2), none, .mov (.cst (.p (.int .i64 0)))⟩]) (
        .ret)) (
       .seq (
        .region [
          ⟨(some 14), none, .fadr 0 (.tmp 1)⟩,
          ⟨(some 15), none, .load 1 false (.tmp 14)⟩,
          ⟨(some 13), none, .mov (.tmp 15)⟩]) (
        .cond (.tmp 13) (
         .seq (
          .region [
            ⟨(some 2), none, .mov (.cst (.p (.int .i64 (-1))))⟩]) (
          .ret)) (
         .skip)))))) (
    .seq (
     .region [
       ⟨(some 2), none, .mov (.cst (.p (.int .i64 1)))⟩]) (
     .ret))))⟩
theorem low49 : lowFunc Tryz.prog gl0 49 = some lf49 := by kernel_rfl
def lf48 : LFunc := ⟨14, [(.cell 2 2 true)], (
  .seq (
   .region [
     ⟨(some 1), none, .newv 2 51 (.tmp 0)⟩,
     ⟨(some 2), none, .newv 2 51 (.cst (.agg [(.p (.bool false)), (.tight [])]))⟩]) (
   .seq (
    .seq (
     .region [
       ⟨(some 3), none, .load 2 true (.tmp 1)⟩,
       ⟨(some 4), none, .call 42 [(.tmp 3)]⟩,
       ⟨(some 5), none, .un .not (.tmp 4)⟩]) (
     .cond (.tmp 5) (
      .seq (
       .region [
         ⟨(some 6), none, .build (.agg [(.p (.bool false)), (.tight [])]) []⟩,
         ⟨none, none, .store 2 (.tmp 2) (.tmp 6)⟩]) (
       .ret)) (
      .skip))) (
    .seq (
     .regionW [
       (⟨(some 7), none, .fadr 0 (.tmp 1)⟩, true),
       (⟨(some 8), none, .load 1 false (.tmp 7)⟩, true),
       (⟨(some 9), none, .un .not (.tmp 8)⟩, false),
       (⟨(some 10), none, .fadr 1 (.tmp 1)⟩, false),
       (⟨(some 11), none, .load 1 false (.tmp 10)⟩, false),
       (⟨(some 12), none, .call 103 [(.tmp 11)]⟩, true),
       (⟨(some 13), none, .call 102 [(.tmp 9), (.tmp 12)]⟩, false),
       (⟨none, none, .store 2 (.tmp 2) (.tmp 13)⟩, false)]) (
     .ret))))⟩
theorem low48 : lowFunc Tryz.prog gl0 48 = some lf48 := by kernel_rfl
def lf100 : LFunc := ⟨42, [(.cell 4 2 true)], (
  .seq (
   .region [
     ⟨(some 2), none, .newv 2 51 (.tmp 0)⟩,
     ⟨(some 3), none, .newv 2 51 (.tmp 1)⟩,
     ⟨(some 4), none, .newv 2 51 (.cst (.agg [(.p (.bool false)), (.tight [])]))⟩]) (
   .seq (
    .block 0 (
     .seq (
      .region [
        ⟨(some 6), none, .fadr 0 (.tmp 2)⟩,
        ⟨(some 7), none, .load 1 false (.tmp 6)⟩,
        ⟨(some 8), none, .fadr 0 (.tmp 3)⟩,
        ⟨(some 9), none, .load 1 false (.tmp 8)⟩,
        ⟨(some 10), none, .eqB false (.tmp 7) (.tmp 9)⟩,
        ⟨(some 5), none, .mov (.tmp 10)⟩]) (
      .cond (.tmp 5) (
       .seq (
        .regionW [
          (⟨(some 11), none, .fadr 0 (.tmp 2)⟩, true),
          (⟨(some 12), none, .load 1 false (.tmp 11)⟩, true),
          (⟨(some 13), none, .fadr 1 (.tmp 2)⟩, false),
          (⟨(some 14), none, .load 1 false (.tmp 13)⟩, false),
          (⟨(some 15), none, .fadr 1 (.tmp 3)⟩, false),
          (⟨(some 16), none, .load 1 false (.tmp 15)⟩, false),
          (⟨(some 17), none, .call 79 [(.tmp 14), (.tmp 16)]⟩, true),
          (⟨(some 18), none, .call 102 [(.tmp 12), (.tmp 17)]⟩, false),
          (⟨none, none, .store 2 (.tmp 4) (.tmp 18)⟩, false)]) (
        .ret)) (
       .seq (
        .region [
          ⟨(some 20), none, .fadr 1 (.tmp 2)⟩,
          ⟨(some 21), none, .load 1 false (.tmp 20)⟩,
          ⟨(some 22), none, .fadr 1 (.tmp 3)⟩,
          ⟨(some 23), none, .load 1 false (.tmp 22)⟩,
          ⟨(some 24), none, .call 82 [(.tmp 21), (.tmp 23)]⟩,
          ⟨(some 25), none, .bin .lss (.tmp 24) (.cst (.p (.int .i64 0)))⟩,
          ⟨(some 19), none, .mov (.tmp 25)⟩]) (
        .cond (.tmp 19) (
         .seq (
          .regionW [
            (⟨(some 26), none, .fadr 0 (.tmp 3)⟩, true),
            (⟨(some 27), none, .load 1 false (.tmp 26)⟩, true),
            (⟨(some 28), none, .fadr 1 (.tmp 3)⟩, false),
            (⟨(some 29), none, .load 1 false (.tmp 28)⟩, false),
            (⟨(some 30), none, .fadr 1 (.tmp 2)⟩, false),
            (⟨(some 31), none, .load 1 false (.tmp 30)⟩, false),
            (⟨(some 32), none, .call 83 [(.tmp 29), (.tmp 31)]⟩, true),
            (⟨(some 33), none, .call 102 [(.tmp 27), (.tmp 32)]⟩, false),
            (⟨none, none, .store 2 (.tmp 4) (.tmp 33)⟩, false)]) (
          .ret)) (
         .skip)))))) (
    .seq (
     .regionW [
       (⟨(some 34), none, .fadr 0 (.tmp 2)⟩, true),
       (⟨(some 35), none, .load 1 false (.tmp 34)⟩, true),
       (⟨(some 36), none, .fadr 1 (.tmp 2)⟩, false),
       (⟨(some 37), none, .load 1 false (.tmp 36)⟩, false),
       (⟨(some 38), none, .fadr 1 (.tmp 3)⟩, false),
       (⟨(some 39), none, .load 1 false (.tmp 38)⟩, false),
       (⟨(some 40), none, .call 83 [(.tmp 37), (.tmp 39)]⟩, true),
       (⟨(some 41), none, .call 102 [(.tmp 35), (.tmp 40)]⟩, false),
       (⟨none, none, .store 2 (.tmp 4) (.tmp 41)⟩, false)]) (
     .ret))))⟩
theorem low100 : lowFunc Tryz.prog gl0 100 = some lf100 := by kernel_rfl
def lf104 : LFunc := ⟨16, [(.cell 4 2 true)], (
  .seq (
   .region [
     ⟨(some 2), none, .newv 2 51 (.tmp 0)⟩,
     ⟨(some 3), none, .newv 2 51 (.tmp 1)⟩,
     ⟨(some 4), none, .newv 2 51 (.cst (.agg [(.p (.bool false)), (.tight [])]))⟩]) (
   .seq (
    .regionW [
      (⟨(some 5), none, .fadr 0 (.tmp 2)⟩, true),
      (⟨(some 6), none, .load 1 false (.tmp 5)⟩, true),
      (⟨(some 7), none, .fadr 0 (.tmp 3)⟩, true),
      (⟨(some 8), none, .load 1 false (.tmp 7)⟩, true),
      (⟨(some 9), none, .eqB true (.tmp 6) (.tmp 8)⟩, false),
      (⟨(some 10), none, .fadr 1 (.tmp 2)⟩, false),
      (⟨(some 11), none, .load 1 false (.tmp 10)⟩, false),
      (⟨(some 12), none, .fadr 1 (.tmp 3)⟩, false),
      (⟨(some 13), none, .load 1 false (.tmp 12)⟩, false),
      (⟨(some 14), none, .call 86 [(.tmp 11), (.tmp 13)]⟩, true),
      (⟨(some 15), none, .call 102 [(.tmp 9), (.tmp 14)]⟩, false),
      (⟨none, none, .store 2 (.tmp 4) (.tmp 15)⟩, false)]) (
    .ret)))⟩
theorem low104 : lowFunc Tryz.prog gl0 104 = some lf104 := by kernel_rfl
def lf99 : LFunc := ⟨10, [(.cell 2 2 true), (.slot 3)], (
  .seq (
   .region [
     ⟨(some 1), none, .newv 2 51 (.tmp 0)⟩,
     ⟨(some 2), none, .newv 2 51 (.cst (.agg [(.p (.bool false)), (.tight [])]))⟩,
     ⟨(some 3), none, .mov (.cst (.p (.int .i64 0)))⟩]) (
   .seq (
    .seq (
     .region [
       ⟨(some 4), none, .fadr 1 (.tmp 1)⟩,
       ⟨(some 5), none, .load 1 false (.tmp 4)⟩,
       ⟨(some 6), none, .len (.tmp 5)⟩,
       ⟨(some 7), none, .bin .gtr (.tmp 6) (.cst (.p (.int .i64 64)))⟩]) (
     .cond (.tmp 7) (
      .seq (
       .region [
         ⟨(some 8), none, .build (.agg [(.p (.bool false)), (.tight [])]) []⟩,
         ⟨none, none, .store 2 (.tmp 2) (.tmp 8)⟩,
         ⟨(some 3), none, .mov (.cst (.p (.int .i64 4)))⟩]) (
       .ret)) (
      .skip))) (
    .seq (
     .region [
       ⟨(some 9), none, .load 2 true (.tmp 1)⟩,
       ⟨none, none, .store 2 (.tmp 2) (.tmp 9)⟩,
       ⟨(some 3), none, .mov (.cst (.p (.int .i64 0)))⟩]) (
     .ret))))⟩
theorem low99 : lowFunc Tryz.prog gl0 99 = some lf99 := by kernel_rfl
def lf45 : LFunc := ⟨21, [(.cell 4 2 true), (.slot 5)], (
  .seq (
   .region [
     ⟨(some 2), none, .newv 2 51 (.tmp 0)⟩,
     ⟨(some 3), none, .newv 2 51 (.tmp 1)⟩,
     ⟨(some 4), none, .newv 2 51 (.cst (.agg [(.p (.bool false)), (.tight [])]))⟩,
     ⟨(some 5), none, .mov (.cst (.p (.int .i64 0)))⟩]) (
   .seq (
    .seq (
     .region [
       ⟨(some 6), none, .load 2 true (.tmp 2)⟩,
       ⟨(some 7), none, .call 42 [(.tmp 6)]⟩,
       ⟨(some 8), none, .un .not (.tmp 7)⟩,
       ⟨(some 9), none, .mov (.tmp 8)⟩,
       ⟨(some 10), (some (9, false)), .load 2 true (.tmp 3)⟩,
       ⟨(some 11), (some (9, false)), .call 42 [(.tmp 10)]⟩,
       ⟨(some 12), (some (9, false)), .un .not (.tmp 11)⟩,
       ⟨(some 13), none, .pick (.tmp 9) (.cst (.p (.bool true))) (.tmp 12)⟩]) (
     .cond (.tmp 13) (
      .seq (
       .region [
         ⟨(some 14), none, .build (.agg [(.p (.bool false)), (.tight [])]) []⟩,
         ⟨none, none, .store 2 (.tmp 4) (.tmp 14)⟩,
         ⟨(some 5), none, .mov (.cst (.p (.int .i64 1)))⟩]) (
       .ret)) (
      .skip))) (
    .seq (
     .region [
       ⟨(some 15), none, .load 2 true (.tmp 2)⟩,
       ⟨(some 16), none, .load 2 true (.tmp 3)⟩,
       ⟨(some 17), none, .call 100 [(.tmp 15), (.tmp 16)]⟩,
       ⟨(some 18), none, .call 99 [(.tmp 17)]⟩,
       ⟨(some 19), none, .ext (.tmp 18) 0⟩,
       ⟨(some 20), none, .ext (.tmp 18) 1⟩,
       ⟨none, none, .store 2 (.tmp 4) (.tmp 19)⟩,
       ⟨(some 5), none, .mov (.tmp 20)⟩]) (
     .ret))))⟩
theorem low45 : lowFunc Tryz.prog gl0 45 = some lf45 := by kernel_rfl
def lf46 : LFunc := ⟨22, [(.cell 4 2 true), (.slot 5)], (
  .seq (
   .region [
     ⟨(some 2), none, .newv 2 51 (.tmp 0)⟩,
     ⟨(some 3), none, .newv 2 51 (.tmp 1)⟩,
     ⟨(some 4), none, .newv 2 51 (.cst (.agg [(.p (.bool false)), (.tight [])]))⟩,
     ⟨(some 5), none, .mov (.cst (.p (.int .i64 0)))⟩]) (
   .seq (
    .seq (
     .region [
       ⟨(some 6), none, .load 2 true (.tmp 2)⟩,
       ⟨(some 7), none, .call 42 [(.tmp 6)]⟩,
       ⟨(some 8), none, .un .not (.tmp 7)⟩,
       ⟨(some 9), none, .mov (.tmp 8)⟩,
       ⟨(some 10), (some (9, false)), .load 2 true (.tmp 3)⟩,
       ⟨(some 11), (some (9, false)), .call 42 [(.tmp 10)]⟩,
       ⟨(some 12), (some (9, false)), .un .not (.tmp 11)⟩,
       ⟨(some 13), none, .pick (.tmp 9) (.cst (.p (.bool true))) (.tmp 12)⟩]) (
     .cond (.tmp 13) (
      .seq (
       .region [
         ⟨(some 14), none, .build (.agg [(.p (.bool false)), (.tight [])]) []⟩,
         ⟨none, none, .store 2 (.tmp 4) (.tmp 14)⟩,
         ⟨(some 5), none, .mov (.cst (.p (.int .i64 1)))⟩]) (
       .ret)) (
      .skip))) (
    .seq (
     .regionW [
       (⟨(some 15), none, .load 2 true (.tmp 2)⟩, true),
       (⟨(some 16), none, .load 2 true (.tmp 3)⟩, false),
       (⟨(some 17), none, .call 48 [(.tmp 16)]⟩, true),
       (⟨(some 18), none, .call 100 [(.tmp 15), (.tmp 17)]⟩, false),
       (⟨(some 19), none, .call 99 [(.tmp 18)]⟩, false),
       (⟨(some 20), none, .ext (.tmp 19) 0⟩, false),
       (⟨(some 21), none, .ext (.tmp 19) 1⟩, false),
       (⟨none, none, .store 2 (.tmp 4) (.tmp 20)⟩, false),
       (⟨(some 5), none, .mov (.tmp 21)⟩, false)]) (
     .ret))))⟩
theorem low46 : lowFunc Tryz.prog gl0 46 = some lf46 := by kernel_rfl
def lf51 : LFunc := ⟨21, [(.cell 4 2 true), (.slot 5)], (
  .seq (
   .region [
     ⟨(some 2), none, .newv 2 51 (.tmp 0)⟩,
     ⟨(some 3), none, .newv 2 51 (.tmp 1)⟩,
     ⟨(some 4), none, .newv 2 51 (.cst (.agg [(.p (.bool false)), (.tight [])]))⟩,
     ⟨(some 5), none, .mov (.cst (.p (.int .i64 0)))⟩]) (
   .seq (
    .seq (
     .region [
       ⟨(some 6), none, .load 2 true (.tmp 2)⟩,
       ⟨(some 7), none, .call 42 [(.tmp 6)]⟩,
       ⟨(some 8), none, .un .not (.tmp 7)⟩,
       ⟨(some 9), none, .mov (.tmp 8)⟩,
       ⟨(some 10), (some (9, false)), .load 2 true (.tmp 3)⟩,
       ⟨(some 11), (some (9, false)), .call 42 [(.tmp 10)]⟩,
       ⟨(some 12), (some (9, false)), .un .not (.tmp 11)⟩,
       ⟨(some 13), none, .pick (.tmp 9) (.cst (.p (.bool true))) (.tmp 12)⟩]) (
     .cond (.tmp 13) (
      .seq (
       .region [
         ⟨(some 14), none, .build (.agg [(.p (.bool false)), (.tight [])]) []⟩,
         ⟨none, none, .store 2 (.tmp 4) (.tmp 14)⟩,
         ⟨(some 5), none, .mov (.cst (.p (.int .i64 1)))⟩]) (
       .ret)) (
      .skip))) (
    .seq (
     .region [
       ⟨(some 15), none, .load 2 true (.tmp 2)⟩,
       ⟨(some 16), none, .load 2 true (.tmp 3)⟩,
       ⟨(some 17), none, .call 104 [(.tmp 15), (.tmp 16)]⟩,
       ⟨(some 18), none, .call 99 [(.tmp 17)]⟩,
       ⟨(some 19), none, .ext (.tmp 18) 0⟩,
       ⟨(some 20), none, .ext (.tmp 18) 1⟩,
       ⟨none, none, .store 2 (.tmp 4) (.tmp 19)⟩,
       ⟨(some 5), none, .mov (.tmp 20)⟩]) (
     .ret))))⟩
theorem low51 : lowFunc Tryz.prog gl0 51 = some lf51 := by kernel_rfl
def lf50 : LFunc := ⟨71, [(.cell 4 2 true), (.cell 5 2 true), (.slot 6)], (
  .seq (
   .region [
     ⟨(some 2), none, .newv 2 51 (.tmp 0)⟩,
     ⟨(some 3), none, .newv 2 51 (.tmp 1)⟩,
     ⟨(some 4), none, .newv 2 51 (.cst (.agg [(.p (.bool false)), (.tight [])]))⟩,
     ⟨(some 5), none, .newv 2 51 (.cst (.agg [(.p (.bool false)), (.tight [])]))⟩,
     ⟨(some 6), none, .mov (.cst (.p (.int .i64 0)))⟩]) (
   .seq (
    .seq (
     .region [
       ⟨(some 9), none, .load 2 true (.tmp 2)⟩,
       ⟨(some 10), none, .call 42 [(.tmp 9)]⟩,
       ⟨(some 11), none, .un .not (.tmp 10)⟩,
       ⟨(some 12), none, .mov (.tmp 11)⟩,
       ⟨(some 13), (some (12, false)), .load 2 true (.tmp 3)⟩,
       ⟨(some 14), (some (12, false)), .call 42 [(.tmp 13)]⟩,
       ⟨(some 15), (some (12, false)), .un .not (.tmp 14)⟩,
       ⟨(some 16), none, .pick (.tmp 12) (.cst (.p (.bool true))) (.tmp 15)⟩,
       ⟨(some 17), none, .mov (.tmp 16)⟩,
       ⟨(some 18), (some (17, false)), .fadr 1 (.tmp 3)⟩,
       ⟨(some 19), (some (17, false)), .load 1 false (.tmp 18)⟩,
       ⟨(some 20), (some (17, false)), .len (.tmp 19)⟩,
       ⟨(some 21), (some (17, false)), .bin .eql (.tmp 20) (.cst (.p (.int .i64 0)))⟩,
       ⟨(some 22), none, .pick (.tmp 17) (.cst (.p (.bool true))) (.tmp 21)⟩]) (
     .cond (.tmp 22) (
      .seq (
       .regionW [
         (⟨(some 23), none, .load 2 true (.tmp 4)⟩, false),
         (⟨(some 24), none, .load 2 true (.tmp 5)⟩, true),
         (⟨none, none, .store 2 (.tmp 4) (.tmp 23)⟩, true),
         (⟨none, none, .store 2 (.tmp 5) (.tmp 24)⟩, false),
         (⟨(some 6), none, .mov (.cst (.p (.int .i64 1)))⟩, false)]) (
       .ret)) (
      .skip))) (
    .seq (
     .region [
       ⟨(some 26), none, .fadr 1 (.tmp 2)⟩,
       ⟨(some 27), none, .load 1 false (.tmp 26)⟩,
       ⟨(some 28), none, .fadr 1 (.tmp 3)⟩,
       ⟨(some 29), none, .load 1 false (.tmp 28)⟩,
       ⟨(some 30), none, .call 91 [(.tmp 27), (.tmp 29)]⟩,
       ⟨(some 25), none, .mov (.tmp 30)⟩,
       ⟨(some 31), none, .ext (.tmp 25) 0⟩,
       ⟨(some 32), none, .ext (.tmp 25) 1⟩,
       ⟨(some 7), none, .mov (.tmp 31)⟩,
       ⟨(some 8), none, .mov (.tmp 32)⟩]) (
     .seq (
      .seq (
       .region [
         ⟨(some 33), none, .fadr 0 (.tmp 2)⟩,
         ⟨(some 34), none, .load 1 false (.tmp 33)⟩,
         ⟨(some 35), none, .fadr 0 (.tmp 3)⟩,
         ⟨(some 36), none, .load 1 false (.tmp 35)⟩,
         ⟨(some 37), none, .eqB true (.tmp 34) (.tmp 36)⟩,
         ⟨(some 38), none, .mov (.tmp 37)⟩,
         ⟨(some 39), (some (38, true)), .mov (.tmp 8)⟩,
         ⟨(some 40), (some (38, true)), .len (.tmp 39)⟩,
         ⟨(some 41), (some (38, true)), .bin .gtr (.tmp 40) (.cst (.p (.int .i64 0)))⟩,
         ⟨(some 42), none, .pick (.tmp 38) (.tmp 41) (.cst (.p (.bool false)))⟩]) (
       .cond (.tmp 42) (
        .seq (
         .region [
           ⟨(some 43), none, .mov (.tmp 7)⟩,
           ⟨(some 44), none, .call 40 [(.cst (.p (.int .i64 1)))]⟩,
           ⟨(some 45), none, .call 79 [(.tmp 43), (.tmp 44)]⟩,
           ⟨(some 7), none, .mov (.tmp 45)⟩]) (
         .region [
           ⟨(some 46), none, .fadr 1 (.tmp 3)⟩,
           ⟨(some 47), none, .load 1 false (.tmp 46)⟩,
           ⟨(some 48), none, .mov (.tmp 8)⟩,
           ⟨(some 49), none, .call 83 [(.tmp 47), (.tmp 48)]⟩,
           ⟨(some 8), none, .mov (.tmp 49)⟩])) (
        .skip))) (
      .seq (
       .seq (
        .region [
          ⟨(some 51), none, .fadr 0 (.tmp 2)⟩,
          ⟨(some 52), none, .load 1 false (.tmp 51)⟩,
          ⟨(some 53), none, .fadr 0 (.tmp 3)⟩,
          ⟨(some 54), none, .load 1 false (.tmp 53)⟩,
          ⟨(some 55), none, .eqB true (.tmp 52) (.tmp 54)⟩,
          ⟨(some 56), none, .mov (.tmp 7)⟩,
          ⟨(some 57), none, .call 102 [(.tmp 55), (.tmp 56)]⟩,
          ⟨(some 58), none, .call 99 [(.tmp 57)]⟩,
          ⟨(some 50), none, .mov (.tmp 58)⟩,
          ⟨(some 59), none, .ext (.tmp 50) 0⟩,
          ⟨(some 60), none, .ext (.tmp 50) 1⟩,
          ⟨none, none, .store 2 (.tmp 4) (.tmp 59)⟩,
          ⟨(some 6), none, .mov (.tmp 60)⟩]) (
        .seq (
         .region [
           ⟨(some 61), none, .mov (.tmp 6)⟩,
           ⟨(some 62), none, .bin .neq (.tmp 61) (.cst (.p (.int .i64 0)))⟩]) (
         .cond (.tmp 62) (
          .seq (
           .regionW [
             (⟨(some 63), none, .load 2 true (.tmp 4)⟩, false),
             (⟨(some 64), none, .load 2 true (.tmp 5)⟩, true),
             (⟨(some 65), none, .mov (.tmp 6)⟩, false),
             (⟨none, none, .store 2 (.tmp 4) (.tmp 63)⟩, true),
             (⟨none, none, .store 2 (.tmp 5) (.tmp 64)⟩, false),
             (⟨(some 6), none, .mov (.tmp 65)⟩, false)]) (
           .ret)) (
          .skip)))) (
       .seq (
        .regionW [
          (⟨(some 66), none, .load 2 true (.tmp 4)⟩, true),
          (⟨(some 67), none, .fadr 0 (.tmp 3)⟩, false),
          (⟨(some 68), none, .load 1 false (.tmp 67)⟩, false),
          (⟨(some 69), none, .mov (.tmp 8)⟩, false),
          (⟨(some 70), none, .call 102 [(.tmp 68), (.tmp 69)]⟩, true),
          (⟨none, none, .store 2 (.tmp 4) (.tmp 66)⟩, false),
          (⟨none, none, .store 2 (.tmp 5) (.tmp 70)⟩, false),
          (⟨(some 6), none, .mov (.cst (.p (.int .i64 0)))⟩, false)]) (
        .ret)))))))⟩
theorem low50 : lowFunc Tryz.prog gl0 50 = some lf50 := by kernel_rfl
def lf52 : LFunc := ⟨22, [(.cell 2 2 true), (.slot 3)], (
  .seq (
   .region [
     ⟨(some 2), none, .newv 2 51 (.cst (.agg [(.p (.bool false)), (.tight [])]))⟩,
     ⟨(some 3), none, .mov (.cst (.p (.int .i64 0)))⟩]) (
   .seq (
    .region [
      ⟨(some 9), none, .mov (.tmp 0)⟩,
      ⟨(some 10), none, .call 105 [(.tmp 9), (.cst (.p (.str [45])))]⟩,
      ⟨(some 8), none, .mov (.tmp 10)⟩,
      ⟨(some 11), none, .ext (.tmp 8) 0⟩,
      ⟨(some 12), none, .ext (.tmp 8) 1⟩,
      ⟨(some 4), none, .mov (.tmp 11)⟩,
      ⟨(some 5), none, .mov (.tmp 12)⟩]) (
    .seq (
     .region [
       ⟨(some 14), none, .mov (.tmp 4)⟩,
       ⟨(some 15), none, .call 16 [(.tmp 14)]⟩,
       ⟨(some 13), none, .mov (.tmp 15)⟩,
       ⟨(some 16), none, .ext (.tmp 13) 0⟩,
       ⟨(some 17), none, .ext (.tmp 13) 1⟩,
       ⟨(some 6), none, .mov (.tmp 16)⟩,
       ⟨(some 7), none, .mov (.tmp 17)⟩]) (
     .seq (
      .region [
        ⟨(some 18), none, .mov (.tmp 5)⟩,
        ⟨(some 19), none, .mov (.tmp 6)⟩,
        ⟨(some 20), none, .call 102 [(.tmp 18), (.tmp 19)]⟩,
        ⟨(some 21), none, .mov (.tmp 7)⟩,
        ⟨none, none, .store 2 (.tmp 2) (.tmp 20)⟩,
        ⟨(some 3), none, .mov (.tmp 21)⟩]) (
      .ret)))))⟩
theorem low52 : lowFunc Tryz.prog gl0 52 = some lf52 := by kernel_rfl
def lf53 : LFunc := ⟨17, [(.slot 2)], (
  .seq (
   .region [
     ⟨(some 1), none, .newv 2 51 (.tmp 0)⟩,
     ⟨(some 2), none, .mov (.cst (.p (.str [])))⟩]) (
   .seq (
    .block 0 (
     .seq (
      .region [
        ⟨(some 4), none, .load 2 true (.tmp 1)⟩,
        ⟨(some 5), none, .call 42 [(.tmp 4)]⟩,
        ⟨(some 6), none, .un .not (.tmp 5)⟩,
        ⟨(some 3), none, .mov (.tmp 6)⟩]) (
      .cond (.tmp 3) (
       .seq (
        .region [
          ⟨(some 2), none, .mov (.cst (.p (.str [])))⟩]) (
        .ret)) (
       .seq (
        .region [
          ⟨(some 8), none, .fadr 0 (.tmp 1)⟩,
          ⟨(some 9), none, .load 1 false (.tmp 8)⟩,
          ⟨(some 7), none, .mov (.tmp 9)⟩]) (
        .cond (.tmp 7) (
         .seq (
          .region [
            ⟨(some 10), none, .fadr 1 (.tmp 1)⟩,
            ⟨(some 11), none, .load 1 false (.tmp 10)⟩,
            ⟨(some 12), none, .call 18 [(.tmp 11)]⟩,
            ⟨(some 13), none, .bin .add (.cst (.p (.str [45]))) (.tmp 12)⟩,
            ⟨(some 2), none, .mov (.tmp 13)⟩]) (
          .ret)) (
         .skip)))))) (
    .seq (
     .region [
       ⟨(some 14), none, .fadr 1 (.tmp 1)⟩,
       ⟨(some 15), none, .load 1 false (.tmp 14)⟩,
       ⟨(some 16), none, .call 18 [(.tmp 15)]⟩,
       ⟨(some 2), none, .mov (.tmp 16)⟩]) (
     .ret))))⟩
theorem low53 : lowFunc Tryz.prog gl0 53 = some lf53 := by kernel_rfl
def lf105 : LFunc := ⟨11, [(.slot 4), (.slot 5)], (
  .seq (
   .region [
     ⟨(some 4), none, .mov (.cst (.p (.str [])))⟩,
     ⟨(some 5), none, .mov (.cst (.p (.bool false)))⟩]) (
   .seq (
    .region [
      ⟨(some 6), none, .mov (.tmp 0)⟩,
      ⟨(some 7), none, .mov (.tmp 1)⟩,
      ⟨(some 8), none, .call 133 [(.tmp 6), (.tmp 7)]⟩,
      ⟨(some 9), none, .ext (.tmp 8) 0⟩,
      ⟨(some 10), none, .ext (.tmp 8) 1⟩,
      ⟨(some 4), none, .mov (.tmp 9)⟩,
      ⟨(some 5), none, .mov (.tmp 10)⟩]) (
    .ret)))⟩
theorem low105 : lowFunc Tryz.prog gl0 105 = some lf105 := by kernel_rfl
def lf133 : LFunc := ⟨15, [(.slot 4), (.slot 5)], (
  .seq (
   .region [
     ⟨(some 4), none, .mov (.cst (.p (.str [])))⟩,
     ⟨(some 5), none, .mov (.cst (.p (.bool false)))⟩]) (
   .seq (
    .seq (
     .region [
       ⟨(some 6), none, .mov (.tmp 0)⟩,
       ⟨(some 7), none, .mov (.tmp 1)⟩,
       ⟨(some 8), none, .call 148 [(.tmp 6), (.tmp 7)]⟩,
       ⟨(some 9), none, .un .not (.tmp 8)⟩]) (
     .cond (.tmp 9) (
      .seq (
       .region [
         ⟨(some 10), none, .mov (.tmp 0)⟩,
         ⟨(some 4), none, .mov (.tmp 10)⟩,
         ⟨(some 5), none, .mov (.cst (.p (.bool false)))⟩]) (
       .ret)) (
      .skip))) (
    .seq (
     .region [
       ⟨(some 11), none, .mov (.tmp 0)⟩,
       ⟨(some 12), none, .mov (.tmp 1)⟩,
       ⟨(some 13), none, .lenS (.tmp 12)⟩,
       ⟨(some 14), none, .slStr (.tmp 11) (some (.tmp 13)) none⟩,
       ⟨(some 4), none, .mov (.tmp 14)⟩,
       ⟨(some 5), none, .mov (.cst (.p (.bool true)))⟩]) (
     .ret))))⟩
theorem low133 : lowFunc Tryz.prog gl0 133 = some lf133 := by kernel_rfl
def lf55 : LFunc := ⟨21, [(.cell 4 2 true), (.slot 5)], (
  .seq (
   .region [
     ⟨(some 2), none, .newv 2 51 (.tmp 0)⟩,
     ⟨(some 3), none, .newv 2 51 (.tmp 1)⟩,
     ⟨(some 4), none, .newv 2 51 (.cst (.agg [(.p (.bool false)), (.tight [])]))⟩,
     ⟨(some 5), none, .mov (.cst (.p (.int .i64 0)))⟩]) (
   .seq (
    .seq (
     .region [
       ⟨(some 6), none, .load 2 true (.tmp 2)⟩,
       ⟨(some 7), none, .call 63 [(.tmp 6)]⟩,
       ⟨(some 8), none, .un .not (.tmp 7)⟩,
       ⟨(some 9), none, .mov (.tmp 8)⟩,
       ⟨(some 10), (some (9, false)), .load 2 true (.tmp 3)⟩,
       ⟨(some 11), (some (9, false)), .call 63 [(.tmp 10)]⟩,
       ⟨(some 12), (some (9, false)), .un .not (.tmp 11)⟩,
       ⟨(some 13), none, .pick (.tmp 9) (.cst (.p (.bool true))) (.tmp 12)⟩]) (
     .cond (.tmp 13) (
      .seq (
       .region [
         ⟨(some 14), none, .build (.agg [(.p (.bool false)), (.tight [])]) []⟩,
         ⟨none, none, .store 2 (.tmp 4) (.tmp 14)⟩,
         ⟨(some 5), none, .mov (.cst (.p (.int .i64 1)))⟩]) (
       .ret)) (
      .skip))) (
    .seq (
     .region [
       ⟨(some 15), none, .load 2 true (.tmp 2)⟩,
       ⟨(some 16), none, .load 2 true (.tmp 3)⟩,
       ⟨(some 17), none, .call 107 [(.tmp 15), (.tmp 16)]⟩,
       ⟨(some 18), none, .call 106 [(.tmp 17)]⟩,
       ⟨(some 19), none, .ext (.tmp 18) 0⟩,
       ⟨(some 20), none, .ext (.tmp 18) 1⟩,
       ⟨none, none, .store 2 (.tmp 4) (.tmp 19)⟩,
       ⟨(some 5), none, .mov (.tmp 20)⟩]) (
     .ret))))⟩
theorem low55 : lowFunc Tryz.prog gl0 55 = some lf55 := by kernel_rfl
def lf56 : LFunc := ⟨26, [(.cell 4 2 true), (.slot 5)], (
  .seq (
   .region [
     ⟨(some 2), none, .newv 2 51 (.tmp 0)⟩,
     ⟨(some 3), none, .newv 2 51 (.tmp 1)⟩,
     ⟨(some 4), none, .newv 2 51 (.cst (.agg [(.p (.bool false)), (.tight [])]))⟩,
     ⟨(some 5), none, .mov (.cst (.p (.int .i64 0)))⟩]) (
   .seq (
    .seq (
     .region [
       ⟨(some 6), none, .load 2 true (.tmp 2)⟩,
       ⟨(some 7), none, .call 63 [(.tmp 6)]⟩,
       ⟨(some 8), none, .un .not (.tmp 7)⟩,
       ⟨(some 9), none, .mov (.tmp 8)⟩,
       ⟨(some 10), (some (9, false)), .load 2 true (.tmp 3)⟩,
       ⟨(some 11), (some (9, false)), .call 63 [(.tmp 10)]⟩,
       ⟨(some 12), (some (9, false)), .un .not (.tmp 11)⟩,
       ⟨(some 13), none, .pick (.tmp 9) (.cst (.p (.bool true))) (.tmp 12)⟩]) (
     .cond (.tmp 13) (
      .seq (
       .region [
         ⟨(some 14), none, .build (.agg [(.p (.bool false)), (.tight [])]) []⟩,
         ⟨none, none, .store 2 (.tmp 4) (.tmp 14)⟩,
         ⟨(some 5), none, .mov (.cst (.p (.int .i64 1)))⟩]) (
       .ret)) (
      .skip))) (
    .seq (
     .regionW [
       (⟨(some 15), none, .load 2 true (.tmp 2)⟩, true),
       (⟨(some 16), none, .fadr 0 (.tmp 3)⟩, false),
       (⟨(some 17), none, .load 1 false (.tmp 16)⟩, false),
       (⟨(some 18), none, .un .not (.tmp 17)⟩, false),
       (⟨(some 19), none, .fadr 1 (.tmp 3)⟩, false),
       (⟨(some 20), none, .load 1 false (.tmp 19)⟩, false),
       (⟨(some 21), none, .call 108 [(.tmp 18), (.tmp 20)]⟩, true),
       (⟨(some 22), none, .call 107 [(.tmp 15), (.tmp 21)]⟩, false),
       (⟨(some 23), none, .call 106 [(.tmp 22)]⟩, false),
       (⟨(some 24), none, .ext (.tmp 23) 0⟩, false),
       (⟨(some 25), none, .ext (.tmp 23) 1⟩, false),
       (⟨none, none, .store 2 (.tmp 4) (.tmp 24)⟩, false),
       (⟨(some 5), none, .mov (.tmp 25)⟩, false)]) (
     .ret))))⟩
theorem low56 : lowFunc Tryz.prog gl0 56 = some lf56 := by kernel_rfl
def lf57 : LFunc := ⟨29, [(.cell 4 2 true), (.slot 5)], (
  .seq (
   .region [
     ⟨(some 2), none, .newv 2 51 (.tmp 0)⟩,
     ⟨(some 3), none, .newv 2 51 (.tmp 1)⟩,
     ⟨(some 4), none, .newv 2 51 (.cst (.agg [(.p (.bool false)), (.tight [])]))⟩,
     ⟨(some 5), none, .mov (.cst (.p (.int .i64 0)))⟩]) (
   .seq (
    .seq (
     .region [
       ⟨(some 6), none, .load 2 true (.tmp 2)⟩,
       ⟨(some 7), none, .call 63 [(.tmp 6)]⟩,
       ⟨(some 8), none, .un .not (.tmp 7)⟩,
       ⟨(some 9), none, .mov (.tmp 8)⟩,
       ⟨(some 10), (some (9, false)), .load 2 true (.tmp 3)⟩,
       ⟨(some 11), (some (9, false)), .call 63 [(.tmp 10)]⟩,
       ⟨(some 12), (some (9, false)), .un .not (.tmp 11)⟩,
       ⟨(some 13), none, .pick (.tmp 9) (.cst (.p (.bool true))) (.tmp 12)⟩]) (
     .cond (.tmp 13) (
      .seq (
       .region [
         ⟨(some 14), none, .build (.agg [(.p (.bool false)), (.tight [])]) []⟩,
         ⟨none, none, .store 2 (.tmp 4) (.tmp 14)⟩,
         ⟨(some 5), none, .mov (.cst (.p (.int .i64 1)))⟩]) (
       .ret)) (
      .skip))) (
    .seq (
     .regionW [
       (⟨(some 15), none, .fadr 0 (.tmp 2)⟩, true),
       (⟨(some 16), none, .load 1 false (.tmp 15)⟩, true),
       (⟨(some 17), none, .fadr 0 (.tmp 3)⟩, true),
       (⟨(some 18), none, .load 1 false (.tmp 17)⟩, true),
       (⟨(some 19), none, .eqB true (.tmp 16) (.tmp 18)⟩, false),
       (⟨(some 20), none, .fadr 1 (.tmp 2)⟩, false),
       (⟨(some 21), none, .load 1 false (.tmp 20)⟩, false),
       (⟨(some 22), none, .fadr 1 (.tmp 3)⟩, false),
       (⟨(some 23), none, .load 1 false (.tmp 22)⟩, false),
       (⟨(some 24), none, .call 87 [(.tmp 21), (.tmp 23)]⟩, true),
       (⟨(some 25), none, .call 108 [(.tmp 19), (.tmp 24)]⟩, false),
       (⟨(some 26), none, .call 106 [(.tmp 25)]⟩, false),
       (⟨(some 27), none, .ext (.tmp 26) 0⟩, false),
       (⟨(some 28), none, .ext (.tmp 26) 1⟩, false),
       (⟨none, none, .store 2 (.tmp 4) (.tmp 27)⟩, false),
       (⟨(some 5), none, .mov (.tmp 28)⟩, false)]) (
     .ret))))⟩
theorem low57 : lowFunc Tryz.prog gl0 57 = some lf57 := by kernel_rfl
def lf59 : LFunc := ⟨40, [(.slot 2), (.slot 3)], (
  .seq (
   .region [
     ⟨(some 1), none, .newv 2 51 (.tmp 0)⟩,
     ⟨(some 2), none, .mov (.cst (.p (.int .i64 0)))⟩,
     ⟨(some 3), none, .mov (.cst (.p (.bool false)))⟩]) (
   .seq (
    .seq (
     .region [
       ⟨(some 5), none, .load 2 true (.tmp 1)⟩,
       ⟨(some 6), none, .call 63 [(.tmp 5)]⟩,
       ⟨(some 7), none, .un .not (.tmp 6)⟩,
       ⟨(some 8), none, .mov (.tmp 7)⟩,
       ⟨(some 9), (some (8, false)), .fadr 1 (.tmp 1)⟩,
       ⟨(some 10), (some (8, false)), .load 1 false (.tmp 9)⟩,
       ⟨(some 11), (some (8, false)), .len (.tmp 10)⟩,
       ⟨(some 12), (some (8, false)), .bin .gtr (.tmp 11) (.cst (.p (.int .i64 1)))⟩,
       ⟨(some 13), none, .pick (.tmp 8) (.cst (.p (.bool true))) (.tmp 12)⟩]) (
     .cond (.tmp 13) (
      .seq (
       .region [
         ⟨(some 2), none, .mov (.cst (.p (.int .i64 0)))⟩,
         ⟨(some 3), none, .mov (.cst (.p (.bool false)))⟩]) (
       .ret)) (
      .skip))) (
    .seq (
     .seq (
      .region [
        ⟨(some 14), none, .fadr 1 (.tmp 1)⟩,
        ⟨(some 15), none, .load 1 false (.tmp 14)⟩,
        ⟨(some 16), none, .len (.tmp 15)⟩,
        ⟨(some 17), none, .bin .eql (.tmp 16) (.cst (.p (.int .i64 0)))⟩]) (
      .cond (.tmp 17) (
       .seq (
        .region [
          ⟨(some 2), none, .mov (.cst (.p (.int .i64 0)))⟩,
          ⟨(some 3), none, .mov (.cst (.p (.bool true)))⟩]) (
        .ret)) (
       .skip))) (
     .seq (
      .region [
        ⟨(some 18), none, .fadr 1 (.tmp 1)⟩,
        ⟨(some 19), none, .load 1 false (.tmp 18)⟩,
        ⟨(some 20), none, .iadr 1 (.tmp 19) (.cst (.p (.int .i64 0)))⟩,
        ⟨(some 21), none, .load 1 false (.tmp 20)⟩,
        ⟨(some 4), none, .mov (.tmp 21)⟩]) (
      .seq (
       .seq (
        .region [
          ⟨(some 22), none, .fadr 0 (.tmp 1)⟩,
          ⟨(some 23), none, .load 1 false (.tmp 22)⟩,
          ⟨(some 24), none, .mov (.tmp 23)⟩,
          ⟨(some 25), (some (24, true)), .mov (.tmp 4)⟩,
          ⟨(some 26), (some (24, true)), .bin .leq (.tmp 25) (.cst (.p (.int .u64 9223372036854775808)))⟩,
          ⟨(some 27), none, .pick (.tmp 24) (.tmp 26) (.cst (.p (.bool false)))⟩]) (
        .cond (.tmp 27) (
         .seq (
          .region [
            ⟨(some 28), none, .mov (.tmp 4)⟩,
            ⟨(some 29), none, .un .neg (.tmp 28)⟩,
            ⟨(some 30), none, .conv (.toInt .i64) (.tmp 29)⟩,
            ⟨(some 2), none, .mov (.tmp 30)⟩,
            ⟨(some 3), none, .mov (.cst (.p (.bool true)))⟩]) (
          .ret)) (
         .skip))) (
       .seq (
        .seq (
         .region [
           ⟨(some 31), none, .fadr 0 (.tmp 1)⟩,
           ⟨(some 32), none, .load 1 false (.tmp 31)⟩,
           ⟨(some 33), none, .un .not (.tmp 32)⟩,
           ⟨(some 34), none, .mov (.tmp 33)⟩,
           ⟨(some 35), (some (34, true)), .mov (.tmp 4)⟩,
           ⟨(some 36), (some (34, true)), .bin .lss (.tmp 35) (.cst (.p (.int .u64 9223372036854775808)))⟩,
           ⟨(some 37), none, .pick (.tmp 34) (.tmp 36) (.cst (.p (.bool false)))⟩]) (
         .cond (.tmp 37) (
          .seq (
           .region [
             ⟨(some 38), none, .mov (.tmp 4)⟩,
             ⟨(some 39), none, .conv (.toInt .i64) (.tmp 38)⟩,
             ⟨(some 2), none, .mov (.tmp 39)⟩,
             ⟨(some 3), none, .mov (.cst (.p (.bool true)))⟩]) (
           .ret)) (
          .skip))) (
        .seq (
         .region [
           ⟨(some 2), none, .mov (.cst (.p (.int .i64 0)))⟩,
           ⟨(some 3), none, .mov (.cst (.p (.bool false)))⟩]) (
         .ret))))))))⟩
theorem low59 : lowFunc Tryz.prog gl0 59 = some lf59 := by kernel_rfl
def lf60 : LFunc := ⟨16, [(.cell 2 2 true)], (
  .seq (
   .region [
     ⟨(some 2), none, .newv 2 51 (.cst (.agg [(.p (.bool false)), (.tight [])]))⟩]) (
   .seq (
    .region [
      ⟨(some 4), none, .mov (.tmp 0)⟩,
      ⟨(some 5), none, .conv (.toInt .u64) (.tmp 4)⟩,
      ⟨(some 3), none, .mov (.tmp 5)⟩]) (
    .seq (
     .seq (
      .region [
        ⟨(some 6), none, .mov (.tmp 0)⟩,
        ⟨(some 7), none, .bin .lss (.tmp 6) (.cst (.p (.int .i64 0)))⟩]) (
      .cond (.tmp 7) (
       .region [
         ⟨(some 8), none, .mov (.tmp 3)⟩,
         ⟨(some 9), none, .un .neg (.tmp 8)⟩,
         ⟨(some 3), none, .mov (.tmp 9)⟩]) (
       .skip))) (
     .seq (
      .region [
        ⟨(some 10), none, .mov (.tmp 0)⟩,
        ⟨(some 11), none, .bin .lss (.tmp 10) (.cst (.p (.int .i64 0)))⟩,
        ⟨(some 12), none, .mov (.tmp 3)⟩,
        ⟨(some 13), none, .buildSl 1 40 (.p (.int .u64 0)) 1 [(0, (.tmp 12))]⟩,
        ⟨(some 14), none, .call 78 [(.tmp 13)]⟩,
        ⟨(some 15), none, .call 108 [(.tmp 11), (.tmp 14)]⟩,
        ⟨none, none, .store 2 (.tmp 2) (.tmp 15)⟩]) (
      .ret)))))⟩
theorem low60 : lowFunc Tryz.prog gl0 60 = some lf60 := by kernel_rfl
def lf61 : LFunc := ⟨16, [(.slot 4)], (
  .seq (
   .region [
     ⟨(some 2), none, .newv 2 51 (.tmp 0)⟩,
     ⟨(some 3), none, .newv 2 51 (.tmp 1)⟩,
     ⟨(some 4), none, .mov (.cst (.p (.int .i64 0)))⟩]) (
   .seq (
    .seq (
     .region [
       ⟨(some 5), none, .load 2 true (.tmp 2)⟩,
       ⟨(some 6), none, .call 63 [(.tmp 5)]⟩,
       ⟨(some 7), none, .un .not (.tmp 6)⟩,
       ⟨(some 8), none, .mov (.tmp 7)⟩,
       ⟨(some 9), (some (8, false)), .load 2 true (.tmp 3)⟩,
       ⟨(some 10), (some (8, false)), .call 63 [(.tmp 9)]⟩,
       ⟨(some 11), (some (8, false)), .un .not (.tmp 10)⟩,
       ⟨(some 12), none, .pick (.tmp 8) (.cst (.p (.bool true))) (.tmp 11)⟩]) (
     .cond (.tmp 12) (
      .seq (
       .region [
         ⟨(some 4), none, .mov (.cst (.p (.int .i64 0)))⟩]) (
       .ret)) (
      .skip))) (
    .seq (
     .region [
       ⟨(some 13), none, .load 2 true (.tmp 2)⟩,
       ⟨(some 14), none, .load 2 true (.tmp 3)⟩,
       ⟨(some 15), none, .call 109 [(.tmp 13), (.tmp 14)]⟩,
       ⟨(some 4), none, .mov (.tmp 15)⟩]) (
     .ret))))⟩
theorem low61 : lowFunc Tryz.prog gl0 61 = some lf61 := by kernel_rfl
def lf62 : LFunc := ⟨13, [(.cell 2 2 true)], (
  .seq (
   .region [
     ⟨(some 1), none, .newv 2 51 (.tmp 0)⟩,
     ⟨(some 2), none, .newv 2 51 (.cst (.agg [(.p (.bool false)), (.tight [])]))⟩]) (
   .seq (
    .seq (
     .region [
       ⟨(some 3), none, .load 2 true (.tmp 1)⟩,
       ⟨(some 4), none, .call 63 [(.tmp 3)]⟩,
       ⟨(some 5), none, .un .not (.tmp 4)⟩]) (
     .cond (.tmp 5) (
      .seq (
       .region [
         ⟨(some 6), none, .build (.agg [(.p (.bool false)), (.tight [])]) []⟩,
         ⟨none, none, .store 2 (.tmp 2) (.tmp 6)⟩]) (
       .ret)) (
      .skip))) (
    .seq (
     .region [
       ⟨(some 7), none, .fadr 0 (.tmp 1)⟩,
       ⟨(some 8), none, .load 1 false (.tmp 7)⟩,
       ⟨(some 9), none, .un .not (.tmp 8)⟩,
       ⟨(some 10), none, .fadr 1 (.tmp 1)⟩,
       ⟨(some 11), none, .load 1 false (.tmp 10)⟩,
       ⟨(some 12), none, .call 108 [(.tmp 9), (.tmp 11)]⟩,
       ⟨none, none, .store 2 (.tmp 2) (.tmp 12)⟩]) (
     .ret))))⟩
theorem low62 : lowFunc Tryz.prog gl0 62 = some lf62 := by kernel_rfl
def lf63 : LFunc := ⟨17, [(.slot 2)], (
  .seq (
   .region [
     ⟨(some 1), none, .newv 2 51 (.tmp 0)⟩,
     ⟨(some 2), none, .mov (.cst (.p (.bool false)))⟩]) (
   .seq (
    .region [
      ⟨(some 3), none, .fadr 1 (.tmp 1)⟩,
      ⟨(some 4), none, .load 1 false (.tmp 3)⟩,
      ⟨(some 5), none, .call 31 [(.tmp 4)]⟩,
      ⟨(some 6), none, .mov (.tmp 5)⟩,
      ⟨(some 7), (some (6, true)), .fadr 0 (.tmp 1)⟩,
      ⟨(some 8), (some (6, true)), .load 1 false (.tmp 7)⟩,
      ⟨(some 9), (some (6, true)), .un .not (.tmp 8)⟩,
      ⟨(some 10), (some (6, true)), .mov (.tmp 9)⟩,
      ⟨(some 11), (some (10, false)), .fadr 1 (.tmp 1)⟩,
      ⟨(some 12), (some (10, false)), .load 1 false (.tmp 11)⟩,
      ⟨(some 13), (some (10, false)), .len (.tmp 12)⟩,
      ⟨(some 14), (some (10, false)), .bin .gtr (.tmp 13) (.cst (.p (.int .i64 0)))⟩,
      ⟨(some 15), (some (6, true)), .pick (.tmp 10) (.cst (.p (.bool true))) (.tmp 14)⟩,
      ⟨(some 16), none, .pick (.tmp 6) (.tmp 15) (.cst (.p (.bool false)))⟩,
      ⟨(some 2), none, .mov (.tmp 16)⟩]) (
    .ret)))⟩
theorem low63 : lowFunc Tryz.prog gl0 63 = some lf63 := by kernel_rfl
def lf101 : LFunc := ⟨17, [(.slot 4)], (
  .seq (
   .region [
     ⟨(some 2), none, .newv 2 51 (.tmp 0)⟩,
     ⟨(some 3), none, .newv 2 51 (.tmp 1)⟩,
     ⟨(some 4), none, .mov (.cst (.p (.bool false)))⟩]) (
   .seq (
    .region [
      ⟨(some 5), none, .fadr 0 (.tmp 2)⟩,
      ⟨(some 6), none, .load 1 false (.tmp 5)⟩,
      ⟨(some 7), none, .fadr 0 (.tmp 3)⟩,
      ⟨(some 8), none, .load 1 false (.tmp 7)⟩,
      ⟨(some 9), none, .eqB false (.tmp 6) (.tmp 8)⟩,
      ⟨(some 10), none, .mov (.tmp 9)⟩,
      ⟨(some 11), (some (10, true)), .fadr 1 (.tmp 2)⟩,
      ⟨(some 12), (some (10, true)), .load 1 false (.tmp 11)⟩,
      ⟨(some 13), (some (10, true)), .fadr 1 (.tmp 3)⟩,
      ⟨(some 14), (some (10, true)), .load 1 false (.tmp 13)⟩,
      ⟨(some 15), (some (10, true)), .call 76 [(.tmp 12), (.tmp 14)]⟩,
      ⟨(some 16), none, .pick (.tmp 10) (.tmp 15) (.cst (.p (.bool false)))⟩,
      ⟨(some 4), none, .mov (.tmp 16)⟩]) (
    .ret)))⟩
theorem low101 : lowFunc Tryz.prog gl0 101 = some lf101 := by kernel_rfl
def lf106 : LFunc := ⟨10, [(.cell 2 2 true), (.slot 3)], (
  .seq (
   .region [
     ⟨(some 1), none, .newv 2 51 (.tmp 0)⟩,
     ⟨(some 2), none, .newv 2 51 (.cst (.agg [(.p (.bool false)), (.tight [])]))⟩,
     ⟨(some 3), none, .mov (.cst (.p (.int .i64 0)))⟩]) (
   .seq (
    .seq (
     .region [
       ⟨(some 4), none, .fadr 1 (.tmp 1)⟩,
       ⟨(some 5), none, .load 1 false (.tmp 4)⟩,
       ⟨(some 6), none, .len (.tmp 5)⟩,
       ⟨(some 7), none, .bin .gtr (.tmp 6) (.cst (.p (.int .i64 64)))⟩]) (
     .cond (.tmp 7) (
      .seq (
       .region [
         ⟨(some 8), none, .build (.agg [(.p (.bool false)), (.tight [])]) []⟩,
         ⟨none, none, .store 2 (.tmp 2) (.tmp 8)⟩,
         ⟨(some 3), none, .mov (.cst (.p (.int .i64 4)))⟩]) (
       .ret)) (
      .skip))) (
    .seq (
     .region [
       ⟨(some 9), none, .load 2 true (.tmp 1)⟩,
       ⟨none, none, .store 2 (.tmp 2) (.tmp 9)⟩,
       ⟨(some 3), none, .mov (.cst (.p (.int .i64 0)))⟩]) (
     .ret))))⟩
theorem low106 : lowFunc Tryz.prog gl0 106 = some lf106 := by kernel_rfl
def lf107 : LFunc := ⟨40, [(.cell 4 2 true)], (
  .seq (
   .region [
     ⟨(some 2), none, .newv 2 51 (.tmp 0)⟩,
     ⟨(some 3), none, .newv 2 51 (.tmp 1)⟩,
     ⟨(some 4), none, .newv 2 51 (.cst (.agg [(.p (.bool false)), (.tight [])]))⟩]) (
   .seq (
    .seq (
     .region [
       ⟨(some 5), none, .fadr 0 (.tmp 2)⟩,
       ⟨(some 6), none, .load 1 false (.tmp 5)⟩,
       ⟨(some 7), none, .fadr 0 (.tmp 3)⟩,
       ⟨(some 8), none, .load 1 false (.tmp 7)⟩,
       ⟨(some 9), none, .eqB false (.tmp 6) (.tmp 8)⟩]) (
     .cond (.tmp 9) (
      .seq (
       .regionW [
         (⟨(some 10), none, .fadr 0 (.tmp 2)⟩, true),
         (⟨(some 11), none, .load 1 false (.tmp 10)⟩, true),
         (⟨(some 12), none, .fadr 1 (.tmp 2)⟩, false),
         (⟨(some 13), none, .load 1 false (.tmp 12)⟩, false),
         (⟨(some 14), none, .fadr 1 (.tmp 3)⟩, false),
         (⟨(some 15), none, .load 1 false (.tmp 14)⟩, false),
         (⟨(some 16), none, .call 81 [(.tmp 13), (.tmp 15)]⟩, true),
         (⟨(some 17), none, .call 108 [(.tmp 11), (.tmp 16)]⟩, false),
         (⟨none, none, .store 2 (.tmp 4) (.tmp 17)⟩, false)]) (
       .ret)) (
      .skip))) (
    .seq (
     .seq (
      .region [
        ⟨(some 18), none, .fadr 1 (.tmp 2)⟩,
        ⟨(some 19), none, .load 1 false (.tmp 18)⟩,
        ⟨(some 20), none, .fadr 1 (.tmp 3)⟩,
        ⟨(some 21), none, .load 1 false (.tmp 20)⟩,
        ⟨(some 22), none, .call 84 [(.tmp 19), (.tmp 21)]⟩,
        ⟨(some 23), none, .bin .geq (.tmp 22) (.cst (.p (.int .i64 0)))⟩]) (
      .cond (.tmp 23) (
       .seq (
        .regionW [
          (⟨(some 24), none, .fadr 0 (.tmp 2)⟩, true),
          (⟨(some 25), none, .load 1 false (.tmp 24)⟩, true),
          (⟨(some 26), none, .fadr 1 (.tmp 2)⟩, false),
          (⟨(some 27), none, .load 1 false (.tmp 26)⟩, false),
          (⟨(some 28), none, .fadr 1 (.tmp 3)⟩, false),
          (⟨(some 29), none, .load 1 false (.tmp 28)⟩, false),
          (⟨(some 30), none, .call 85 [(.tmp 27), (.tmp 29)]⟩, true),
          (⟨(some 31), none, .call 108 [(.tmp 25), (.tmp 30)]⟩, false),
          (⟨none, none, .store 2 (.tmp 4) (.tmp 31)⟩, false)]) (
        .ret)) (
       .skip))) (
     .seq (
      .regionW [
        (⟨(some 32), none, .fadr 0 (.tmp 3)⟩, true),
        (⟨(some 33), none, .load 1 false (.tmp 32)⟩, true),
        (⟨(some 34), none, .fadr 1 (.tmp 3)⟩, false),
        (⟨(some 35), none, .load 1 false (.tmp 34)⟩, false),
        (⟨(some 36), none, .fadr 1 (.tmp 2)⟩, false),
        (⟨(some 37), none, .load 1 false (.tmp 36)⟩, false),
        (⟨(some 38), none, .call 85 [(.tmp 35), (.tmp 37)]⟩, true),
        (⟨(some 39), none, .call 108 [(.tmp 33), (.tmp 38)]⟩, false),
        (⟨none, none, .store 2 (.tmp 4) (.tmp 39)⟩, false)]) (
      .ret)))))⟩
theorem low107 : lowFunc Tryz.prog gl0 107 = some lf107 := by kernel_rfl
def lf108 : LFunc := ⟨13, [(.cell 4 2 true)], (
  .seq (
   .region [
     ⟨(some 4), none, .newv 2 51 (.cst (.agg [(.p (.bool false)), (.tight [])]))⟩]) (
   .seq (
    .region [
      ⟨(some 5), none, .mov (.tmp 0)⟩,
      ⟨(some 6), none, .mov (.tmp 5)⟩,
      ⟨(some 7), (some (6, true)), .mov (.tmp 1)⟩,
      ⟨(some 8), (some (6, true)), .len (.tmp 7)⟩,
      ⟨(some 9), (some (6, true)), .bin .gtr (.tmp 8) (.cst (.p (.int .i64 0)))⟩,
      ⟨(some 10), none, .pick (.tmp 6) (.tmp 9) (.cst (.p (.bool false)))⟩,
      ⟨(some 11), none, .mov (.tmp 1)⟩,
      ⟨(some 12), none, .build (.agg [(.p (.bool false)), (.tight [])]) [(0, 1, (.tmp 10)), (1, 1, (.tmp 11))]⟩,
      ⟨none, none, .store 2 (.tmp 4) (.tmp 12)⟩]) (
    .ret)))⟩
theorem low108 : lowFunc Tryz.prog gl0 108 = some lf108 := by kernel_rfl
def lf109 : LFunc := ⟨25, [(.slot 4)], (
  .seq (
   .region [
     ⟨(some 2), none, .newv 2 51 (.tmp 0)⟩,
     ⟨(some 3), none, .newv 2 51 (.tmp 1)⟩,
     ⟨(some 4), none, .mov (.cst (.p (.int .i64 0)))⟩]) (
   .seq (
    .seq (
     .region [
       ⟨(some 5), none, .fadr 0 (.tmp 2)⟩,
       ⟨(some 6), none, .load 1 false (.tmp 5)⟩,
       ⟨(some 7), none, .fadr 0 (.tmp 3)⟩,
       ⟨(some 8), none, .load 1 false (.tmp 7)⟩,
       ⟨(some 9), none, .eqB true (.tmp 6) (.tmp 8)⟩]) (
     .cond (.tmp 9) (
      .seq (
       .seq (
        .region [
          ⟨(some 10), none, .fadr 0 (.tmp 2)⟩,
          ⟨(some 11), none, .load 1 false (.tmp 10)⟩]) (
        .cond (.tmp 11) (
         .seq (
          .region [
            ⟨(some 4), none, .mov (.cst (.p (.int .i64 (-1))))⟩]) (
          .ret)) (
         .skip))) (
       .seq (
        .region [
          ⟨(some 4), none, .mov (.cst (.p (.int .i64 1)))⟩]) (
        .ret))) (
      .skip))) (
    .seq (
     .seq (
      .region [
        ⟨(some 12), none, .fadr 0 (.tmp 2)⟩,
        ⟨(some 13), none, .load 1 false (.tmp 12)⟩]) (
      .cond (.tmp 13) (
       .seq (
        .region [
          ⟨(some 14), none, .fadr 1 (.tmp 2)⟩,
          ⟨(some 15), none, .load 1 false (.tmp 14)⟩,
          ⟨(some 16), none, .fadr 1 (.tmp 3)⟩,
          ⟨(some 17), none, .load 1 false (.tmp 16)⟩,
          ⟨(some 18), none, .call 84 [(.tmp 15), (.tmp 17)]⟩,
          ⟨(some 19), none, .un .neg (.tmp 18)⟩,
          ⟨(some 4), none, .mov (.tmp 19)⟩]) (
        .ret)) (
       .skip))) (
     .seq (
      .region [
        ⟨(some 20), none, .fadr 1 (.tmp 2)⟩,
        ⟨(some 21), none, .load 1 false (.tmp 20)⟩,
        ⟨(some 22), none, .fadr 1 (.tmp 3)⟩,
        ⟨(some 23), none, .load 1 false (.tmp 22)⟩,
        ⟨(some 24), none, .call 84 [(.tmp 21), (.tmp 23)]⟩,
        ⟨(some 4), none, .mov (.tmp 24)⟩]) (
      .ret)))))⟩
theorem low109 : lowFunc Tryz.prog gl0 109 = some lf109 := by kernel_rfl
end Go.Proofs.YtjjpfffclcofnaaGreatDoor
